import Derived.Test.YtlddjlchgibdfaaDoorXMake
import Derived.Deep.AppendSrc
set_option linter.unusedVariables false
set_option linter.unusedSimpArgs false
namespace Go.Proofs.YtlddjlchgibdfaaDoor.X
open Go

section
variable {P : Program} {G : Glo} {M I : Nat → Prop} {s : St} {hd : Nat → Value} {Fp : Nat → List Nat} {a : Act} {w : World}

/-- An object in a new block; parts of the heap h' (less than the state's) stand behind it. -/
theorem SR.newObj (h : SR G M I s hd Fp a w) {h' : Heap} (hr : HR G M I h' s.next hd Fp w) (w1 : World) (arr : Array Value) (e : TypeId) (o : Ob) (v : Value) (Fs : List Nat) (hf : Free M I h' Fp Fs) (hlt : ∀ b ∈ Fs, b < w.heap.size)
    (hs : w1.heap.size = w.heap.size + 1) (hold : ∀ b, b < w.heap.size → w1.heap[b]? = w.heap[b]?) (hnew : w1.heap[w.heap.size]? = some (.cells arr e (0, 0))) (hos : w1.os = w.os) (htape : w1.tape = w.tape) (hout : w1.output = w.output)
    (ho : ∀ hd' n', s.next ≤ n' → (∀ id, id < s.next → hd' id = hd id) → Fr I I s.next n' hd hd' w w1 → ObjR hd' n' w1 I o v (w.heap.size :: Fs)) :
    ∃ Fp', SR G M I ⟨s.tmps, (s.next, o) :: h', s.next + 1⟩ (upd hd s.next v) Fp' a w1 ∧ Ext M I I s.next hd (upd hd s.next v) w w1 := by
  have hb : ∀ b, b < w.heap.size → w1.heap[b]? = w.heap[b]? := hold
  have hr1 := hr.grown (w' := w1) (by omega) hb
  have fr0 := hr.fr (w' := w1) (by omega) hb
  have hE : Ext M I I s.next hd (upd hd s.next v) w w1 :=
    ⟨⟨hos, htape, hout, by omega, fun b hb' _ => hold b hb'⟩, fun b hx => ⟨hx, hold b (hr.imm b hx).1⟩, fun id hid => upd_ne _ _ (by omega)⟩
  have hr2 := hr1.add o v (w.heap.size :: Fs) (List.nodup_cons.2 ⟨fun hm => by have := hlt _ hm; omega, hf.nodup⟩) (fun b hm => by
      rcases List.mem_cons.1 hm with rfl | hm
      · exact hr.news _ (Nat.le_refl _)
      · exact hf.mine b hm) (fun b hm hi => by
      rcases List.mem_cons.1 hm with rfl | hm
      · have := (hr.imm _ hi).1; omega
      · exact hf.imm b hm hi) (fun id u hu b hb' hm => by
      rcases List.mem_cons.1 hm with rfl | hm
      · have := hr.ltB hu _ hb'; omega
      · exact hf.disj id u hu b hb' hm) (fun hd' hx => ho hd' (s.next + 1) (Nat.le_succ _) hx ?_)
  · exact ⟨_, h.move hr2 (fr0.trans (Fr.new I s.next hd w1 v)), hE⟩
  · refine ⟨Nat.le_succ _, fr0.im, fun id hid sub u hu => ?_⟩
    have hu' := fr0.hds id hid sub u hu
    have e := hx id hid
    cases sub with
    | none => simp only [HdOf] at hu' ⊢; rw [e]; exact hu'
    | some p => obtain ⟨x, y, z⟩ := p; simp only [HdOf] at hu' ⊢; rw [e]; exact hu'

/-- A variable in a new block. -/
theorem SR.newVar (h : SR G M I s hd Fp a w) (arr : Array Value) (e : TypeId) {cs : List AV} (hc : SL hd s.next w I cs arr.toList) :
    ∃ hd' Fp', SR G M I ⟨s.tmps, (s.next, .var cs) :: s.heap, s.next + 1⟩ hd' Fp' a (w.alloc (.cells arr e)) ∧ Ext M I I s.next hd hd' w (w.alloc (.cells arr e)) ∧
      S hd' (s.next + 1) (w.alloc (.cells arr e)) I (.ptr s.next none 0 0 0) (.pointer (some ⟨w.heap.size, 0, none⟩)) := by
  obtain ⟨Fp', h1, h2⟩ := h.newObj h.heap (w.alloc (.cells arr e)) arr e (.var cs) (.pointer (some ⟨w.heap.size, 0, none⟩)) [] (Free.nil _ _ _ _) (by simp) (by simp) (fun b hb => heap_alloc_old w _ b hb) (heap_alloc_new w _) rfl rfl rfl
    (fun hd' n' hn hx fr => ⟨_, arr, e, rfl, heap_alloc_new w _, fr.SL hc, rfl⟩)
  refine ⟨_, Fp', h1, h2, ?_⟩
  simp only [S, HdOf]
  exact ⟨Nat.lt_succ_self _, _, w.heap.size, 0, rfl, .inr (by rw [upd_same]), rfl⟩
end

/-! ### alloc, box -/
def zeroCells (P : Program) (t : TypeId) : Option (List AV) := ((P.info? t).bind (·.zero)).bind fun v => if v.cells.toList.all (·.oneCell') then some (v.cells.toList.map ofC) else none
def allocK (P : Program) (s : St) (t : TypeId) (K : AV → St → Prop) : Prop :=
  match zeroCells P t with
  | some cs => K (.ptr s.next none 0 0 0) ⟨s.tmps, (s.next, .var cs) :: s.heap, s.next + 1⟩
  | none => False
def isCell : AV → Bool
  | .con u => u.oneCell'
  | .int .. | .bool _ | .str _ | .nil | .sl _ | .pf _ | .ref .. | .ptr .. | .fn .. => true
  | _ => false
def cellsV : AV → Option (List AV)
  | .agg cs => some cs
  | x => if isCell x then some [x] else none
def boxK (s : St) (v : AV) (K : AV → St → Prop) : Prop :=
  match cellsV v with
  | some cs => K (.ptr s.next none 0 0 0) ⟨s.tmps, (s.next, .var cs) :: s.heap, s.next + 1⟩
  | none => False

theorem isCell_one {hd : Nat → Value} {n : Nat} {w : World} {I : Nat → Prop} {x : AV} {v : Value} (hc : isCell x = true) (h : S hd n w I x v) : v.oneCell' = true ∧ v.cells = #[v] := by
  cases x <;> simp [isCell] at hc <;> simp only [S, T] at h
  case con u =>
    subst h
    refine ⟨hc, ?_⟩
    cases v <;> first | rfl | simp [Value.oneCell'] at hc
  case int => subst h; exact ⟨rfl, rfl⟩
  case bool => subst h; exact ⟨rfl, rfl⟩
  case str => subst h; exact ⟨rfl, rfl⟩
  case nil => subst h; exact ⟨rfl, rfl⟩
  case sl => obtain ⟨_, A, c, rfl, _⟩ := h; exact ⟨rfl, rfl⟩
  case pf => obtain ⟨_, b, o, vs, rfl, _⟩ := h; exact ⟨rfl, rfl⟩
  case ref =>
    obtain ⟨_, h0, _, hw⟩ := h
    rcases hw with ⟨b, o, n, c, c', _, rfl, _⟩ | ⟨_, A, rfl⟩ <;> exact ⟨rfl, rfl⟩
  case ptr => obtain ⟨_, h0, b, o, _, _, rfl⟩ := h; exact ⟨rfl, rfl⟩
  case fn => obtain ⟨vs, rfl, _⟩ := h; exact ⟨rfl, rfl⟩
theorem cellsV_SL {hd : Nat → Value} {n : Nat} {w : World} {I : Nat → Prop} {x : AV} {cs : List AV} {v : Value} (hc : cellsV x = some cs) (h : S hd n w I x v) : SL hd n w I cs v.cells.toList := by
  unfold cellsV at hc
  split at hc
  · simp only [Option.some.injEq] at hc
    subst hc
    simp only [S] at h
    obtain ⟨vs, rfl, hs⟩ := h
    exact hs
  · split at hc
    · rename_i hx
      simp only [Option.some.injEq] at hc
      subst hc
      obtain ⟨h1, h2⟩ := isCell_one hx h
      rw [h2]
      simp only [SL]
      exact ⟨v, [], rfl, h1, h, rfl⟩
    · cases hc

theorem sameB_alloc (w : World) (o : Obj) : SameB w (w.alloc o) := ⟨by show w.heap.size ≤ (w.heap.push o).size; simp, fun b hb => heap_alloc_old w o b hb⟩
theorem run_newRow {P : Program} {w : World} (e : TypeId) (cs : Array Value) : (newRow e cs).run P w = .ok ⟨w.heap.size, 0, none⟩ (w.alloc (.cells cs e)) := by
  simp [newRow]

section
variable {P : Program} {G : Glo} {M I : Nat → Prop} {s : St} {hd : Nat → Value} {Fp : Nat → List Nat} {a : Act} {w : World} {K : AV → St → Prop}
theorem allocK_sound (h : SR G M I s hd Fp a w) {t : TypeId} (hk : allocK P s t K) : ∃ v w', (Instr.alloc t true (.tuple #[])).run P w = .ok v w' ∧ OpRes G M I s hd a w K (.value v) w' ∧ SameB w w' := by
  unfold allocK at hk
  split at hk
  · rename_i cs hz
    unfold zeroCells at hz
    obtain ⟨z, hz1, hz2⟩ := Option.bind_eq_some_iff.1 hz
    obtain ⟨i, hi, hiz⟩ := Option.bind_eq_some_iff.1 hz1
    split at hz2
    · rename_i hones
      simp only [Option.some.injEq] at hz2
      subst hz2
      obtain ⟨hd', Fp', h1, h2, h3⟩ := h.newVar z.cells t (cs := z.cells.toList.map ofC) (ofC_SL hd _ w I _ (List.all_eq_true.1 hones))
      refine ⟨_, _, ?_, ⟨_, _, _, I, hd', Fp', .inl rfl, hk, h3, h1, h2, Nat.le_succ _⟩, sameB_alloc w _⟩
      simp [Instr.alloc, zeroValue, typeInfo, hi, hiz, newVar, run_newRow]
    · cases hz2
  · exact hk.elim
theorem boxK_sound (h : SR G M I s hd Fp a w) {t : TypeId} {x : AV} {u : Value} (hk : boxK s x K) (hx : S hd s.next w I x u) : ∃ v w', (Instr.box t u).run P w = .ok v w' ∧ OpRes G M I s hd a w K (.value v) w' ∧ SameB w w' := by
  unfold boxK at hk
  split at hk
  · rename_i cs hc
    obtain ⟨hd', Fp', h1, h2, h3⟩ := h.newVar u.cells t (cellsV_SL hc hx)
    refine ⟨_, _, ?_, ⟨_, _, _, I, hd', Fp', .inl rfl, hk, h3, h1, h2, Nat.le_succ _⟩, sameB_alloc w _⟩
    simp [Instr.box, newVar, run_newRow]
  · exact hk.elim
end
theorem eqs_allocK : True := by
  have := @allocK.eq_1
  trivial
theorem eqs_isCell : True := by
  have := @isCell.eq_1
  trivial
theorem eqs_cellsV : True := by
  have := @cellsV.eq_1
  trivial
theorem eqs_boxK : True := by
  have := @boxK.eq_1
  trivial
end Go.Proofs.YtlddjlchgibdfaaDoor.X
