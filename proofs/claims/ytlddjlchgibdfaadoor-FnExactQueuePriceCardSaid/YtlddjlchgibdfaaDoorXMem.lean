import Derived.Test.YtlddjlchgibdfaaDoorXOp
import Derived.Laws.Tables
import Derived.Laws.CopyRow
import Derived.Laws.Cells
set_option linter.unusedVariables false
set_option linter.unusedSimpArgs false
namespace Go.Proofs.YtlddjlchgibdfaaDoor.X
open Go

/-! ### The content of a place -/
def getS (h : Heap) (id : Nat) : Option (Nat × Nat × Nat) → Option (Nat × List (List AV))
  | none => match hget h id with
    | some (.slice sz es) => some (sz, es)
    | _ => none
  | some (szo, i, c) => match hget h id with
    | some (.slice sz es) => if sz = szo then (match (es[i]?).bind (·[c]?) with | some (.ow sz' es') => some (sz', es') | _ => none) else none
    | _ => none

theorem addr_add (b o j : Nat) : (⟨b, o, none⟩ : Addr).add j = ⟨b, o + j, none⟩ := by unfold Addr.add; split <;> simp_all

/-- A cell of an own slice. -/
theorem ow_cell {w : World} {I : Nat → Prop} {sz : Nat} {es : List (List AV)} {hv : Value} {F : List Nat} (h : T w I (.ow sz es) hv F) {i c : Nat} {e : List AV} {x : AV} (he : es[i]? = some e) (hx : e[c]? = some x) :
    ∃ b o cur ty v Gp, BaseOf hv b o ∧ w.heap[b]? = some (.cells cur ty (0, 0)) ∧ cur.toList[o + (i * sz + c)]? = some v ∧ v.oneCell' = true ∧ T w I x v Gp ∧ (b :: Gp).Sublist F ∧ o + es.length * sz ≤ cur.size := by
  simp only [T] at h
  rcases h with ⟨rfl, _, _⟩ | ⟨b, o, k, cur, ty, vs, Fs, rfl, hh, hc, hm, ho, hz, rfl, ht, rfl⟩
  · simp at he
  · obtain ⟨G1, hG, hs⟩ := ht.get hz he
    obtain ⟨v, G2, hv, h1, hT, hs2⟩ := hG.get hx
    have hlen : e.length = sz := hz.mem e (List.mem_of_getElem? he)
    have hcl : c < sz := by rw [← hlen]; exact (List.getElem?_eq_some_iff.1 hx).1
    have hil : i < es.length := (List.getElem?_eq_some_iff.1 he).1
    refine ⟨b, o, cur, ty, v, G2, .inl ⟨_, _, rfl⟩, hh, ?_, h1, hT, (hs2.trans hs).cons_cons _, Nat.le_trans (Nat.add_le_add_left (Nat.mul_le_mul_right sz hc) o) ho⟩
    have e1 : ((cur.toList.drop o).take (es.length * sz)).drop (i * sz) = ((cur.toList.drop o).drop (i * sz)).take (es.length * sz - i * sz) := by rw [List.drop_take]
    rw [e1] at hv
    simp only [List.getElem?_take, List.getElem?_drop] at hv
    repeat (split at hv)
    all_goals first | (exfalso; omega) | (exact hv) | (rw [← Nat.add_assoc] at hv ⊢; exact hv) | (simp at hv; done) | (simp at hv; exact hv.2)

theorem HdOf.uniq {hd : Nat → Value} {w : World} {id : Nat} : ∀ {sub : Option (Nat × Nat × Nat)} {h1 h2 : Value}, HdOf hd w id sub h1 → HdOf hd w id sub h2 → h1 = h2
  | none, h1, h2, e1, e2 => by simp only [HdOf] at e1 e2; rw [e1, e2]
  | some (szo, i, c), h1, h2, e1, e2 => by
    simp only [HdOf] at e1 e2
    obtain ⟨_, b, o, hb, hc⟩ := e1
    obtain ⟨_, b', o', hb', hc'⟩ := e2
    obtain ⟨rfl, rfl⟩ := hb.uniq hb'
    exact Option.some.inj (hc.symm.trans hc')

theorem ow_slice {w : World} {I : Nat → Prop} {sz : Nat} {es : List (List AV)} {hv : Value} {F : List Nat} (h : T w I (.ow sz es) hv F) : ∃ A k, hv = .slice A es.length k := by
  simp only [T] at h
  rcases h with ⟨rfl, ⟨A, rfl⟩, _⟩ | ⟨b, o, k, cur, ty, vs, Fs, rfl, _⟩
  · exact ⟨A, 0, rfl⟩
  · exact ⟨_, k, rfl⟩

section
variable {G : Glo} {M I : Nat → Prop} {h : Heap} {n : Nat} {hd : Nat → Value} {Fp : Nat → List Nat} {w : World}
theorem getS_sound (hr : HR G M I h n hd Fp w) {id : Nat} : ∀ {sub : Option (Nat × Nat × Nat)} {sz : Nat} {es : List (List AV)}, getS h id sub = some (sz, es) →
    ∃ hv F o, hget h id = some o ∧ HdOf hd w id sub hv ∧ T w I (.ow sz es) hv F ∧ F.Sublist (Fp id)
  | none, sz, es, hg => by
    simp only [getS] at hg
    split at hg
    · rename_i sz' es' ho
      simp only [Option.some.injEq, Prod.mk.injEq] at hg
      obtain ⟨rfl, rfl⟩ := hg
      exact ⟨hd id, Fp id, _, ho, rfl, hr.obj id _ ho, List.Sublist.refl _⟩
    · cases hg
  | some (szo, i, c), sz, es, hg => by
    simp only [getS] at hg
    split at hg
    · rename_i sz' es' ho
      split at hg
      · rename_i hsz; subst hsz
        split at hg
        · rename_i sz2 es2 hx
          simp only [Option.some.injEq, Prod.mk.injEq] at hg
          obtain ⟨rfl, rfl⟩ := hg
          obtain ⟨e, he, hx⟩ := Option.bind_eq_some_iff.1 hx
          obtain ⟨b, o, cur, ty, v, Gp, hb, hh, hv, h1, hT, hs, _⟩ := ow_cell (hr.obj id _ ho) he hx
          obtain ⟨A, k, hA⟩ := ow_slice hT
          refine ⟨v, Gp, _, ho, ⟨⟨A, _, k, hA⟩, b, o, hb, ?_⟩, hT, (List.sublist_cons_self _ _).trans hs⟩
          simpa [World.cell?, hh] using hv
        · cases hg
      · cases hg
    · cases hg
end

/-! ### Loading -/
/-- Of a type: is it a struct or an array, and of how many cells? -/
def agT (P : Program) (t : TypeId) : Option (Option Nat) :=
  match P.underlying t, P.info? t with
  | some d, some i => match d with
    | .struct _ => if i.size = 0 then none else some (some i.size)
    | .array _ _ => if i.size = 0 then none else some (some i.size)
    | _ => some none
  | _, _ => none
theorem agT_none {P : Program} {t : TypeId} {w : World} (h : agT P t = some none) : (isAgg t).run P w = .ok false w := by
  unfold agT at h
  split at h
  · rename_i d i hd hi
    simp only [isAgg, Sem.run_bind, run_underlying hd, Result.andThen_ok]
    cases d <;> simp at h <;> first | rfl | (split at h <;> cases h)
  · cases h
theorem agT_some {P : Program} {t : TypeId} {w : World} {n : Nat} (h : agT P t = some (some n)) : (isAgg t).run P w = .ok true w ∧ (sizeOf t).run P w = .ok n w ∧ n ≠ 0 ∧ szOf P t = n := by
  unfold agT at h
  split at h
  · rename_i d i hd hi
    have hs : (sizeOf t).run P w = .ok i.size w := by simp [sizeOf, typeInfo, hi]
    have hz : szOf P t = i.size := by simp [szOf, hi]
    simp only [isAgg, Sem.run_bind, run_underlying hd, Result.andThen_ok]
    cases d <;> simp at h
    all_goals (obtain ⟨h0, rfl⟩ := h; exact ⟨rfl, hs, h0, hz⟩)
  · cases h
def isF : AV → Bool
  | .any | .con _ | .int .. | .bool _ | .str _ | .nil | .sl _ | .pf _ => true
  | _ => false
theorem isF_S {hd : Nat → Value} {n : Nat} {w : World} {I : Nat → Prop} {x : AV} {v : Value} {F : List Nat} (hf : isF x = true) (h : T w I x v F) : S hd n w I x v := by
  cases x <;> simp [isF] at hf <;> simp only [T, S] at h ⊢
  case con => exact h.1
  case int => exact h.1
  case bool => exact h.1
  case str => exact h.1
  case nil => exact h.1
  case sl => exact ⟨trivial, h.2⟩
  case pf => exact ⟨trivial, h.2⟩
theorem isF_T {hd : Nat → Value} {n : Nat} {w : World} {I : Nat → Prop} {x : AV} {v : Value} (hf : isF x = true) (h : S hd n w I x v) : T w I x v [] := by
  cases x <;> simp [isF] at hf <;> simp only [T, S] at h ⊢
  case con => exact ⟨h, trivial⟩
  case int => exact ⟨h, trivial⟩
  case bool => exact ⟨h, trivial⟩
  case str => exact ⟨h, trivial⟩
  case nil => exact ⟨h, trivial⟩
  case sl => exact ⟨trivial, h.2⟩
  case pf => exact ⟨trivial, h.2⟩
def allF : List AV → Bool
  | [] => true
  | x :: xs => isF x && allF xs
theorem allF_SL {hd : Nat → Value} {n : Nat} {w : World} {I : Nat → Prop} : ∀ {xs : List AV} {vs : List Value} {F : List Nat}, allF xs = true → TL w I xs vs F → SL hd n w I xs vs
  | [], vs, F, _, h => by simp only [TL] at h; simp only [SL]; exact h.1
  | x :: xs, vs, F, hf, h => by
    simp only [allF, Bool.and_eq_true] at hf
    simp only [TL] at h
    obtain ⟨v, vs', F1, F2, rfl, rfl, h1, hx, hxs⟩ := h
    simp only [SL]
    exact ⟨v, vs', rfl, h1, isF_S hf.1 hx, allF_SL hf.2 hxs⟩

/-- A cell that was read. -/
def cellS (id : Nat) (sub : Option (Nat × Nat × Nat)) (sz i c : Nat) : AV → Option AV
  | .ow sz' es' => match sub with
    | none => some (.ref id (some (sz, i, c)) sz' 0 es'.length)
    | some _ => none
  | x => if isF x then some x else none
def cellsS (id : Nat) (sub : Option (Nat × Nat × Nat)) (sz i : Nat) : Nat → List AV → Option (List AV)
  | _, [] => some []
  | c, x :: xs => match cellS id sub sz i c x, cellsS id sub sz i (c + 1) xs with
    | some y, some ys => some (y :: ys)
    | _, _ => none

def loadK (P : Program) (h : Heap) (t : TypeId) (x : AV) (K : AV → Prop) : Prop :=
  match x, agT P t with
  | .pf cs, some (some n) => n ≤ cs.length ∧ allF (cs.take n) = true ∧ K (.agg (cs.take n))
  | .pf cs, some none => match cs with
    | y :: _ => isF y = true ∧ K y
    | [] => False
  | .ptr id sub sz i c, some ag => match sub, hget h id with
    | none, some (.var cs) => i = 0 ∧ match ag with
      | some n => c + n ≤ cs.length ∧ K (.agg ((cs.drop c).take n))
      | none => match cs[c]? with
        | some y => K y
        | none => False
    | _, _ => match getS h id sub with
      | some (sz', es) => sz' = sz ∧ match es[i]? with
        | some e => match ag with
          | some n => c + n ≤ e.length ∧ (match cellsS id sub sz i c ((e.drop c).take n) with | some ys => K (.agg ys) | none => False)
          | none => match e[c]? with
            | some y => match cellS id sub sz i c y with
              | some z => K z
              | none => False
            | none => False
        | none => False
      | none => False
  | _, _ => False

theorem At.loads {P : Program} {w : World} {b o : Nat} {vs : List Value} (h : At w b o vs) : (loadCells ⟨b, o, none⟩ vs.length).run P w = .ok vs.toArray w :=
  run_loadCells_list (P := P) w _ vs (fun j v hv => by rw [addr_add]; exact h j v hv)
theorem run_loadVar_agg {P : Program} {w : World} {t : TypeId} {b o n : Nat} {vs : List Value} (ht : agT P t = some (some n)) (h : At w b o vs) (hn : vs.length = n) : ∀ w', SameB w w' → (loadVar t ⟨b, o, none⟩).run P w' = .ok (.agg vs.toArray) w' := by
  intro w' hw
  have h : At w' b o vs := fun j v hv => hw.cell (h j v hv)
  obtain ⟨h1, h2, _⟩ := agT_some (w := w') ht
  subst hn
  simp [loadVar, h1, h2, h.loads]
theorem run_loadVar_one {P : Program} {w : World} {t : TypeId} {b o : Nat} {v : Value} (ht : agT P t = some none) (h : w.cell? ⟨b, o, none⟩ = some v) : ∀ w', SameB w w' → (loadVar t ⟨b, o, none⟩).run P w' = .ok v w' := by
  intro w' hw
  simp [loadVar, agT_none (w := w') ht, load, Sem.run, hw.cell h]
theorem run_loadAt {P : Program} {w : World} {t : TypeId} {a : Addr} {v : Value} (h : ∀ w', SameB w w' → (loadVar t a).run P w' = .ok v w') : ∀ w', SameB w w' → (Instr.loadAt t (.pointer (some a))).run P w' = .ok v w' := by
  intro w' hw
  simp [Instr.loadAt, Instr.sureAddr, h w' hw]

theorem TL.take {w : World} {I : Nat → Prop} : ∀ {xs : List AV} {vs : List Value} {F : List Nat} (n : Nat), TL w I xs vs F → ∃ F', TL w I (xs.take n) (vs.take n) F' ∧ F'.Sublist F
  | [], vs, F, n, h => by
    simp only [TL] at h
    obtain ⟨rfl, rfl⟩ := h
    exact ⟨[], by simp [TL], List.Sublist.refl _⟩
  | x :: xs, vs, F, 0, h => ⟨[], by simp [TL], List.nil_sublist _⟩
  | x :: xs, vs, F, n + 1, h => by
    simp only [TL] at h
    obtain ⟨v, vs', F1, F2, rfl, rfl, h1, hx, hxs⟩ := h
    obtain ⟨F', hF, hs⟩ := TL.take n hxs
    refine ⟨F1 ++ F', ?_, List.Sublist.append_left hs F1⟩
    simp only [List.take_succ_cons, TL]
    exact ⟨v, _, F1, F', rfl, rfl, h1, hx, hF⟩
theorem TL.drop {w : World} {I : Nat → Prop} : ∀ {xs : List AV} {vs : List Value} {F : List Nat} (n : Nat), TL w I xs vs F → ∃ F', TL w I (xs.drop n) (vs.drop n) F' ∧ F'.Sublist F
  | xs, vs, F, 0, h => ⟨F, by simpa using h, List.Sublist.refl _⟩
  | [], vs, F, n + 1, h => by
    simp only [TL] at h
    obtain ⟨rfl, rfl⟩ := h
    exact ⟨[], by simp [TL], List.Sublist.refl _⟩
  | x :: xs, vs, F, n + 1, h => by
    simp only [TL] at h
    obtain ⟨v, vs', F1, F2, rfl, rfl, h1, hx, hxs⟩ := h
    obtain ⟨F', hF, hs⟩ := TL.drop n hxs
    exact ⟨F', by simpa using hF, hs.trans (List.sublist_append_right _ _)⟩
theorem SL.take {hd : Nat → Value} {n : Nat} {w : World} {I : Nat → Prop} : ∀ {xs : List AV} {vs : List Value} (m : Nat), SL hd n w I xs vs → SL hd n w I (xs.take m) (vs.take m)
  | [], vs, m, h => by simp only [SL] at h; simp [SL, h]
  | x :: xs, vs, 0, h => by simp [SL]
  | x :: xs, vs, m + 1, h => by
    simp only [SL] at h
    obtain ⟨v, vs', rfl, h1, hx, hxs⟩ := h
    simp only [List.take_succ_cons, SL]
    exact ⟨v, _, rfl, h1, hx, SL.take m hxs⟩
theorem SL.drop {hd : Nat → Value} {n : Nat} {w : World} {I : Nat → Prop} : ∀ {xs : List AV} {vs : List Value} (m : Nat), SL hd n w I xs vs → SL hd n w I (xs.drop m) (vs.drop m)
  | xs, vs, 0, h => by simpa using h
  | [], vs, m + 1, h => by simp only [SL] at h; simp [SL, h]
  | x :: xs, vs, m + 1, h => by
    simp only [SL] at h
    obtain ⟨v, vs', rfl, h1, hx, hxs⟩ := h
    simpa using SL.drop m hxs

section
variable {P : Program} {G : Glo} {M I : Nat → Prop} {h : Heap} {n : Nat} {hd : Nat → Value} {Fp : Nat → List Nat} {w : World}
theorem cellS_sound (hr : HR G M I h n hd Fp w) {id : Nat} (hid : id < n) {sub : Option (Nat × Nat × Nat)} {sz i c b o : Nat} {hv : Value} (hh : HdOf hd w id sub hv) (hb : BaseOf hv b o) {x y : AV} {v : Value} {F : List Nat}
    (hc : w.cell? ⟨b, o + (i * sz + c), none⟩ = some v) (hx : T w I x v F) (hy : cellS id sub sz i c x = some y) : S hd n w I y v := by
  unfold cellS at hy
  split at hy
  · split at hy
    · simp only [Option.some.injEq] at hy
      subst hy
      obtain ⟨A, k, hA⟩ := ow_slice hx
      simp only [HdOf] at hh
      subst hh
      simp only [S]
      refine ⟨hid, v, ?_, ?_⟩
      · simp only [HdOf]
        exact ⟨⟨A, _, k, hA⟩, b, o, hb, hc⟩
      · simp only [T] at hx
        rcases hx with ⟨rfl, ⟨A', rfl⟩, _⟩ | ⟨b', o', k', cur, ty, vs, Fs, rfl, hh', hc', hm, ho, hz, hvs, ht, hF⟩
        · exact .inr ⟨rfl, A', rfl⟩
        · exact .inl ⟨b', o', _, k', k', rfl, by simp, by omega, hc', by omega⟩
    · cases hy
  · split at hy
    · rename_i hf
      simp only [Option.some.injEq] at hy
      subst hy
      exact isF_S hf hx
    · cases hy
theorem cellsS_sound (hr : HR G M I h n hd Fp w) {id : Nat} (hid : id < n) {sub : Option (Nat × Nat × Nat)} {sz i b o : Nat} {hv : Value} (hh : HdOf hd w id sub hv) (hb : BaseOf hv b o) :
    ∀ {xs ys : List AV} {vs : List Value} {F : List Nat} (c : Nat), At w b (o + (i * sz + c)) vs → TL w I xs vs F → cellsS id sub sz i c xs = some ys → SL hd n w I ys vs
  | [], ys, vs, F, c, hat, hx, hy => by
    simp only [cellsS, Option.some.injEq] at hy
    subst hy
    simp only [TL] at hx
    simp only [SL]
    exact hx.1
  | x :: xs, ys, vs, F, c, hat, hx, hy => by
    simp only [TL] at hx
    obtain ⟨v, vs', F1, F2, rfl, rfl, h1, hx, hxs⟩ := hx
    simp only [cellsS] at hy
    split at hy
    · rename_i y ys' e1 e2
      simp only [Option.some.injEq] at hy
      subst hy
      simp only [SL]
      refine ⟨v, vs', rfl, h1, cellS_sound hr hid hh hb (by have := hat 0 v (by simp); simpa using this) hx e1, cellsS_sound hr hid hh hb (c + 1) ?_ hxs e2⟩
      intro j u hu
      have := hat (j + 1) u (by simpa using hu)
      rw [show o + (i * sz + (c + 1)) + j = o + (i * sz + c) + (j + 1) by omega]
      exact this
    · cases hy
end

section
variable {P : Program} {G : Glo} {M I : Nat → Prop} {s : St} {hd : Nat → Value} {Fp : Nat → List Nat} {a : Act} {w : World} {K : AV → Prop}
theorem loadK_sound (h : SR G M I s hd Fp a w) {t : TypeId} {x : AV} {u : Value} (hk : loadK P s.heap t x K) (hx : S hd s.next w I x u) : ∃ v av, (∀ w', SameB w w' → (Instr.loadAt t u).run P w' = .ok v w') ∧ K av ∧ S hd s.next w I av v := by
  unfold loadK at hk
  split at hk
  · rename_i cs n ht
    obtain ⟨hn, hf, hk⟩ := hk
    simp only [S, T] at hx
    obtain ⟨_, b, o, vs, rfl, hb, hat, hT⟩ := hx
    obtain ⟨F', hT', _⟩ := hT.take n
    have hl := hT.length
    refine ⟨_, _, run_loadAt (run_loadVar_agg ht (vs := vs.take n) (fun j v hv => hat j v ?_) (by simp; omega)), hk, ?_⟩
    · rw [List.getElem?_take] at hv
      split at hv
      · exact hv
      · cases hv
    · simp only [S]
      exact ⟨_, rfl, allF_SL hf hT'⟩
  · rename_i cs ht
    simp only [S, T] at hx
    obtain ⟨_, b, o, vs, rfl, hb, hat, hT⟩ := hx
    split at hk
    · rename_i y ys
      simp only [TL] at hT
      obtain ⟨v, vs', F1, F2, rfl, _, h1, hy, _⟩ := hT
      exact ⟨v, _, run_loadAt (run_loadVar_one ht (by have := hat 0 v (by simp); simpa using this)), hk.2, isF_S hk.1 hy⟩
    · exact hk.elim
  · rename_i id sub sz i c ag ht
    simp only [S] at hx
    obtain ⟨hid, hv, b, o, hh, hb, rfl⟩ := hx
    split at hk
    · rename_i cs ho
      obtain ⟨rfl, hk⟩ := hk
      have hobj := h.heap.obj id _ ho
      simp only [HdOf] at hh
      subst hh
      obtain ⟨b', cur, e, hp, hhp, hs, _⟩ := hobj
      obtain ⟨rfl, rfl⟩ := hb.uniq (.inr hp)
      have hat : At w b 0 cur.toList := fun j u hu => by simpa [World.cell?, hhp] using hu
      split at hk
      · rename_i n
        obtain ⟨hn, hk⟩ := hk
        have hl := hs.length
        refine ⟨_, _, run_loadAt (run_loadVar_agg ht (vs := (cur.toList.drop c).take n) (fun j v hv => ?_) ?_), hk, ?_⟩
        · rw [List.getElem?_take] at hv
          split at hv
          · rw [List.getElem?_drop] at hv
            have := hat _ _ hv
            rw [show 0 + (0 * sz + c) + j = 0 + (c + j) by omega]
            exact this
          · cases hv
        · simp only [List.length_take, List.length_drop]; omega
        · simp only [S]
          exact ⟨_, rfl, (hs.drop c).take n⟩
      · split at hk
        · rename_i y hy
          obtain ⟨v, hv, h1, hS⟩ := hs.get hy
          exact ⟨v, _, run_loadAt (run_loadVar_one ht (by have := hat _ _ hv; rw [show 0 + (0 * sz + c) = 0 + c by omega]; exact this)), hk, hS⟩
        · exact hk.elim
    · split at hk
      · rename_i sz' es hg
        obtain ⟨rfl, hk⟩ := hk
        obtain ⟨hv', F, ob, ho, hh', hT, hsub⟩ := getS_sound h.heap hg
        obtain rfl := HdOf.uniq hh hh'
        split at hk
        · rename_i e he
          simp only [T] at hT
          rcases hT with ⟨rfl, _, _⟩ | ⟨b', o', k, cur, ty, vs, Fs, rfl, hhp, hc, hm, hof, hz, rfl, hTT, rfl⟩
          · simp at he
          · obtain ⟨rfl, rfl⟩ := hb.uniq (.inl ⟨_, _, rfl⟩)
            obtain ⟨G1, hG, _⟩ := hTT.get hz he
            have hel := hz.mem e (List.mem_of_getElem? he)
            have hil : i < es.length := (List.getElem?_eq_some_iff.1 he).1
            have hat : At w b (o + i * sz') ((((cur.toList.drop o).take (es.length * sz')).drop (i * sz')).take sz') := by
              intro j u hu
              rw [List.drop_take] at hu
              simp only [List.getElem?_take, List.getElem?_drop] at hu
              have hcu : cur.toList[o + (i * sz' + j)]? = some u := by
                repeat (split at hu)
                all_goals first | exact hu | (simp at hu; done)
              rw [show o + i * sz' + j = o + (i * sz' + j) by omega]
              simpa [World.cell?, hhp] using hcu
            split at hk
            · rename_i n
              obtain ⟨hn, hk⟩ := hk
              split at hk
              · rename_i ys hys
                obtain ⟨F1, hG1, _⟩ := hG.drop c
                obtain ⟨F2, hG2, _⟩ := hG1.take n
                have hl := hG.length
                have hat2 : At w b (o + (i * sz' + c)) ((((((cur.toList.drop o).take (es.length * sz')).drop (i * sz')).take sz').drop c).take n) := by
                  intro j u hu
                  rw [List.getElem?_take] at hu
                  split at hu
                  · rw [List.getElem?_drop] at hu
                    have := hat _ _ hu
                    rw [show o + (i * sz' + c) + j = o + i * sz' + (c + j) by omega]
                    exact this
                  · cases hu
                refine ⟨_, _, run_loadAt (run_loadVar_agg ht hat2 ?_), hk, ?_⟩
                · rw [List.length_take, List.length_drop, hl]; omega
                · simp only [S]
                  exact ⟨_, rfl, cellsS_sound h.heap hid hh hb c hat2 hG2 hys⟩
              · exact hk.elim
            · split at hk
              · rename_i y hy
                split at hk
                · rename_i z hz'
                  obtain ⟨v, G2, hv, h1, hTy, _⟩ := hG.get hy
                  have hcell : w.cell? ⟨b, o + (i * sz' + c), none⟩ = some v := by
                    have := hat _ _ hv
                    rw [show o + (i * sz' + c) = o + i * sz' + c by omega]
                    exact this
                  exact ⟨v, _, run_loadAt (run_loadVar_one ht hcell), hk, cellS_sound h.heap hid hh hb hcell hTy hz'⟩
                · exact hk.elim
              · exact hk.elim
        · exact hk.elim
      · exact hk.elim
  · exact hk.elim
end
theorem eqs_getS : True := by
  have := @getS.eq_1
  trivial
theorem eqs_isF : True := by
  have := @isF.eq_1
  trivial
theorem eqs_allF : True := by
  have := @allF.eq_1
  trivial
theorem eqs_cellS : True := by
  have := @cellS.eq_1
  trivial
theorem eqs_cellsS : True := by
  have := @cellsS.eq_1
  trivial
theorem eqs_loadK : True := by
  have := @loadK.eq_1
  trivial
end Go.Proofs.YtlddjlchgibdfaaDoor.X
