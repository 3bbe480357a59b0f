import Derived.Test.YtlddjlchgibdfaaDoorXAlloc
import Derived.Great.BuildSlice
set_option linter.unusedVariables false
set_option linter.unusedSimpArgs false
namespace Go.Proofs.YtlddjlchgibdfaaDoor.X
open Go

def setsA {α : Type} : List α → Nat → List α → List α
  | cells, _, [] => cells
  | cells, off, c :: cs => setsA (cells.set off c) (off + 1) cs
def fillA (place : Nat → Option (Nat × Nat)) : List AV → List (Nat × AV) → Option (List AV)
  | cells, [] => some cells
  | cells, (i, v) :: rest => match place i, cellsV v with
    | some (off, size), some cs => if cs.length = size ∧ off + cs.length ≤ cells.length then fillA place (setsA cells off cs) rest else none
    | _, _ => none
def places (P : Program) (t : TypeId) : Option (List (Nat × Nat)) :=
  match P.underlying t with
  | some (.struct fields) => fields.toList.mapM (fun f => (P.info? f.type).map fun i => (f.offset, i.size))
  | _ => none
def buildK (P : Program) (t : TypeId) (parts : List (Nat × AV)) (K : AV → Prop) : Prop :=
  match places P t, zeroCells P t with
  | some pl, some zs => match fillA (pl[·]?) zs parts with
    | some cs => K (.agg cs)
    | none => False
  | _, _ => False

theorem SL.set {hd : Nat → Value} {n : Nat} {w : World} {I : Nat → Prop} : ∀ {xs : List AV} {vs : List Value} (h : SL hd n w I xs vs) (k : Nat) {x : AV} {v : Value}, v.oneCell' = true → S hd n w I x v → SL hd n w I (xs.set k x) (vs.set k v)
  | [], vs, h, k, x, v, _, _ => by simp only [SL] at h; subst h; simp [SL]
  | y :: xs, vs, h, 0, x, v, h1, hx => by
    simp only [SL] at h
    obtain ⟨u, vs', rfl, g1, hy, hxs⟩ := h
    simp only [List.set_cons_zero, SL]
    exact ⟨v, vs', rfl, h1, hx, hxs⟩
  | y :: xs, vs, h, k + 1, x, v, h1, hx => by
    simp only [SL] at h
    obtain ⟨u, vs', rfl, g1, hy, hxs⟩ := h
    simp only [List.set_cons_succ, SL]
    exact ⟨u, _, rfl, g1, hy, hxs.set k h1 hx⟩
theorem sets_sound {hd : Nat → Value} {n : Nat} {w : World} {I : Nat → Prop} (off : Nat) : ∀ {cs : List AV} {vs : List Value} (k : Nat) {cells : List AV} {arr : Array Value}, SL hd n w I cs vs → SL hd n w I cells arr.toList →
    SL hd n w I (setsA cells (off + k) cs) ((vs.zipIdx k).foldl (fun a (p : Value × Nat) => a.setIfInBounds (off + p.2) p.1) arr).toList ∧ ((vs.zipIdx k).foldl (fun a (p : Value × Nat) => a.setIfInBounds (off + p.2) p.1) arr).size = arr.size
  | [], vs, k, cells, arr, h, hc => by
    simp only [SL] at h; subst h
    simpa [setsA] using hc
  | c :: cs, vs, k, cells, arr, h, hc => by
    simp only [SL] at h
    obtain ⟨v, vs', rfl, h1, hv, hxs⟩ := h
    simp only [setsA, List.zipIdx_cons, List.foldl_cons]
    have := sets_sound off (k + 1) hxs (cells := cells.set (off + k) c) (arr := arr.setIfInBounds (off + k) v) (by rw [Array.toList_setIfInBounds]; exact hc.set _ h1 hv)
    rw [show off + k + 1 = off + (k + 1) by omega]
    exact ⟨this.1, by rw [this.2]; simp⟩
inductive Parts (hd : Nat → Value) (n : Nat) (w : World) (I : Nat → Prop) : List (Nat × AV) → List (Nat × Value) → Prop where
  | nil : Parts hd n w I [] []
  | cons {i : Nat} {x : AV} {v : Value} {xs : List (Nat × AV)} {vs : List (Nat × Value)} (h : S hd n w I x v) (t : Parts hd n w I xs vs) : Parts hd n w I ((i, x) :: xs) ((i, v) :: vs)
theorem fill_sound {hd : Nat → Value} {n : Nat} {w : World} {I : Nat → Prop} {place : Nat → Option (Nat × Nat)} : ∀ {parts : List (Nat × AV)} {pv : List (Nat × Value)} {cells cs : List AV} {arr : Array Value}, Parts hd n w I parts pv → SL hd n w I cells arr.toList →
    fillA place cells parts = some cs → ∃ r, Instr.fill place arr pv = some r ∧ SL hd n w I cs r.toList
  | [], pv, cells, cs, arr, hp, hc, hf => by
    cases hp
    simp only [fillA, Option.some.injEq] at hf
    subst hf
    exact ⟨arr, rfl, hc⟩
  | (i, x) :: parts, pv, cells, cs, arr, hp, hc, hf => by
    cases hp with
    | cons hx ht =>
      rename_i v vs
      simp only [fillA] at hf
      split at hf
      · rename_i off size cc e1 e2
        split at hf
        · rename_i hcond
          have hs := cellsV_SL e2 hx
          have hl := hs.length
          have hl2 := hc.length
          have hset := sets_sound off 0 hs hc
          obtain ⟨r, h1, h2⟩ := fill_sound ht hset.1 hf
          refine ⟨r, ?_, h2⟩
          simp only [Instr.fill, e1]
          have e3 : v.cells.size = size := by rw [← Array.length_toList, hl]; exact hcond.1
          rw [if_neg]
          · rw [← h1]
            congr 1
            rw [← Array.foldl_toList, Array.toList_zipIdx]
          · simp only [ne_eq, gt_iff_lt, Bool.or_eq_true, decide_eq_true_eq, not_or, Decidable.not_not, Nat.not_lt, decide_not, Bool.not_eq_true', decide_eq_false_iff_not]
            rw [← Array.length_toList, hl]
            rw [← Array.length_toList, hl2]
            simp only [← Array.length_toList, hl] at e3
            exact ⟨e3, hcond.2⟩
        · cases hf
      · cases hf

section
variable {P : Program} {G : Glo} {M I : Nat → Prop} {s : St} {hd : Nat → Value} {Fp : Nat → List Nat} {a : Act} {w : World}
theorem zeroCells_some {t : TypeId} {cs : List AV} (h : zeroCells P t = some cs) (n : Nat) : ∃ i z, P.info? t = some i ∧ i.zero = some z ∧ SL hd n w I cs z.cells.toList ∧ cs = z.cells.toList.map ofC := by
  unfold zeroCells at h
  obtain ⟨z, hz1, hz2⟩ := Option.bind_eq_some_iff.1 h
  obtain ⟨i, hi, hiz⟩ := Option.bind_eq_some_iff.1 hz1
  split at hz2
  · rename_i hones
    simp only [Option.some.injEq] at hz2
    subst hz2
    exact ⟨i, z, hi, hiz, ofC_SL hd n w I _ (List.all_eq_true.1 hones), rfl⟩
  · cases hz2
theorem buildK_sound {K : AV → Prop} {t : TypeId} {parts : List (Nat × AV)} {pv : List (Nat × Value)} {n : Nat} (hk : buildK P t parts K) (hp : Parts hd n w I parts pv) : ∃ r av, (Instr.build t pv.toArray).run P w = .ok r w ∧ K av ∧ S hd n w I av r := by
  unfold buildK at hk
  split at hk
  · rename_i pl zs e1 e2
    split at hk
    · rename_i cs hf
      obtain ⟨i, z, hi, hz, hs, _⟩ := zeroCells_some (hd := hd) (I := I) (w := w) e2 n
      obtain ⟨r, h1, h2⟩ := fill_sound hp hs hf
      refine ⟨.agg r, _, run_build w t _ r ?_, hk, ?_⟩
      · unfold places at e1
        split at e1
        · rename_i fields hu
          simp only [Program.built, hi, hu, hz, e1]
          have hfun : (fun (i : Nat) => pl[i]?) = (fun (i : Nat) => pl.toArray[i]?) := by funext i; simp
          rw [← hfun]
          exact h1
        · cases e1
      · simp only [S]
        exact ⟨r, rfl, h2⟩
    · exact hk.elim
  · exact hk.elim
end

/-! ### Slices that are made -/
def chunk (sz : Nat) : Nat → List AV → List (List AV)
  | 0, _ => []
  | n + 1, ts => ts.take sz :: chunk sz n (ts.drop sz)
theorem chunk_length (sz : Nat) : ∀ (n : Nat) (ts : List AV), (chunk sz n ts).length = n
  | 0, _ => rfl
  | n + 1, ts => by simp [chunk, chunk_length sz n]
theorem chunk_each {sz : Nat} : ∀ {n : Nat} {ts : List AV}, ts.length = n * sz → Each sz (chunk sz n ts)
  | 0, _, _ => trivial
  | n + 1, ts, h => by
    rw [Nat.add_mul, Nat.one_mul] at h
    exact ⟨by simp; omega, chunk_each (by simp; omega)⟩
theorem TL.split {w : World} {I : Nat → Prop} : ∀ {xs : List AV} {vs : List Value} {F : List Nat} (n : Nat), TL w I xs vs F → ∃ F1 F2, F = F1 ++ F2 ∧ TL w I (xs.take n) (vs.take n) F1 ∧ TL w I (xs.drop n) (vs.drop n) F2
  | [], vs, F, n, h => by
    simp only [TL] at h
    obtain ⟨rfl, rfl⟩ := h
    exact ⟨[], [], rfl, by simp [TL], by simp [TL]⟩
  | x :: xs, vs, F, 0, h => ⟨[], F, rfl, by simp [TL], by simpa using h⟩
  | x :: xs, vs, F, n + 1, h => by
    simp only [TL] at h
    obtain ⟨v, vs', F1, F2, rfl, rfl, h1, hx, hxs⟩ := h
    obtain ⟨G1, G2, rfl, h2, h3⟩ := TL.split n hxs
    refine ⟨F1 ++ G1, G2, by simp, ?_, by simpa using h3⟩
    simp only [List.take_succ_cons, TL]
    exact ⟨v, _, F1, G1, rfl, rfl, h1, hx, h2⟩
theorem TL.chunk {w : World} {I : Nat → Prop} {sz : Nat} : ∀ {n : Nat} {ts : List AV} {vs : List Value} {F : List Nat}, TL w I ts vs F → ts.length = n * sz → TLL w I (chunk sz n ts) vs F
  | 0, ts, vs, F, h, hl => by
    have : ts = [] := List.eq_nil_of_length_eq_zero (by simpa using hl)
    subst this
    simp only [TL] at h
    simp only [X.chunk, TLL]
    exact h
  | n + 1, ts, vs, F, h, hl => by
    rw [Nat.add_mul, Nat.one_mul] at hl
    obtain ⟨F1, F2, rfl, h1, h2⟩ := h.split sz
    simp only [X.chunk, TLL]
    exact ⟨_, _, F1, F2, (List.take_append_drop sz vs).symm, rfl, h1, TL.chunk h2 (by simp; omega)⟩

def buildSliceK (P : Program) (s : St) (t : TypeId) (len : Nat) (parts : List (Nat × AV)) (K : AV → St → Prop) : Prop :=
  match tk P t with
  | .slice e => szOf P e ≠ 0 ∧ len * szOf P e ≤ 16777216 ∧ if len = 0 then K (.ref s.next none (szOf P e) 0 0) ⟨s.tmps, (s.next, .slice (szOf P e) []) :: s.heap, s.next + 1⟩ else match zeroCells P e with
    | some zs => zs.length = szOf P e ∧ match fillA (fun i => some (i * szOf P e, szOf P e)) ((List.replicate len zs).flatten) parts with
      | some cs => match conL s.heap cs with
        | some (ts, h') => K (.ref s.next none (szOf P e) 0 len) ⟨s.tmps, (s.next, .slice (szOf P e) (chunk (szOf P e) len ts)) :: h', s.next + 1⟩
        | none => False
      | none => False
    | none => False
  | _ => False
def makeSliceK (P : Program) (s : St) (t : TypeId) (l c : AV) (K : AV → St → Prop) : Prop :=
  match tk P t, l, c with
  | .slice e, .int _ l, .int _ c => szOf P e ≠ 0 ∧ 0 ≤ l ∧ l ≤ c ∧ (byOf P e : Int) * c ≤ 140737488355328 ∧ c ≤ 9223372036854775807 ∧ match zeroCells P e with
    | some zs => zs.length = szOf P e ∧ allF zs = true ∧ K (.ref s.next none (szOf P e) 0 l.toNat) ⟨s.tmps, (s.next, .slice (szOf P e) (List.replicate l.toNat zs)) :: s.heap, s.next + 1⟩
    | none => False
  | _, _, _ => False

theorem flat_rep {α : Type} (zs : List α) : ∀ (n j : Nat), j < n * zs.length → ((List.replicate n zs).flatten)[j]? = zs[j % zs.length]?
  | 0, j, h => by simp at h
  | n + 1, j, h => by
    rw [Nat.add_mul, Nat.one_mul] at h
    rw [List.replicate_succ, List.flatten_cons]
    by_cases hj : j < zs.length
    · rw [List.getElem?_append_left hj, Nat.mod_eq_of_lt hj]
    · rw [List.getElem?_append_right (by omega), flat_rep zs n _ (by omega)]
      congr 1
      exact (Nat.mod_eq_sub_mod (by omega)).symm
theorem flat_rep_length {α : Type} (zs : List α) (n : Nat) : ((List.replicate n zs).flatten).length = n * zs.length := by
  induction n with
  | zero => simp
  | succ n ih => rw [List.replicate_succ, List.flatten_cons, List.length_append, ih, Nat.add_mul, Nat.one_mul]; omega
theorem SL_of_get {hd : Nat → Value} {n : Nat} {w : World} {I : Nat → Prop} : ∀ {xs : List AV} {vs : List Value}, vs.length = xs.length → (∀ (j : Nat) (x : AV), xs[j]? = some x → ∃ v, vs[j]? = some v ∧ v.oneCell' = true ∧ S hd n w I x v) → SL hd n w I xs vs
  | [], vs, hl, _ => by simp only [SL]; exact List.eq_nil_of_length_eq_zero hl
  | x :: xs, vs, hl, h => by
    cases vs with
    | nil => simp at hl
    | cons v vs =>
      obtain ⟨u, hu, h1, hx⟩ := h 0 x rfl
      simp at hu
      subst hu
      simp only [SL]
      exact ⟨v, vs, rfl, h1, hx, SL_of_get (by simpa using hl) (fun j y hy => by simpa using h (j + 1) y (by simpa using hy))⟩
theorem made_get (z : Array Value) (n j : Nat) (hj : j < n) : (madeCells z n).toList[j]? = some (z[j % z.size]!) := by
  simp [madeCells, hj]
theorem made_SL {hd : Nat → Value} {n : Nat} {w : World} {I : Nat → Prop} {zs : List AV} {z : Array Value} (h : SL hd n w I zs z.toList) (m : Nat) : SL hd n w I ((List.replicate m zs).flatten) (madeCells z (m * zs.length)).toList := by
  have hl : z.size = zs.length := by have := h.length; simpa using this
  refine SL_of_get (by rw [flat_rep_length]; simp [madeCells]) (fun j x hx => ?_)
  have hj : j < m * zs.length := by rw [← flat_rep_length zs m]; exact (List.getElem?_eq_some_iff.1 hx).1
  rw [flat_rep zs m j hj] at hx
  obtain ⟨v, hv, h1, h2⟩ := h.get hx
  refine ⟨v, ?_, h1, h2⟩
  rw [made_get _ _ _ hj, hl]
  have hlt : j % zs.length < z.size := by
    have := (List.getElem?_eq_some_iff.1 hv).1
    simpa using this
  rw [getElem!_pos z _ hlt]
  have hv' : z[j % zs.length]? = some v := by simpa using hv
  rw [Array.getElem?_eq_getElem hlt] at hv'
  exact hv'

theorem allF_TL {hd : Nat → Value} {n : Nat} {w : World} {I : Nat → Prop} : ∀ {xs : List AV} {vs : List Value}, allF xs = true → SL hd n w I xs vs → TL w I xs vs []
  | [], vs, _, h => by simp only [SL] at h; simp only [TL]; exact ⟨h, trivial⟩
  | x :: xs, vs, hf, h => by
    simp only [allF, Bool.and_eq_true] at hf
    simp only [SL] at h
    obtain ⟨v, vs', rfl, h1, hx, hxs⟩ := h
    simp only [TL]
    exact ⟨v, vs', [], [], rfl, rfl, h1, isF_T hf.1 hx, allF_TL hf.2 hxs⟩
theorem allF_append {xs ys : List AV} (h : allF xs = true) (h' : allF ys = true) : allF (xs ++ ys) = true := by
  induction xs with
  | nil => exact h'
  | cons x xs ih => simp only [allF, Bool.and_eq_true, List.cons_append] at h ⊢; exact ⟨h.1, ih h.2⟩
theorem allF_rep {zs : List AV} (h : allF zs = true) (m : Nat) : allF ((List.replicate m zs).flatten) = true := by
  induction m with
  | zero => rfl
  | succ m ih => rw [List.replicate_succ, List.flatten_cons]; exact allF_append h ih
theorem TLL_rep {w : World} {I : Nat → Prop} {zs : List AV} : ∀ (m : Nat) {vs : List Value}, TL w I ((List.replicate m zs).flatten) vs [] → TLL w I (List.replicate m zs) vs []
  | 0, vs, h => by simpa [TL, TLL] using h
  | m + 1, vs, h => by
    rw [List.replicate_succ, List.flatten_cons] at h
    obtain ⟨F1, F2, hF, h1, h2⟩ := h.split zs.length
    obtain ⟨rfl, rfl⟩ := List.append_eq_nil_iff.1 hF.symm
    rw [List.take_left] at h1
    rw [List.drop_left] at h2
    rw [List.replicate_succ]
    simp only [TLL]
    exact ⟨_, _, [], [], (List.take_append_drop zs.length vs).symm, rfl, h1, TLL_rep m h2⟩
theorem Each_rep {zs : List AV} (m : Nat) : Each zs.length (List.replicate m zs) := Each.of_mem fun e he => by rw [List.eq_of_mem_replicate he]

section
variable {P : Program} {G : Glo} {M I : Nat → Prop} {s : St} {hd : Nat → Value} {Fp : Nat → List Nat} {a : Act} {w : World} {K : AV → St → Prop}
/-- A new own slice, its elements' own parts freed before. -/
theorem SR.newSlice (h : SR G M I s hd Fp a w) {h' : Heap} (hr : HR G M I h' s.next hd Fp w) (w1 : World) (arr : Array Value) (e : TypeId) (sz len cap : Nat) (es : List (List AV)) (Fs : List Nat) (hf : Free M I h' Fp Fs) (hlt : ∀ b ∈ Fs, b < w.heap.size)
    (hs : w1.heap.size = w.heap.size + 1) (hold : ∀ b, b < w.heap.size → w1.heap[b]? = w.heap[b]?) (hnew : w1.heap[w.heap.size]? = some (.cells arr e (0, 0))) (hos : w1.os = w.os) (htape : w1.tape = w.tape) (hout : w1.output = w.output)
    (hlen : es.length = len) (hcap : len ≤ cap) (hmax : cap ≤ maxLen) (hsz : cap * sz ≤ arr.size) (hE : Each sz es) (hT : TLL w I es (arr.toList.take (len * sz)) Fs) :
    ∃ hd' Fp', SR G M I ⟨s.tmps, (s.next, .slice sz es) :: h', s.next + 1⟩ hd' Fp' a w1 ∧ Ext M I I s.next hd hd' w w1 ∧ S hd' (s.next + 1) w1 I (.ref s.next none sz 0 len) (.slice (some ⟨w.heap.size, 0, none⟩) len cap) := by
  subst hlen
  obtain ⟨Fp', h1, h2⟩ := h.newObj hr w1 arr e (.slice sz es) (.slice (some ⟨w.heap.size, 0, none⟩) es.length cap) Fs hf hlt hs hold hnew hos htape hout (fun hd' n' hn hx fr => by
    simp only [ObjR, T]
    exact .inr ⟨w.heap.size, 0, cap, arr, e, _, Fs, rfl, hnew, hcap, hmax, by omega, hE, by simp, TLL.frame fr.im es _ Fs hT (fun b hb => hold b (hlt b hb)), rfl⟩)
  refine ⟨_, Fp', h1, h2, ?_⟩
  simp only [S, HdOf]
  exact ⟨Nat.lt_succ_self _, _, rfl, .inl ⟨w.heap.size, 0, es.length, cap, cap, by rw [upd_same], by simp, by omega, hcap, by omega⟩⟩

theorem buildSliceK_sound (h : SR G M I s hd Fp a w) {t : TypeId} {len : Nat} {parts : List (Nat × AV)} {pv : List (Nat × Value)} (hk : buildSliceK P s t len parts K) (hp : Parts hd s.next w I parts pv) (hp0 : len = 0 → parts = []) :
    ∃ v w', (Instr.buildSlice t len pv.toArray).run P w = .ok v w' ∧ OpRes G M I s hd a w K (.value v) w' ∧ SameB w w' := by
  unfold buildSliceK at hk
  split at hk
  · rename_i e ht
    obtain ⟨hz, hsmall, hk⟩ := hk
    obtain ⟨i, hi, hiz⟩ := szOf_pos hz
    split at hk
    · rename_i hl0
      subst hl0
      have hpe := hp0 rfl
      subst hpe
      cases hp
      have hrun : (Instr.buildSlice t 0 #[]).run P w = .ok (.slice (some ⟨w.heap.size, 0, none⟩) 0 0) (w.alloc (.cells #[] e)) := by
        simp [Instr.buildSlice, run_underlying (tk_slice ht), sizeOf, typeInfo, hi, Instr.fill, newRow, show Array.range 0 = #[] from by simp [Array.range]]
      obtain ⟨hd', Fp', h1, h2, h3⟩ := h.newSlice h.heap (w.alloc (.cells #[] e)) #[] e (szOf P e) 0 0 [] [] (Free.nil _ _ _ _) (by simp) (by simp) (fun b hb => heap_alloc_old w _ b hb) (heap_alloc_new w _) rfl rfl rfl rfl (Nat.le_refl _) (by simp) (by simp) trivial (by simp [TLL])
      exact ⟨_, _, hrun, ⟨_, _, _, I, hd', Fp', .inl rfl, hk, h3, h1, h2, Nat.le_succ _⟩, sameB_alloc w _⟩
    · rename_i hl0
      split at hk
      · rename_i zs e1
        obtain ⟨hzl, hk⟩ := hk
        split at hk
        · rename_i cs hf
          split at hk
          · rename_i ts h' hcon
            obtain ⟨i2, z, hi2, hz2, hs, _⟩ := zeroCells_some (hd := hd) (I := I) (w := w) e1 s.next
            obtain rfl := Option.some.inj (hi.symm.trans hi2)
            have hzs : z.cells.size = szOf P e := by have := hs.length; rw [hzl] at this; simpa using this
            have hm := made_SL hs len
            rw [hzl] at hm
            obtain ⟨r, h1, h2⟩ := fill_sound hp hm hf
            have hrl : r.toList.length = len * szOf P e := by
              have e4 := h2.length
              have : cs.length = len * szOf P e := by
                have hx : ∀ (place : Nat → Option (Nat × Nat)) (parts : List (Nat × AV)) (cells cs : List AV), fillA place cells parts = some cs → cs.length = cells.length := by
                  intro place parts
                  induction parts with
                  | nil => intro cells cs hc; simp only [fillA, Option.some.injEq] at hc; rw [hc]
                  | cons p parts ih =>
                    intro cells cs hc
                    obtain ⟨j, y⟩ := p
                    simp only [fillA] at hc
                    split at hc
                    · split at hc
                      · rw [ih _ _ hc]
                        have hy : ∀ (cs : List AV) (k : Nat) (cells : List AV), (setsA cells k cs).length = cells.length := by
                          intro cs
                          induction cs with
                          | nil => intro k cells; rfl
                          | cons c cs ih => intro k cells; simp [setsA, ih]
                        exact hy _ _ _
                      · cases hc
                    · cases hc
                rw [hx _ _ _ _ hf, flat_rep_length, hzl]
              rw [e4, this]
            have hrun := run_buildSlice (P := P) w t e len pv.toArray r i z (tk_slice ht) hi hz2 (by rw [hiz]; omega) (by rw [hiz]; exact Nat.mul_ne_zero hl0 hz) (by rw [hiz]; simpa [madeCells] using h1)
            obtain ⟨F, hr', hT, hfree, hsub, hown⟩ := conL_sound h.heap h2 hcon
            have htl : ts.length = len * szOf P e := by rw [← hT.length, hrl]
            have hTL := TL.chunk (sz := szOf P e) hT htl
            obtain ⟨hd', Fp', g1, g2, g3⟩ := h.newSlice hr' (w.alloc (.cells r e)) r e (szOf P e) len len (chunk (szOf P e) len ts) F hfree (fun b hb => by obtain ⟨id, o, ho, hb'⟩ := hown b hb; exact h.heap.ltB ho b hb') (by simp) (fun b hb => heap_alloc_old w _ b hb) (heap_alloc_new w _) rfl rfl rfl
              (chunk_length _ _ _) (Nat.le_refl _) (by simp only [maxLen]; have : len * 1 ≤ len * szOf P e := Nat.mul_le_mul_left _ (by omega); omega) (by rw [← Array.length_toList, hrl]; exact Nat.le_refl _) (chunk_each htl) (by rw [← hrl, List.take_length]; exact hTL)
            exact ⟨_, _, hrun, ⟨_, _, _, I, hd', Fp', .inl rfl, hk, g3, g1, g2, Nat.le_succ _⟩, sameB_alloc w _⟩
          · exact hk.elim
        · exact hk.elim
      · exact hk.elim
  · exact hk.elim
theorem makeSliceK_sound (h : SR G M I s hd Fp a w) {t : TypeId} {l c : AV} {vl vc : Value} (hk : makeSliceK P s t l c K) (hl : S hd s.next w I l vl) (hc : S hd s.next w I c vc) :
    ∃ v w', (Instr.makeSlice t vl vc).run P w = .ok v w' ∧ OpRes G M I s hd a w K (.value v) w' ∧ SameB w w' := by
  unfold makeSliceK at hk
  split at hk
  · rename_i e k1 l k2 c ht
    obtain ⟨hz, h0, h1, hby, h63, hk⟩ := hk
    split at hk
    · rename_i zs e1
      obtain ⟨hzl, hF, hk⟩ := hk
      obtain ⟨i, z, hi, hz2, hs, _⟩ := zeroCells_some (hd := hd) (I := I) (w := w) e1 s.next
      obtain ⟨i2, hi2, hiz⟩ := szOf_pos hz
      obtain rfl := Option.some.inj (hi.symm.trans hi2)
      have hbi : byOf P e = i.bytes := by simp [byOf, hi]
      simp only [S] at hl hc
      subst hl; subst hc
      have hrun := run_make (P := P) w t e i z (tk_slice ht) hi hz2 k1 k2 l c h0 h1 (by rw [hbi] at hby; omega) h63
      rw [hiz] at hrun
      have hm := made_SL hs c.toNat
      rw [hzl] at hm
      have hT := allF_TL (allF_rep hF l.toNat) ((made_SL hs l.toNat))
      have hlist : (madeCells z.cells (c.toNat * szOf P e)).toList.take (l.toNat * szOf P e) = (madeCells z.cells (l.toNat * szOf P e)).toList := by
        have hle : l.toNat * szOf P e ≤ c.toNat * szOf P e := Nat.mul_le_mul_right _ (by omega)
        apply List.ext_getElem?
        intro j
        rw [List.getElem?_take]
        by_cases hj : j < l.toNat * szOf P e
        · rw [if_pos hj, made_get _ _ _ (by omega), made_get _ _ _ hj]
        · rw [if_neg hj]
          rw [List.getElem?_eq_none (by simp [madeCells]; omega)]
      rw [hzl] at hT
      obtain ⟨hd', Fp', g1, g2, g3⟩ := h.newSlice h.heap (w.alloc (.cells (madeCells z.cells (c.toNat * szOf P e)) e)) _ e (szOf P e) l.toNat c.toNat (List.replicate l.toNat zs) [] (Free.nil _ _ _ _) (by simp) (by simp) (fun b hb => heap_alloc_old w _ b hb) (heap_alloc_new w _) rfl rfl rfl
        (by simp) (by omega) (by simp only [maxLen]; omega) (by simp [madeCells]) (by have := Each_rep (zs := zs) l.toNat; rwa [hzl] at this) (by rw [hlist]; exact TLL_rep _ hT)
      exact ⟨_, _, hrun, ⟨_, _, _, I, hd', Fp', .inl rfl, hk, g3, g1, g2, Nat.le_succ _⟩, sameB_alloc w _⟩
    · exact hk.elim
  · exact hk.elim
end
theorem eqs_setsA : True := by
  have := @setsA.eq_1
  trivial
theorem eqs_buildK : True := by
  have := @buildK.eq_1
  trivial
theorem eqs_buildSliceK : True := by
  have := @buildSliceK.eq_1
  trivial
theorem eqs_makeSliceK : True := by
  have := @makeSliceK.eq_1
  trivial
end Go.Proofs.YtlddjlchgibdfaaDoor.X
