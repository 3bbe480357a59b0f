import Derived.Test.YtlddjlchgibdfaaDoorXStore
set_option linter.unusedVariables false
set_option linter.unusedSimpArgs false
namespace Go.Proofs.YtlddjlchgibdfaaDoor.X
open Go

theorem TL.setsc {w : World} {I : Nat → Prop} : ∀ {xs : List AV} {vs : List Value} {F : List Nat}, TL w I xs vs F → ∀ {k : Nat} {x y : AV} {u : Value}, xs[k]? = some x → isSc x = true → T w I y u [] → u.oneCell' = true → TL w I (xs.set k y) (vs.set k u) F
  | [], vs, F, h, k, x, y, u, hx, _, _, _ => by simp at hx
  | z :: xs, vs, F, h, 0, x, y, u, hx, hs, hy, h1 => by
    simp only [TL] at h
    obtain ⟨v, vs', F1, F2, rfl, rfl, g1, hz, hxs⟩ := h
    simp at hx; subst hx
    obtain ⟨rfl, _⟩ := isSc_T hs hz
    simp only [List.set_cons_zero, TL]
    exact ⟨u, vs', [], F2, rfl, rfl, h1, hy, hxs⟩
  | z :: xs, vs, F, h, k + 1, x, y, u, hx, hs, hy, h1 => by
    simp only [TL] at h
    obtain ⟨v, vs', F1, F2, rfl, rfl, g1, hz, hxs⟩ := h
    simp only [List.set_cons_succ, TL]
    exact ⟨v, _, F1, F2, rfl, rfl, g1, hz, TL.setsc hxs (by simpa using hx) hs hy h1⟩
theorem TLL.setsc {w : World} {I : Nat → Prop} {sz : Nat} : ∀ {es : List (List AV)} {vs : List Value} {F : List Nat}, TLL w I es vs F → Each sz es → ∀ {i k : Nat} {e : List AV} {x y : AV} {u : Value}, es[i]? = some e → e[k]? = some x → isSc x = true → T w I y u [] → u.oneCell' = true →
    TLL w I (es.set i (e.set k y)) (vs.set (i * sz + k) u) F
  | [], vs, F, h, _, i, k, e, x, y, u, he, _, _, _, _ => by simp at he
  | z :: es, vs, F, h, hE, 0, k, e, x, y, u, he, hx, hs, hy, h1 => by
    simp only [TLL] at h
    obtain ⟨v1, v2, F1, F2, rfl, rfl, hz, hxs⟩ := h
    simp at he; subst he
    have hkl : k < v1.length := by rw [hz.length]; exact (List.getElem?_eq_some_iff.1 hx).1
    simp only [List.set_cons_zero, TLL]
    exact ⟨v1.set k u, v2, F1, F2, by rw [Nat.zero_mul, Nat.zero_add, List.set_append_left _ _ hkl], rfl, hz.setsc hx hs hy h1, hxs⟩
  | z :: es, vs, F, h, hE, i + 1, k, e, x, y, u, he, hx, hs, hy, h1 => by
    simp only [TLL] at h
    obtain ⟨v1, v2, F1, F2, rfl, rfl, hz, hxs⟩ := h
    simp at he
    have hl := hz.length
    have g1 := hE.1
    simp only [List.set_cons_succ, TLL]
    refine ⟨v1, v2.set (i * sz + k) u, F1, F2, ?_, rfl, hz, TLL.setsc hxs hE.2 he hx hs hy h1⟩
    rw [Nat.add_mul, List.set_append_right _ _ (by omega)]
    congr 2
    omega
/-- Scalars and their values. -/
def Scs : List AV → List Value → Prop
  | [], us => us = []
  | y :: ys, us => ∃ u us', us = u :: us' ∧ isSc y = true ∧ u.oneCell' = true ∧ noSl u ∧ (∀ w I, T w I y u []) ∧ Scs ys us'
theorem Scs.length : ∀ {ys : List AV} {us : List Value}, Scs ys us → us.length = ys.length
  | [], us, h => by simp only [Scs] at h; simp [h]
  | y :: ys, us, h => by
    simp only [Scs] at h
    obtain ⟨u, us', rfl, _, _, _, _, ht⟩ := h
    simp [Scs.length ht]
theorem Scs.ones : ∀ {ys : List AV} {us : List Value}, Scs ys us → ∀ u ∈ us, u.oneCell' = true
  | [], us, h, u, hu => by simp only [Scs] at h; simp [h] at hu
  | y :: ys, us, h, u, hu => by
    simp only [Scs] at h
    obtain ⟨v, us', rfl, _, h1, _, _, ht⟩ := h
    rcases List.mem_cons.1 hu with rfl | hu
    · exact h1
    · exact Scs.ones ht u hu
theorem Scs.of {hd : Nat → Value} {n : Nat} {w : World} {I : Nat → Prop} : ∀ {ys : List AV} {us : List Value}, allSc ys = true → SL hd n w I ys us → Scs ys us
  | [], us, _, h => by simpa only [SL, Scs] using h
  | y :: ys, us, hs, h => by
    simp only [allSc, Bool.and_eq_true] at hs
    simp only [SL] at h
    obtain ⟨v, us', rfl, h1, hy, ht⟩ := h
    obtain ⟨h2, h3⟩ := isSc_S hs.1 hy
    simp only [Scs]
    exact ⟨v, us', rfl, hs.1, h1, h2, h3, Scs.of hs.2 ht⟩
theorem TLL.setsAsc {w : World} {I : Nat → Prop} {sz i : Nat} : ∀ {ys : List AV} {us : List Value} (hs : Scs ys us) {k : Nat} {es : List (List AV)} {e : List AV} {vs : List Value} {F : List Nat}, TLL w I es vs F → Each sz es → es[i]? = some e → k + ys.length ≤ e.length →
    allSc ((e.drop k).take ys.length) = true → TLL w I (es.set i (setsA e k ys)) (setsA vs (i * sz + k) us) F ∧ Each sz (es.set i (setsA e k ys))
  | [], us, hs, k, es, e, vs, F, h, hE, he, _, _ => by
    simp only [Scs] at hs; subst hs
    simp only [setsA]
    have : es.set i e = es := by
      apply List.ext_getElem?
      intro j
      rw [List.getElem?_set]
      split
      · rename_i hij; subst hij
        rw [he]; simp [(List.getElem?_eq_some_iff.1 he).1]
      · rfl
    rw [this]
    exact ⟨h, hE⟩
  | y :: ys, us, hs, k, es, e, vs, F, h, hE, he, hk, hold => by
    simp only [Scs] at hs
    obtain ⟨u, us', rfl, hy, h1, _, hT, hs⟩ := hs
    simp only [List.length_cons] at hk hold
    have hkl : k < e.length := by omega
    have hx : e[k]? = some e[k] := List.getElem?_eq_getElem hkl
    have hd : (e.drop k).take (ys.length + 1) = e[k] :: ((e.set k y).drop (k + 1)).take ys.length := by
      rw [List.drop_eq_getElem_cons hkl, List.take_succ_cons, List.drop_set_of_lt (by omega)]
    rw [hd] at hold
    simp only [allSc, Bool.and_eq_true] at hold
    have hilen : i < es.length := (List.getElem?_eq_some_iff.1 he).1
    have hsz := hE.mem e (List.mem_of_getElem? he)
    have h2 := h.setsc hE he hx hold.1 (hT w I) h1
    have hE2 : Each sz (es.set i (e.set k y)) := Each.of_mem fun z hz => by
      rcases List.mem_or_eq_of_mem_set hz with hz | rfl
      · exact hE.mem z hz
      · simpa using hsz
    have := TLL.setsAsc (i := i) hs (k := k + 1) h2 hE2 (e := e.set k y) (by rw [List.getElem?_set_self hilen]) (by simp; omega) hold.2
    simp only [List.set_set] at this
    simp only [setsA]
    rw [show i * sz + k + 1 = i * sz + (k + 1) by omega]
    exact this

theorem setRow_size (w : World) (b : Nat) (cs : Array Value) : (w.setRow b cs).heap.size = w.heap.size := by simp [World.setRow]

/-- Scalars are written over scalars, in an own slice's first block. -/
theorem ow_store {w : World} {I : Nat → Prop} {sz i c b o : Nat} {es : List (List AV)} {hv : Value} {F : List Nat} {e : List AV} {ys : List AV} {us : List Value} {cur : Array Value} {ty : TypeId}
    (h : T w I (.ow sz es) hv F) (hn : F.Nodup) (hI : ∀ b ∈ F, ¬ I b) (he : es[i]? = some e) (hc : c + ys.length ≤ e.length) (hold : allSc ((e.drop c).take ys.length) = true) (hs : Scs ys us)
    (hb : BaseOf hv b o) (hh : w.heap[b]? = some (.cells cur ty (0, 0))) :
    T (w.setRow b (setsA cur.toList (o + (i * sz + c)) us).toArray) I (.ow sz (es.set i (setsA e c ys))) hv F ∧ b ∈ F ∧ o + (i * sz + c) + us.length ≤ cur.size ∧ (∀ j, j < us.length → ∃ v, cur.toList[o + (i * sz + c) + j]? = some v ∧ noSl v) := by
  have hT := h
  simp only [T] at h
  rcases h with ⟨rfl, _, _⟩ | ⟨b', o', k, cur', ty', vs, Fs, rfl, hh', hck, hm, ho, hE, rfl, ht, rfl⟩
  · simp at he
  · obtain ⟨rfl, rfl⟩ := hb.uniq (.inl ⟨_, _, rfl⟩)
    obtain ⟨rfl, rfl⟩ : cur = cur' ∧ ty = ty' := by
      have := Option.some.inj (hh.symm.trans hh')
      simp only [Obj.cells.injEq] at this
      exact ⟨this.1, this.2.1⟩
    have hil : i < es.length := (List.getElem?_eq_some_iff.1 he).1
    have hel := hE.mem e (List.mem_of_getElem? he)
    have hlen := hs.length
    have hbnd : i * sz + c + us.length ≤ es.length * sz := by
      have : (i + 1) * sz ≤ es.length * sz := Nat.mul_le_mul_right _ hil
      rw [Nat.add_mul] at this
      omega
    have hks : es.length * sz ≤ k * sz := Nat.mul_le_mul_right _ hck
    have hother : ∀ b', b' ≠ b → (w.setRow b (setsA cur.toList (o + (i * sz + c)) us).toArray).heap[b']? = w.heap[b']? := fun b' hb' => setRow_other w b b' _ hb'
    have hbF := (List.nodup_cons.1 hn).1
    have ht2 : TLL (w.setRow b (setsA cur.toList (o + (i * sz + c)) us).toArray) I es ((cur.toList.drop o).take (es.length * sz)) Fs :=
      TLL.frame (fun b' hb' => ⟨hb', hother b' (fun e => hI b (by simp) (e ▸ hb'))⟩) es _ Fs ht (fun b' hb' => hother b' (fun e => hbF (e ▸ hb')))
    obtain ⟨h3, h4⟩ := TLL.setsAsc (i := i) hs (k := c) ht2 hE he hc hold
    refine ⟨?_, by simp, by omega, ?_⟩
    · simp only [T]
      refine .inr ⟨b, o, k, (setsA cur.toList (o + (i * sz + c)) us).toArray, ty, _, Fs, by rw [List.length_set], setRow_heap w b cur _ ty _ hh, by rw [List.length_set]; exact hck, hm, by simpa [setsA_length] using ho, h4, ?_, h3, rfl⟩
      rw [List.length_set, setsA_drop, setsA_take _ _ _ _ hbnd]
    · intro j hj
      have hcj : c + j < e.length := by omega
      have hx : e[c + j]? = some e[c + j] := List.getElem?_eq_getElem hcj
      obtain ⟨b2, o2, cur2, ty2, v, Gp, hb2, hh2, hv, h1, hTx, _, _⟩ := ow_cell hT he hx
      obtain ⟨rfl, rfl⟩ := hb2.uniq (.inl ⟨_, _, rfl⟩)
      obtain ⟨rfl, rfl⟩ : cur = cur2 ∧ ty = ty2 := by
        have := Option.some.inj (hh.symm.trans hh2)
        simp only [Obj.cells.injEq] at this
        exact ⟨this.1, this.2.1⟩
      refine ⟨v, by rw [← hv]; congr 1; omega, ?_⟩
      have hsc : isSc e[c + j] = true := by
        have hmem : e[c + j] ∈ (e.drop c).take ys.length := by
          refine List.mem_of_getElem? (i := j) ?_
          rw [List.getElem?_take, if_pos (by omega), List.getElem?_drop, hx]
        have hall : ∀ (l : List AV), allSc l = true → ∀ x ∈ l, isSc x = true := by
          intro l
          induction l with
          | nil => intro _ x hx; cases hx
          | cons y l ih =>
            intro h x hx
            simp only [allSc, Bool.and_eq_true] at h
            rcases List.mem_cons.1 hx with rfl | hx
            · exact h.1
            · exact ih h.2 x hx
        exact hall _ hold _ hmem
      exact (isSc_T hsc hTx).2.1

/-- Slices' heads stay where no slice was overwritten. -/
theorem fr_store {w : World} {I : Nat → Prop} {n : Nat} {hd : Nat → Value} {b p : Nat} {cur : Array Value} {ty : TypeId} {us : List Value} (hh : w.heap[b]? = some (.cells cur ty (0, 0))) (hI : ¬ I b) (hfit : p + us.length ≤ cur.size)
    (hold : ∀ j, j < us.length → ∃ v, cur.toList[p + j]? = some v ∧ noSl v) : Fr I I n n hd hd w (w.setRow b (setsA cur.toList p us).toArray) := by
  have hother : ∀ b', b' ≠ b → (w.setRow b (setsA cur.toList p us).toArray).heap[b']? = w.heap[b']? := fun b' hb' => setRow_other w b b' _ hb'
  refine ⟨Nat.le_refl _, fun b' hb' => ⟨hb', hother b' (fun e => hI (e ▸ hb'))⟩, fun id hid sub v hv => ?_⟩
  cases sub with
  | none => exact hv
  | some q =>
    obtain ⟨szo, i, c⟩ := q
    simp only [HdOf] at hv ⊢
    obtain ⟨⟨A, m, k, rfl⟩, b', o', hbo, hc⟩ := hv
    refine ⟨⟨A, m, k, rfl⟩, b', o', hbo, ?_⟩
    by_cases hbb : b' = b
    · subst hbb
      have hnew := setRow_heap w b' cur (setsA cur.toList p us).toArray ty (0, 0) hh
      simp only [World.cell?, hh, Option.isSome_none, Bool.false_eq_true, if_false] at hc
      simp only [World.cell?, hnew, Option.isSome_none, Bool.false_eq_true, if_false]
      rw [setsA_eq us p cur.toList (by simpa using hfit)]
      have hq : cur.toList[o' + (i * szo + c)]? = some (.slice A m k) := by simpa using hc
      generalize o' + (i * szo + c) = q at hq
      have hne : ¬ (p ≤ q ∧ q < p + us.length) := by
        rintro ⟨h1, h2⟩
        obtain ⟨u, hu, hns⟩ := hold (q - p) (by omega)
        rw [show p + (q - p) = q by omega, hq] at hu
        exact hns A m k (Option.some.inj hu).symm
      simp only [List.getElem?_toArray]
      by_cases h1 : q < p
      · rw [List.append_assoc, List.getElem?_append_left (by simp; omega), List.getElem?_take, if_pos h1]
        exact hq
      · rw [List.getElem?_append_right (by simp; omega), List.getElem?_drop]
        rw [← hq]
        congr 1
        simp
        omega
    · exact (World.cell?_of_block (a := ⟨b', o' + (i * szo + c), none⟩) (hother b' hbb)).trans hc
end Go.Proofs.YtlddjlchgibdfaaDoor.X
