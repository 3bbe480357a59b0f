import Derived.Test.YtlddjlchgibdfaaDoorXVal
set_option linter.unusedVariables false
set_option linter.unusedSimpArgs false
namespace Go.Proofs.YtlddjlchgibdfaaDoor.X
open Go

mutual
/-- What is one's own, frozen. -/
def frzT : AV → AV
  | .ow sz es => .sl (frzLL es)
  | .op cs => .pf (frzL cs)
  | .fn f caps => .fn f (frzL caps)
  | .agg cs => .agg (frzL cs)
  | .tup xs => .tup (frzL xs)
  | x => x
def frzL : List AV → List AV
  | [] => []
  | x :: xs => frzT x :: frzL xs
def frzLL : List (List AV) → List (List AV)
  | [] => []
  | x :: xs => frzL x :: frzLL xs
end

theorem frzL_eq : ∀ xs : List AV, frzL xs = xs.map frzT
  | [] => rfl
  | x :: xs => by simp [frzL, frzL_eq xs]
theorem frzLL_eq : ∀ xs : List (List AV), frzLL xs = xs.map (List.map frzT)
  | [] => rfl
  | x :: xs => by simp [frzLL, frzL_eq, frzLL_eq xs]
theorem frzL_length (xs : List AV) : (frzL xs).length = xs.length := by simp [frzL_eq]
theorem frzLL_length (xs : List (List AV)) : (frzLL xs).length = xs.length := by simp [frzLL_eq]
theorem Each.frz {sz : Nat} : ∀ {es : List (List AV)}, Each sz es → Each sz (frzLL es)
  | [], _ => trivial
  | e :: es, h => ⟨(frzL_length e).trans h.1, Each.frz h.2⟩
theorem Each.mem {sz : Nat} : ∀ {es : List (List AV)}, Each sz es → ∀ e ∈ es, e.length = sz
  | e :: es, h, x, hx => by
    rcases List.mem_cons.1 hx with rfl | hx
    · exact h.1
    · exact Each.mem h.2 x hx
theorem Each.of_mem {sz : Nat} : ∀ {es : List (List AV)}, (∀ e ∈ es, e.length = sz) → Each sz es
  | [], _ => trivial
  | e :: es, h => ⟨h e (by simp), Each.of_mem (fun x hx => h x (by simp [hx]))⟩
theorem Each.take {sz : Nat} {es : List (List AV)} (h : Each sz es) (n : Nat) : Each sz (es.take n) := Each.of_mem fun e he => h.mem e (List.mem_of_mem_take he)
theorem Each.drop {sz : Nat} {es : List (List AV)} (h : Each sz es) (n : Nat) : Each sz (es.drop n) := Each.of_mem fun e he => h.mem e (List.mem_of_mem_drop he)
theorem Each.append {sz : Nat} {es es' : List (List AV)} (h : Each sz es) (h' : Each sz es') : Each sz (es ++ es') := Each.of_mem fun e he => (List.mem_append.1 he).elim (h.mem e) (h'.mem e)

theorem at_row {w : World} {b o n : Nat} {cur : Array Value} {e : TypeId} {fr : Nat × Nat} (h : w.heap[b]? = some (.cells cur e fr)) : At w b o ((cur.toList.drop o).take n) := by
  intro j u hu
  rw [List.getElem?_take] at hu
  split at hu
  · rw [List.getElem?_drop] at hu
    simpa [World.cell?, h] using hu
  · cases hu

section
variable {w : World} {I I' : Nat → Prop}
mutual
theorem T.frz (hI : ∀ b, I b → I' b) : ∀ (x : AV) (v : Value) (F : List Nat), T w I x v F → (∀ b ∈ F, I' b) → T w I' (frzT x) v []
  | .any, v, F, h, _ => by simp [T, frzT]
  | .con u, v, F, h, _ => by simp only [T, frzT] at h ⊢; exact ⟨h.1, trivial⟩
  | .int k n, v, F, h, _ => by simp only [T, frzT] at h ⊢; exact ⟨h.1, trivial⟩
  | .bool b, v, F, h, _ => by simp only [T, frzT] at h ⊢; exact ⟨h.1, trivial⟩
  | .str s, v, F, h, _ => by simp only [T, frzT] at h ⊢; exact ⟨h.1, trivial⟩
  | .nil, v, F, h, _ => by simp only [T, frzT] at h ⊢; exact ⟨h.1, trivial⟩
  | .sl es, v, F, h, hF => by
    simp only [frzT]
    have hFe : F = [] := by simp only [T] at h; exact h.1
    subst hFe
    simp only [T] at h ⊢
    obtain ⟨_, A, c, hv, hc, hm, h⟩ := h
    refine ⟨trivial, A, c, hv, hc, hm, h.imp id ?_⟩
    rintro ⟨b, o, sz, vs, hA, hb, he, hat, ht⟩
    exact ⟨b, o, sz, vs, hA, hI b hb, he, hat, TLL.frame (fun b hb => ⟨hI b hb, rfl⟩) es vs [] ht (by simp)⟩
  | .pf cs, v, F, h, hF => by
    simp only [frzT]
    simp only [T] at h ⊢
    obtain ⟨_, b, o, vs, hv, hb, hat, ht⟩ := h
    exact ⟨trivial, b, o, vs, hv, hI b hb, hat, TL.frame (fun b hb => ⟨hI b hb, rfl⟩) cs vs [] ht (by simp)⟩
  | .ow sz es, v, F, h, hF => by
    simp only [frzT]
    simp only [T] at h ⊢
    refine ⟨trivial, ?_⟩
    rcases h with ⟨rfl, ⟨A, rfl⟩, rfl⟩ | ⟨b, o, c, cur, e, vs, Fs, hv, hh, hc, hm, ho, he, hvs, ht, rfl⟩
    · exact ⟨A, 0, by simp [frzLL], by simp [frzLL], by simp [frzLL], .inl (by simp [frzLL])⟩
    · refine ⟨some ⟨b, o, none⟩, c, by rw [frzLL_length]; exact hv, by rw [frzLL_length]; exact hc, by rw [frzLL_length]; exact Nat.le_trans hc hm, .inr ⟨b, o, sz, vs, rfl, hF b (by simp), he.frz, ?_, ?_⟩⟩
      · rw [← hvs]; exact at_row hh
      · exact TLL.frz hI es vs Fs ht (fun b hb => hF b (by simp [hb]))
  | .op cs, v, F, h, hF => by
    simp only [frzT]
    simp only [T] at h ⊢
    obtain ⟨b, cur, e, Fs, hv, hh, ht, rfl⟩ := h
    refine ⟨trivial, b, 0, cur.toList, hv, hF b (by simp), ?_, TL.frz hI cs _ Fs ht (fun b hb => hF b (by simp [hb]))⟩
    intro j u hu
    simpa [World.cell?, hh] using hu
  | .fn f caps, v, F, h, hF => by
    simp only [frzT]
    simp only [T] at h ⊢
    obtain ⟨vs, hv, ht⟩ := h
    exact ⟨vs, hv, TL.frz hI caps _ F ht hF⟩
  | .agg cs, v, F, h, hF => by
    simp only [frzT]
    simp only [T] at h ⊢
    obtain ⟨vs, hv, ht⟩ := h
    exact ⟨vs, hv, TL.frz hI cs _ F ht hF⟩
  | .tup xs, v, F, h, hF => by
    simp only [frzT]
    simp only [T] at h ⊢
    obtain ⟨vs, hv, ht⟩ := h
    exact ⟨vs, hv, TV.frz hI xs _ F ht hF⟩
  | .ref _ _ _ _ _, v, F, h, _ => by simp only [T] at h
  | .ptr _ _ _ _ _, v, F, h, _ => by simp only [T] at h
theorem TL.frz (hI : ∀ b, I b → I' b) : ∀ (xs : List AV) (vs : List Value) (F : List Nat), TL w I xs vs F → (∀ b ∈ F, I' b) → TL w I' (frzL xs) vs []
  | [], vs, F, h, _ => by simp only [TL, frzL] at h ⊢; exact ⟨h.1, trivial⟩
  | x :: xs, vs, F, h, hF => by
    simp only [TL, frzL] at h ⊢
    obtain ⟨v, vs', F1, F2, rfl, rfl, h1, hx, hxs⟩ := h
    exact ⟨v, vs', [], [], rfl, rfl, h1, T.frz hI x v F1 hx (fun b hb => hF b (by simp [hb])), TL.frz hI xs vs' F2 hxs (fun b hb => hF b (by simp [hb]))⟩
theorem TV.frz (hI : ∀ b, I b → I' b) : ∀ (xs : List AV) (vs : List Value) (F : List Nat), TV w I xs vs F → (∀ b ∈ F, I' b) → TV w I' (frzL xs) vs []
  | [], vs, F, h, _ => by simp only [TV, frzL] at h ⊢; exact ⟨h.1, trivial⟩
  | x :: xs, vs, F, h, hF => by
    simp only [TV, frzL] at h ⊢
    obtain ⟨v, vs', F1, F2, rfl, rfl, hx, hxs⟩ := h
    exact ⟨v, vs', [], [], rfl, rfl, T.frz hI x v F1 hx (fun b hb => hF b (by simp [hb])), TV.frz hI xs vs' F2 hxs (fun b hb => hF b (by simp [hb]))⟩
theorem TLL.frz (hI : ∀ b, I b → I' b) : ∀ (xs : List (List AV)) (vs : List Value) (F : List Nat), TLL w I xs vs F → (∀ b ∈ F, I' b) → TLL w I' (frzLL xs) vs []
  | [], vs, F, h, _ => by simp only [TLL, frzLL] at h ⊢; exact ⟨h.1, trivial⟩
  | x :: xs, vs, F, h, hF => by
    simp only [TLL, frzLL] at h ⊢
    obtain ⟨v1, v2, F1, F2, rfl, rfl, hx, hxs⟩ := h
    exact ⟨v1, v2, [], [], rfl, rfl, TL.frz hI x v1 F1 hx (fun b hb => hF b (by simp [hb])), TLL.frz hI xs v2 F2 hxs (fun b hb => hF b (by simp [hb]))⟩
end
end

/-! ### Cells of a tree -/
/-- The part of a list of cells at j. -/
theorem TL.get {w : World} {I : Nat → Prop} : ∀ {xs : List AV} {vs : List Value} {F : List Nat}, TL w I xs vs F → ∀ {j : Nat} {x : AV}, xs[j]? = some x → ∃ v G, vs[j]? = some v ∧ v.oneCell' = true ∧ T w I x v G ∧ G.Sublist F
  | [], vs, F, h, j, x, hx => by simp at hx
  | y :: xs, vs, F, h, j, x, hx => by
    simp only [TL] at h
    obtain ⟨v, vs', F1, F2, rfl, rfl, h1, hy, hxs⟩ := h
    cases j with
    | zero => simp at hx; subst hx; exact ⟨v, F1, by simp, h1, hy, List.sublist_append_left _ _⟩
    | succ j =>
      simp at hx
      obtain ⟨u, G, hu, h1', hT, hs⟩ := TL.get hxs hx
      exact ⟨u, G, by simpa using hu, h1', hT, hs.trans (List.sublist_append_right _ _)⟩
theorem TL.ones {w : World} {I : Nat → Prop} : ∀ {xs : List AV} {vs : List Value} {F : List Nat}, TL w I xs vs F → ∀ v ∈ vs, v.oneCell' = true
  | [], vs, F, h, v, hv => by simp only [TL] at h; simp [h.1] at hv
  | y :: xs, vs, F, h, v, hv => by
    simp only [TL] at h
    obtain ⟨u, vs', F1, F2, rfl, rfl, h1, hy, hxs⟩ := h
    rcases List.mem_cons.1 hv with rfl | hv
    · exact h1
    · exact TL.ones hxs v hv
theorem TLL.ones {w : World} {I : Nat → Prop} : ∀ {xs : List (List AV)} {vs : List Value} {F : List Nat}, TLL w I xs vs F → ∀ v ∈ vs, v.oneCell' = true
  | [], vs, F, h, v, hv => by simp only [TLL] at h; simp [h.1] at hv
  | y :: xs, vs, F, h, v, hv => by
    simp only [TLL] at h
    obtain ⟨v1, v2, F1, F2, rfl, rfl, hx, hxs⟩ := h
    rcases List.mem_append.1 hv with hv | hv
    · exact hx.ones v hv
    · exact TLL.ones hxs v hv
/-- The element at i of a list of elements. -/
theorem TLL.get {w : World} {I : Nat → Prop} {sz : Nat} : ∀ {es : List (List AV)} {vs : List Value} {F : List Nat}, TLL w I es vs F → Each sz es → ∀ {i : Nat} {e : List AV}, es[i]? = some e →
    ∃ G, TL w I e ((vs.drop (i * sz)).take sz) G ∧ G.Sublist F
  | [], vs, F, h, _, i, e, he => by simp at he
  | y :: es, vs, F, h, hs, i, e, he => by
    simp only [TLL] at h
    obtain ⟨v1, v2, F1, F2, rfl, rfl, hx, hxs⟩ := h
    have hl := hx.length
    have h1 := hs.1
    cases i with
    | zero =>
      simp at he; subst he
      refine ⟨F1, ?_, List.sublist_append_left _ _⟩
      rw [Nat.zero_mul, List.drop_zero, List.take_append_of_le_length (by omega), List.take_of_length_le (by omega)]
      exact hx
    | succ i =>
      simp at he
      obtain ⟨G, hG, hsub⟩ := TLL.get hxs hs.2 he
      refine ⟨G, ?_, hsub.trans (List.sublist_append_right _ _)⟩
      rw [Nat.add_mul, Nat.one_mul, Nat.add_comm, ← List.drop_drop, List.drop_append_of_le_length (by omega), show v1.drop sz = [] from List.drop_eq_nil_of_le (by omega), List.nil_append]
      exact hG
end Go.Proofs.YtlddjlchgibdfaaDoor.X
