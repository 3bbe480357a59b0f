import Derived.Test.YtlddjlchgibdfaaDoorXStep
set_option linter.unusedVariables false
set_option linter.unusedSimpArgs false
namespace Go.Proofs.YtlddjlchgibdfaaDoor.X
open Go

def renO (B : Nat) (ρ : List (Nat × Nat)) : Ob → Ob
  | .var cs => .var (renL B ρ cs)
  | o => o
def canSlots (B : Nat) (ρ : List (Nat × Nat)) : List Keepd → List AV → List AV
  | _, [] => []
  | [], _ :: xs => .any :: canSlots B ρ [] xs
  | .drop :: as, _ :: xs => .any :: canSlots B ρ as xs
  | .keep :: as, x :: xs => ren B ρ x :: canSlots B ρ as xs
  | .obj id sz :: as, .nil :: xs => .ref id none sz 0 0 :: canSlots B ρ as xs
  | .obj _ _ :: as, x :: xs => ren B ρ x :: canSlots B ρ as xs
def canObjs : List Keepd → List AV → Heap
  | .obj id sz :: as, .nil :: xs => (id, .slice sz []) :: canObjs as xs
  | _ :: as, _ :: xs => canObjs as xs
  | _, _ => []
def canR (B : Nat) (ρ0 : List (Nat × Nat)) (h : Heap) : List (Nat × Nat) → Heap
  | [] => []
  | (o, n) :: r => match hget h o with
    | some ob => (n, renO B ρ0 ob) :: canR B ρ0 h r
    | none => canR B ρ0 h r
def canB (B : Nat) (ρ : List (Nat × Nat)) : Heap → Heap
  | [] => []
  | (i, o) :: h => if i < B then (i, renO B ρ o) :: canB B ρ h else canB B ρ h
def objIds : List Keepd → List Nat
  | [] => []
  | .obj id _ :: as => id :: objIds as
  | _ :: as => objIds as
def rhoOk (B : Nat) (ρ : List (Nat × Nat)) (ids : List Nat) (nx : Nat) : Bool :=
  decide (B ≤ nx) && ρ.all (fun p => decide (B ≤ p.1) && decide (B ≤ p.2) && decide (p.2 < nx)) && decide ((ρ.map (·.2)).Nodup) && decide ((ρ.map (·.1)).Nodup) && ids.all (fun i => decide (B ≤ i) && decide (i < nx) && !(ρ.map (·.2)).contains i)
def canon (B : Nat) (acts : List Keepd) (ρ : List (Nat × Nat)) (nx : Nat) (s : St) : St :=
  ⟨canSlots B ρ acts s.tmps, canObjs acts s.tmps ++ (canR B ρ s.heap ρ ++ canB B ρ s.heap), nx⟩

theorem hget_append (h1 h2 : Heap) (j : Nat) : hget (h1 ++ h2) j = match hget h1 j with | some o => some o | none => hget h2 j := by
  induction h1 with
  | nil => rfl
  | cons p h1 ih =>
    obtain ⟨i, o⟩ := p
    simp only [List.cons_append, hget]
    split
    · rfl
    · exact ih
def lkr (ρ : List (Nat × Nat)) (j : Nat) : Option Nat :=
  match ρ with
  | [] => none
  | (o, n) :: r => if n = j then some o else lkr r j
def srcOf (B : Nat) (ρ : List (Nat × Nat)) (j : Nat) : Option Nat := if j < B then some j else lkr ρ j
theorem lkr_mem {ρ : List (Nat × Nat)} {j o : Nat} (h : lkr ρ j = some o) : (o, j) ∈ ρ := by
  induction ρ with
  | nil => simp [lkr] at h
  | cons p ρ ih =>
    obtain ⟨o', n⟩ := p
    simp only [lkr] at h
    split at h
    · rename_i hn; simp only [Option.some.injEq] at h; subst hn; subst h; simp
    · simp [ih h]
theorem lkr_of_mem {ρ : List (Nat × Nat)} (hn : (ρ.map (·.2)).Nodup) {j o : Nat} (h : (o, j) ∈ ρ) : lkr ρ j = some o := by
  induction ρ with
  | nil => simp at h
  | cons p ρ ih =>
    obtain ⟨o', n⟩ := p
    simp only [List.map_cons, List.nodup_cons] at hn
    simp only [lkr]
    rcases List.mem_cons.1 h with h | h
    · simp only [Prod.mk.injEq] at h; obtain ⟨rfl, rfl⟩ := h; simp
    · have : n ≠ j := by rintro rfl; exact hn.1 (List.mem_map.2 ⟨_, h, rfl⟩)
      rw [if_neg this]; exact ih hn.2 h
theorem lkp_mem {ρ : List (Nat × Nat)} {j o : Nat} (h : lkp ρ o = some j) : (o, j) ∈ ρ := by
  induction ρ with
  | nil => simp [lkp] at h
  | cons p ρ ih =>
    obtain ⟨o', n⟩ := p
    simp only [lkp] at h
    split at h
    · rename_i hn; simp only [Option.some.injEq] at h; subst hn; subst h; simp
    · simp [ih h]
theorem lkr_none {ρ : List (Nat × Nat)} {j : Nat} (h : j ∉ ρ.map (·.2)) : lkr ρ j = none := by
  cases e : lkr ρ j with
  | none => rfl
  | some o => exact absurd (List.mem_map.2 ⟨_, lkr_mem e, rfl⟩) h
theorem inj_of_mem {ρ : List (Nat × Nat)} (hn : (ρ.map (·.1)).Nodup) {o j1 j2 : Nat} (h1 : (o, j1) ∈ ρ) (h2 : (o, j2) ∈ ρ) : j1 = j2 := by
  induction ρ with
  | nil => simp at h1
  | cons p ρ ih =>
    obtain ⟨o', n⟩ := p
    simp only [List.map_cons, List.nodup_cons] at hn
    rcases List.mem_cons.1 h1 with g1 | g1 <;> rcases List.mem_cons.1 h2 with g2 | g2
    · simp only [Prod.mk.injEq] at g1 g2; rw [g1.2, g2.2]
    · simp only [Prod.mk.injEq] at g1; exact (hn.1 (g1.1 ▸ List.mem_map_of_mem (f := fun x : Nat × Nat => x.1) g2)).elim
    · simp only [Prod.mk.injEq] at g2; exact (hn.1 (g2.1 ▸ List.mem_map_of_mem (f := fun x : Nat × Nat => x.1) g1)).elim
    · exact ih hn.2 g1 g2

section
variable {B : Nat} {ρ : List (Nat × Nat)} {ids : List Nat} {nx : Nat}
theorem rho_spec (h : rhoOk B ρ ids nx = true) : B ≤ nx ∧ (∀ o n, (o, n) ∈ ρ → B ≤ o ∧ B ≤ n ∧ n < nx) ∧ (ρ.map (·.2)).Nodup ∧ (ρ.map (·.1)).Nodup ∧ (∀ i ∈ ids, B ≤ i ∧ i < nx ∧ i ∉ ρ.map (·.2)) := by
  simp only [rhoOk, Bool.and_eq_true, decide_eq_true_eq, List.all_eq_true, Bool.not_eq_true', List.contains_eq_mem, decide_eq_false_iff_not] at h
  obtain ⟨⟨⟨⟨h1, h2⟩, h3⟩, h4⟩, h5⟩ := h
  exact ⟨h1, fun o n hm => ⟨(h2 _ hm).1.1, (h2 _ hm).1.2, (h2 _ hm).2⟩, h3, h4, fun i hi => ⟨(h5 i hi).1.1, (h5 i hi).1.2, (h5 i hi).2⟩⟩

theorem canObjs_get {j : Nat} {o : Ob} : ∀ {acts : List Keepd} {xs : List AV}, hget (canObjs acts xs) j = some o → j ∈ objIds acts ∧ ∃ sz, o = .slice sz []
  | [], xs, h => by cases xs <;> simp [canObjs, hget] at h
  | .drop :: as, [], h => by simp [canObjs, hget] at h
  | .keep :: as, [], h => by simp [canObjs, hget] at h
  | .obj id sz :: as, [], h => by simp [canObjs, hget] at h
  | .drop :: as, x :: xs, h => by simp only [canObjs] at h; simpa only [objIds] using canObjs_get h
  | .keep :: as, x :: xs, h => by simp only [canObjs] at h; simpa only [objIds] using canObjs_get h
  | .obj id sz :: as, x :: xs, h => by
    have hrec : hget (canObjs as xs) j = some o → j ∈ objIds (.obj id sz :: as) ∧ ∃ sz, o = .slice sz [] := fun h => by
      obtain ⟨h1, h2⟩ := canObjs_get h
      exact ⟨by simp [objIds, h1], h2⟩
    cases x
    case nil =>
      simp only [canObjs, hget] at h
      split at h
      · rename_i hj; simp only [Option.some.injEq] at h; exact ⟨by simp [objIds, hj], sz, h.symm⟩
      · exact hrec h
    all_goals (simp only [canObjs] at h; exact hrec h)
theorem canR_get {h : Heap} {j : Nat} {o : Ob} : ∀ {r : List (Nat × Nat)}, hget (canR B ρ h r) j = some o → ∃ id u, (id, j) ∈ r ∧ hget h id = some u ∧ o = renO B ρ u
  | [], he => by simp [canR, hget] at he
  | (q, n) :: r, he => by
    simp only [canR] at he
    split at he
    · rename_i ob hob
      simp only [hget] at he
      split at he
      · rename_i hj; simp only [Option.some.injEq] at he; subst hj; exact ⟨q, ob, by simp, hob, he.symm⟩
      · obtain ⟨id, u, h1, h2, h3⟩ := canR_get he; exact ⟨id, u, by simp [h1], h2, h3⟩
    · obtain ⟨id, u, h1, h2, h3⟩ := canR_get he; exact ⟨id, u, by simp [h1], h2, h3⟩
theorem canB_get {j : Nat} {o : Ob} : ∀ {h : Heap}, hget (canB B ρ h) j = some o → j < B ∧ ∃ u, hget h j = some u ∧ o = renO B ρ u
  | [], he => by simp [canB, hget] at he
  | (i, u) :: h, he => by
    simp only [canB] at he
    split at he
    · rename_i hi
      simp only [hget] at he ⊢
      split at he
      · rename_i hj; simp only [Option.some.injEq] at he; subst hj; exact ⟨hi, u, by simp, he.symm⟩
      · rename_i hj
        obtain ⟨h1, u', h2, h3⟩ := canB_get he; exact ⟨h1, u', by rw [if_neg hj]; exact h2, h3⟩
    · rename_i hi
      obtain ⟨h1, u', h2, h3⟩ := canB_get he
      refine ⟨h1, u', ?_, h3⟩
      simp only [hget]
      rw [if_neg (by omega)]; exact h2

variable {hd hd' : Nat → Value} {n : Nat} {w : World} {I : Nat → Prop}
theorem HdOf.at {hd hd' : Nat → Value} {i j : Nat} (e : hd' j = hd i) : ∀ {sub : Option (Nat × Nat × Nat)} {h : Value}, HdOf hd w i sub h → HdOf hd' w j sub h
  | none, h, hh => by simp only [HdOf] at hh ⊢; rw [e]; exact hh
  | some (a, b, c), h, hh => by simp only [HdOf] at hh ⊢; rw [e]; exact hh
mutual
theorem S.ren (hB : ∀ id, id < B → hd' id = hd id) (hBn : B ≤ nx) (hρ : ∀ o j, lkp ρ o = some j → hd' j = hd o ∧ j < nx) : ∀ (x : AV) (v : Value), S hd n w I x v → S hd' nx w I (X.ren B ρ x) v
  | .ref id sub sz off len, v, h => by
    simp only [S] at h
    obtain ⟨hid, h0, h1, h2⟩ := h
    simp only [X.ren]
    split
    · rename_i hlt
      simp only [S]
      exact ⟨Nat.lt_of_lt_of_le hlt hBn, h0, h1.at (hB id hlt), h2⟩
    · split
      · rename_i j e
        simp only [S]
        exact ⟨(hρ _ _ e).2, h0, h1.at (hρ _ _ e).1, h2⟩
      · simp only [S]
  | .ptr id sub sz i c, v, h => by
    simp only [S] at h
    obtain ⟨hid, h0, b, o, h1, h2, h3⟩ := h
    simp only [X.ren]
    split
    · rename_i hlt
      simp only [S]
      exact ⟨Nat.lt_of_lt_of_le hlt hBn, h0, b, o, h1.at (hB id hlt), h2, h3⟩
    · split
      · rename_i j e
        simp only [S]
        exact ⟨(hρ _ _ e).2, h0, b, o, h1.at (hρ _ _ e).1, h2, h3⟩
      · simp only [S]
  | .fn f caps, v, h => by
    simp only [S, X.ren] at h ⊢
    obtain ⟨vs, hv, ht⟩ := h
    exact ⟨vs, hv, SL.ren hB hBn hρ caps _ ht⟩
  | .agg cs, v, h => by
    simp only [S, X.ren] at h ⊢
    obtain ⟨vs, hv, ht⟩ := h
    exact ⟨vs, hv, SL.ren hB hBn hρ cs _ ht⟩
  | .tup xs, v, h => by
    simp only [S, X.ren] at h ⊢
    obtain ⟨vs, hv, ht⟩ := h
    exact ⟨vs, hv, SV.ren hB hBn hρ xs _ ht⟩
  | .ow _ _, v, h => by simp only [S] at h
  | .op _, v, h => by simp only [S] at h
  | .any, v, h => by simp only [S, X.ren]
  | .con u, v, h => by simpa only [S, X.ren] using h
  | .int k m, v, h => by simpa only [S, X.ren] using h
  | .bool b, v, h => by simpa only [S, X.ren] using h
  | .str s, v, h => by simpa only [S, X.ren] using h
  | .nil, v, h => by simpa only [S, X.ren] using h
  | .sl es, v, h => by simpa only [S, X.ren] using h
  | .pf cs, v, h => by simpa only [S, X.ren] using h
theorem SL.ren (hB : ∀ id, id < B → hd' id = hd id) (hBn : B ≤ nx) (hρ : ∀ o j, lkp ρ o = some j → hd' j = hd o ∧ j < nx) : ∀ (xs : List AV) (vs : List Value), SL hd n w I xs vs → SL hd' nx w I (renL B ρ xs) vs
  | [], vs, h => by simpa only [SL, renL] using h
  | x :: xs, vs, h => by
    simp only [SL, renL] at h ⊢
    obtain ⟨v, vs', rfl, h1, hx, hxs⟩ := h
    exact ⟨v, vs', rfl, h1, S.ren hB hBn hρ x v hx, SL.ren hB hBn hρ xs vs' hxs⟩
theorem SV.ren (hB : ∀ id, id < B → hd' id = hd id) (hBn : B ≤ nx) (hρ : ∀ o j, lkp ρ o = some j → hd' j = hd o ∧ j < nx) : ∀ (xs : List AV) (vs : List Value), SV hd n w I xs vs → SV hd' nx w I (renL B ρ xs) vs
  | [], vs, h => by simpa only [SV, renL] using h
  | x :: xs, vs, h => by
    simp only [SV, renL] at h ⊢
    obtain ⟨v, vs', rfl, hx, hxs⟩ := h
    exact ⟨v, vs', rfl, S.ren hB hBn hρ x v hx, SV.ren hB hBn hρ xs vs' hxs⟩
end

theorem canSlots_S (hS : ∀ (x : AV) (v : Value), S hd n w I x v → S hd' nx w I (X.ren B ρ x) v) (ho : ∀ id ∈ ids, hd' id = .slice none 0 0 ∧ id < nx) : ∀ (acts : List Keepd) (xs : List AV) (vs : Nat → Value), (∀ i ∈ objIds acts, i ∈ ids) → (∀ t, S hd n w I (xs.getD t .any) (vs t)) →
    ∀ t, S hd' nx w I ((canSlots B ρ acts xs).getD t .any) (vs t)
  | _, [], vs, _, _, t => by simp [canSlots, S]
  | [], x :: xs, vs, hi, h, 0 => by simp [canSlots, S]
  | [], x :: xs, vs, hi, h, t + 1 => by
    have := canSlots_S hS ho [] xs (fun t => vs (t + 1)) hi (fun t => by simpa using h (t + 1)) t
    simpa [canSlots] using this
  | .drop :: as, x :: xs, vs, hi, h, 0 => by simp [canSlots, S]
  | .drop :: as, x :: xs, vs, hi, h, t + 1 => by
    have := canSlots_S hS ho as xs (fun t => vs (t + 1)) hi (fun t => by simpa using h (t + 1)) t
    simpa [canSlots] using this
  | .keep :: as, x :: xs, vs, hi, h, 0 => by
    have := hS x (vs 0) (by simpa using h 0)
    simpa [canSlots] using this
  | .keep :: as, x :: xs, vs, hi, h, t + 1 => by
    have := canSlots_S hS ho as xs (fun t => vs (t + 1)) hi (fun t => by simpa using h (t + 1)) t
    simpa [canSlots] using this
  | .obj id sz :: as, x :: xs, vs, hi, h, 0 => by
    have h0 : S hd n w I x (vs 0) := by simpa using h 0
    have h1 := hS x (vs 0) h0
    cases x
    case nil =>
      simp only [S] at h0
      obtain ⟨e, hlt⟩ := ho id (hi id (by simp [objIds]))
      simp only [canSlots, List.getD_cons_zero, S, HdOf]
      exact ⟨hlt, _, rfl, .inr ⟨rfl, none, h0⟩⟩
    all_goals (simpa [canSlots] using h1)
  | .obj id sz :: as, x :: xs, vs, hi, h, t + 1 => by
    have := canSlots_S hS ho as xs (fun t => vs (t + 1)) (fun i hi' => hi i (by simp [objIds, hi'])) (fun t => by simpa using h (t + 1)) t
    cases x <;> simpa [canSlots] using this
theorem canSlots_length : ∀ (acts : List Keepd) (xs : List AV), (canSlots B ρ acts xs).length = xs.length
  | _, [] => by simp [canSlots]
  | [], x :: xs => by simp [canSlots, canSlots_length [] xs]
  | .drop :: as, x :: xs => by simp [canSlots, canSlots_length as xs]
  | .keep :: as, x :: xs => by simp [canSlots, canSlots_length as xs]
  | .obj id sz :: as, x :: xs => by cases x <;> simp [canSlots, canSlots_length as xs]
end

section
variable {G : Glo} {M I : Nat → Prop} {s : St} {hd : Nat → Value} {Fp : Nat → List Nat} {a : Act} {w : World}
/-- The state by new names. -/
theorem SR.canon (h : SR G M I s hd Fp a w) {B : Nat} {acts : List Keepd} {ρ : List (Nat × Nat)} {nx : Nat} (hok : rhoOk B ρ (objIds acts) nx = true) :
    ∃ hd' Fp', SR G M I (X.canon B acts ρ nx s) hd' Fp' a w ∧ ∀ id, id < B → hd' id = hd id := by
  obtain ⟨h1, h2, h3, h4, h5⟩ := rho_spec hok
  let hd' : Nat → Value := fun j => match srcOf B ρ j with | some id => hd id | none => .slice none 0 0
  let Fp' : Nat → List Nat := fun j => match srcOf B ρ j with | some id => Fp id | none => []
  have hB : ∀ id, id < B → hd' id = hd id := fun id hid => by simp only [hd', srcOf, if_pos hid]
  have hρ : ∀ o j, lkp ρ o = some j → hd' j = hd o ∧ j < nx := fun o j e => by
    have hm := lkp_mem e
    obtain ⟨g1, g2, g3⟩ := h2 o j hm
    refine ⟨?_, g3⟩
    simp only [hd', srcOf, if_neg (Nat.not_lt.2 g2), lkr_of_mem h3 hm]
  have hobj : ∀ id ∈ objIds acts, hd' id = .slice none 0 0 ∧ id < nx := fun id hid => by
    obtain ⟨g1, g2, g3⟩ := h5 id hid
    exact ⟨by simp only [hd', srcOf, if_neg (Nat.not_lt.2 g1), lkr_none g3], g2⟩
  have hS := fun x v hx => S.ren (B := B) (ρ := ρ) (hd := hd) (hd' := hd') (n := s.next) (w := w) (I := I) hB h1 hρ x v hx
  -- every object: one of before, by another name, or a new empty slice
  have hget2 : ∀ j u, hget (canObjs acts s.tmps ++ (canR B ρ s.heap ρ ++ canB B ρ s.heap)) j = some u → (srcOf B ρ j = none ∧ j < nx ∧ ∃ sz, u = .slice sz []) ∨ ∃ id u0, srcOf B ρ j = some id ∧ j < nx ∧ hget s.heap id = some u0 ∧ u = renO B ρ u0 := by
    intro j u hu
    rw [hget_append] at hu
    split at hu
    · rename_i o e
      simp only [Option.some.injEq] at hu; subst hu
      obtain ⟨g1, sz, g2⟩ := canObjs_get e
      obtain ⟨q1, q2, q3⟩ := h5 j g1
      exact .inl ⟨by simp only [srcOf, if_neg (Nat.not_lt.2 q1), lkr_none q3], q2, sz, g2⟩
    · rw [hget_append] at hu
      split at hu
      · rename_i o e
        simp only [Option.some.injEq] at hu; subst hu
        obtain ⟨id, u0, g1, g2, g3⟩ := canR_get e
        obtain ⟨q1, q2, q3⟩ := h2 id j g1
        exact .inr ⟨id, u0, by simp only [srcOf, if_neg (Nat.not_lt.2 q2), lkr_of_mem h3 g1], q3, g2, g3⟩
      · obtain ⟨g1, u0, g2, g3⟩ := canB_get hu
        exact .inr ⟨j, u0, by simp only [srcOf, if_pos g1], Nat.lt_of_lt_of_le g1 h1, g2, g3⟩
  have hinj : ∀ j1 j2 id, srcOf B ρ j1 = some id → srcOf B ρ j2 = some id → j1 = j2 := by
    intro j1 j2 id e1 e2
    simp only [srcOf] at e1 e2
    split at e1 <;> split at e2
    · simp only [Option.some.injEq] at e1 e2; omega
    · simp only [Option.some.injEq] at e1
      have := (h2 _ _ (lkr_mem e2)).1
      omega
    · simp only [Option.some.injEq] at e2
      have := (h2 _ _ (lkr_mem e1)).1
      omega
    · exact inj_of_mem h4 (lkr_mem e1) (lkr_mem e2)
  have hfp : ∀ j u, hget (canObjs acts s.tmps ++ (canR B ρ s.heap ρ ++ canB B ρ s.heap)) j = some u → ∀ b ∈ Fp' j, ∃ id u0, srcOf B ρ j = some id ∧ hget s.heap id = some u0 ∧ b ∈ Fp id := by
    intro j u hu b hb
    rcases hget2 j u hu with ⟨e, _, _⟩ | ⟨id, u0, e, _, hu0, _⟩
    · simp only [Fp', e] at hb; cases hb
    · simp only [Fp', e] at hb; exact ⟨id, u0, e, hu0, hb⟩
  refine ⟨hd', Fp', ⟨⟨fun j u hu => ?_, fun b hb => ⟨(h.heap.imm b hb).1, fun j u hu hm => ?_⟩, fun j u hu => ?_, fun j u j' u' hu hu' hne b hb hb' => ?_, fun j u hu b hb => ?_, fun j u hu => ?_, h.heap.news, h.heap.glo⟩, by simp [X.canon, canSlots_length, h.len], fun t => ?_, h.defers⟩, hB⟩
  · rcases hget2 j u hu with ⟨e, _, sz, rfl⟩ | ⟨id, u0, e, _, hu0, rfl⟩
    · simp only [hd', Fp', e, ObjR, T]
      exact .inl ⟨trivial, ⟨none, rfl⟩, trivial⟩
    · have hq := h.heap.obj id u0 hu0
      simp only [hd', Fp', e]
      cases u0 with
      | slice sz es => exact hq
      | var cs =>
        obtain ⟨b, cur, e0, g1, g2, g3, g4⟩ := hq
        exact ⟨b, cur, e0, g1, g2, SL.ren hB h1 hρ _ _ g3, g4⟩
  · obtain ⟨id, u0, _, hu0, hb'⟩ := hfp j u hu b hm
    exact (h.heap.imm b hb).2 id u0 hu0 hb'
  · rcases hget2 j u hu with ⟨e, _, _⟩ | ⟨id, u0, e, _, hu0, _⟩
    · simp only [Fp', e]; exact List.nodup_nil
    · simp only [Fp', e]; exact h.heap.nodup id u0 hu0
  · obtain ⟨id, u0, e, hu0, hbi⟩ := hfp j u hu b hb
    obtain ⟨id', u0', e', hu0', hbi'⟩ := hfp j' u' hu' b hb'
    by_cases hid : id = id'
    · subst hid; exact hne (hinj j j' id e e')
    · exact h.heap.disj id u0 id' u0' hu0 hu0' hid b hbi hbi'
  · obtain ⟨id, u0, e, hu0, hbi⟩ := hfp j u hu b hb
    exact h.heap.mine id u0 hu0 b hbi
  · rcases hget2 j u hu with ⟨_, hl, _⟩ | ⟨id, u0, e, hl, _⟩
    · exact hl
    · exact hl
  · exact canSlots_S (ids := objIds acts) hS hobj acts s.tmps (fun t => a.tmps.getD t undef) (fun i hi => hi) h.slots t
end
theorem eqs_canon : True := by
  have := @canon.eq_1
  trivial
theorem eqs_canSlots : True := by
  have := @canSlots.eq_1
  trivial
theorem eqs_canObjs : True := by
  have := @canObjs.eq_1
  trivial
theorem eqs_canR : True := by
  have := @canR.eq_1
  trivial
theorem eqs_canB : True := by
  have := @canB.eq_1
  trivial
end Go.Proofs.YtlddjlchgibdfaaDoor.X
