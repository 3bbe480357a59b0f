import Derived.Test.YtlddjlchgibdfaaDoorXApp
import Derived.Calls
set_option linter.unusedVariables false
set_option linter.unusedSimpArgs false
namespace Go.Proofs.YtlddjlchgibdfaaDoor.X
open Go

/-! ### Calls -/
abbrev CT := FuncId → List AV → Heap → Nat → (AV → Heap → Nat → Prop) → Prop

mutual
/-- Frozen, as an argument. -/
def frzA (h : Heap) : Nat → AV → Option AV
  | _, .ref id sub sz off len => match getS h id sub with
    | some (sz', es) => if sz = sz' then some (.sl (frzLL ((es.drop off).take len))) else none
    | none => none
  | k + 1, .ptr id none sz i c => match hget h id with
    | some (.var cs) => if i = 0 then (match frzAL h k (cs.drop c) with | some ys => some (.pf ys) | none => none) else none
    | _ => none
  | k + 1, .fn f caps => match frzAL h k caps with | some ys => some (.fn f ys) | none => none
  | k + 1, .agg cs => match frzAL h k cs with | some ys => some (.agg ys) | none => none
  | _, x => if isF x then some x else none
def frzAL (h : Heap) : Nat → List AV → Option (List AV)
  | _, [] => some []
  | k, x :: xs => match frzA h k x, frzAL h k xs with
    | some y, some ys => some (y :: ys)
    | _, _ => none
end

section
variable {G : Glo} {M I : Nat → Prop} {h : Heap} {n : Nat} {hd : Nat → Value} {Fp : Nat → List Nat} {w : World}
theorem isF_T2 {x : AV} {v : Value} (hr : HR G M I h n hd Fp w) (hf : isF x = true) (hx : S hd n w I x v) : T w (fun b => b < w.heap.size) x v [] :=
  T.frame (fun b hb => ⟨(hr.imm b hb).1, rfl⟩) _ _ _ (isF_T hf hx) (by simp)
theorem frz_sound (hr : HR G M I h n hd Fp w) : ∀ k, (∀ (x y : AV) (v : Value), S hd n w I x v → frzA h k x = some y → T w (fun b => b < w.heap.size) y v []) ∧
    (∀ (xs ys : List AV) (vs : List Value), SL hd n w I xs vs → frzAL h k xs = some ys → TL w (fun b => b < w.heap.size) ys vs []) := by
  have base : ∀ k, (∀ (x y : AV) (v : Value), S hd n w I x v → frzA h k x = some y → T w (fun b => b < w.heap.size) y v []) →
      (∀ (xs ys : List AV) (vs : List Value), SL hd n w I xs vs → frzAL h k xs = some ys → TL w (fun b => b < w.heap.size) ys vs []) := by
    intro k hk xs
    induction xs with
    | nil =>
      intro ys vs hx hy
      simp only [frzAL, Option.some.injEq] at hy
      subst hy
      simp only [SL] at hx
      simp only [TL]; exact ⟨hx, trivial⟩
    | cons x xs ih =>
      intro ys vs hx hy
      simp only [SL] at hx
      obtain ⟨v, vs', rfl, h1, hxv, hxs⟩ := hx
      simp only [frzAL] at hy
      split at hy
      · rename_i y ys' e1 e2
        simp only [Option.some.injEq] at hy
        subst hy
        simp only [TL]
        exact ⟨v, vs', [], [], rfl, rfl, h1, hk x y v hxv e1, ih ys' vs' hxs e2⟩
      · cases hy
  have hsl : ∀ (id : Nat) (sub : Option (Nat × Nat × Nat)) (sz off len : Nat) (y : AV) (v : Value), S hd n w I (.ref id sub sz off len) v → (match getS h id sub with
      | some (sz', es) => if sz = sz' then some (AV.sl (frzLL ((es.drop off).take len))) else none
      | none => none) = some y → T w (fun b => b < w.heap.size) y v [] := by
    intro id sub sz off len y v hx hy
    split at hy
    · rename_i sz' es hg
      split at hy
      · rename_i hsz
        subst hsz
        simp only [Option.some.injEq] at hy
        subst hy
        obtain ⟨hv', F, ob, ho, hh', hT, hsub⟩ := getS_sound hr hg
        simp only [S] at hx
        obtain ⟨hid, hv, hh, hw⟩ := hx
        obtain rfl := HdOf.uniq hh hh'
        obtain ⟨F', hT2, hs2, hlen⟩ := ow_win hT hw
        have := T.frz (I' := fun b => b < w.heap.size) (fun b hb => (hr.imm b hb).1) _ _ _ hT2 (T.lt _ _ _ hT2)
        simpa only [frzT] using this
      · cases hy
    · cases hy
  have hvar : ∀ k, (∀ (xs ys : List AV) (vs : List Value), SL hd n w I xs vs → frzAL h k xs = some ys → TL w (fun b => b < w.heap.size) ys vs []) →
      ∀ (x y : AV) (v : Value), S hd n w I x v → frzA h (k + 1) x = some y → T w (fun b => b < w.heap.size) y v [] := by
    intro k ih x y v hx hy
    cases x <;> try simp only [frzA] at hy
    case ref id sub sz off len => exact hsl id sub sz off len y v hx hy
    case ptr id sub sz i c =>
      cases sub with
      | some p => simp [frzA, isF] at hy
      | none =>
        simp only [frzA] at hy
        split at hy
        · rename_i cs ho
          split at hy
          · rename_i hi0
            subst hi0
            split at hy
            · rename_i ys e1
              simp only [Option.some.injEq] at hy
              subst hy
              simp only [S, HdOf] at hx
              obtain ⟨hid, hv, b, o, rfl, hb, rfl⟩ := hx
              obtain ⟨b', cur, e, hp, hhp, hs, hF⟩ := hr.obj id _ ho
              obtain ⟨rfl, rfl⟩ := hb.uniq (.inr hp)
              simp only [T]
              refine ⟨trivial, b, _, cur.toList.drop c, rfl, lt_of_heap hhp, ?_, ih _ _ _ (hs.drop c) e1⟩
              intro j u hu
              rw [List.getElem?_drop] at hu
              rw [show 0 + (0 * sz + c) + j = c + j by omega]
              simpa [World.cell?, hhp] using hu
            · cases hy
          · cases hy
        · cases hy
    case fn f caps =>
      split at hy
      · rename_i ys e1
        simp only [Option.some.injEq] at hy
        subst hy
        simp only [S] at hx
        obtain ⟨vs, rfl, hs⟩ := hx
        simp only [T]
        exact ⟨vs, rfl, ih _ _ _ hs e1⟩
      · cases hy
    case agg cs =>
      split at hy
      · rename_i ys e1
        simp only [Option.some.injEq] at hy
        subst hy
        simp only [S] at hx
        obtain ⟨vs, rfl, hs⟩ := hx
        simp only [T]
        exact ⟨vs, rfl, ih _ _ _ hs e1⟩
      · cases hy
    all_goals
      split at hy
      · rename_i hf
        simp only [Option.some.injEq] at hy
        subst hy
        exact isF_T2 hr hf hx
      · cases hy
  intro k
  induction k with
  | zero =>
    have h0 : ∀ (x y : AV) (v : Value), S hd n w I x v → frzA h 0 x = some y → T w (fun b => b < w.heap.size) y v [] := by
      intro x y v hx hy
      cases x <;> try simp only [frzA] at hy
      case ref id sub sz off len => exact hsl id sub sz off len y v hx hy
      all_goals
        split at hy
        · rename_i hf
          simp only [Option.some.injEq] at hy
          subst hy
          exact isF_T2 hr hf hx
        · cases hy
    exact ⟨h0, base 0 h0⟩
  | succ k ih =>
    have h1 := hvar k ih.2
    exact ⟨h1, base (k + 1) h1⟩
end

/-! ### Results -/
mutual
def NilTo : AV → AV → Prop
  | .nil, y => y = .nil ∨ ∃ sz, y = .ow sz []
  | .ow sz es, y => ∃ es', y = .ow sz es' ∧ NilToLL es es'
  | .agg xs, y => ∃ ys, y = .agg ys ∧ NilToL xs ys
  | .tup xs, y => ∃ ys, y = .tup ys ∧ NilToL xs ys
  | .op xs, y => ∃ ys, y = .op ys ∧ NilToL xs ys
  | x, y => x = y
def NilToL : List AV → List AV → Prop
  | [], ys => ys = []
  | x :: xs, ys => ∃ y ys', ys = y :: ys' ∧ NilTo x y ∧ NilToL xs ys'
def NilToLL : List (List AV) → List (List AV) → Prop
  | [], ys => ys = []
  | x :: xs, ys => ∃ y ys', ys = y :: ys' ∧ NilToL x y ∧ NilToLL xs ys'
end
mutual
/-- All of one's own: nothing frozen in it. -/
def ownR : AV → Bool
  | .con _ | .int .. | .bool _ | .str _ | .nil => true
  | .ow _ es => ownRLL es
  | .op cs => ownRL cs
  | .agg cs => ownRL cs
  | .tup cs => ownRL cs
  | _ => false
def ownRL : List AV → Bool
  | [] => true
  | x :: xs => ownR x && ownRL xs
def ownRLL : List (List AV) → Bool
  | [] => true
  | x :: xs => ownRL x && ownRLL xs
end
section
variable {w : World} {I I' : Nat → Prop}
mutual
theorem T.nilTo : ∀ (x y : AV) (v : Value) (F : List Nat), T w I x v F → NilTo x y → T w I y v F
  | .nil, y, v, F, h, hy => by
    simp only [NilTo] at hy
    rcases hy with rfl | ⟨sz, rfl⟩
    · exact h
    · simp only [T] at h ⊢
      obtain ⟨rfl, rfl⟩ := h
      exact .inl ⟨trivial, ⟨none, rfl⟩, rfl⟩
  | .ow sz es, y, v, F, h, hy => by
    simp only [NilTo] at hy
    obtain ⟨es', rfl, hy⟩ := hy
    have hl := NilToLL.length es es' hy
    simp only [T] at h ⊢
    rcases h with ⟨rfl, hA, rfl⟩ | ⟨b, o, c, cur, e, vs, Fs, hv, hh, hc, hm, ho, hE, hvs, ht, rfl⟩
    · exact .inl ⟨List.eq_nil_of_length_eq_zero hl, hA, rfl⟩
    · exact .inr ⟨b, o, c, cur, e, vs, Fs, by rw [hl]; exact hv, hh, by rw [hl]; exact hc, hm, ho, NilToLL.each es es' hy hE, by rw [hl]; exact hvs, TLL.nilTo es es' vs Fs ht hy, rfl⟩
  | .agg xs, y, v, F, h, hy => by
    simp only [NilTo] at hy
    obtain ⟨ys, rfl, hy⟩ := hy
    simp only [T] at h ⊢
    obtain ⟨vs, rfl, ht⟩ := h
    exact ⟨vs, rfl, TL.nilTo xs ys _ F ht hy⟩
  | .tup xs, y, v, F, h, hy => by
    simp only [NilTo] at hy
    obtain ⟨ys, rfl, hy⟩ := hy
    simp only [T] at h ⊢
    obtain ⟨vs, rfl, ht⟩ := h
    exact ⟨vs, rfl, TV.nilTo xs ys _ F ht hy⟩
  | .op xs, y, v, F, h, hy => by
    simp only [NilTo] at hy
    obtain ⟨ys, rfl, hy⟩ := hy
    simp only [T] at h ⊢
    obtain ⟨b, cur, e, Fs, rfl, hh, ht, rfl⟩ := h
    exact ⟨b, cur, e, Fs, rfl, hh, TL.nilTo xs ys _ Fs ht hy, rfl⟩
  | .any, y, v, F, h, hy => by simp only [NilTo] at hy; subst hy; exact h
  | .con u, y, v, F, h, hy => by simp only [NilTo] at hy; subst hy; exact h
  | .int k n, y, v, F, h, hy => by simp only [NilTo] at hy; subst hy; exact h
  | .bool b, y, v, F, h, hy => by simp only [NilTo] at hy; subst hy; exact h
  | .str s, y, v, F, h, hy => by simp only [NilTo] at hy; subst hy; exact h
  | .sl es, y, v, F, h, hy => by simp only [NilTo] at hy; subst hy; exact h
  | .pf cs, y, v, F, h, hy => by simp only [NilTo] at hy; subst hy; exact h
  | .fn f caps, y, v, F, h, hy => by simp only [NilTo] at hy; subst hy; exact h
  | .ref _ _ _ _ _, y, v, F, h, hy => by simp only [T] at h
  | .ptr _ _ _ _ _, y, v, F, h, hy => by simp only [T] at h
theorem TL.nilTo : ∀ (xs ys : List AV) (vs : List Value) (F : List Nat), TL w I xs vs F → NilToL xs ys → TL w I ys vs F
  | [], ys, vs, F, h, hy => by simp only [NilToL] at hy; subst hy; exact h
  | x :: xs, ys, vs, F, h, hy => by
    simp only [NilToL] at hy
    obtain ⟨y, ys', rfl, hy1, hy2⟩ := hy
    simp only [TL] at h ⊢
    obtain ⟨v, vs', F1, F2, rfl, rfl, h1, hx, hxs⟩ := h
    exact ⟨v, vs', F1, F2, rfl, rfl, h1, T.nilTo x y v F1 hx hy1, TL.nilTo xs ys' vs' F2 hxs hy2⟩
theorem TV.nilTo : ∀ (xs ys : List AV) (vs : List Value) (F : List Nat), TV w I xs vs F → NilToL xs ys → TV w I ys vs F
  | [], ys, vs, F, h, hy => by simp only [NilToL] at hy; subst hy; exact h
  | x :: xs, ys, vs, F, h, hy => by
    simp only [NilToL] at hy
    obtain ⟨y, ys', rfl, hy1, hy2⟩ := hy
    simp only [TV] at h ⊢
    obtain ⟨v, vs', F1, F2, rfl, rfl, hx, hxs⟩ := h
    exact ⟨v, vs', F1, F2, rfl, rfl, T.nilTo x y v F1 hx hy1, TV.nilTo xs ys' vs' F2 hxs hy2⟩
theorem TLL.nilTo : ∀ (xs ys : List (List AV)) (vs : List Value) (F : List Nat), TLL w I xs vs F → NilToLL xs ys → TLL w I ys vs F
  | [], ys, vs, F, h, hy => by simp only [NilToLL] at hy; subst hy; exact h
  | x :: xs, ys, vs, F, h, hy => by
    simp only [NilToLL] at hy
    obtain ⟨y, ys', rfl, hy1, hy2⟩ := hy
    simp only [TLL] at h ⊢
    obtain ⟨v1, v2, F1, F2, rfl, rfl, hx, hxs⟩ := h
    exact ⟨v1, v2, F1, F2, rfl, rfl, TL.nilTo x y v1 F1 hx hy1, TLL.nilTo xs ys' v2 F2 hxs hy2⟩
theorem NilToL.length : ∀ (xs ys : List AV), NilToL xs ys → ys.length = xs.length
  | [], ys, h => by simp only [NilToL] at h; subst h; rfl
  | x :: xs, ys, h => by
    simp only [NilToL] at h
    obtain ⟨y, ys', rfl, h1, h2⟩ := h
    simp [NilToL.length xs ys' h2]
theorem NilToLL.length : ∀ (xs ys : List (List AV)), NilToLL xs ys → ys.length = xs.length
  | [], ys, h => by simp only [NilToLL] at h; subst h; rfl
  | x :: xs, ys, h => by
    simp only [NilToLL] at h
    obtain ⟨y, ys', rfl, h1, h2⟩ := h
    simp [NilToLL.length xs ys' h2]
theorem NilToLL.each {sz : Nat} : ∀ (xs ys : List (List AV)), NilToLL xs ys → Each sz xs → Each sz ys
  | [], ys, h, _ => by simp only [NilToLL] at h; subst h; trivial
  | x :: xs, ys, h, hE => by
    simp only [NilToLL] at h
    obtain ⟨y, ys', rfl, h1, h2⟩ := h
    exact ⟨(NilToL.length x y h1).trans hE.1, NilToLL.each xs ys' h2 hE.2⟩
end
mutual
theorem T.anyI : ∀ (x : AV) (v : Value) (F : List Nat), ownR x = true → T w I x v F → T w I' x v F
  | .con u, v, F, _, h => by simpa only [T] using h
  | .int k n, v, F, _, h => by simpa only [T] using h
  | .bool b, v, F, _, h => by simpa only [T] using h
  | .str s, v, F, _, h => by simpa only [T] using h
  | .nil, v, F, _, h => by simpa only [T] using h
  | .ow sz es, v, F, ho, h => by
    simp only [ownR] at ho
    simp only [T] at h ⊢
    refine h.imp id ?_
    rintro ⟨b, o, c, cur, e, vs, Fs, hv, hh, hc, hm, ho', hE, hvs, ht, rfl⟩
    exact ⟨b, o, c, cur, e, vs, Fs, hv, hh, hc, hm, ho', hE, hvs, TLL.anyI es vs Fs ho ht, rfl⟩
  | .op cs, v, F, ho, h => by
    simp only [ownR] at ho
    simp only [T] at h ⊢
    obtain ⟨b, cur, e, Fs, hv, hh, ht, rfl⟩ := h
    exact ⟨b, cur, e, Fs, hv, hh, TL.anyI cs _ Fs ho ht, rfl⟩
  | .agg cs, v, F, ho, h => by
    simp only [ownR] at ho
    simp only [T] at h ⊢
    obtain ⟨vs, hv, ht⟩ := h
    exact ⟨vs, hv, TL.anyI cs _ F ho ht⟩
  | .tup cs, v, F, ho, h => by
    simp only [ownR] at ho
    simp only [T] at h ⊢
    obtain ⟨vs, hv, ht⟩ := h
    exact ⟨vs, hv, TV.anyI cs _ F ho ht⟩
  | .any, v, F, ho, h => by simp [ownR] at ho
  | .sl _, v, F, ho, h => by simp [ownR] at ho
  | .pf _, v, F, ho, h => by simp [ownR] at ho
  | .fn _ _, v, F, ho, h => by simp [ownR] at ho
  | .ref _ _ _ _ _, v, F, ho, h => by simp [ownR] at ho
  | .ptr _ _ _ _ _, v, F, ho, h => by simp [ownR] at ho
theorem TL.anyI : ∀ (xs : List AV) (vs : List Value) (F : List Nat), ownRL xs = true → TL w I xs vs F → TL w I' xs vs F
  | [], vs, F, _, h => by simpa only [TL] using h
  | x :: xs, vs, F, ho, h => by
    simp only [ownRL, Bool.and_eq_true] at ho
    simp only [TL] at h ⊢
    obtain ⟨v, vs', F1, F2, rfl, rfl, h1, hx, hxs⟩ := h
    exact ⟨v, vs', F1, F2, rfl, rfl, h1, T.anyI x v F1 ho.1 hx, TL.anyI xs vs' F2 ho.2 hxs⟩
theorem TV.anyI : ∀ (xs : List AV) (vs : List Value) (F : List Nat), ownRL xs = true → TV w I xs vs F → TV w I' xs vs F
  | [], vs, F, _, h => by simpa only [TV] using h
  | x :: xs, vs, F, ho, h => by
    simp only [ownRL, Bool.and_eq_true] at ho
    simp only [TV] at h ⊢
    obtain ⟨v, vs', F1, F2, rfl, rfl, hx, hxs⟩ := h
    exact ⟨v, vs', F1, F2, rfl, rfl, T.anyI x v F1 ho.1 hx, TV.anyI xs vs' F2 ho.2 hxs⟩
theorem TLL.anyI : ∀ (xs : List (List AV)) (vs : List Value) (F : List Nat), ownRLL xs = true → TLL w I xs vs F → TLL w I' xs vs F
  | [], vs, F, _, h => by simpa only [TLL] using h
  | x :: xs, vs, F, ho, h => by
    simp only [ownRLL, Bool.and_eq_true] at ho
    simp only [TLL] at h ⊢
    obtain ⟨v1, v2, F1, F2, rfl, rfl, hx, hxs⟩ := h
    exact ⟨v1, v2, F1, F2, rfl, rfl, TL.anyI x v1 F1 ho.1 hx, TLL.anyI xs v2 F2 ho.2 hxs⟩
end
end
theorem eqs_frzA : True := by
  have := @frzA.eq_1
  trivial
theorem eqs_frzAL : True := by
  have := @frzAL.eq_1
  trivial
end Go.Proofs.YtlddjlchgibdfaaDoor.X
