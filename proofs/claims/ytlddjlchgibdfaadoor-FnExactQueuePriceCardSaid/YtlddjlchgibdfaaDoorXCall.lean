import Derived.Test.YtlddjlchgibdfaaDoorXRun
set_option linter.unusedVariables false
set_option linter.unusedSimpArgs false
namespace Go.Proofs.YtlddjlchgibdfaaDoor.X
open Go

mutual
/-- Handed away, as a result. -/
def conR : Nat → Heap → AV → Option (AV × Heap)
  | _, h, .ref id none sz off len => match hget h id with
    | some (.slice sz' es) => if sz = sz' then some (.ow sz ((es.drop off).take len), hdel h id) else none
    | _ => none
  | k + 1, h, .ptr id none sz i c => match hget h id with
    | some (.var cs) => if i = 0 ∧ c = 0 then (match conRL k (hdel h id) cs with | some (ys, h') => some (.op ys, h') | none => none) else none
    | _ => none
  | k + 1, h, .agg cs => match conRL k h cs with | some (ys, h') => some (.agg ys, h') | none => none
  | k + 1, h, .tup cs => match conRL k h cs with | some (ys, h') => some (.tup ys, h') | none => none
  | _, h, x => if isF x then some (x, h) else none
def conRL : Nat → Heap → List AV → Option (List AV × Heap)
  | _, h, [] => some ([], h)
  | k, h, x :: xs => match conR k h x with
    | some (y, h1) => match conRL k h1 xs with
      | some (ys, h2) => some (y :: ys, h2)
      | none => none
    | none => none
end

section
variable {G : Glo} {M I : Nat → Prop} {n : Nat} {hd : Nat → Value} {Fp : Nat → List Nat} {w : World}
/-- What handing away gives. -/
def Handed (G : Glo) (M I : Nat → Prop) (n : Nat) (hd : Nat → Value) (Fp : Nat → List Nat) (w : World) (h h' : Heap) (F : List Nat) : Prop :=
  HR G M I h' n hd Fp w ∧ Free M I h' Fp F ∧ Sub h' h ∧ (∀ b ∈ F, ∃ id o, hget h id = some o ∧ b ∈ Fp id)
theorem Handed.join {h h1 h2 : Heap} {F1 F2 : List Nat} (a : Handed G M I n hd Fp w h h1 F1) (b : Handed G M I n hd Fp w h1 h2 F2) : Handed G M I n hd Fp w h h2 (F1 ++ F2) := by
  obtain ⟨hr1, hf1, hs1, ho1⟩ := a
  obtain ⟨hr2, hf2, hs2, ho2⟩ := b
  refine ⟨hr2, ⟨?_, ?_, ?_, ?_⟩, hs2.trans hs1, ?_⟩
  · refine List.nodup_append.2 ⟨hf1.nodup, hf2.nodup, ?_⟩
    rintro b hb1 b' hb2 rfl
    obtain ⟨id, o, ho, hb⟩ := ho2 b hb2
    exact hf1.disj id o ho b hb hb1
  · intro b hb
    rcases List.mem_append.1 hb with hb | hb
    · exact hf1.mine b hb
    · exact hf2.mine b hb
  · intro b hb
    rcases List.mem_append.1 hb with hb | hb
    · exact hf1.imm b hb
    · exact hf2.imm b hb
  · intro id o ho b hb hm
    rcases List.mem_append.1 hm with hm | hm
    · exact (hf1.less hs2).disj id o ho b hb hm
    · exact hf2.disj id o ho b hb hm
  · intro b hb
    rcases List.mem_append.1 hb with hb | hb
    · exact ho1 b hb
    · obtain ⟨id, o, ho, hb'⟩ := ho2 b hb
      exact ⟨id, o, hs1 id o ho, hb'⟩
theorem Handed.refl {h : Heap} (hr : HR G M I h n hd Fp w) : Handed G M I n hd Fp w h h [] := ⟨hr, Free.nil _ _ _ _, Sub.refl _, by simp⟩

theorem conR_sound : ∀ k, (∀ (h : Heap), HR G M I h n hd Fp w → ∀ (x y : AV) (h' : Heap) (v : Value), S hd n w I x v → conR k h x = some (y, h') → ∃ F, T w I y v F ∧ Handed G M I n hd Fp w h h' F) ∧
    (∀ (h : Heap), HR G M I h n hd Fp w → ∀ (xs ys : List AV) (h' : Heap) (vs : List Value), SL hd n w I xs vs → conRL k h xs = some (ys, h') → ∃ F, TL w I ys vs F ∧ Handed G M I n hd Fp w h h' F) ∧
    (∀ (h : Heap), HR G M I h n hd Fp w → ∀ (xs ys : List AV) (h' : Heap) (vs : List Value), SV hd n w I xs vs → conRL k h xs = some (ys, h') → ∃ F, TV w I ys vs F ∧ Handed G M I n hd Fp w h h' F) := by
  have href : ∀ (h : Heap), HR G M I h n hd Fp w → ∀ (id sz off len : Nat) (y : AV) (h' : Heap) (v : Value), S hd n w I (.ref id none sz off len) v → (match hget h id with
      | some (.slice sz' es) => if sz = sz' then some (AV.ow sz ((es.drop off).take len), hdel h id) else none
      | _ => none) = some (y, h') → ∃ F, T w I y v F ∧ Handed G M I n hd Fp w h h' F := by
    intro h hr id sz off len y h' v hx hy
    obtain ⟨F, h1, h2, h3, h4, h5⟩ := conC_sound (y := y) (h' := h') hr hx (by unfold conC; exact hy)
    exact ⟨F, h2, h1, h3, h4, h5⟩
  have hF : ∀ (h : Heap), HR G M I h n hd Fp w → ∀ (x y : AV) (h' : Heap) (v : Value), S hd n w I x v → (if isF x then some (x, h) else none) = some (y, h') → ∃ F, T w I y v F ∧ Handed G M I n hd Fp w h h' F := by
    intro h hr x y h' v hx hy
    split at hy
    · rename_i hf
      simp only [Option.some.injEq, Prod.mk.injEq] at hy
      obtain ⟨rfl, rfl⟩ := hy
      exact ⟨[], isF_T hf hx, Handed.refl hr⟩
    · cases hy
  have lists : ∀ k, (∀ (h : Heap), HR G M I h n hd Fp w → ∀ (x y : AV) (h' : Heap) (v : Value), S hd n w I x v → conR k h x = some (y, h') → ∃ F, T w I y v F ∧ Handed G M I n hd Fp w h h' F) →
      (∀ (h : Heap), HR G M I h n hd Fp w → ∀ (xs ys : List AV) (h' : Heap) (vs : List Value), SL hd n w I xs vs → conRL k h xs = some (ys, h') → ∃ F, TL w I ys vs F ∧ Handed G M I n hd Fp w h h' F) ∧
      (∀ (h : Heap), HR G M I h n hd Fp w → ∀ (xs ys : List AV) (h' : Heap) (vs : List Value), SV hd n w I xs vs → conRL k h xs = some (ys, h') → ∃ F, TV w I ys vs F ∧ Handed G M I n hd Fp w h h' F) := by
    intro k hk
    constructor
    · intro h hr xs
      induction xs generalizing h with
      | nil =>
        intro ys h' vs hx hy
        simp only [conRL, Option.some.injEq, Prod.mk.injEq] at hy
        obtain ⟨rfl, rfl⟩ := hy
        simp only [SL] at hx
        exact ⟨[], by simp only [TL]; exact ⟨hx, trivial⟩, Handed.refl hr⟩
      | cons x xs ih =>
        intro ys h' vs hx hy
        simp only [SL] at hx
        obtain ⟨v, vs', rfl, h1, hxv, hxs⟩ := hx
        simp only [conRL] at hy
        split at hy
        · rename_i y h1' e1
          split at hy
          · rename_i ys' h2' e2
            simp only [Option.some.injEq, Prod.mk.injEq] at hy
            obtain ⟨rfl, rfl⟩ := hy
            obtain ⟨F1, hT1, hH1⟩ := hk h hr x y h1' v hxv e1
            obtain ⟨F2, hT2, hH2⟩ := ih h1' hH1.1 ys' h2' vs' hxs e2
            exact ⟨F1 ++ F2, by simp only [TL]; exact ⟨v, vs', F1, F2, rfl, rfl, h1, hT1, hT2⟩, hH1.join hH2⟩
          · cases hy
        · cases hy
    · intro h hr xs
      induction xs generalizing h with
      | nil =>
        intro ys h' vs hx hy
        simp only [conRL, Option.some.injEq, Prod.mk.injEq] at hy
        obtain ⟨rfl, rfl⟩ := hy
        simp only [SV] at hx
        exact ⟨[], by simp only [TV]; exact ⟨hx, trivial⟩, Handed.refl hr⟩
      | cons x xs ih =>
        intro ys h' vs hx hy
        simp only [SV] at hx
        obtain ⟨v, vs', rfl, hxv, hxs⟩ := hx
        simp only [conRL] at hy
        split at hy
        · rename_i y h1' e1
          split at hy
          · rename_i ys' h2' e2
            simp only [Option.some.injEq, Prod.mk.injEq] at hy
            obtain ⟨rfl, rfl⟩ := hy
            obtain ⟨F1, hT1, hH1⟩ := hk h hr x y h1' v hxv e1
            obtain ⟨F2, hT2, hH2⟩ := ih h1' hH1.1 ys' h2' vs' hxs e2
            exact ⟨F1 ++ F2, by simp only [TV]; exact ⟨v, vs', F1, F2, rfl, rfl, hT1, hT2⟩, hH1.join hH2⟩
          · cases hy
        · cases hy
  intro k
  induction k with
  | zero =>
    have h0 : ∀ (h : Heap), HR G M I h n hd Fp w → ∀ (x y : AV) (h' : Heap) (v : Value), S hd n w I x v → conR 0 h x = some (y, h') → ∃ F, T w I y v F ∧ Handed G M I n hd Fp w h h' F := by
      intro h hr x y h' v hx hy
      cases x
      case ref id sub sz off len =>
        cases sub with
        | none => simp only [conR] at hy; exact href h hr id sz off len y h' v hx hy
        | some p => simp [conR, isF] at hy
      all_goals (simp only [conR] at hy; exact hF h hr _ y h' v hx hy)
    exact ⟨h0, lists 0 h0⟩
  | succ k ih =>
    obtain ⟨ih1, ih2, ih3⟩ := ih
    have h0 : ∀ (h : Heap), HR G M I h n hd Fp w → ∀ (x y : AV) (h' : Heap) (v : Value), S hd n w I x v → conR (k + 1) h x = some (y, h') → ∃ F, T w I y v F ∧ Handed G M I n hd Fp w h h' F := by
      intro h hr x y h' v hx hy
      cases x
      case ref id sub sz off len =>
        cases sub with
        | none => simp only [conR] at hy; exact href h hr id sz off len y h' v hx hy
        | some p => simp [conR, isF] at hy
      case ptr id sub sz i c =>
        cases sub with
        | some p => simp [conR, isF] at hy
        | none =>
          simp only [conR] at hy
          split at hy
          · rename_i cs ho
            split at hy
            · rename_i hic
              obtain ⟨rfl, rfl⟩ := hic
              split at hy
              · rename_i ys h1' e1
                simp only [Option.some.injEq, Prod.mk.injEq] at hy
                obtain ⟨rfl, rfl⟩ := hy
                simp only [S, HdOf] at hx
                obtain ⟨hid, hv, b, o, rfl, hb, rfl⟩ := hx
                obtain ⟨b', cur, e, hp, hhp, hs, hFp⟩ := hr.obj id _ ho
                obtain ⟨rfl, rfl⟩ := hb.uniq (.inr hp)
                obtain ⟨F, hT, hH⟩ := ih2 (hdel h id) (hr.del id) cs ys h1' _ hs e1
                have hfree := hr.freed ho
                rw [hFp] at hfree
                have hH0 : Handed G M I n hd Fp w h (hdel h id) [b] := ⟨hr.del id, hfree, Sub.del h id, fun b' hb' => ⟨id, _, ho, by rw [hFp]; exact hb'⟩⟩
                refine ⟨b :: F, ?_, hH0.join hH⟩
                simp only [T]
                exact ⟨b, cur, e, F, by simp, hhp, hT, rfl⟩
              · cases hy
            · cases hy
          · cases hy
      case agg cs =>
        simp only [conR] at hy
        split at hy
        · rename_i ys h1' e1
          simp only [Option.some.injEq, Prod.mk.injEq] at hy
          obtain ⟨rfl, rfl⟩ := hy
          simp only [S] at hx
          obtain ⟨vs, rfl, hs⟩ := hx
          obtain ⟨F, hT, hH⟩ := ih2 h hr cs ys h1' _ hs e1
          exact ⟨F, by simp only [T]; exact ⟨vs, rfl, hT⟩, hH⟩
        · cases hy
      case tup cs =>
        simp only [conR] at hy
        split at hy
        · rename_i ys h1' e1
          simp only [Option.some.injEq, Prod.mk.injEq] at hy
          obtain ⟨rfl, rfl⟩ := hy
          simp only [S] at hx
          obtain ⟨vs, rfl, hs⟩ := hx
          obtain ⟨F, hT, hH⟩ := ih3 h hr cs ys h1' _ hs e1
          exact ⟨F, by simp only [T]; exact ⟨vs, rfl, hT⟩, hH⟩
        · cases hy
      all_goals (simp only [conR] at hy; exact hF h hr _ y h' v hx hy)
    exact ⟨h0, lists (k + 1) h0⟩
end

/-! ### A result comes home -/
mutual
def imp (n : Nat) : AV → AV × Heap × Nat
  | .ow sz es => (.ref n none sz 0 es.length, [(n, .slice sz es)], n + 1)
  | .op cs => match impL n cs with | (ys, hs, n1) => (.ptr n1 none 0 0 0, (n1, .var ys) :: hs, n1 + 1)
  | .agg cs => match impL n cs with | (ys, hs, n1) => (.agg ys, hs, n1)
  | .tup cs => match impL n cs with | (ys, hs, n1) => (.tup ys, hs, n1)
  | .fn _ _ => (.any, [], n)
  | x => (x, [], n)
def impL (n : Nat) : List AV → List AV × Heap × Nat
  | [] => ([], [], n)
  | x :: xs => match imp n x with
    | (y, h1, n1) => match impL n1 xs with
      | (ys, h2, n2) => (y :: ys, h2 ++ h1, n2)
end
section
variable {G : Glo} {M I : Nat → Prop} {w : World}
theorem T.nilF {x : AV} {v : Value} {F : List Nat} (h : T w I x v F) (e : F = []) : T w I x v [] := e ▸ h
/-- The heap with what has come home; F0: what is still free. -/
def Home (G : Glo) (M I : Nat → Prop) (w : World) (h : Heap) (n : Nat) (hd : Nat → Value) (Fp : Nat → List Nat) (F : List Nat) (hs : Heap) (n' : Nat) (P : (Nat → Value) → Prop) : Prop :=
  n ≤ n' ∧ ∃ hd' Fp', HR G M I (hs ++ h) n' hd' Fp' w ∧ Fr I I n n' hd hd' w w ∧ (∀ id, id < n → hd' id = hd id) ∧ (∀ F0, Free M I h Fp F0 → (∀ b ∈ F0, b ∉ F) → Free M I (hs ++ h) Fp' F0) ∧ P hd'
mutual
theorem imp_sound : ∀ (x : AV) (h : Heap) (n : Nat) (hd : Nat → Value) (Fp : Nat → List Nat) (v : Value) (F : List Nat), HR G M I h n hd Fp w → T w I x v F → Free M I h Fp F →
    Home G M I w h n hd Fp F (imp n x).2.1 (imp n x).2.2 (fun hd' => S hd' (imp n x).2.2 w I (imp n x).1 v)
  | .ow sz es, h, n, hd, Fp, v, F, hr, hT, hf => by
    simp only [imp]
    refine ⟨Nat.le_succ n, _, _, hr.addFree (.slice sz es) v F hf (fun hd' _ => hT), Fr.new I n hd w v, fun id hid => upd_ne _ _ (by omega), fun F0 hf0 hd0 => ?_, ?_⟩
    · refine ⟨hf0.nodup, hf0.mine, hf0.imm, fun id o ho b hb hm => ?_⟩
      by_cases hid : n = id
      · subst hid; simp only [upd_same] at hb; exact hd0 b hm hb
      · rw [upd_ne _ _ hid] at hb
        simp only [List.cons_append, List.nil_append, hget, hid, if_false] at ho
        exact hf0.disj id o ho b hb hm
    · simp only [S, HdOf, upd_same]
      refine ⟨Nat.lt_succ_self n, v, rfl, ?_⟩
      simp only [T] at hT
      rcases hT with ⟨rfl, ⟨A, rfl⟩, _⟩ | ⟨b, o, c, cur, e, vs, Fs, rfl, hh, hc, hm, ho, hE, hvs, ht, rfl⟩
      · exact .inr ⟨rfl, A, rfl⟩
      · exact .inl ⟨b, o, _, c, c, rfl, by simp, by omega, hc, by omega⟩
  | .op cs, h, n, hd, Fp, v, F, hr, hT, hf => by
    simp only [T] at hT
    obtain ⟨b, cur, e, Fs, rfl, hh, ht, rfl⟩ := hT
    have hfs : Free M I h Fp Fs := hf.sub (List.sublist_cons_self _ _)
    obtain ⟨hn, hd1, Fp1, hr1, fr1, hx1, hk1, hS1⟩ := impL_sound cs h n hd Fp cur.toList Fs hr ht hfs
    have hfb : Free M I ((impL n cs).2.1 ++ h) Fp1 [b] := hk1 [b] (hf.sub (by simp)) (by
      intro b' hb' hm
      simp at hb'; subst hb'
      exact (List.nodup_cons.1 hf.nodup).1 hm)
    simp only [imp]
    have hnew := hr1.addFree (.var (impL n cs).1) (.pointer (some ⟨b, 0, none⟩)) [b] hfb (fun hd' hx => ⟨b, cur, e, rfl, hh, by
      refine SL.frame (Nat.le_succ _) (fun b hb => ⟨hb, rfl⟩) (fun id hid sub u hu => ?_) _ _ hS1
      cases sub with
      | none => simp only [HdOf] at hu ⊢; rw [hx id hid]; exact hu
      | some p => obtain ⟨p1, p2, p3⟩ := p; simp only [HdOf] at hu ⊢; rw [hx id hid]; exact hu, rfl⟩)
    refine ⟨Nat.le_trans hn (Nat.le_succ _), _, _, hnew, fr1.trans (Fr.new I _ hd1 w _), fun id hid => (upd_ne _ _ (Nat.ne_of_gt (Nat.lt_of_lt_of_le hid hn))).trans (hx1 id hid), fun F0 hf0 hd0 => ?_, ?_⟩
    · have h1 := hk1 F0 hf0 (fun b' hb' hm => hd0 b' hb' (List.mem_cons_of_mem _ hm))
      refine ⟨h1.nodup, h1.mine, h1.imm, fun id o ho b' hb' hm => ?_⟩
      by_cases hid : (impL n cs).2.2 = id
      · subst hid; simp only [upd_same] at hb'; simp at hb'; subst hb'; exact hd0 _ hm (by simp)
      · rw [upd_ne _ _ hid] at hb'
        simp only [List.cons_append, hget, hid, if_false] at ho
        exact h1.disj id o ho b' hb' hm
    · simp only [S, HdOf, upd_same]
      exact ⟨Nat.lt_succ_self _, _, b, 0, rfl, .inr rfl, rfl⟩
  | .agg cs, h, n, hd, Fp, v, F, hr, hT, hf => by
    simp only [T] at hT
    obtain ⟨vs, rfl, ht⟩ := hT
    obtain ⟨hn, hd1, Fp1, hr1, fr1, hx1, hk1, hS1⟩ := impL_sound cs h n hd Fp vs.toList F hr ht hf
    simp only [imp]
    exact ⟨hn, hd1, Fp1, hr1, fr1, hx1, hk1, by simp only [S]; exact ⟨vs, rfl, hS1⟩⟩
  | .tup cs, h, n, hd, Fp, v, F, hr, hT, hf => by
    simp only [T] at hT
    obtain ⟨vs, rfl, ht⟩ := hT
    obtain ⟨hn, hd1, Fp1, hr1, fr1, hx1, hk1, hS1⟩ := impV_sound cs h n hd Fp vs.toList F hr ht hf
    simp only [imp]
    exact ⟨hn, hd1, Fp1, hr1, fr1, hx1, hk1, by simp only [S]; exact ⟨vs, rfl, hS1⟩⟩
  | .any, h, n, hd, Fp, v, F, hr, hT, hf => ⟨Nat.le_refl _, hd, Fp, hr, Fr.refl _ _ _ _, fun _ _ => rfl, fun F0 hf0 _ => hf0, by simp only [imp, S]⟩
  | .con u, h, n, hd, Fp, v, F, hr, hT, hf => ⟨Nat.le_refl _, hd, Fp, hr, Fr.refl _ _ _ _, fun _ _ => rfl, fun F0 hf0 _ => hf0, by simp only [imp, S, T] at hT ⊢; exact hT.1⟩
  | .int k m, h, n, hd, Fp, v, F, hr, hT, hf => ⟨Nat.le_refl _, hd, Fp, hr, Fr.refl _ _ _ _, fun _ _ => rfl, fun F0 hf0 _ => hf0, by simp only [imp, S, T] at hT ⊢; exact hT.1⟩
  | .bool _, h, n, hd, Fp, v, F, hr, hT, hf => ⟨Nat.le_refl _, hd, Fp, hr, Fr.refl _ _ _ _, fun _ _ => rfl, fun F0 hf0 _ => hf0, by simp only [imp, S, T] at hT ⊢; exact hT.1⟩
  | .str s, h, n, hd, Fp, v, F, hr, hT, hf => ⟨Nat.le_refl _, hd, Fp, hr, Fr.refl _ _ _ _, fun _ _ => rfl, fun F0 hf0 _ => hf0, by simp only [imp, S, T] at hT ⊢; exact hT.1⟩
  | .nil, h, n, hd, Fp, v, F, hr, hT, hf => ⟨Nat.le_refl _, hd, Fp, hr, Fr.refl _ _ _ _, fun _ _ => rfl, fun F0 hf0 _ => hf0, by simp only [imp, S, T] at hT ⊢; exact hT.1⟩
  | .sl es, h, n, hd, Fp, v, F, hr, hT, hf => ⟨Nat.le_refl _, hd, Fp, hr, Fr.refl _ _ _ _, fun _ _ => rfl, fun F0 hf0 _ => hf0, T.nilF hT (by simp only [T] at hT; exact hT.1)⟩
  | .pf cs, h, n, hd, Fp, v, F, hr, hT, hf => ⟨Nat.le_refl _, hd, Fp, hr, Fr.refl _ _ _ _, fun _ _ => rfl, fun F0 hf0 _ => hf0, T.nilF hT (by simp only [T] at hT; exact hT.1)⟩
  | .fn f caps, h, n, hd, Fp, v, F, hr, hT, hf => by
    exact ⟨Nat.le_refl _, hd, Fp, hr, Fr.refl _ _ _ _, fun _ _ => rfl, fun F0 hf0 _ => hf0, by simp only [imp, S]⟩
  | .ref _ _ _ _ _, h, n, hd, Fp, v, F, hr, hT, hf => by simp only [T] at hT
  | .ptr _ _ _ _ _, h, n, hd, Fp, v, F, hr, hT, hf => by simp only [T] at hT
theorem impL_sound : ∀ (xs : List AV) (h : Heap) (n : Nat) (hd : Nat → Value) (Fp : Nat → List Nat) (vs : List Value) (F : List Nat), HR G M I h n hd Fp w → TL w I xs vs F → Free M I h Fp F →
    Home G M I w h n hd Fp F (impL n xs).2.1 (impL n xs).2.2 (fun hd' => SL hd' (impL n xs).2.2 w I (impL n xs).1 vs)
  | [], h, n, hd, Fp, vs, F, hr, hT, hf => by
    simp only [TL] at hT
    exact ⟨Nat.le_refl _, hd, Fp, hr, Fr.refl _ _ _ _, fun _ _ => rfl, fun F0 hf0 _ => hf0, by simp only [impL, SL]; exact hT.1⟩
  | x :: xs, h, n, hd, Fp, vs, F, hr, hT, hf => by
    simp only [TL] at hT
    obtain ⟨v, vs', F1, F2, rfl, rfl, h1, hx, hxs⟩ := hT
    obtain ⟨hn1, hd1, Fp1, hr1, fr1, hx1, hk1, hS1⟩ := imp_sound x h n hd Fp v F1 hr hx (hf.sub (List.sublist_append_left _ _))
    have hf2 := hk1 F2 (hf.sub (List.sublist_append_right _ _)) (fun b hb hm => (List.nodup_append.1 hf.nodup).2.2 b hm b hb rfl)
    obtain ⟨hn2, hd2, Fp2, hr2, fr2, hx2, hk2, hS2⟩ := impL_sound xs ((imp n x).2.1 ++ h) (imp n x).2.2 hd1 Fp1 vs' F2 hr1 hxs hf2
    simp only [impL]
    refine ⟨Nat.le_trans hn1 hn2, hd2, Fp2, by rw [List.append_assoc]; exact hr2, fr1.trans fr2, fun id hid => (hx2 id (Nat.lt_of_lt_of_le hid hn1)).trans (hx1 id hid), fun F0 hf0 hd0 => ?_, ?_⟩
    · rw [List.append_assoc]
      exact hk2 F0 (hk1 F0 hf0 (fun b hb hm => hd0 b hb (List.mem_append.2 (.inl hm)))) (fun b hb hm => hd0 b hb (List.mem_append.2 (.inr hm)))
    · simp only [SL]
      exact ⟨v, vs', rfl, h1, fr2.S hS1, hS2⟩
theorem impV_sound : ∀ (xs : List AV) (h : Heap) (n : Nat) (hd : Nat → Value) (Fp : Nat → List Nat) (vs : List Value) (F : List Nat), HR G M I h n hd Fp w → TV w I xs vs F → Free M I h Fp F →
    Home G M I w h n hd Fp F (impL n xs).2.1 (impL n xs).2.2 (fun hd' => SV hd' (impL n xs).2.2 w I (impL n xs).1 vs)
  | [], h, n, hd, Fp, vs, F, hr, hT, hf => by
    simp only [TV] at hT
    exact ⟨Nat.le_refl _, hd, Fp, hr, Fr.refl _ _ _ _, fun _ _ => rfl, fun F0 hf0 _ => hf0, by simp only [impL, SV]; exact hT.1⟩
  | x :: xs, h, n, hd, Fp, vs, F, hr, hT, hf => by
    simp only [TV] at hT
    obtain ⟨v, vs', F1, F2, rfl, rfl, hx, hxs⟩ := hT
    obtain ⟨hn1, hd1, Fp1, hr1, fr1, hx1, hk1, hS1⟩ := imp_sound x h n hd Fp v F1 hr hx (hf.sub (List.sublist_append_left _ _))
    have hf2 := hk1 F2 (hf.sub (List.sublist_append_right _ _)) (fun b hb hm => (List.nodup_append.1 hf.nodup).2.2 b hm b hb rfl)
    obtain ⟨hn2, hd2, Fp2, hr2, fr2, hx2, hk2, hS2⟩ := impV_sound xs ((imp n x).2.1 ++ h) (imp n x).2.2 hd1 Fp1 vs' F2 hr1 hxs hf2
    simp only [impL]
    refine ⟨Nat.le_trans hn1 hn2, hd2, Fp2, by rw [List.append_assoc]; exact hr2, fr1.trans fr2, fun id hid => (hx2 id (Nat.lt_of_lt_of_le hid hn1)).trans (hx1 id hid), fun F0 hf0 hd0 => ?_, ?_⟩
    · rw [List.append_assoc]
      exact hk2 F0 (hk1 F0 hf0 (fun b hb hm => hd0 b hb (List.mem_append.2 (.inl hm)))) (fun b hb hm => hd0 b hb (List.mem_append.2 (.inr hm)))
    · simp only [SV]
      exact ⟨v, vs', rfl, fr2.S hS1, hS2⟩
end
end
theorem eqs_imp : True := by
  have := @imp.eq_1
  trivial
theorem eqs_impL : True := by
  have := @impL.eq_1
  trivial
end Go.Proofs.YtlddjlchgibdfaaDoor.X
