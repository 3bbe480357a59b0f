/- A part of the proof: lemmas on the machine or on the functions that the law reaches. No condition of its own. -/
import Derived.Test.YtlddjlchgibdfaaDoorXM1
import Derived.Orders
import Derived.OrdersHeld
import Derived.Laws.Sem
import Derived.DataReads
import Derived.ChangeArms
import GoSem.ClaimJoined
import Derived.ChangeShapes
import Derived.ChangeOld
import Derived.Carry
import Derived.Below
import Derived.Laws.Strings
set_option linter.unusedVariables false
set_option linter.unusedSimpArgs false
namespace Go.Proofs.YtlddjlchgibdfaaDoor.X
open Go

mutual
/-- Handed away, as a result. -/
def conR : Nat → Heap → AV → Option (AV × Heap)
  | _, h, .ref id none sz off len => match hget h id with
    | some (.slice sz' es) => if sz = sz' then some (.ow sz ((es.drop off).take len), hdel h id) else none
    | _ => none
  | k + 1, h, .ptr id none sz i c => match hget h id with
    | some (.var cs) => if i = 0 ∧ c = 0 then (match conRL k (hdel h id) cs with | some (ys, h') => some (.op ys, h') | none => none) else none
    | _ => none
  | k + 1, h, .agg cs => match conRL k h cs with | some (ys, h') => some (.agg ys, h') | none => none
  | k + 1, h, .tup cs => match conRL k h cs with | some (ys, h') => some (.tup ys, h') | none => none
  | _, h, x => if isF x then some (x, h) else none
def conRL : Nat → Heap → List AV → Option (List AV × Heap)
  | _, h, [] => some ([], h)
  | k, h, x :: xs => match conR k h x with
    | some (y, h1) => match conRL k h1 xs with
      | some (ys, h2) => some (y :: ys, h2)
      | none => none
    | none => none
end

section
variable {G : Glo} {M I : Nat → Prop} {n : Nat} {hd : Nat → Value} {Fp : Nat → List Nat} {w : World}
/-- What handing away gives. -/
def Handed (G : Glo) (M I : Nat → Prop) (n : Nat) (hd : Nat → Value) (Fp : Nat → List Nat) (w : World) (h h' : Heap) (F : List Nat) : Prop :=
  HR G M I h' n hd Fp w ∧ Free M I h' Fp F ∧ Sub h' h ∧ (∀ b ∈ F, ∃ id o, hget h id = some o ∧ b ∈ Fp id)
theorem Handed.join {h h1 h2 : Heap} {F1 F2 : List Nat} (a : Handed G M I n hd Fp w h h1 F1) (b : Handed G M I n hd Fp w h1 h2 F2) : Handed G M I n hd Fp w h h2 (F1 ++ F2) := by
  obtain ⟨hr1, hf1, hs1, ho1⟩ := a
  obtain ⟨hr2, hf2, hs2, ho2⟩ := b
  refine ⟨hr2, ⟨?_, ?_, ?_, ?_⟩, hs2.trans hs1, ?_⟩
  · refine List.nodup_append.2 ⟨hf1.nodup, hf2.nodup, ?_⟩
    rintro b hb1 b' hb2 rfl
    obtain ⟨id, o, ho, hb⟩ := ho2 b hb2
    exact hf1.disj id o ho b hb hb1
  · intro b hb
    rcases List.mem_append.1 hb with hb | hb
    · exact hf1.mine b hb
    · exact hf2.mine b hb
  · intro b hb
    rcases List.mem_append.1 hb with hb | hb
    · exact hf1.imm b hb
    · exact hf2.imm b hb
  · intro id o ho b hb hm
    rcases List.mem_append.1 hm with hm | hm
    · exact (hf1.less hs2).disj id o ho b hb hm
    · exact hf2.disj id o ho b hb hm
  · intro b hb
    rcases List.mem_append.1 hb with hb | hb
    · exact ho1 b hb
    · obtain ⟨id, o, ho, hb'⟩ := ho2 b hb
      exact ⟨id, o, hs1 id o ho, hb'⟩
theorem Handed.refl {h : Heap} (hr : HR G M I h n hd Fp w) : Handed G M I n hd Fp w h h [] := ⟨hr, Free.nil _ _ _ _, Sub.refl _, by simp⟩

theorem conR_sound : ∀ k, (∀ (h : Heap), HR G M I h n hd Fp w → ∀ (x y : AV) (h' : Heap) (v : Value), S hd n w I x v → conR k h x = some (y, h') → ∃ F, T w I y v F ∧ Handed G M I n hd Fp w h h' F) ∧
    (∀ (h : Heap), HR G M I h n hd Fp w → ∀ (xs ys : List AV) (h' : Heap) (vs : List Value), SL hd n w I xs vs → conRL k h xs = some (ys, h') → ∃ F, TL w I ys vs F ∧ Handed G M I n hd Fp w h h' F) ∧
    (∀ (h : Heap), HR G M I h n hd Fp w → ∀ (xs ys : List AV) (h' : Heap) (vs : List Value), SV hd n w I xs vs → conRL k h xs = some (ys, h') → ∃ F, TV w I ys vs F ∧ Handed G M I n hd Fp w h h' F) := by
  have href : ∀ (h : Heap), HR G M I h n hd Fp w → ∀ (id sz off len : Nat) (y : AV) (h' : Heap) (v : Value), S hd n w I (.ref id none sz off len) v → (match hget h id with
      | some (.slice sz' es) => if sz = sz' then some (AV.ow sz ((es.drop off).take len), hdel h id) else none
      | _ => none) = some (y, h') → ∃ F, T w I y v F ∧ Handed G M I n hd Fp w h h' F := by
    intro h hr id sz off len y h' v hx hy
    obtain ⟨F, h1, h2, h3, h4, h5⟩ := conC_sound (y := y) (h' := h') hr hx (by unfold conC; exact hy)
    exact ⟨F, h2, h1, h3, h4, h5⟩
  have hF : ∀ (h : Heap), HR G M I h n hd Fp w → ∀ (x y : AV) (h' : Heap) (v : Value), S hd n w I x v → (if isF x then some (x, h) else none) = some (y, h') → ∃ F, T w I y v F ∧ Handed G M I n hd Fp w h h' F := by
    intro h hr x y h' v hx hy
    split at hy
    · rename_i hf
      simp only [Option.some.injEq, Prod.mk.injEq] at hy
      obtain ⟨rfl, rfl⟩ := hy
      exact ⟨[], isF_T hf hx, Handed.refl hr⟩
    · cases hy
  have lists : ∀ k, (∀ (h : Heap), HR G M I h n hd Fp w → ∀ (x y : AV) (h' : Heap) (v : Value), S hd n w I x v → conR k h x = some (y, h') → ∃ F, T w I y v F ∧ Handed G M I n hd Fp w h h' F) →
      (∀ (h : Heap), HR G M I h n hd Fp w → ∀ (xs ys : List AV) (h' : Heap) (vs : List Value), SL hd n w I xs vs → conRL k h xs = some (ys, h') → ∃ F, TL w I ys vs F ∧ Handed G M I n hd Fp w h h' F) ∧
      (∀ (h : Heap), HR G M I h n hd Fp w → ∀ (xs ys : List AV) (h' : Heap) (vs : List Value), SV hd n w I xs vs → conRL k h xs = some (ys, h') → ∃ F, TV w I ys vs F ∧ Handed G M I n hd Fp w h h' F) := by
    intro k hk
    constructor
    · intro h hr xs
      induction xs generalizing h with
      | nil =>
        intro ys h' vs hx hy
        simp only [conRL, Option.some.injEq, Prod.mk.injEq] at hy
        obtain ⟨rfl, rfl⟩ := hy
        simp only [SL] at hx
        exact ⟨[], by simp only [TL]; exact ⟨hx, trivial⟩, Handed.refl hr⟩
      | cons x xs ih =>
        intro ys h' vs hx hy
        simp only [SL] at hx
        obtain ⟨v, vs', rfl, h1, hxv, hxs⟩ := hx
        simp only [conRL] at hy
        split at hy
        · rename_i y h1' e1
          split at hy
          · rename_i ys' h2' e2
            simp only [Option.some.injEq, Prod.mk.injEq] at hy
            obtain ⟨rfl, rfl⟩ := hy
            obtain ⟨F1, hT1, hH1⟩ := hk h hr x y h1' v hxv e1
            obtain ⟨F2, hT2, hH2⟩ := ih h1' hH1.1 ys' h2' vs' hxs e2
            exact ⟨F1 ++ F2, by simp only [TL]; exact ⟨v, vs', F1, F2, rfl, rfl, h1, hT1, hT2⟩, hH1.join hH2⟩
          · cases hy
        · cases hy
    · intro h hr xs
      induction xs generalizing h with
      | nil =>
        intro ys h' vs hx hy
        simp only [conRL, Option.some.injEq, Prod.mk.injEq] at hy
        obtain ⟨rfl, rfl⟩ := hy
        simp only [SV] at hx
        exact ⟨[], by simp only [TV]; exact ⟨hx, trivial⟩, Handed.refl hr⟩
      | cons x xs ih =>
        intro ys h' vs hx hy
        simp only [SV] at hx
        obtain ⟨v, vs', rfl, hxv, hxs⟩ := hx
        simp only [conRL] at hy
        split at hy
        · rename_i y h1' e1
          split at hy
          · rename_i ys' h2' e2
            simp only [Option.some.injEq, Prod.mk.injEq] at hy
            obtain ⟨rfl, rfl⟩ := hy
            obtain ⟨F1, hT1, hH1⟩ := hk h hr x y h1' v hxv e1
            obtain ⟨F2, hT2, hH2⟩ := ih h1' hH1.1 ys' h2' vs' hxs e2
            exact ⟨F1 ++ F2, by simp only [TV]; exact ⟨v, vs', F1, F2, rfl, rfl, hT1, hT2⟩, hH1.join hH2⟩
          · cases hy
        · cases hy
  intro k
  induction k with
  | zero =>
    have h0 : ∀ (h : Heap), HR G M I h n hd Fp w → ∀ (x y : AV) (h' : Heap) (v : Value), S hd n w I x v → conR 0 h x = some (y, h') → ∃ F, T w I y v F ∧ Handed G M I n hd Fp w h h' F := by
      intro h hr x y h' v hx hy
      cases x
      case ref id sub sz off len =>
        cases sub with
        | none => simp only [conR] at hy; exact href h hr id sz off len y h' v hx hy
        | some p => simp [conR, isF] at hy
      all_goals (simp only [conR] at hy; exact hF h hr _ y h' v hx hy)
    exact ⟨h0, lists 0 h0⟩
  | succ k ih =>
    obtain ⟨ih1, ih2, ih3⟩ := ih
    have h0 : ∀ (h : Heap), HR G M I h n hd Fp w → ∀ (x y : AV) (h' : Heap) (v : Value), S hd n w I x v → conR (k + 1) h x = some (y, h') → ∃ F, T w I y v F ∧ Handed G M I n hd Fp w h h' F := by
      intro h hr x y h' v hx hy
      cases x
      case ref id sub sz off len =>
        cases sub with
        | none => simp only [conR] at hy; exact href h hr id sz off len y h' v hx hy
        | some p => simp [conR, isF] at hy
      case ptr id sub sz i c =>
        cases sub with
        | some p => simp [conR, isF] at hy
        | none =>
          simp only [conR] at hy
          split at hy
          · rename_i cs ho
            split at hy
            · rename_i hic
              obtain ⟨rfl, rfl⟩ := hic
              split at hy
              · rename_i ys h1' e1
                simp only [Option.some.injEq, Prod.mk.injEq] at hy
                obtain ⟨rfl, rfl⟩ := hy
                simp only [S, HdOf] at hx
                obtain ⟨hid, hv, b, o, rfl, hb, rfl⟩ := hx
                obtain ⟨b', cur, e, hp, hhp, hs, hFp⟩ := hr.obj id _ ho
                obtain ⟨rfl, rfl⟩ := hb.uniq (.inr hp)
                obtain ⟨F, hT, hH⟩ := ih2 (hdel h id) (hr.del id) cs ys h1' _ hs e1
                have hfree := hr.freed ho
                rw [hFp] at hfree
                have hH0 : Handed G M I n hd Fp w h (hdel h id) [b] := ⟨hr.del id, hfree, Sub.del h id, fun b' hb' => ⟨id, _, ho, by rw [hFp]; exact hb'⟩⟩
                refine ⟨b :: F, ?_, hH0.join hH⟩
                simp only [T]
                exact ⟨b, cur, e, F, by simp, hhp, hT, rfl⟩
              · cases hy
            · cases hy
          · cases hy
      case agg cs =>
        simp only [conR] at hy
        split at hy
        · rename_i ys h1' e1
          simp only [Option.some.injEq, Prod.mk.injEq] at hy
          obtain ⟨rfl, rfl⟩ := hy
          simp only [S] at hx
          obtain ⟨vs, rfl, hs⟩ := hx
          obtain ⟨F, hT, hH⟩ := ih2 h hr cs ys h1' _ hs e1
          exact ⟨F, by simp only [T]; exact ⟨vs, rfl, hT⟩, hH⟩
        · cases hy
      case tup cs =>
        simp only [conR] at hy
        split at hy
        · rename_i ys h1' e1
          simp only [Option.some.injEq, Prod.mk.injEq] at hy
          obtain ⟨rfl, rfl⟩ := hy
          simp only [S] at hx
          obtain ⟨vs, rfl, hs⟩ := hx
          obtain ⟨F, hT, hH⟩ := ih3 h hr cs ys h1' _ hs e1
          exact ⟨F, by simp only [T]; exact ⟨vs, rfl, hT⟩, hH⟩
        · cases hy
      all_goals (simp only [conR] at hy; exact hF h hr _ y h' v hx hy)
    exact ⟨h0, lists (k + 1) h0⟩
end

/-! ### A result comes home -/
mutual
def imp (n : Nat) : AV → AV × Heap × Nat
  | .ow sz es => (.ref n none sz 0 es.length, [(n, .slice sz es)], n + 1)
  | .op cs => match impL n cs with | (ys, hs, n1) => (.ptr n1 none 0 0 0, (n1, .var ys) :: hs, n1 + 1)
  | .agg cs => match impL n cs with | (ys, hs, n1) => (.agg ys, hs, n1)
  | .tup cs => match impL n cs with | (ys, hs, n1) => (.tup ys, hs, n1)
  | .fn _ _ => (.any, [], n)
  | x => (x, [], n)
def impL (n : Nat) : List AV → List AV × Heap × Nat
  | [] => ([], [], n)
  | x :: xs => match imp n x with
    | (y, h1, n1) => match impL n1 xs with
      | (ys, h2, n2) => (y :: ys, h2 ++ h1, n2)
end
section
variable {G : Glo} {M I : Nat → Prop} {w : World}
theorem T.nilF {x : AV} {v : Value} {F : List Nat} (h : T w I x v F) (e : F = []) : T w I x v [] := e ▸ h
/-- The heap with what has come home; F0: what is still free. -/
def Home (G : Glo) (M I : Nat → Prop) (w : World) (h : Heap) (n : Nat) (hd : Nat → Value) (Fp : Nat → List Nat) (F : List Nat) (hs : Heap) (n' : Nat) (P : (Nat → Value) → Prop) : Prop :=
  n ≤ n' ∧ ∃ hd' Fp', HR G M I (hs ++ h) n' hd' Fp' w ∧ Fr I I n n' hd hd' w w ∧ (∀ id, id < n → hd' id = hd id) ∧ (∀ F0, Free M I h Fp F0 → (∀ b ∈ F0, b ∉ F) → Free M I (hs ++ h) Fp' F0) ∧ P hd'
mutual
theorem imp_sound : ∀ (x : AV) (h : Heap) (n : Nat) (hd : Nat → Value) (Fp : Nat → List Nat) (v : Value) (F : List Nat), HR G M I h n hd Fp w → T w I x v F → Free M I h Fp F →
    Home G M I w h n hd Fp F (imp n x).2.1 (imp n x).2.2 (fun hd' => S hd' (imp n x).2.2 w I (imp n x).1 v)
  | .ow sz es, h, n, hd, Fp, v, F, hr, hT, hf => by
    simp only [imp]
    refine ⟨Nat.le_succ n, _, _, hr.addFree (.slice sz es) v F hf (fun hd' _ => hT), Fr.new I n hd w v, fun id hid => upd_ne _ _ (by omega), fun F0 hf0 hd0 => ?_, ?_⟩
    · refine ⟨hf0.nodup, hf0.mine, hf0.imm, fun id o ho b hb hm => ?_⟩
      by_cases hid : n = id
      · subst hid; simp only [upd_same] at hb; exact hd0 b hm hb
      · rw [upd_ne _ _ hid] at hb
        simp only [List.cons_append, List.nil_append, hget, hid, if_false] at ho
        exact hf0.disj id o ho b hb hm
    · simp only [S, HdOf, upd_same]
      refine ⟨Nat.lt_succ_self n, v, rfl, ?_⟩
      simp only [T] at hT
      rcases hT with ⟨rfl, ⟨A, rfl⟩, _⟩ | ⟨b, o, c, cur, e, vs, Fs, rfl, hh, hc, hm, ho, hE, hvs, ht, rfl⟩
      · exact .inr ⟨rfl, A, rfl⟩
      · exact .inl ⟨b, o, _, c, c, rfl, by simp, by omega, hc, by omega⟩
  | .op cs, h, n, hd, Fp, v, F, hr, hT, hf => by
    simp only [T] at hT
    obtain ⟨b, cur, e, Fs, rfl, hh, ht, rfl⟩ := hT
    have hfs : Free M I h Fp Fs := hf.sub (List.sublist_cons_self _ _)
    obtain ⟨hn, hd1, Fp1, hr1, fr1, hx1, hk1, hS1⟩ := impL_sound cs h n hd Fp cur.toList Fs hr ht hfs
    have hfb : Free M I ((impL n cs).2.1 ++ h) Fp1 [b] := hk1 [b] (hf.sub (by simp)) (by
      intro b' hb' hm
      simp at hb'; subst hb'
      exact (List.nodup_cons.1 hf.nodup).1 hm)
    simp only [imp]
    have hnew := hr1.addFree (.var (impL n cs).1) (.pointer (some ⟨b, 0, none⟩)) [b] hfb (fun hd' hx => ⟨b, cur, e, rfl, hh, by
      refine SL.frame (Nat.le_succ _) (fun b hb => ⟨hb, rfl⟩) (fun id hid sub u hu => ?_) _ _ hS1
      cases sub with
      | none => simp only [HdOf] at hu ⊢; rw [hx id hid]; exact hu
      | some p => obtain ⟨p1, p2, p3⟩ := p; simp only [HdOf] at hu ⊢; rw [hx id hid]; exact hu, rfl⟩)
    refine ⟨Nat.le_trans hn (Nat.le_succ _), _, _, hnew, fr1.trans (Fr.new I _ hd1 w _), fun id hid => (upd_ne _ _ (Nat.ne_of_gt (Nat.lt_of_lt_of_le hid hn))).trans (hx1 id hid), fun F0 hf0 hd0 => ?_, ?_⟩
    · have h1 := hk1 F0 hf0 (fun b' hb' hm => hd0 b' hb' (List.mem_cons_of_mem _ hm))
      refine ⟨h1.nodup, h1.mine, h1.imm, fun id o ho b' hb' hm => ?_⟩
      by_cases hid : (impL n cs).2.2 = id
      · subst hid; simp only [upd_same] at hb'; simp at hb'; subst hb'; exact hd0 _ hm (by simp)
      · rw [upd_ne _ _ hid] at hb'
        simp only [List.cons_append, hget, hid, if_false] at ho
        exact h1.disj id o ho b' hb' hm
    · simp only [S, HdOf, upd_same]
      exact ⟨Nat.lt_succ_self _, _, b, 0, rfl, .inr rfl, rfl⟩
  | .agg cs, h, n, hd, Fp, v, F, hr, hT, hf => by
    simp only [T] at hT
    obtain ⟨vs, rfl, ht⟩ := hT
    obtain ⟨hn, hd1, Fp1, hr1, fr1, hx1, hk1, hS1⟩ := impL_sound cs h n hd Fp vs.toList F hr ht hf
    simp only [imp]
    exact ⟨hn, hd1, Fp1, hr1, fr1, hx1, hk1, by simp only [S]; exact ⟨vs, rfl, hS1⟩⟩
  | .tup cs, h, n, hd, Fp, v, F, hr, hT, hf => by
    simp only [T] at hT
    obtain ⟨vs, rfl, ht⟩ := hT
    obtain ⟨hn, hd1, Fp1, hr1, fr1, hx1, hk1, hS1⟩ := impV_sound cs h n hd Fp vs.toList F hr ht hf
    simp only [imp]
    exact ⟨hn, hd1, Fp1, hr1, fr1, hx1, hk1, by simp only [S]; exact ⟨vs, rfl, hS1⟩⟩
  | .any, h, n, hd, Fp, v, F, hr, hT, hf => ⟨Nat.le_refl _, hd, Fp, hr, Fr.refl _ _ _ _, fun _ _ => rfl, fun F0 hf0 _ => hf0, by simp only [imp, S]⟩
  | .con u, h, n, hd, Fp, v, F, hr, hT, hf => ⟨Nat.le_refl _, hd, Fp, hr, Fr.refl _ _ _ _, fun _ _ => rfl, fun F0 hf0 _ => hf0, by simp only [imp, S, T] at hT ⊢; exact hT.1⟩
  | .int k m, h, n, hd, Fp, v, F, hr, hT, hf => ⟨Nat.le_refl _, hd, Fp, hr, Fr.refl _ _ _ _, fun _ _ => rfl, fun F0 hf0 _ => hf0, by simp only [imp, S, T] at hT ⊢; exact hT.1⟩
  | .bool _, h, n, hd, Fp, v, F, hr, hT, hf => ⟨Nat.le_refl _, hd, Fp, hr, Fr.refl _ _ _ _, fun _ _ => rfl, fun F0 hf0 _ => hf0, by simp only [imp, S, T] at hT ⊢; exact hT.1⟩
  | .str s, h, n, hd, Fp, v, F, hr, hT, hf => ⟨Nat.le_refl _, hd, Fp, hr, Fr.refl _ _ _ _, fun _ _ => rfl, fun F0 hf0 _ => hf0, by simp only [imp, S, T] at hT ⊢; exact hT.1⟩
  | .nil, h, n, hd, Fp, v, F, hr, hT, hf => ⟨Nat.le_refl _, hd, Fp, hr, Fr.refl _ _ _ _, fun _ _ => rfl, fun F0 hf0 _ => hf0, by simp only [imp, S, T] at hT ⊢; exact hT.1⟩
  | .sl es, h, n, hd, Fp, v, F, hr, hT, hf => ⟨Nat.le_refl _, hd, Fp, hr, Fr.refl _ _ _ _, fun _ _ => rfl, fun F0 hf0 _ => hf0, T.nilF hT (by simp only [T] at hT; exact hT.1)⟩
  | .pf cs, h, n, hd, Fp, v, F, hr, hT, hf => ⟨Nat.le_refl _, hd, Fp, hr, Fr.refl _ _ _ _, fun _ _ => rfl, fun F0 hf0 _ => hf0, T.nilF hT (by simp only [T] at hT; exact hT.1)⟩
  | .fn f caps, h, n, hd, Fp, v, F, hr, hT, hf => by
    exact ⟨Nat.le_refl _, hd, Fp, hr, Fr.refl _ _ _ _, fun _ _ => rfl, fun F0 hf0 _ => hf0, by simp only [imp, S]⟩
  | .ref _ _ _ _ _, h, n, hd, Fp, v, F, hr, hT, hf => by simp only [T] at hT
  | .ptr _ _ _ _ _, h, n, hd, Fp, v, F, hr, hT, hf => by simp only [T] at hT
theorem impL_sound : ∀ (xs : List AV) (h : Heap) (n : Nat) (hd : Nat → Value) (Fp : Nat → List Nat) (vs : List Value) (F : List Nat), HR G M I h n hd Fp w → TL w I xs vs F → Free M I h Fp F →
    Home G M I w h n hd Fp F (impL n xs).2.1 (impL n xs).2.2 (fun hd' => SL hd' (impL n xs).2.2 w I (impL n xs).1 vs)
  | [], h, n, hd, Fp, vs, F, hr, hT, hf => by
    simp only [TL] at hT
    exact ⟨Nat.le_refl _, hd, Fp, hr, Fr.refl _ _ _ _, fun _ _ => rfl, fun F0 hf0 _ => hf0, by simp only [impL, SL]; exact hT.1⟩
  | x :: xs, h, n, hd, Fp, vs, F, hr, hT, hf => by
    simp only [TL] at hT
    obtain ⟨v, vs', F1, F2, rfl, rfl, h1, hx, hxs⟩ := hT
    obtain ⟨hn1, hd1, Fp1, hr1, fr1, hx1, hk1, hS1⟩ := imp_sound x h n hd Fp v F1 hr hx (hf.sub (List.sublist_append_left _ _))
    have hf2 := hk1 F2 (hf.sub (List.sublist_append_right _ _)) (fun b hb hm => (List.nodup_append.1 hf.nodup).2.2 b hm b hb rfl)
    obtain ⟨hn2, hd2, Fp2, hr2, fr2, hx2, hk2, hS2⟩ := impL_sound xs ((imp n x).2.1 ++ h) (imp n x).2.2 hd1 Fp1 vs' F2 hr1 hxs hf2
    simp only [impL]
    refine ⟨Nat.le_trans hn1 hn2, hd2, Fp2, by rw [List.append_assoc]; exact hr2, fr1.trans fr2, fun id hid => (hx2 id (Nat.lt_of_lt_of_le hid hn1)).trans (hx1 id hid), fun F0 hf0 hd0 => ?_, ?_⟩
    · rw [List.append_assoc]
      exact hk2 F0 (hk1 F0 hf0 (fun b hb hm => hd0 b hb (List.mem_append.2 (.inl hm)))) (fun b hb hm => hd0 b hb (List.mem_append.2 (.inr hm)))
    · simp only [SL]
      exact ⟨v, vs', rfl, h1, fr2.S hS1, hS2⟩
theorem impV_sound : ∀ (xs : List AV) (h : Heap) (n : Nat) (hd : Nat → Value) (Fp : Nat → List Nat) (vs : List Value) (F : List Nat), HR G M I h n hd Fp w → TV w I xs vs F → Free M I h Fp F →
    Home G M I w h n hd Fp F (impL n xs).2.1 (impL n xs).2.2 (fun hd' => SV hd' (impL n xs).2.2 w I (impL n xs).1 vs)
  | [], h, n, hd, Fp, vs, F, hr, hT, hf => by
    simp only [TV] at hT
    exact ⟨Nat.le_refl _, hd, Fp, hr, Fr.refl _ _ _ _, fun _ _ => rfl, fun F0 hf0 _ => hf0, by simp only [impL, SV]; exact hT.1⟩
  | x :: xs, h, n, hd, Fp, vs, F, hr, hT, hf => by
    simp only [TV] at hT
    obtain ⟨v, vs', F1, F2, rfl, rfl, hx, hxs⟩ := hT
    obtain ⟨hn1, hd1, Fp1, hr1, fr1, hx1, hk1, hS1⟩ := imp_sound x h n hd Fp v F1 hr hx (hf.sub (List.sublist_append_left _ _))
    have hf2 := hk1 F2 (hf.sub (List.sublist_append_right _ _)) (fun b hb hm => (List.nodup_append.1 hf.nodup).2.2 b hm b hb rfl)
    obtain ⟨hn2, hd2, Fp2, hr2, fr2, hx2, hk2, hS2⟩ := impV_sound xs ((imp n x).2.1 ++ h) (imp n x).2.2 hd1 Fp1 vs' F2 hr1 hxs hf2
    simp only [impL]
    refine ⟨Nat.le_trans hn1 hn2, hd2, Fp2, by rw [List.append_assoc]; exact hr2, fr1.trans fr2, fun id hid => (hx2 id (Nat.lt_of_lt_of_le hid hn1)).trans (hx1 id hid), fun F0 hf0 hd0 => ?_, ?_⟩
    · rw [List.append_assoc]
      exact hk2 F0 (hk1 F0 hf0 (fun b hb hm => hd0 b hb (List.mem_append.2 (.inl hm)))) (fun b hb hm => hd0 b hb (List.mem_append.2 (.inr hm)))
    · simp only [SV]
      exact ⟨v, vs', rfl, fr2.S hS1, hS2⟩
end
end
theorem eqs_imp : True := by
  have := @imp.eq_1
  trivial
theorem eqs_impL : True := by
  have := @impL.eq_1
  trivial
end Go.Proofs.YtlddjlchgibdfaaDoor.X
set_option linter.unusedVariables false
set_option linter.unusedSimpArgs false
namespace Go.Proofs.YtlddjlchgibdfaaDoor.X
open Go

/-! ### The loop's head: what is kept, by new names -/
inductive Keepd where
  | drop
  | keep
  | obj (id sz : Nat)
def lkp (ρ : List (Nat × Nat)) (id : Nat) : Option Nat :=
  match ρ with
  | [] => none
  | (o, n) :: r => if o = id then some n else lkp r id
mutual
def ren (B : Nat) (ρ : List (Nat × Nat)) : AV → AV
  | .ref id sub sz off len => if id < B then .ref id sub sz off len else match lkp ρ id with | some j => .ref j sub sz off len | none => .any
  | .ptr id sub sz i c => if id < B then .ptr id sub sz i c else match lkp ρ id with | some j => .ptr j sub sz i c | none => .any
  | .fn f caps => .fn f (renL B ρ caps)
  | .agg cs => .agg (renL B ρ cs)
  | .tup cs => .tup (renL B ρ cs)
  | x => x
def renL (B : Nat) (ρ : List (Nat × Nat)) : List AV → List AV
  | [] => []
  | x :: xs => ren B ρ x :: renL B ρ xs
end

/-! ### Operations -/
def minK (x y : AV) (K : AV → Prop) : Prop :=
  match x, y with
  | .int k a, .int _ b => K (.int k (if b < a then b else a))
  | _, _ => False
def maxK (x y : AV) (K : AV → Prop) : Prop :=
  match x, y with
  | .int k a, .int _ b => K (.int k (if b > a then b else a))
  | _, _ => False
def lenK (P : Program) (t : TypeId) (x : AV) (K : AV → Prop) : Prop :=
  match tk P t, x with
  | .slice _, .ref _ _ _ _ len => K (.int .i64 len)
  | .slice _, .sl es => K (.int .i64 es.length)
  | .slice _, .nil => K (.int .i64 0)
  | .str, .str s => K (.int .i64 s.size)
  | _, _ => False
def convK (P : Program) (src dst : TypeId) (x : AV) (K : AV → Prop) : Prop :=
  match tk P src, tk P dst, x with
  | .int _, .int k, .int _ n => K (.int k (k.wrap n))
  | _, _, _ => False
def evL (G : Glo) (s : St) (xs : Array Operand) : List AV := xs.toList.map (ev G s)

mutual
def frzOk : AV → Bool
  | .any | .con _ | .int .. | .bool _ | .str _ | .nil | .sl _ | .pf _ => true
  | .fn _ caps => frzOkL caps
  | .agg cs => frzOkL cs
  | _ => false
def frzOkL : List AV → Bool
  | [] => true
  | x :: xs => frzOk x && frzOkL xs
end
/-- What a call in a heap of its own comes to: a result that is all its own. -/
def Ev (C : CT) (f : FuncId) (ts : List AV) (r : AV) : Prop :=
  ∃ K0 : AV → Heap → Nat → Prop, C f ts [] 0 K0 ∧ ownR r = true ∧ ∀ v h' n', K0 v h' n' → ∃ r0 h2, conR 8 h' v = some (r0, h2) ∧ NilTo r0 r
def callK (C : CT) (md : FuncId → Bool) (s : St) (f : AV) (args : List AV) (K : AV → St → Prop) : Prop :=
  match f with
  | .fn g caps => if md g then (∃ K0 : AV → Heap → Nat → Prop, C g (args ++ caps) s.heap s.next K0 ∧ ∀ v h' n', K0 v h' n' → s.next ≤ n' → K v (killSt ⟨s.tmps, h', n'⟩))
    else match frzAL s.heap 8 (args ++ caps) with
      | some ts => frzOkL ts = true ∧ ∃ r, Ev C g ts r ∧ K (imp s.next r).1 ⟨s.tmps, (imp s.next r).2.1 ++ s.heap, (imp s.next r).2.2⟩
      | none => False
  | _ => False

def opK (P : Program) (G : Glo) (C : CT) (md : FuncId → Bool) (op : Op) (s : St) (K : AV → St → Prop) : Prop :=
  match op with
  | .move x => K (ev G s x) s
  | .assign x => K (ev G s x) s
  | .pick c a b => match ev G s c with
    | .bool true => K (ev G s a) s
    | .bool false => K (ev G s b) s
    | _ => False
  | .binOp op t x y _ => binK P op t (ev G s x) (ev G s y) (fun v => K v s)
  | .unOp op _ x => unK op (ev G s x) (fun v => K v s)
  | .convert src dst x => convK P src dst (ev G s x) (fun v => K v s)
  | .extract x i => match ev G s x with
    | .tup vs => match vs[i]? with
      | some v => K v s
      | none => False
    | _ => False
  | .nilCheck x => match ev G s x with
    | .ptr id sub sz i c => K (.ptr id sub sz i c) s
    | .pf cs => K (.pf cs) s
    | _ => False
  | .makeFunc (.func f) first caps => first.size = 0 ∧ K (.fn f (evL G s caps)) s ∧ allCells (evL G s caps) = true
  | .fieldAddr t x j => faddrK P t (ev G s x) j (fun v => K v s)
  | .indexAddr t x i => iaddrK P t (ev G s x) (ev G s i) (fun v => K v s)
  | .index t x i => idxK P t (ev G s x) (ev G s i) (fun v => K v s)
  | .slice t x lo hi none => sliceK P t (ev G s x) (lo.map (ev G s)) (hi.map (ev G s)) (fun v => K v s)
  | .load t x => loadK P s.heap t (ev G s x) (fun v => K v s)
  | .store t x v => storeK P s t (ev G s x) (ev G s v) (fun s' => K .any s')
  | .alloc t => allocK P s t K
  | .box t x => boxK s (ev G s x) K
  | .build t ps => buildK P t (ps.toList.map fun p => (p.1, ev G s p.2)) (fun v => K v s)
  | .buildSlice t n ps => (n = 0 → ps.toList = []) ∧ buildSliceK P s t n (ps.toList.map fun p => (p.1, ev G s p.2)) K
  | .makeSlice t l c => makeSliceK P s t (ev G s l) (ev G s c) K
  | .call c => match c.callee, c.args.toList, c.argTypes.toList with
    | .builtin .len, [x], t :: _ => lenK P t (ev G s x) (fun v => K v s)
    | .builtin .append, [x, y], [t, tx] => appendK P s t tx (ev G s x) (ev G s y) K
    | .builtin .min, [x, y], _ => minK (ev G s x) (ev G s y) (fun v => K v s)
    | .builtin .max, [x, y], _ => maxK (ev G s x) (ev G s y) (fun v => K v s)
    | .value f, xs, _ => callK C md s (ev G s f) (xs.map (ev G s)) K
    | _, _, _ => False
  | _ => False
where
  allCells : List AV → Bool
  | [] => true
  | x :: xs => isCell x && allCells xs

/-- A function that can be entered. -/
def Enters (P : Program) (f : FuncId) : Prop := ∃ fn, P.funcs[f]? = some fn ∧ fn.body ≠ none ∧ fn.name ≠ "runtime.NumGoroutine"
/-- The contracts' truth. -/
def Sound (P : Program) (G : Glo) (C : CT) : Prop :=
  ∀ f args h n K, C f args h n K → Enters P f ∧ ∀ (M I : Nat → Prop) (hd : Nat → Value) (Fp : Nat → List Nat) (w : World) (vals : List Value), HR G M I h n hd Fp w → SV hd n w I args vals →
    Calls P f vals.toArray w fun e w' => ∃ v av h' n' I' hd' Fp', e = .returned v ∧ K av h' n' ∧ HR G M I' h' n' hd' Fp' w' ∧ S hd' n' w' I' av v ∧ Ext M I I' n hd hd' w w' ∧ n ≤ n'

theorem run_callFunc {P : Program} {f : FuncId} {args : Array Value} {w : World} (h : Enters P f) : (callFunc f args).run P w = .ok (.enter f args) w := by
  obtain ⟨fn, hf, hb, hn⟩ := h
  simp [callFunc, program, Sem.run, hf, hn, hb]

section
variable {P : Program} {G : Glo} {C : CT} {md : FuncId → Bool} {M I : Nat → Prop} {s : St} {hd : Nat → Value} {Fp : Nat → List Nat} {a : Act} {w : World}
theorem run_min {w : World} {k j : IntKind} {x y : Int} {ts : Array TypeId} {ty : TypeId} : (Builtin.min_ ts ty #[.int k x, .int j y]).run P w = .ok (.int k (if y < x then y else x)) w := by
  simp [Builtin.min_, Builtin.min2]
theorem run_max {w : World} {k j : IntKind} {x y : Int} {ts : Array TypeId} {ty : TypeId} : (Builtin.max_ ts ty #[.int k x, .int j y]).run P w = .ok (.int k (if y > x then y else x)) w := by
  simp [Builtin.max_, Builtin.max2]
theorem lenK_sound {t : TypeId} {x : AV} {u : Value} {K : AV → Prop} {n : Nat} {ts : Array TypeId} {ty : TypeId} (ht : ts[0]? = some t) (hk : lenK P t x K) (hx : S hd n w I x u) : ∃ r av, (∀ w : World, (Builtin.len_ ts ty #[u]).run P w = .ok r w) ∧ K av ∧ S hd n w I av r := by
  unfold lenK at hk
  split at hk
  · rename_i e id sub sz off len h
    simp only [S] at hx
    obtain ⟨_, h0, _, hw⟩ := hx
    have hu : ∃ A c, u = .slice A len c := by
      rcases hw with ⟨b, o, m, c, c', _, rfl, _⟩ | ⟨rfl, A, rfl⟩
      · exact ⟨_, _, rfl⟩
      · exact ⟨_, _, rfl⟩
    obtain ⟨A, c, rfl⟩ := hu
    refine ⟨_, _, fun w => ?_, hk, S_int⟩
    simp [Builtin.len_, ht, run_underlying (tk_slice h), goInt]
  · rename_i e es h
    simp only [S, T] at hx
    obtain ⟨_, A, c, rfl, _⟩ := hx
    refine ⟨_, _, fun w => ?_, hk, S_int⟩
    simp [Builtin.len_, ht, run_underlying (tk_slice h), goInt]
  · rename_i e h
    simp only [S] at hx
    subst hx
    refine ⟨_, _, fun w => ?_, hk, S_int⟩
    simp [Builtin.len_, ht, run_underlying (tk_slice h), goInt]
  · rename_i s h
    simp only [S] at hx
    subst hx
    refine ⟨_, _, fun w => ?_, hk, S_int⟩
    simp [Builtin.len_, ht, run_underlying (tk_str h), goInt]
  · exact hk.elim
theorem convK_sound {t t' : TypeId} {x : AV} {u : Value} {K : AV → Prop} {n : Nat} (hk : convK P t t' x K) (hx : S hd n w I x u) : ∃ r av, (∀ w : World, (convert t t' u).run P w = .ok r w) ∧ K av ∧ S hd n w I av r := by
  unfold convK at hk
  split at hk
  · rename_i k1 k2 k3 m h1 h2
    simp only [S] at hx
    subst hx
    refine ⟨_, _, fun w => ?_, hk, S_int⟩
    simp [convert, run_underlying (tk_int h1), run_underlying (tk_int h2), Conv.intToInt]
  · exact hk.elim

theorem evL_SV (h : SR G M I s hd Fp a w) : ∀ (xs : List Operand), SV hd s.next w I (xs.map (ev G s)) (xs.map a.eval)
  | [] => by simp [SV]
  | x :: xs => by
    simp only [List.map_cons, SV]
    exact ⟨_, _, rfl, ev_sound h x, evL_SV h xs⟩
theorem SV.append {n : Nat} : ∀ {xs ys : List AV} {us vs : List Value}, SV hd n w I xs us → SV hd n w I ys vs → SV hd n w I (xs ++ ys) (us ++ vs)
  | [], ys, us, vs, h, h' => by simp only [SV] at h; subst h; simpa using h'
  | x :: xs, ys, us, vs, h, h' => by
    simp only [SV] at h
    obtain ⟨v, us', rfl, hx, hxs⟩ := h
    simp only [List.cons_append, SV]
    exact ⟨v, us' ++ vs, rfl, hx, hxs.append h'⟩
theorem SL.SV {n : Nat} : ∀ {xs : List AV} {us : List Value}, SL hd n w I xs us → X.SV hd n w I xs us
  | [], us, h => by simpa only [SL, X.SV] using h
  | x :: xs, us, h => by
    simp only [SL] at h
    obtain ⟨v, us', rfl, h1, hx, hxs⟩ := h
    simp only [X.SV]
    exact ⟨v, us', rfl, hx, hxs.SV⟩
theorem SV.SL {n : Nat} : ∀ {xs : List AV} {us : List Value}, opK.allCells xs = true → X.SV hd n w I xs us → X.SL hd n w I xs us
  | [], us, _, h => by simpa only [X.SL, X.SV] using h
  | x :: xs, us, hc, h => by
    simp only [opK.allCells, Bool.and_eq_true] at hc
    simp only [X.SV] at h
    obtain ⟨v, us', rfl, hx, hxs⟩ := h
    simp only [X.SL]
    exact ⟨v, us', rfl, (isCell_one hc.1 hx).1, hx, SV.SL hc.2 hxs⟩
/-- Values of a list of trees. -/
theorem frzV_sound {h : Heap} {n : Nat} (hr : HR G M I h n hd Fp w) (k : Nat) : ∀ {xs ys : List AV} {vs : List Value}, X.SV hd n w I xs vs → frzAL h k xs = some ys → TV w (fun b => b < w.heap.size) ys vs []
  | [], ys, vs, hx, hy => by
    simp only [frzAL, Option.some.injEq] at hy
    subst hy
    simp only [X.SV] at hx
    simp only [TV]; exact ⟨hx, trivial⟩
  | x :: xs, ys, vs, hx, hy => by
    simp only [X.SV] at hx
    obtain ⟨v, vs', rfl, hxv, hxs⟩ := hx
    simp only [frzAL] at hy
    split at hy
    · rename_i y ys' e1 e2
      simp only [Option.some.injEq] at hy
      subst hy
      simp only [TV]
      exact ⟨v, vs', [], [], rfl, rfl, (frz_sound hr k).1 x y v hxv e1, frzV_sound hr k hxs e2⟩
    · cases hy

mutual
/-- A frozen tree in a slot. -/
theorem T.toS {n : Nat} : ∀ (x : AV) (v : Value), frzOk x = true → T w I x v [] → S hd n w I x v
  | .any, v, _, h => by simp only [S]
  | .con u, v, _, h => by simp only [T, S] at h ⊢; exact h.1
  | .int k m, v, _, h => by simp only [T, S] at h ⊢; exact h.1
  | .bool b, v, _, h => by simp only [T, S] at h ⊢; exact h.1
  | .str s, v, _, h => by simp only [T, S] at h ⊢; exact h.1
  | .nil, v, _, h => by simp only [T, S] at h ⊢; exact h.1
  | .sl es, v, _, h => by simp only [S]; exact h
  | .pf cs, v, _, h => by simp only [S]; exact h
  | .fn f caps, v, hf, h => by
    simp only [frzOk] at hf
    simp only [T, S] at h ⊢
    obtain ⟨vs, rfl, ht⟩ := h
    exact ⟨vs, rfl, TL.toS caps _ hf ht⟩
  | .agg cs, v, hf, h => by
    simp only [frzOk] at hf
    simp only [T, S] at h ⊢
    obtain ⟨vs, rfl, ht⟩ := h
    exact ⟨vs, rfl, TL.toS cs _ hf ht⟩
  | .tup _, v, hf, h => by simp [frzOk] at hf
  | .ow _ _, v, hf, h => by simp [frzOk] at hf
  | .op _, v, hf, h => by simp [frzOk] at hf
  | .ref _ _ _ _ _, v, hf, h => by simp [frzOk] at hf
  | .ptr _ _ _ _ _, v, hf, h => by simp [frzOk] at hf
theorem TL.toS {n : Nat} : ∀ (xs : List AV) (vs : List Value), frzOkL xs = true → TL w I xs vs [] → SL hd n w I xs vs
  | [], vs, _, h => by simp only [TL, SL] at h ⊢; exact h.1
  | x :: xs, vs, hf, h => by
    simp only [frzOkL, Bool.and_eq_true] at hf
    simp only [TL] at h
    obtain ⟨v, vs', F1, F2, rfl, hF, h1, hx, hxs⟩ := h
    obtain ⟨rfl, rfl⟩ := List.append_eq_nil_iff.1 hF.symm
    simp only [SL]
    exact ⟨v, vs', rfl, h1, T.toS x v hf.1 hx, TL.toS xs vs' hf.2 hxs⟩
end
end
theorem eqs_minK : True := by
  have := @minK.eq_1
  trivial
theorem eqs_maxK : True := by
  have := @maxK.eq_1
  trivial
theorem eqs_lenK : True := by
  have := @lenK.eq_1
  trivial
theorem eqs_convK : True := by
  have := @convK.eq_1
  trivial
theorem eqs_frzOk : True := by
  have := @frzOk.eq_1
  trivial
theorem eqs_frzOkL : True := by
  have := @frzOkL.eq_1
  trivial
theorem eqs_callK : True := by
  have := @callK.eq_1
  trivial
theorem eqs_evL : True := by
  have := @evL.eq_1
  trivial
end Go.Proofs.YtlddjlchgibdfaaDoor.X
set_option linter.unusedVariables false
set_option linter.unusedSimpArgs false
namespace Go.Proofs.YtlddjlchgibdfaaDoor.X
open Go

/-- Behind an operation. -/
def StepQ (G : Glo) (M I : Nat → Prop) (s : St) (hd : Nat → Value) (w : World) (dst : Option Nat) (K : AV → St → Prop) (a' : Act) (w' : World) : Prop :=
  ∃ av s' I' hd' Fp', K av s' ∧ SR G M I' (s'.put dst av) hd' Fp' a' w' ∧ Ext M I I' s.next hd hd' w w' ∧ s.next ≤ s'.next

section
variable {P : Program} {G : Glo} {C : CT} {md : FuncId → Bool} {M I : Nat → Prop} {s : St} {hd : Nat → Value} {Fp : Nat → List Nat} {a : Act} {w : World} {K : AV → St → Prop} {o : Oper} {Q : Exit → Act → World → Prop}
theorem wp_of_res {r : Next} {w' : World} (hr : (execOp a.eval o).run P w = .ok r w') (h : OpRes G M I s hd a w K r w') : o.wp P a w (StepQ G M I s hd w o.dst K) Q := by
  unfold Oper.wp
  rw [hr]
  obtain ⟨v, av, s', I', hd', Fp', hrv, hK, hv, hs, hE, hn⟩ := h
  rcases hrv with rfl | ⟨rfl, rfl⟩
  · exact ⟨av, s', I', hd', Fp', hK, hs.put o.dst hv, hE, hn⟩
  · exact ⟨av, s', I', hd', Fp', hK, hs.put o.dst hv, hE, hn⟩
/-- An operation that only computes. -/
theorem wp_of_val (h : SR G M I s hd Fp a w) {m : Sem Value} (he : execOp a.eval o = (do pure (.value (← m)))) (hm : ∃ v av, m.run P w = .ok v w ∧ K av s ∧ S hd s.next w I av v) : o.wp P a w (StepQ G M I s hd w o.dst K) Q := by
  obtain ⟨v, av, h1, h2, h3⟩ := hm
  refine wp_of_res (r := .value v) (w' := w) (by rw [he]; simp [h1]) ⟨v, av, s, I, hd, Fp, .inl rfl, h2, h3, h, Ext.refl _ _ _ _ _, Nat.le_refl _⟩
theorem wp_of_val' (h : SR G M I s hd Fp a w) {m : Sem Value} (he : execOp a.eval o = (do pure (.value (← m)))) (hm : ∃ v w', m.run P w = .ok v w' ∧ OpRes G M I s hd a w K (.value v) w') : o.wp P a w (StepQ G M I s hd w o.dst K) Q := by
  obtain ⟨v, w', h1, h2⟩ := hm
  exact wp_of_res (r := .value v) (w' := w') (by rw [he]; simp [h1]) h2

theorem atW {m : Sem Value} {w : World} {A : AV → Prop} {B : AV → Value → Prop} (h : ∃ r av, (∀ w : World, m.run P w = .ok r w) ∧ A av ∧ B av r) : ∃ r av, m.run P w = .ok r w ∧ A av ∧ B av r :=
  let ⟨r, av, h1, h2⟩ := h; ⟨r, av, h1 w, h2⟩
theorem atS {m : Sem Value} {w : World} {A : AV → Prop} {B : AV → Value → Prop} (h : ∃ r av, (∀ w' : World, SameB w w' → m.run P w' = .ok r w') ∧ A av ∧ B av r) : ∃ r av, m.run P w = .ok r w ∧ A av ∧ B av r :=
  let ⟨r, av, h1, h2⟩ := h; ⟨r, av, h1 w (.refl w), h2⟩
theorem no3 {m : Sem Value} {w : World} {A : Value → World → Prop} {B : World → Prop} (h : ∃ v w', m.run P w = .ok v w' ∧ A v w' ∧ B w') : ∃ v w', m.run P w = .ok v w' ∧ A v w' :=
  let ⟨v, w', h1, h2, _⟩ := h; ⟨v, w', h1, h2⟩
theorem parts_of (h : SR G M I s hd Fp a w) : ∀ (ps : List (Nat × Operand)), Parts hd s.next w I (ps.map fun p => (p.1, ev G s p.2)) (ps.map fun p => (p.1, a.eval p.2))
  | [] => .nil
  | p :: ps => .cons (ev_sound h p.2) (parts_of h ps)

theorem call_open (h : SR G M I s hd Fp a w) (hC : Sound P G C) {g : FuncId} {xs : List AV} {vals : Array Value} {K0 : AV → Heap → Nat → Prop} (hk : C g xs s.heap s.next K0) (hK : ∀ v h' n', K0 v h' n' → s.next ≤ n' → K v (killSt ⟨s.tmps, h', n'⟩)) (hx : SV hd s.next w I xs vals.toList)
    (hrun : (execOp a.eval o).run P w = (callFunc g vals).run P w) : o.wp P a w (StepQ G M I s hd w o.dst K) Q := by
  obtain ⟨hent, hcall⟩ := hC g xs _ _ K0 hk
  unfold Oper.wp
  rw [hrun, run_callFunc hent, Oper.upon_enter]
  refine (hcall M I hd Fp w vals.toList h.heap hx).mono ?_
  rintro e w' ⟨v, av, h', n', I', hd', Fp', rfl, hK0, hr', hv, hE, hn⟩
  have hsr := SR.killed (h' := h') (n' := n') h hr' hn hE.im (fun id hid => hE.hds id hid)
  refine ⟨av, _, I', hd', Fp', hK av h' n' hK0 hn, hsr.put o.dst ?_, hE, hn⟩
  exact hv
theorem call_pure' (h : SR G M I s hd Fp a w) (hC : Sound P G C) {g : FuncId} {xs ts : List AV} {vals : Array Value} {r : AV} (hk : Ev C g ts r) (hfz : frzAL s.heap 8 xs = some ts) (hok : frzOkL ts = true)
    (hK : K (imp s.next r).1 ⟨s.tmps, (imp s.next r).2.1 ++ s.heap, (imp s.next r).2.2⟩) (hx : SV hd s.next w I xs vals.toList)
    (hrun : (execOp a.eval o).run P w = (callFunc g vals).run P w) : o.wp P a w (fun a' w' => StepQ G M I s hd w o.dst K a' w' ∧ SameB w w') Q := by
  obtain ⟨K0, hc, hown, hres⟩ := hk
  obtain ⟨hent, hcall⟩ := hC g ts _ _ K0 hc
  unfold Oper.wp
  rw [hrun, run_callFunc hent, Oper.upon_enter]
  have hr0 : HR G (fun b => w.heap.size ≤ b) (fun b => b < w.heap.size) [] 0 hd Fp w :=
    ⟨fun id o ho => by simp [hget] at ho, fun b hb => ⟨hb, fun id o ho => by simp [hget] at ho⟩, fun id o ho => by simp [hget] at ho, fun id o id' o' ho => by simp [hget] at ho, fun id o ho => by simp [hget] at ho, fun id o ho => by simp [hget] at ho, fun b hb => hb,
      fun g cs hg => T.frame (fun b hb => ⟨(h.heap.imm b hb).1, rfl⟩) _ _ _ (h.heap.glo g cs hg) (by simp)⟩
  have hargs : SV hd 0 w (fun b => b < w.heap.size) ts vals.toList := by
    have ht := frzV_sound h.heap 8 hx hfz
    have : ∀ (ts : List AV) (vs : List Value), frzOkL ts = true → TV w (fun b => b < w.heap.size) ts vs [] → SV hd 0 w (fun b => b < w.heap.size) ts vs := by
      intro ts
      induction ts with
      | nil => intro vs _ h; simp only [TV, SV] at h ⊢; exact h.1
      | cons x ts ih =>
        intro vs hf h
        simp only [frzOkL, Bool.and_eq_true] at hf
        simp only [TV] at h
        obtain ⟨v, vs', F1, F2, rfl, hF, hx, hxs⟩ := h
        obtain ⟨rfl, rfl⟩ := List.append_eq_nil_iff.1 hF.symm
        simp only [SV]
        exact ⟨v, vs', rfl, T.toS x v hf.1 hx, ih vs' hf.2 hxs⟩
    exact this ts _ hok ht
  refine (hcall _ _ hd Fp w vals.toList hr0 hargs).mono ?_
  rintro e w' ⟨v, av, h', n', I', hd', Fp', rfl, hK0, hr', hv, hE, hn⟩
  obtain ⟨r0, h2, hcon, hnil⟩ := hres av h' n' hK0
  obtain ⟨F, hT, hr2, hfree, hsub, _⟩ := (conR_sound 8).1 h' hr' av r0 h2 v hv hcon
  have hT2 := T.anyI (I' := I) r v F hown (T.nilTo r0 r v F hT hnil)
  have hnewF : ∀ b ∈ F, w.heap.size ≤ b := fun b hb => hfree.mine b hb
  have hold : ∀ b, b < w.heap.size → w'.heap[b]? = w.heap[b]? := fun b hb => (hE.im b hb).2
  have hrw : HR G M I s.heap s.next hd Fp w' := h.heap.grown hE.keep.size hold
  have hfr0 : Fr I I s.next s.next hd hd w w' := h.heap.fr hE.keep.size hold
  have hfree2 : Free M I s.heap Fp F := ⟨hfree.nodup, fun b hb => h.heap.news b (hnewF b hb), fun b hb hi => by have := (h.heap.imm b hi).1; have := hnewF b hb; omega, fun id o ho b hb hm => by have := h.heap.ltB ho b hb; have := hnewF b hm; omega⟩
  obtain ⟨hn1, hd1, Fp1, hr1, fr1, hx1, _, hS1⟩ := imp_sound r s.heap s.next hd Fp v F hrw hT2 hfree2
  have hsr := h.move hr1 (hfr0.trans fr1)
  exact ⟨⟨_, _, I, hd1, Fp1, hK, hsr.put o.dst hS1, ⟨⟨hE.keep.os, hE.keep.tape, hE.keep.output, hE.keep.size, fun b hb _ => hold b hb⟩, fun b hb => ⟨hb, hold b (h.heap.imm b hb).1⟩, hx1⟩, hn1⟩, hE.keep.size, hold⟩
theorem call_pure (h : SR G M I s hd Fp a w) (hC : Sound P G C) {g : FuncId} {xs ts : List AV} {vals : Array Value} {r : AV} (hk : Ev C g ts r) (hfz : frzAL s.heap 8 xs = some ts) (hok : frzOkL ts = true)
    (hK : K (imp s.next r).1 ⟨s.tmps, (imp s.next r).2.1 ++ s.heap, (imp s.next r).2.2⟩) (hx : SV hd s.next w I xs vals.toList)
    (hrun : (execOp a.eval o).run P w = (callFunc g vals).run P w) : o.wp P a w (StepQ G M I s hd w o.dst K) Q :=
  Oper.wp_mono (fun _ _ h => h.1) (call_pure' h hC hk hfz hok hK hx hrun)

theorem opK_sound (h : SR G M I s hd Fp a w) (hC : Sound P G C) (hk : opK P G C md o.op s K) : o.wp P a w (StepQ G M I s hd w o.dst K) Q := by
  unfold opK at hk
  split at hk
  case h_1 x ho => exact wp_of_res (r := .value (a.eval x)) (w' := w) (by simp [execOp, ho]) ⟨_, _, s, I, hd, Fp, .inl rfl, hk, ev_sound h x, h, Ext.refl _ _ _ _ _, Nat.le_refl _⟩
  case h_2 x ho => exact wp_of_res (r := .value (a.eval x)) (w' := w) (by simp [execOp, ho]) ⟨_, _, s, I, hd, Fp, .inl rfl, hk, ev_sound h x, h, Ext.refl _ _ _ _ _, Nat.le_refl _⟩
  case h_3 c x y ho =>
    have hc := ev_sound h c
    split at hk
    · rename_i e; rw [e] at hc; simp only [S] at hc
      exact wp_of_res (r := .value (a.eval x)) (w' := w) (by simp [execOp, ho, hc, asBool]) ⟨_, _, s, I, hd, Fp, .inl rfl, hk, ev_sound h x, h, Ext.refl _ _ _ _ _, Nat.le_refl _⟩
    · rename_i e; rw [e] at hc; simp only [S] at hc
      exact wp_of_res (r := .value (a.eval y)) (w' := w) (by simp [execOp, ho, hc, asBool]) ⟨_, _, s, I, hd, Fp, .inl rfl, hk, ev_sound h y, h, Ext.refl _ _ _ _ _, Nat.le_refl _⟩
    · exact hk.elim
  case h_4 op t x y t2 ho =>
    obtain ⟨v, av, h1, h2, h3⟩ := binK_sound hk (ev_sound h x) (ev_sound h y)
    refine wp_of_val h (m := do eqGuard op t x y (a.eval x) (a.eval y); binOp op t (a.eval x) (a.eval y)) (by simp only [execOp, ho]) ⟨v, av, ?_, h2, h3⟩
    have hg : (eqGuard op t x y (a.eval x) (a.eval y)).run P w = .ok () w := by
      have hx := ev_sound h x
      unfold binK at hk
      split at hk
      · rename_i e1 _; rw [e1] at hx; simp only [S] at hx; rw [hx]; exact eqGuard_idle (by simp) (by simp)
      · rename_i e1 _; rw [e1] at hx; simp only [S] at hx; rw [hx]; exact eqGuard_idle (by simp) (by simp)
      · rename_i e1 _; rw [e1] at hx; simp only [S] at hx; rw [hx]; exact eqGuard_idle (by simp) (by simp)
      · rename_i e1 _; rw [e1] at hx; simp only [S, T] at hx; obtain ⟨_, A, c, hx, _⟩ := hx; rw [hx]; exact eqGuard_idle (by simp) (by simp)
      · rename_i e1 _; rw [e1] at hx; simp only [S] at hx; rw [hx]; exact eqGuard_idle (by simp) (by simp)
      · rename_i e1 _; rw [e1] at hx; simp only [S] at hx
        obtain ⟨_, h0, _, hw⟩ := hx
        rcases hw with ⟨b, o, n, c, c', _, hx, _⟩ | ⟨_, A, hx⟩ <;> rw [hx] <;> exact eqGuard_idle (by simp) (by simp)
      · exact hk.elim
    simp [hg, h1]
  case h_5 op t x ho =>
    exact wp_of_val h (m := Op.unary op (a.eval x)) (by simp only [execOp, ho]) (atW (unK_sound hk (ev_sound h x)))
  case h_6 t t' x ho =>
    exact wp_of_val h (m := convert t t' (a.eval x)) (by simp only [execOp, ho]) (atW (convK_sound hk (ev_sound h x)))
  case h_7 x i ho =>
    have hx := ev_sound h x
    split at hk
    · rename_i vs e
      rw [e] at hx
      simp only [S] at hx
      obtain ⟨us, hu, hs⟩ := hx
      split at hk
      · rename_i y hy
        obtain ⟨v, hv, hS⟩ := hs.get hy
        refine wp_of_val h (m := Instr.extract (a.eval x) i) (by simp only [execOp, ho]) ⟨v, y, ?_, hk, hS⟩
        have : us[i]? = some v := by simpa using hv
        simp [Instr.extract, hu, this]
      · exact hk.elim
    · exact hk.elim
  case h_8 x ho =>
    have hx := ev_sound h x
    split at hk
    · rename_i id sub sz i c e
      rw [e] at hx
      have hx' := hx
      simp only [S] at hx
      obtain ⟨_, h0, b, o', _, _, hu⟩ := hx
      exact wp_of_res (r := .value (a.eval x)) (w' := w) (by simp [execOp, ho, hu]) ⟨_, _, s, I, hd, Fp, .inl rfl, hk, hx', h, Ext.refl _ _ _ _ _, Nat.le_refl _⟩
    · rename_i cs e
      rw [e] at hx
      have hx' := hx
      simp only [S, T] at hx
      obtain ⟨_, b, o', vs, hu, _⟩ := hx
      exact wp_of_res (r := .value (a.eval x)) (w' := w) (by simp [execOp, ho, hu]) ⟨_, _, s, I, hd, Fp, .inl rfl, hk, hx', h, Ext.refl _ _ _ _ _, Nat.le_refl _⟩
    · exact hk.elim
  case h_9 f first caps ho =>
    obtain ⟨hf, hk, hc⟩ := hk
    have hfe : first = #[] := Array.eq_empty_of_size_eq_zero hf
    subst hfe
    refine wp_of_val h (m := Instr.makeFunc (.func f) (#[].map a.eval) (caps.map a.eval)) (by simp only [execOp, ho]) ⟨.func (.func f) #[] (caps.map a.eval), _, by simp [Instr.makeFunc], hk, ?_⟩
    simp only [S]
    refine ⟨_, rfl, SV.SL hc ?_⟩
    rw [Array.toList_map]
    exact evL_SV h caps.toList
  case h_10 t x j ho => exact wp_of_val h (m := Instr.fieldAt t (a.eval x) j) (by simp only [execOp, ho]) (atW (faddrK_sound hk (ev_sound h x)))
  case h_11 t x i ho => exact wp_of_val h (m := Instr.indexAt t (a.eval x) (a.eval i)) (by simp only [execOp, ho]) (atW (iaddrK_sound hk (ev_sound h x) (ev_sound h i)))
  case h_12 t x i ho => exact wp_of_val h (m := Instr.index t (a.eval x) (a.eval i)) (by simp only [execOp, ho]) (idxK_sound hk (ev_sound h x) (ev_sound h i))
  case h_13 t x lo hi ho =>
    refine wp_of_val h (m := Instr.sliceAt t (a.eval x) (lo.map a.eval) (hi.map a.eval) none) (by simp only [execOp, ho, Option.map_none]) (sliceK_sound hk (ev_sound h x) ?_ ?_ ?_ ?_)
    · intro y hy; obtain ⟨z, rfl, rfl⟩ := Option.map_eq_some_iff.1 hy; exact ⟨_, rfl, ev_sound h z⟩
    · intro hy; rw [Option.map_eq_none_iff] at hy ⊢; exact hy
    · intro y hy; obtain ⟨z, rfl, rfl⟩ := Option.map_eq_some_iff.1 hy; exact ⟨_, rfl, ev_sound h z⟩
    · intro hy; rw [Option.map_eq_none_iff] at hy ⊢; exact hy
  case h_14 t x ho => exact wp_of_val h (m := Instr.loadAt t (a.eval x)) (by simp only [execOp, ho]) (atS (loadK_sound h hk (ev_sound h x)))
  case h_15 t x v ho =>
    obtain ⟨w', h1, s', I', hd', Fp', h2, h3, h4, h5⟩ := storeK_sound h hk (ev_sound h x) (ev_sound h v)
    exact wp_of_res (r := .skip) (w' := w') (by simp [execOp, ho, h1]) ⟨undef, .any, s', I', hd', Fp', .inr ⟨rfl, rfl⟩, h2, by simp only [S], h3, h4, h5⟩
  case h_16 t ho => exact wp_of_val' h (m := Instr.alloc t true (.tuple #[])) (by simp only [execOp, ho]) (no3 (allocK_sound h hk))
  case h_17 t x ho => exact wp_of_val' h (m := Instr.box t (a.eval x)) (by simp only [execOp, ho]) (no3 (boxK_sound h hk (ev_sound h x)))
  case h_18 t ps ho =>
    refine wp_of_val h (m := Instr.build t (ps.map fun (i, x) => (i, a.eval x))) (by simp only [execOp, ho]) ?_
    have := buildK_sound (P := P) (t := t) hk (parts_of h ps.toList)
    have e : (ps.toList.map fun p => (p.1, a.eval p.2)).toArray = ps.map fun (i, x) => (i, a.eval x) := by apply Array.ext'; simp
    rw [e] at this
    exact this
  case h_19 t n ps ho =>
    refine wp_of_val' h (m := Instr.buildSlice t n (ps.map fun (i, x) => (i, a.eval x))) (by simp only [execOp, ho]) ?_
    have := buildSliceK_sound (P := P) (t := t) h hk.2 (parts_of h ps.toList) (fun h0 => by rw [hk.1 h0]; rfl)
    have e : (ps.toList.map fun p => (p.1, a.eval p.2)).toArray = ps.map fun (i, x) => (i, a.eval x) := by apply Array.ext'; simp
    rw [e] at this
    exact no3 this
  case h_20 t l c ho => exact wp_of_val' h (m := Instr.makeSlice t (a.eval l) (a.eval c)) (by simp only [execOp, ho]) (no3 (makeSliceK_sound h hk (ev_sound h l) (ev_sound h c)))
  case h_21 c ho =>
    obtain ⟨callee, args, argTypes⟩ := c
    simp only at hk
    split at hk
    · rename_i x t ts e2 e3
      have ea : args = #[x] := by apply Array.ext'; simpa using e2
      subst ea
      exact wp_of_val h (m := Builtin.len_ argTypes o.type #[a.eval x]) (by simp [execOp, ho, resolve, invoke, builtin]) (atW (lenK_sound (by rw [← Array.getElem?_toList, e3]; rfl) hk (ev_sound h x)))
    · rename_i x y t tx e2 e3
      have ea : args = #[x, y] := by apply Array.ext'; simpa using e2
      have et : argTypes = #[t, tx] := by apply Array.ext'; simpa using e3
      subst ea; subst et
      exact wp_of_val' h (m := Builtin.append_ #[t, tx] o.type #[a.eval x, a.eval y]) (by simp [execOp, ho, resolve, invoke, builtin]) (appendK_sound h hk (ev_sound h x) (ev_sound h y))
    · rename_i x y e2
      have ea : args = #[x, y] := by apply Array.ext'; simpa using e2
      subst ea
      have hx := ev_sound h x
      have hy := ev_sound h y
      unfold minK at hk
      split at hk
      · rename_i k1 n1 k2 n2 q1 q2
        rw [q1] at hx; rw [q2] at hy
        simp only [S] at hx hy
        exact wp_of_val h (m := Builtin.min_ argTypes o.type #[a.eval x, a.eval y]) (by simp [execOp, ho, resolve, invoke, builtin]) ⟨_, _, by rw [hx, hy]; exact run_min, hk, S_int⟩
      · exact hk.elim
    · rename_i x y e2
      have ea : args = #[x, y] := by apply Array.ext'; simpa using e2
      subst ea
      have hx := ev_sound h x
      have hy := ev_sound h y
      unfold maxK at hk
      split at hk
      · rename_i k1 n1 k2 n2 q1 q2
        rw [q1] at hx; rw [q2] at hy
        simp only [S] at hx hy
        exact wp_of_val h (m := Builtin.max_ argTypes o.type #[a.eval x, a.eval y]) (by simp [execOp, ho, resolve, invoke, builtin]) ⟨_, _, by rw [hx, hy]; exact run_max, hk, S_int⟩
      · exact hk.elim
    · rename_i f
      have hf := ev_sound h f
      unfold callK at hk
      split at hk
      · rename_i g caps ef
        rw [ef] at hf
        simp only [S] at hf
        obtain ⟨vs, hvf, hcaps⟩ := hf
        have hrun : (execOp a.eval o).run P w = (callFunc g (args.map a.eval ++ vs)).run P w := by
          simp [execOp, ho, resolve, hvf, Deferred.ofValue, invoke]
        have hx : SV hd s.next w I (args.toList.map (ev G s) ++ caps) (args.map a.eval ++ vs).toList := by
          rw [Array.toList_append, Array.toList_map]
          exact (evL_SV h args.toList).append hcaps.SV
        split at hk
        · obtain ⟨K0, hc, hK⟩ := hk
          exact call_open h hC hc hK hx hrun
        · split at hk
          · rename_i ts hfz
            obtain ⟨hok, r, hev, hK⟩ := hk
            exact call_pure h hC hev hfz hok hK hx hrun
          · exact hk.elim
      · exact hk.elim
    · exact hk.elim
  case h_22 => exact hk.elim
end
end Go.Proofs.YtlddjlchgibdfaaDoor.X
set_option linter.unusedVariables false
set_option linter.unusedSimpArgs false
namespace Go.Proofs.YtlddjlchgibdfaaDoor.X
open Go

def renO (B : Nat) (ρ : List (Nat × Nat)) : Ob → Ob
  | .var cs => .var (renL B ρ cs)
  | o => o
def canSlots (B : Nat) (ρ : List (Nat × Nat)) : List Keepd → List AV → List AV
  | _, [] => []
  | [], _ :: xs => .any :: canSlots B ρ [] xs
  | .drop :: as, _ :: xs => .any :: canSlots B ρ as xs
  | .keep :: as, x :: xs => ren B ρ x :: canSlots B ρ as xs
  | .obj id sz :: as, .nil :: xs => .ref id none sz 0 0 :: canSlots B ρ as xs
  | .obj _ _ :: as, x :: xs => ren B ρ x :: canSlots B ρ as xs
def canObjs : List Keepd → List AV → Heap
  | .obj id sz :: as, .nil :: xs => (id, .slice sz []) :: canObjs as xs
  | _ :: as, _ :: xs => canObjs as xs
  | _, _ => []
def canR (B : Nat) (ρ0 : List (Nat × Nat)) (h : Heap) : List (Nat × Nat) → Heap
  | [] => []
  | (o, n) :: r => match hget h o with
    | some ob => (n, renO B ρ0 ob) :: canR B ρ0 h r
    | none => canR B ρ0 h r
def canB (B : Nat) (ρ : List (Nat × Nat)) : Heap → Heap
  | [] => []
  | (i, o) :: h => if i < B then (i, renO B ρ o) :: canB B ρ h else canB B ρ h
def objIds : List Keepd → List Nat
  | [] => []
  | .obj id _ :: as => id :: objIds as
  | _ :: as => objIds as
def rhoOk (B : Nat) (ρ : List (Nat × Nat)) (ids : List Nat) (nx : Nat) : Bool :=
  decide (B ≤ nx) && ρ.all (fun p => decide (B ≤ p.1) && decide (B ≤ p.2) && decide (p.2 < nx)) && decide ((ρ.map (·.2)).Nodup) && decide ((ρ.map (·.1)).Nodup) && ids.all (fun i => decide (B ≤ i) && decide (i < nx) && !(ρ.map (·.2)).contains i)
def canon (B : Nat) (acts : List Keepd) (ρ : List (Nat × Nat)) (nx : Nat) (s : St) : St :=
  ⟨canSlots B ρ acts s.tmps, canObjs acts s.tmps ++ (canR B ρ s.heap ρ ++ canB B ρ s.heap), nx⟩

theorem hget_append (h1 h2 : Heap) (j : Nat) : hget (h1 ++ h2) j = match hget h1 j with | some o => some o | none => hget h2 j := by
  induction h1 with
  | nil => rfl
  | cons p h1 ih =>
    obtain ⟨i, o⟩ := p
    simp only [List.cons_append, hget]
    split
    · rfl
    · exact ih
def lkr (ρ : List (Nat × Nat)) (j : Nat) : Option Nat :=
  match ρ with
  | [] => none
  | (o, n) :: r => if n = j then some o else lkr r j
def srcOf (B : Nat) (ρ : List (Nat × Nat)) (j : Nat) : Option Nat := if j < B then some j else lkr ρ j
theorem lkr_mem {ρ : List (Nat × Nat)} {j o : Nat} (h : lkr ρ j = some o) : (o, j) ∈ ρ := by
  induction ρ with
  | nil => simp [lkr] at h
  | cons p ρ ih =>
    obtain ⟨o', n⟩ := p
    simp only [lkr] at h
    split at h
    · rename_i hn; simp only [Option.some.injEq] at h; subst hn; subst h; simp
    · simp [ih h]
theorem lkr_of_mem {ρ : List (Nat × Nat)} (hn : (ρ.map (·.2)).Nodup) {j o : Nat} (h : (o, j) ∈ ρ) : lkr ρ j = some o := by
  induction ρ with
  | nil => simp at h
  | cons p ρ ih =>
    obtain ⟨o', n⟩ := p
    simp only [List.map_cons, List.nodup_cons] at hn
    simp only [lkr]
    rcases List.mem_cons.1 h with h | h
    · simp only [Prod.mk.injEq] at h; obtain ⟨rfl, rfl⟩ := h; simp
    · have : n ≠ j := by rintro rfl; exact hn.1 (List.mem_map.2 ⟨_, h, rfl⟩)
      rw [if_neg this]; exact ih hn.2 h
theorem lkp_mem {ρ : List (Nat × Nat)} {j o : Nat} (h : lkp ρ o = some j) : (o, j) ∈ ρ := by
  induction ρ with
  | nil => simp [lkp] at h
  | cons p ρ ih =>
    obtain ⟨o', n⟩ := p
    simp only [lkp] at h
    split at h
    · rename_i hn; simp only [Option.some.injEq] at h; subst hn; subst h; simp
    · simp [ih h]
theorem lkr_none {ρ : List (Nat × Nat)} {j : Nat} (h : j ∉ ρ.map (·.2)) : lkr ρ j = none := by
  cases e : lkr ρ j with
  | none => rfl
  | some o => exact absurd (List.mem_map.2 ⟨_, lkr_mem e, rfl⟩) h
theorem inj_of_mem {ρ : List (Nat × Nat)} (hn : (ρ.map (·.1)).Nodup) {o j1 j2 : Nat} (h1 : (o, j1) ∈ ρ) (h2 : (o, j2) ∈ ρ) : j1 = j2 := by
  induction ρ with
  | nil => simp at h1
  | cons p ρ ih =>
    obtain ⟨o', n⟩ := p
    simp only [List.map_cons, List.nodup_cons] at hn
    rcases List.mem_cons.1 h1 with g1 | g1 <;> rcases List.mem_cons.1 h2 with g2 | g2
    · simp only [Prod.mk.injEq] at g1 g2; rw [g1.2, g2.2]
    · simp only [Prod.mk.injEq] at g1; exact (hn.1 (g1.1 ▸ List.mem_map_of_mem (f := fun x : Nat × Nat => x.1) g2)).elim
    · simp only [Prod.mk.injEq] at g2; exact (hn.1 (g2.1 ▸ List.mem_map_of_mem (f := fun x : Nat × Nat => x.1) g1)).elim
    · exact ih hn.2 g1 g2

section
variable {B : Nat} {ρ : List (Nat × Nat)} {ids : List Nat} {nx : Nat}
theorem rho_spec (h : rhoOk B ρ ids nx = true) : B ≤ nx ∧ (∀ o n, (o, n) ∈ ρ → B ≤ o ∧ B ≤ n ∧ n < nx) ∧ (ρ.map (·.2)).Nodup ∧ (ρ.map (·.1)).Nodup ∧ (∀ i ∈ ids, B ≤ i ∧ i < nx ∧ i ∉ ρ.map (·.2)) := by
  simp only [rhoOk, Bool.and_eq_true, decide_eq_true_eq, List.all_eq_true, Bool.not_eq_true', List.contains_eq_mem, decide_eq_false_iff_not] at h
  obtain ⟨⟨⟨⟨h1, h2⟩, h3⟩, h4⟩, h5⟩ := h
  exact ⟨h1, fun o n hm => ⟨(h2 _ hm).1.1, (h2 _ hm).1.2, (h2 _ hm).2⟩, h3, h4, fun i hi => ⟨(h5 i hi).1.1, (h5 i hi).1.2, (h5 i hi).2⟩⟩

theorem canObjs_get {j : Nat} {o : Ob} : ∀ {acts : List Keepd} {xs : List AV}, hget (canObjs acts xs) j = some o → j ∈ objIds acts ∧ ∃ sz, o = .slice sz []
  | [], xs, h => by cases xs <;> simp [canObjs, hget] at h
  | .drop :: as, [], h => by simp [canObjs, hget] at h
  | .keep :: as, [], h => by simp [canObjs, hget] at h
  | .obj id sz :: as, [], h => by simp [canObjs, hget] at h
  | .drop :: as, x :: xs, h => by simp only [canObjs] at h; simpa only [objIds] using canObjs_get h
  | .keep :: as, x :: xs, h => by simp only [canObjs] at h; simpa only [objIds] using canObjs_get h
  | .obj id sz :: as, x :: xs, h => by
    have hrec : hget (canObjs as xs) j = some o → j ∈ objIds (.obj id sz :: as) ∧ ∃ sz, o = .slice sz [] := fun h => by
      obtain ⟨h1, h2⟩ := canObjs_get h
      exact ⟨by simp [objIds, h1], h2⟩
    cases x
    case nil =>
      simp only [canObjs, hget] at h
      split at h
      · rename_i hj; simp only [Option.some.injEq] at h; exact ⟨by simp [objIds, hj], sz, h.symm⟩
      · exact hrec h
    all_goals (simp only [canObjs] at h; exact hrec h)
theorem canR_get {h : Heap} {j : Nat} {o : Ob} : ∀ {r : List (Nat × Nat)}, hget (canR B ρ h r) j = some o → ∃ id u, (id, j) ∈ r ∧ hget h id = some u ∧ o = renO B ρ u
  | [], he => by simp [canR, hget] at he
  | (q, n) :: r, he => by
    simp only [canR] at he
    split at he
    · rename_i ob hob
      simp only [hget] at he
      split at he
      · rename_i hj; simp only [Option.some.injEq] at he; subst hj; exact ⟨q, ob, by simp, hob, he.symm⟩
      · obtain ⟨id, u, h1, h2, h3⟩ := canR_get he; exact ⟨id, u, by simp [h1], h2, h3⟩
    · obtain ⟨id, u, h1, h2, h3⟩ := canR_get he; exact ⟨id, u, by simp [h1], h2, h3⟩
theorem canB_get {j : Nat} {o : Ob} : ∀ {h : Heap}, hget (canB B ρ h) j = some o → j < B ∧ ∃ u, hget h j = some u ∧ o = renO B ρ u
  | [], he => by simp [canB, hget] at he
  | (i, u) :: h, he => by
    simp only [canB] at he
    split at he
    · rename_i hi
      simp only [hget] at he ⊢
      split at he
      · rename_i hj; simp only [Option.some.injEq] at he; subst hj; exact ⟨hi, u, by simp, he.symm⟩
      · rename_i hj
        obtain ⟨h1, u', h2, h3⟩ := canB_get he; exact ⟨h1, u', by rw [if_neg hj]; exact h2, h3⟩
    · rename_i hi
      obtain ⟨h1, u', h2, h3⟩ := canB_get he
      refine ⟨h1, u', ?_, h3⟩
      simp only [hget]
      rw [if_neg (by omega)]; exact h2

variable {hd hd' : Nat → Value} {n : Nat} {w : World} {I : Nat → Prop}
theorem HdOf.at {hd hd' : Nat → Value} {i j : Nat} (e : hd' j = hd i) : ∀ {sub : Option (Nat × Nat × Nat)} {h : Value}, HdOf hd w i sub h → HdOf hd' w j sub h
  | none, h, hh => by simp only [HdOf] at hh ⊢; rw [e]; exact hh
  | some (a, b, c), h, hh => by simp only [HdOf] at hh ⊢; rw [e]; exact hh
mutual
theorem S.ren (hB : ∀ id, id < B → hd' id = hd id) (hBn : B ≤ nx) (hρ : ∀ o j, lkp ρ o = some j → hd' j = hd o ∧ j < nx) : ∀ (x : AV) (v : Value), S hd n w I x v → S hd' nx w I (X.ren B ρ x) v
  | .ref id sub sz off len, v, h => by
    simp only [S] at h
    obtain ⟨hid, h0, h1, h2⟩ := h
    simp only [X.ren]
    split
    · rename_i hlt
      simp only [S]
      exact ⟨Nat.lt_of_lt_of_le hlt hBn, h0, h1.at (hB id hlt), h2⟩
    · split
      · rename_i j e
        simp only [S]
        exact ⟨(hρ _ _ e).2, h0, h1.at (hρ _ _ e).1, h2⟩
      · simp only [S]
  | .ptr id sub sz i c, v, h => by
    simp only [S] at h
    obtain ⟨hid, h0, b, o, h1, h2, h3⟩ := h
    simp only [X.ren]
    split
    · rename_i hlt
      simp only [S]
      exact ⟨Nat.lt_of_lt_of_le hlt hBn, h0, b, o, h1.at (hB id hlt), h2, h3⟩
    · split
      · rename_i j e
        simp only [S]
        exact ⟨(hρ _ _ e).2, h0, b, o, h1.at (hρ _ _ e).1, h2, h3⟩
      · simp only [S]
  | .fn f caps, v, h => by
    simp only [S, X.ren] at h ⊢
    obtain ⟨vs, hv, ht⟩ := h
    exact ⟨vs, hv, SL.ren hB hBn hρ caps _ ht⟩
  | .agg cs, v, h => by
    simp only [S, X.ren] at h ⊢
    obtain ⟨vs, hv, ht⟩ := h
    exact ⟨vs, hv, SL.ren hB hBn hρ cs _ ht⟩
  | .tup xs, v, h => by
    simp only [S, X.ren] at h ⊢
    obtain ⟨vs, hv, ht⟩ := h
    exact ⟨vs, hv, SV.ren hB hBn hρ xs _ ht⟩
  | .ow _ _, v, h => by simp only [S] at h
  | .op _, v, h => by simp only [S] at h
  | .any, v, h => by simp only [S, X.ren]
  | .con u, v, h => by simpa only [S, X.ren] using h
  | .int k m, v, h => by simpa only [S, X.ren] using h
  | .bool b, v, h => by simpa only [S, X.ren] using h
  | .str s, v, h => by simpa only [S, X.ren] using h
  | .nil, v, h => by simpa only [S, X.ren] using h
  | .sl es, v, h => by simpa only [S, X.ren] using h
  | .pf cs, v, h => by simpa only [S, X.ren] using h
theorem SL.ren (hB : ∀ id, id < B → hd' id = hd id) (hBn : B ≤ nx) (hρ : ∀ o j, lkp ρ o = some j → hd' j = hd o ∧ j < nx) : ∀ (xs : List AV) (vs : List Value), SL hd n w I xs vs → SL hd' nx w I (renL B ρ xs) vs
  | [], vs, h => by simpa only [SL, renL] using h
  | x :: xs, vs, h => by
    simp only [SL, renL] at h ⊢
    obtain ⟨v, vs', rfl, h1, hx, hxs⟩ := h
    exact ⟨v, vs', rfl, h1, S.ren hB hBn hρ x v hx, SL.ren hB hBn hρ xs vs' hxs⟩
theorem SV.ren (hB : ∀ id, id < B → hd' id = hd id) (hBn : B ≤ nx) (hρ : ∀ o j, lkp ρ o = some j → hd' j = hd o ∧ j < nx) : ∀ (xs : List AV) (vs : List Value), SV hd n w I xs vs → SV hd' nx w I (renL B ρ xs) vs
  | [], vs, h => by simpa only [SV, renL] using h
  | x :: xs, vs, h => by
    simp only [SV, renL] at h ⊢
    obtain ⟨v, vs', rfl, hx, hxs⟩ := h
    exact ⟨v, vs', rfl, S.ren hB hBn hρ x v hx, SV.ren hB hBn hρ xs vs' hxs⟩
end

theorem canSlots_S (hS : ∀ (x : AV) (v : Value), S hd n w I x v → S hd' nx w I (X.ren B ρ x) v) (ho : ∀ id ∈ ids, hd' id = .slice none 0 0 ∧ id < nx) : ∀ (acts : List Keepd) (xs : List AV) (vs : Nat → Value), (∀ i ∈ objIds acts, i ∈ ids) → (∀ t, S hd n w I (xs.getD t .any) (vs t)) →
    ∀ t, S hd' nx w I ((canSlots B ρ acts xs).getD t .any) (vs t)
  | _, [], vs, _, _, t => by simp [canSlots, S]
  | [], x :: xs, vs, hi, h, 0 => by simp [canSlots, S]
  | [], x :: xs, vs, hi, h, t + 1 => by
    have := canSlots_S hS ho [] xs (fun t => vs (t + 1)) hi (fun t => by simpa using h (t + 1)) t
    simpa [canSlots] using this
  | .drop :: as, x :: xs, vs, hi, h, 0 => by simp [canSlots, S]
  | .drop :: as, x :: xs, vs, hi, h, t + 1 => by
    have := canSlots_S hS ho as xs (fun t => vs (t + 1)) hi (fun t => by simpa using h (t + 1)) t
    simpa [canSlots] using this
  | .keep :: as, x :: xs, vs, hi, h, 0 => by
    have := hS x (vs 0) (by simpa using h 0)
    simpa [canSlots] using this
  | .keep :: as, x :: xs, vs, hi, h, t + 1 => by
    have := canSlots_S hS ho as xs (fun t => vs (t + 1)) hi (fun t => by simpa using h (t + 1)) t
    simpa [canSlots] using this
  | .obj id sz :: as, x :: xs, vs, hi, h, 0 => by
    have h0 : S hd n w I x (vs 0) := by simpa using h 0
    have h1 := hS x (vs 0) h0
    cases x
    case nil =>
      simp only [S] at h0
      obtain ⟨e, hlt⟩ := ho id (hi id (by simp [objIds]))
      simp only [canSlots, List.getD_cons_zero, S, HdOf]
      exact ⟨hlt, _, rfl, .inr ⟨rfl, none, h0⟩⟩
    all_goals (simpa [canSlots] using h1)
  | .obj id sz :: as, x :: xs, vs, hi, h, t + 1 => by
    have := canSlots_S hS ho as xs (fun t => vs (t + 1)) (fun i hi' => hi i (by simp [objIds, hi'])) (fun t => by simpa using h (t + 1)) t
    cases x <;> simpa [canSlots] using this
theorem canSlots_length : ∀ (acts : List Keepd) (xs : List AV), (canSlots B ρ acts xs).length = xs.length
  | _, [] => by simp [canSlots]
  | [], x :: xs => by simp [canSlots, canSlots_length [] xs]
  | .drop :: as, x :: xs => by simp [canSlots, canSlots_length as xs]
  | .keep :: as, x :: xs => by simp [canSlots, canSlots_length as xs]
  | .obj id sz :: as, x :: xs => by cases x <;> simp [canSlots, canSlots_length as xs]
end

section
variable {G : Glo} {M I : Nat → Prop} {s : St} {hd : Nat → Value} {Fp : Nat → List Nat} {a : Act} {w : World}
/-- The state by new names. -/
theorem SR.canon (h : SR G M I s hd Fp a w) {B : Nat} {acts : List Keepd} {ρ : List (Nat × Nat)} {nx : Nat} (hok : rhoOk B ρ (objIds acts) nx = true) :
    ∃ hd' Fp', SR G M I (X.canon B acts ρ nx s) hd' Fp' a w ∧ ∀ id, id < B → hd' id = hd id := by
  obtain ⟨h1, h2, h3, h4, h5⟩ := rho_spec hok
  let hd' : Nat → Value := fun j => match srcOf B ρ j with | some id => hd id | none => .slice none 0 0
  let Fp' : Nat → List Nat := fun j => match srcOf B ρ j with | some id => Fp id | none => []
  have hB : ∀ id, id < B → hd' id = hd id := fun id hid => by simp only [hd', srcOf, if_pos hid]
  have hρ : ∀ o j, lkp ρ o = some j → hd' j = hd o ∧ j < nx := fun o j e => by
    have hm := lkp_mem e
    obtain ⟨g1, g2, g3⟩ := h2 o j hm
    refine ⟨?_, g3⟩
    simp only [hd', srcOf, if_neg (Nat.not_lt.2 g2), lkr_of_mem h3 hm]
  have hobj : ∀ id ∈ objIds acts, hd' id = .slice none 0 0 ∧ id < nx := fun id hid => by
    obtain ⟨g1, g2, g3⟩ := h5 id hid
    exact ⟨by simp only [hd', srcOf, if_neg (Nat.not_lt.2 g1), lkr_none g3], g2⟩
  have hS := fun x v hx => S.ren (B := B) (ρ := ρ) (hd := hd) (hd' := hd') (n := s.next) (w := w) (I := I) hB h1 hρ x v hx
  -- every object: one of before, by another name, or a new empty slice
  have hget2 : ∀ j u, hget (canObjs acts s.tmps ++ (canR B ρ s.heap ρ ++ canB B ρ s.heap)) j = some u → (srcOf B ρ j = none ∧ j < nx ∧ ∃ sz, u = .slice sz []) ∨ ∃ id u0, srcOf B ρ j = some id ∧ j < nx ∧ hget s.heap id = some u0 ∧ u = renO B ρ u0 := by
    intro j u hu
    rw [hget_append] at hu
    split at hu
    · rename_i o e
      simp only [Option.some.injEq] at hu; subst hu
      obtain ⟨g1, sz, g2⟩ := canObjs_get e
      obtain ⟨q1, q2, q3⟩ := h5 j g1
      exact .inl ⟨by simp only [srcOf, if_neg (Nat.not_lt.2 q1), lkr_none q3], q2, sz, g2⟩
    · rw [hget_append] at hu
      split at hu
      · rename_i o e
        simp only [Option.some.injEq] at hu; subst hu
        obtain ⟨id, u0, g1, g2, g3⟩ := canR_get e
        obtain ⟨q1, q2, q3⟩ := h2 id j g1
        exact .inr ⟨id, u0, by simp only [srcOf, if_neg (Nat.not_lt.2 q2), lkr_of_mem h3 g1], q3, g2, g3⟩
      · obtain ⟨g1, u0, g2, g3⟩ := canB_get hu
        exact .inr ⟨j, u0, by simp only [srcOf, if_pos g1], Nat.lt_of_lt_of_le g1 h1, g2, g3⟩
  have hinj : ∀ j1 j2 id, srcOf B ρ j1 = some id → srcOf B ρ j2 = some id → j1 = j2 := by
    intro j1 j2 id e1 e2
    simp only [srcOf] at e1 e2
    split at e1 <;> split at e2
    · simp only [Option.some.injEq] at e1 e2; omega
    · simp only [Option.some.injEq] at e1
      have := (h2 _ _ (lkr_mem e2)).1
      omega
    · simp only [Option.some.injEq] at e2
      have := (h2 _ _ (lkr_mem e1)).1
      omega
    · exact inj_of_mem h4 (lkr_mem e1) (lkr_mem e2)
  have hfp : ∀ j u, hget (canObjs acts s.tmps ++ (canR B ρ s.heap ρ ++ canB B ρ s.heap)) j = some u → ∀ b ∈ Fp' j, ∃ id u0, srcOf B ρ j = some id ∧ hget s.heap id = some u0 ∧ b ∈ Fp id := by
    intro j u hu b hb
    rcases hget2 j u hu with ⟨e, _, _⟩ | ⟨id, u0, e, _, hu0, _⟩
    · simp only [Fp', e] at hb; cases hb
    · simp only [Fp', e] at hb; exact ⟨id, u0, e, hu0, hb⟩
  refine ⟨hd', Fp', ⟨⟨fun j u hu => ?_, fun b hb => ⟨(h.heap.imm b hb).1, fun j u hu hm => ?_⟩, fun j u hu => ?_, fun j u j' u' hu hu' hne b hb hb' => ?_, fun j u hu b hb => ?_, fun j u hu => ?_, h.heap.news, h.heap.glo⟩, by simp [X.canon, canSlots_length, h.len], fun t => ?_, h.defers⟩, hB⟩
  · rcases hget2 j u hu with ⟨e, _, sz, rfl⟩ | ⟨id, u0, e, _, hu0, rfl⟩
    · simp only [hd', Fp', e, ObjR, T]
      exact .inl ⟨trivial, ⟨none, rfl⟩, trivial⟩
    · have hq := h.heap.obj id u0 hu0
      simp only [hd', Fp', e]
      cases u0 with
      | slice sz es => exact hq
      | var cs =>
        obtain ⟨b, cur, e0, g1, g2, g3, g4⟩ := hq
        exact ⟨b, cur, e0, g1, g2, SL.ren hB h1 hρ _ _ g3, g4⟩
  · obtain ⟨id, u0, _, hu0, hb'⟩ := hfp j u hu b hm
    exact (h.heap.imm b hb).2 id u0 hu0 hb'
  · rcases hget2 j u hu with ⟨e, _, _⟩ | ⟨id, u0, e, _, hu0, _⟩
    · simp only [Fp', e]; exact List.nodup_nil
    · simp only [Fp', e]; exact h.heap.nodup id u0 hu0
  · obtain ⟨id, u0, e, hu0, hbi⟩ := hfp j u hu b hb
    obtain ⟨id', u0', e', hu0', hbi'⟩ := hfp j' u' hu' b hb'
    by_cases hid : id = id'
    · subst hid; exact hne (hinj j j' id e e')
    · exact h.heap.disj id u0 id' u0' hu0 hu0' hid b hbi hbi'
  · obtain ⟨id, u0, e, hu0, hbi⟩ := hfp j u hu b hb
    exact h.heap.mine id u0 hu0 b hbi
  · rcases hget2 j u hu with ⟨_, hl, _⟩ | ⟨id, u0, e, hl, _⟩
    · exact hl
    · exact hl
  · exact canSlots_S (ids := objIds acts) hS hobj acts s.tmps (fun t => a.tmps.getD t undef) (fun i hi => hi) h.slots t
end
theorem eqs_canon : True := by
  have := @canon.eq_1
  trivial
theorem eqs_canSlots : True := by
  have := @canSlots.eq_1
  trivial
theorem eqs_canObjs : True := by
  have := @canObjs.eq_1
  trivial
theorem eqs_canR : True := by
  have := @canR.eq_1
  trivial
theorem eqs_canB : True := by
  have := @canB.eq_1
  trivial
end Go.Proofs.YtlddjlchgibdfaaDoor.X
set_option linter.unusedVariables false
set_option linter.unusedSimpArgs false
namespace Go.Proofs.YtlddjlchgibdfaaDoor.X
open Go

/-! ### Operations that only read, and operations that leave the older blocks alone -/
def quietOp : Op → Bool
  | .move _ | .assign _ | .pick .. | .binOp .. | .unOp .. | .convert .. | .extract .. | .nilCheck _ | .fieldAddr .. | .indexAddr .. | .load .. => true
  | .call c => match c.callee with | .builtin .len => true | _ => false
  | _ => false
def isLoad : Op → Bool
  | .load .. => true
  | _ => false
def keepOp (md : FuncId → Bool) : Op → Bool
  | .alloc _ | .box .. | .buildSlice .. | .makeSlice .. | .makeFunc .. | .index .. | .build .. => true
  | .call c => match c.callee with | .builtin .len => true | .value (.func g) => !md g | _ => false
  | o => quietOp o

section
variable {P : Program} {G : Glo} {C : CT} {md : FuncId → Bool} {M I : Nat → Prop} {s : St} {hd : Nat → Value} {Fp : Nat → List Nat} {a : Act} {w : World} {K : AV → St → Prop} {o : Oper} {Q : Exit → Act → World → Prop}

theorem run_val {m : Sem Value} {v : Value} {w : World} (h : m.run P w = .ok v w) : (do pure (Next.value (← m)) : Sem Next).run P w = .ok (.value v) w := by simp [h]

/-- An operation that only reads yields the same value in every world whose older blocks are these. -/
theorem opK_quiet (h : SR G M I s hd Fp a w) (hq : quietOp o.op = true) (hk : opK P G C md o.op s K) :
    ∃ v av, (∀ w', (isLoad o.op = true → SameB w w') → (execOp a.eval o).run P w' = .ok (.value v) w') ∧ K av s ∧ S hd s.next w I av v := by
  unfold opK at hk
  split at hk
  case h_1 x ho => exact ⟨_, _, fun w' _ => by simp [execOp, ho], hk, ev_sound h x⟩
  case h_2 x ho => exact ⟨_, _, fun w' _ => by simp [execOp, ho], hk, ev_sound h x⟩
  case h_3 c x y ho =>
    have hc := ev_sound h c
    split at hk
    · rename_i e; rw [e] at hc; simp only [S] at hc
      exact ⟨a.eval x, _, fun w' _ => by simp [execOp, ho, hc, asBool], hk, ev_sound h x⟩
    · rename_i e; rw [e] at hc; simp only [S] at hc
      exact ⟨a.eval y, _, fun w' _ => by simp [execOp, ho, hc, asBool], hk, ev_sound h y⟩
    · exact hk.elim
  case h_4 op t x y t2 ho =>
    obtain ⟨v, av, h1, h2, h3⟩ := binK_sound hk (ev_sound h x) (ev_sound h y)
    refine ⟨v, av, fun w' _ => ?_, h2, h3⟩
    have hg : (eqGuard op t x y (a.eval x) (a.eval y)).run P w' = .ok () w' := by
      have hx := ev_sound h x
      unfold binK at hk
      split at hk
      · rename_i e1 _; rw [e1] at hx; simp only [S] at hx; rw [hx]; exact eqGuard_idle (by simp) (by simp)
      · rename_i e1 _; rw [e1] at hx; simp only [S] at hx; rw [hx]; exact eqGuard_idle (by simp) (by simp)
      · rename_i e1 _; rw [e1] at hx; simp only [S] at hx; rw [hx]; exact eqGuard_idle (by simp) (by simp)
      · rename_i e1 _; rw [e1] at hx; simp only [S, T] at hx; obtain ⟨_, A, c, hx, _⟩ := hx; rw [hx]; exact eqGuard_idle (by simp) (by simp)
      · rename_i e1 _; rw [e1] at hx; simp only [S] at hx; rw [hx]; exact eqGuard_idle (by simp) (by simp)
      · rename_i e1 _; rw [e1] at hx; simp only [S] at hx
        obtain ⟨_, h0, _, hw⟩ := hx
        rcases hw with ⟨b, o, n, c, c', _, hx, _⟩ | ⟨_, A, hx⟩ <;> rw [hx] <;> exact eqGuard_idle (by simp) (by simp)
      · exact hk.elim
    simp [execOp, ho, hg, h1]
  case h_5 op t x ho =>
    obtain ⟨v, av, h1, h2, h3⟩ := unK_sound (P := P) hk (ev_sound h x)
    exact ⟨v, av, fun w' _ => by simp [execOp, ho, h1], h2, h3⟩
  case h_6 t t' x ho =>
    obtain ⟨v, av, h1, h2, h3⟩ := convK_sound hk (ev_sound h x)
    exact ⟨v, av, fun w' _ => by simp [execOp, ho, h1], h2, h3⟩
  case h_7 x i ho =>
    have hx := ev_sound h x
    split at hk
    · rename_i vs e
      rw [e] at hx
      simp only [S] at hx
      obtain ⟨us, hu, hs⟩ := hx
      split at hk
      · rename_i y hy
        obtain ⟨v, hv, hS⟩ := hs.get hy
        have : us[i]? = some v := by simpa using hv
        exact ⟨v, y, fun w' _ => by simp [execOp, ho, Instr.extract, hu, this], hk, hS⟩
      · exact hk.elim
    · exact hk.elim
  case h_8 x ho =>
    have hx := ev_sound h x
    split at hk
    · rename_i id sub sz i c e
      rw [e] at hx
      have hx' := hx
      simp only [S] at hx
      obtain ⟨_, h0, b, o', _, _, hu⟩ := hx
      exact ⟨a.eval x, _, fun w' _ => by simp [execOp, ho, hu], hk, hx'⟩
    · rename_i cs e
      rw [e] at hx
      have hx' := hx
      simp only [S, T] at hx
      obtain ⟨_, b, o', vs, hu, _⟩ := hx
      exact ⟨a.eval x, _, fun w' _ => by simp [execOp, ho, hu], hk, hx'⟩
    · exact hk.elim
  case h_10 t x j ho =>
    obtain ⟨v, av, h1, h2, h3⟩ := faddrK_sound hk (ev_sound h x)
    exact ⟨v, av, fun w' _ => by simp [execOp, ho, h1], h2, h3⟩
  case h_11 t x i ho =>
    obtain ⟨v, av, h1, h2, h3⟩ := iaddrK_sound hk (ev_sound h x) (ev_sound h i)
    exact ⟨v, av, fun w' _ => by simp [execOp, ho, h1], h2, h3⟩
  case h_14 t x ho =>
    obtain ⟨v, av, h1, h2, h3⟩ := loadK_sound h hk (ev_sound h x)
    exact ⟨v, av, fun w' hw => by simp [execOp, ho, h1 w' (hw (by rw [ho]; rfl))], h2, h3⟩
  case h_21 c ho =>
    obtain ⟨callee, args, argTypes⟩ := c
    simp only at hk
    split at hk
    · rename_i x t ts e2 e3
      have ea : args = #[x] := by apply Array.ext'; simpa using e2
      subst ea
      obtain ⟨v, av, h1, h2, h3⟩ := lenK_sound (ts := argTypes) (ty := o.type) (by rw [← Array.getElem?_toList, e3]; rfl) hk (ev_sound h x)
      exact ⟨v, av, fun w' _ => by simp [execOp, ho, resolve, invoke, builtin, h1], h2, h3⟩
    all_goals first | exact hk.elim | (simp [ho, quietOp] at hq; done)
  all_goals (rename_i ho; simp [ho, quietOp] at hq)

theorem opK_keeps (h : SR G M I s hd Fp a w) (hC : Sound P G C) (hq : keepOp md o.op = true) (hk : opK P G C md o.op s K) : o.wp P a w (fun a' w' => StepQ G M I s hd w o.dst K a' w' ∧ SameB w w') Q := by
  have quiet : quietOp o.op = true → o.wp P a w (fun a' w' => StepQ G M I s hd w o.dst K a' w' ∧ SameB w w') Q := by
    intro hq
    obtain ⟨v, av, h1, h2, h3⟩ := opK_quiet h hq hk
    unfold Oper.wp
    rw [h1 w (fun _ => .refl w)]
    exact ⟨⟨av, s, I, hd, Fp, h2, h.put o.dst h3, Ext.refl _ _ _ _ _, Nat.le_refl _⟩, .refl w⟩
  by_cases hq' : quietOp o.op = true
  · exact quiet hq'
  have step : ∀ {v : Value}, (execOp a.eval o).run P w = .ok (.value v) w → o.wp P a w (StepQ G M I s hd w o.dst K) Q → o.wp P a w (fun a' w' => StepQ G M I s hd w o.dst K a' w' ∧ SameB w w') Q := by
    intro v hr hw
    unfold Oper.wp at hw ⊢
    rw [hr] at hw ⊢
    exact ⟨hw, .refl w⟩
  have grow : ∀ {m : Sem Value}, execOp a.eval o = (do pure (.value (← m))) → (∃ v w', m.run P w = .ok v w' ∧ OpRes G M I s hd a w K (.value v) w' ∧ SameB w w') → o.wp P a w (fun a' w' => StepQ G M I s hd w o.dst K a' w' ∧ SameB w w') Q := by
    intro m he ⟨v, w', h1, h2, h3⟩
    have hr : (execOp a.eval o).run P w = .ok (.value v) w' := by rw [he]; simp [h1]
    have := wp_of_res (P := P) (Q := Q) hr h2
    unfold Oper.wp at this ⊢
    rw [hr] at this ⊢
    exact ⟨this, h3⟩
  have hw := opK_sound (Q := Q) h hC hk
  have hk' := hk
  unfold opK at hk
  split at hk
  case h_9 f first caps ho =>
    obtain ⟨hf, hk, hc⟩ := hk
    have hfe : first = #[] := Array.eq_empty_of_size_eq_zero hf
    subst hfe
    exact step (v := .func (.func f) #[] (caps.map a.eval)) (by simp [execOp, ho, Instr.makeFunc]) hw
  case h_12 t x i ho =>
    obtain ⟨v, av, h1, h2, h3⟩ := idxK_sound hk (ev_sound h x) (ev_sound h i)
    exact step (v := v) (by simp [execOp, ho, h1]) hw
  case h_16 t ho => exact grow (m := Instr.alloc t true (.tuple #[])) (by simp only [execOp, ho]) (allocK_sound h hk)
  case h_17 t x ho => exact grow (m := Instr.box t (a.eval x)) (by simp only [execOp, ho]) (boxK_sound h hk (ev_sound h x))
  case h_18 t ps ho =>
    obtain ⟨v, av, h1, h2, h3⟩ := buildK_sound (P := P) (t := t) hk (parts_of h ps.toList)
    have e : (ps.toList.map fun p => (p.1, a.eval p.2)).toArray = ps.map fun (i, x) => (i, a.eval x) := by apply Array.ext'; simp
    rw [e] at h1
    exact step (v := v) (by simp only [execOp, ho]; exact run_val h1) hw
  case h_19 t n ps ho =>
    refine grow (m := Instr.buildSlice t n (ps.map fun (i, x) => (i, a.eval x))) (by simp only [execOp, ho]) ?_
    have := buildSliceK_sound (P := P) (t := t) h hk.2 (parts_of h ps.toList) (fun h0 => by rw [hk.1 h0]; rfl)
    have e : (ps.toList.map fun p => (p.1, a.eval p.2)).toArray = ps.map fun (i, x) => (i, a.eval x) := by apply Array.ext'; simp
    rw [e] at this
    exact this
  case h_20 t l c ho => exact grow (m := Instr.makeSlice t (a.eval l) (a.eval c)) (by simp only [execOp, ho]) (makeSliceK_sound h hk (ev_sound h l) (ev_sound h c))
  case h_21 c ho =>
    obtain ⟨callee, args, argTypes⟩ := c
    simp only at hk
    cases callee with
    | invoke r m => simp [ho, keepOp] at hq
    | builtin b => cases b <;> simp [ho, keepOp, quietOp] at hq hq'
    | value f =>
      cases f with
      | func g =>
        have hmd : md g = false := by simpa [ho, keepOp] using hq
        split at hk
        · rename_i e _ _; simp at e
        · rename_i e _ _; simp at e
        · rename_i e _; simp at e
        · rename_i e _; simp at e
        · rename_i f' e
          simp only [Callee.value.injEq] at e
          subst e
          have hne : ¬ md g = true := by rw [hmd]; simp
          simp only [ev, callK] at hk
          rw [if_neg hne] at hk
          simp only [List.append_nil] at hk
          have hrun : (execOp a.eval o).run P w = (callFunc g (args.map a.eval)).run P w := by
            simp [execOp, ho, resolve, Act.eval, Deferred.ofValue, invoke]
          have hx : SV hd s.next w I (args.toList.map (ev G s)) (args.map a.eval).toList := by
            rw [Array.toList_map]; exact evL_SV h args.toList
          split at hk
          · rename_i ts hfz
            obtain ⟨hok, r, hev, hK⟩ := hk
            exact call_pure' h hC hev hfz hok hK hx hrun
          · exact hk.elim
        · rename_i h1 h2 h3 h4 h5
          first | exact (h1 _ rfl).elim | exact (h2 _ rfl).elim | exact (h3 _ rfl).elim | exact (h4 _ rfl).elim | exact (h5 _ rfl).elim
      | tmp t => simp [ho, keepOp] at hq
      | const v => simp [ho, keepOp] at hq
      | global g => simp [ho, keepOp] at hq
  all_goals first | exact hk.elim | (rename_i ho; simp [ho, keepOp, quietOp] at hq hq')
end
end Go.Proofs.YtlddjlchgibdfaaDoor.X
set_option linter.unusedVariables false
set_option linter.unusedSimpArgs false
namespace Go.Proofs.YtlddjlchgibdfaaDoor.X
open Go

/-! ### A region: in which order its operations are walked -/
inductive Plan where
  | done
  | fail
  | op (i : Nat) (rest : Plan)
  | both (p q : Plan)
def Plan.text : List Nat → Plan
  | [] => .done
  | i :: r => .op i (Plan.text r)
def Plan.join : List Plan → Plan
  | [] => .done
  | p :: ps => match ps with
    | [] => p
    | _ => .both p (Plan.join ps)
def awaits (ops : Array Oper) (i : Nat) (W : List Nat) (j : Nat) : Bool :=
  match ops[j]? with
  | some o => o.after.any fun e => Region.binds .any e && (e.on == i || W.contains e.on)
  | none => false
def waitSet (ops : Array Oper) (listed : Array Bool) (i : Nat) : List Nat :=
  (List.range ops.size).foldl (fun W j => if !listed.getD j true && awaits ops i W j then j :: W else W) []
def freeOk (md : FuncId → Bool) (ops : Array Oper) (listed : Array Bool) (i : Nat) : Bool :=
  match ops[i]? with
  | none => false
  | some oi => quietOp oi.op && Region.noSelect ops && ((waitSet ops listed i).all fun j => !listed.getD j true && awaits ops i (waitSet ops listed i) j) &&
      (List.range ops.size).all fun j => j == i || listed.getD j true || (waitSet ops listed i).contains j || match ops[j]? with
        | some oj => oi.apart ops oj && (!isLoad oi.op || keepOp md oj.op)
        | none => true
def mkPlan (md : FuncId → Bool) (ops : Array Oper) : Nat → Array Bool → Plan
  | 0, listed => if (Region.ready .any ops listed).isEmpty then .done else .fail
  | fuel + 1, listed =>
    match (Region.ready .any ops listed).find? (freeOk md ops listed) with
    | some i => .op i (mkPlan md ops fuel (listed.setIfInBounds i true))
    | none => Plan.join ((Region.ready .any ops listed).map fun i => .op i (mkPlan md ops fuel (listed.setIfInBounds i true)))
def planOf (md : FuncId → Bool) (ops : Array Oper) (draw : Bool) : Plan :=
  if draw then mkPlan md ops ops.size (Array.replicate ops.size false) else Plan.text (List.range ops.size)

def opX (P : Program) (G : Glo) (C : CT) (md : FuncId → Bool) (ops : Array Oper) (o : Oper) (s : St) (K : St → Prop) : Prop :=
  match o.guard with
  | none => opK P G C md o.op s fun v s' => K (s'.put o.dst v)
  | some (j, want) => match (ops[j]?).bind (·.dst) with
    | none => False
    | some d => match s.tmps.getD d .any with
      | .bool b => (b = want → opK P G C md o.op (s.put (some d) (.bool want)) fun v s' => K (s'.put o.dst v)) ∧ (b = !want → K ((s.put (some d) (.bool !want)).put o.dst (.con undef)))
      | .con (.tuple a) => a = #[] ∧ K (s.put o.dst (.con undef))
      | _ => False
def runPlan (P : Program) (G : Glo) (C : CT) (md : FuncId → Bool) (ops : Array Oper) : Plan → St → (St → Prop) → Prop
  | .done, s, K => K s
  | .fail, _, _ => False
  | .op i r, s, K => match ops[i]? with
    | some o => opX P G C md ops o s fun s' => runPlan P G C md ops r s' K
    | none => False
  | .both p q, s, K => runPlan P G C md ops p s K ∧ runPlan P G C md ops q s K

/-- From a base state on. -/
def Post (G : Glo) (M I : Nat → Prop) (n : Nat) (hd : Nat → Value) (w : World) (K : St → Prop) (a' : Act) (w' : World) : Prop :=
  ∃ s' I' hd' Fp', K s' ∧ SR G M I' s' hd' Fp' a' w' ∧ Ext M I I' n hd hd' w w' ∧ n ≤ s'.next

section
variable {P : Program} {G : Glo} {C : CT} {md : FuncId → Bool} {M I : Nat → Prop} {s : St} {hd : Nat → Value} {Fp : Nat → List Nat} {a : Act} {w : World} {K : St → Prop} {o : Oper} {Q : Exit → Act → World → Prop} {ops : Array Oper}

theorem Post.from {M I I' : Nat → Prop} {n n' : Nat} {hd hd' : Nat → Value} {w w' : World} {K : St → Prop} {a2 : Act} {w2 : World} (hE : Ext M I I' n hd hd' w w') (hn : n ≤ n') (h : Post G M I' n' hd' w' K a2 w2) : Post G M I n hd w K a2 w2 := by
  obtain ⟨s', I2, hd2, Fp2, h1, h2, h3, h4⟩ := h
  exact ⟨s', I2, hd2, Fp2, h1, h2, hE.trans (h3.less hn), Nat.le_trans hn h4⟩

theorem SR.know (h : SR G M I s hd Fp a w) {d : Nat} {b : Bool} (hb : a.tmps.getD d undef = .bool b) : SR G M I (s.put (some d) (.bool b)) hd Fp a w := by
  refine ⟨h.heap, by simp [St.put, h.len], fun t => ?_, h.defers⟩
  simp only [St.put, getD_set_eq]
  split
  · rename_i ht
    obtain ⟨rfl, _⟩ := ht
    simp only [S]; exact hb
  · exact h.slots t

theorem yield_bool {j d : Nat} {b : Bool} (hj : (ops[j]?).bind (·.dst) = some d) (hb : a.tmps.getD d undef = .bool b) : yielded ops a.tmps j = some b := by
  have : a.tmps[d]? = some (.bool b) := by
    rw [Array.getD_eq_getD_getElem?] at hb
    cases e : a.tmps[d]? with
    | none => rw [e] at hb; simp [undef] at hb
    | some v => rw [e] at hb; simp only [Option.getD_some] at hb; rw [hb]
  simp [yielded, hj, this]
theorem yield_undef {j d : Nat} (hj : (ops[j]?).bind (·.dst) = some d) (hb : a.tmps.getD d undef = undef) : yielded ops a.tmps j = none := by
  have : ∀ b, a.tmps[d]? ≠ some (.bool b) := by
    intro b e
    rw [Array.getD_eq_getD_getElem?, e] at hb
    simp [undef] at hb
  simp only [yielded, hj, Option.bind_some]
  try split
  all_goals simp_all

theorem S_bool_inv {n : Nat} {b : Bool} {v : Value} (h : S hd n w I (.bool b) v) : v = .bool b := by simpa only [S] using h

/-- The guard: wanted, or passed over. -/
theorem opX_cases (h : SR G M I s hd Fp a w) (hk : opX P G C md ops o s K) :
    (Region.wanted o (yielded ops a.tmps) = true ∧ ∃ s0, s0.next = s.next ∧ SR G M I s0 hd Fp a w ∧ opK P G C md o.op s0 fun v s' => K (s'.put o.dst v)) ∨
    (Region.wanted o (yielded ops a.tmps) = false ∧ ∃ s0, s0.next = s.next ∧ SR G M I s0 hd Fp (a.put o.dst undef) w ∧ K s0) := by
  have hu : ∀ {s0 : St}, SR G M I s0 hd Fp a w → SR G M I (s0.put o.dst (.con undef)) hd Fp (a.put o.dst undef) w := fun h0 => h0.put o.dst (by simp only [S])
  unfold opX at hk
  split at hk
  · rename_i hg
    exact .inl ⟨by simp [Region.wanted, hg], s, rfl, h, hk⟩
  · rename_i j want hg
    split at hk
    · exact hk.elim
    · rename_i d hd'
      split at hk
      · rename_i b e
        have hb := h.slots d
        rw [e] at hb
        have hb := S_bool_inv hb
        have hy := yield_bool hd' hb
        by_cases hbw : b = want
        · subst hbw
          exact .inl ⟨by simp [Region.wanted, hg, hy], s.put (some d) (.bool b), rfl, h.know hb, hk.1 rfl⟩
        · have hbn : b = !want := by cases b <;> cases want <;> simp_all
          exact .inr ⟨by simp [Region.wanted, hg, hy, hbw], (s.put (some d) (.bool !want)).put o.dst (.con undef), rfl, hu (h.know (hbn ▸ hb)), hk.2 hbn⟩
      · rename_i arr e
        obtain ⟨rfl, hk⟩ := hk
        have hb := h.slots d
        rw [e] at hb
        simp only [S] at hb
        have hy := yield_undef hd' hb
        exact .inr ⟨by simp [Region.wanted, hg, hy], s.put o.dst (.con undef), rfl, hu h, hk⟩
      · exact hk.elim

theorem opX_sound (h : SR G M I s hd Fp a w) (hC : Sound P G C) {i : Nat} (hi : ops[i]? = some o) (hk : opX P G C md ops o s K) :
    wpOp P ops Q i (fun a' w' => Post G M I s.next hd w K a' w' ∧ (keepOp md o.op = true → SameB w w')) a w := by
  unfold wpOp
  simp only [hi]
  rcases opX_cases h hk with ⟨hw, s0, hn, h0, hk0⟩ | ⟨hw, s0, hn, h0, hk0⟩
  · rw [if_pos hw]
    left
    have key : ∀ {a' w'}, StepQ G M I s0 hd w o.dst (fun v s' => K (s'.put o.dst v)) a' w' → Post G M I s.next hd w K a' w' := by
      rintro a' w' ⟨av, s', I', hd', Fp', h1, h2, h3, h4⟩
      rw [hn] at h3 h4
      refine ⟨_, I', hd', Fp', h1, h2, h3, h4⟩
    by_cases hkp : keepOp md o.op = true
    · exact Oper.wp_mono (fun a' w' hh => ⟨key hh.1, fun _ => hh.2⟩) (opK_keeps h0 hC hkp hk0)
    · exact Oper.wp_mono (fun a' w' hh => ⟨key hh, fun e => absurd e hkp⟩) (opK_sound h0 hC hk0)
  · rw [if_neg (by rw [hw]; simp)]
    exact ⟨⟨s0, I, hd, Fp, hk0, h0, Ext.refl _ _ _ _ _, by omega⟩, fun _ => .refl w⟩

theorem opX_quiet (h : SR G M I s hd Fp a w) (hq : quietOp o.op = true) (hk : opX P G C md ops o s K) :
    ∃ v s', YieldsIf P ops (fun w' => isLoad o.op = true → SameB w w') o v a ∧ K s' ∧ SR G M I s' hd Fp (a.put o.dst v) w ∧ s'.next = s.next := by
  rcases opX_cases h hk with ⟨hw, s0, hn, h0, hk0⟩ | ⟨hw, s0, hn, h0, hk0⟩
  · obtain ⟨v, av, h1, h2, h3⟩ := opK_quiet h0 hq hk0
    refine ⟨v, s0.put o.dst av, .inl ⟨hw, h1⟩, h2, h0.put o.dst h3, ?_⟩
    simpa [St.put] using hn
  · exact ⟨undef, s0, .inr ⟨hw, rfl⟩, hk0, h0, hn⟩

/-- Any order; what a keeping operation leaves is kept. -/
def wpAnyR (P : Program) (md : FuncId → Bool) (ops : Array Oper) (Q : Exit → Act → World → Prop) : Nat → Array Bool → Act → World → Prop
  | 0, listed, a, w => Region.ready .any ops listed = [] ∧ Q .normal a w
  | fuel + 1, listed, a, w =>
    (Region.ready .any ops listed = [] → Q .normal a w) ∧
    ∀ i ∈ Region.ready .any ops listed, wpOp P ops Q i (fun a' w' => (∀ o, ops[i]? = some o → keepOp md o.op = true → SameB w w') ∧ wpAnyR P md ops Q fuel (listed.setIfInBounds i true) a' w') a w
theorem wpAny_of_R : ∀ (fuel : Nat) (listed : Array Bool) (a : Act) (w : World), wpAnyR P md ops Q fuel listed a w → wpAny P .any ops Q fuel listed a w
  | 0, _, _, _, h => h
  | fuel + 1, _, _, _, h => ⟨h.1, fun i hi => wpOp_mono (fun a' w' h' => wpAny_of_R fuel _ a' w' h'.2) (h.2 i hi)⟩

theorem listed_no {listed : Array Bool} {i : Nat} (h0 : listed.getD i true = false) (h1 : listed.getD i false = true) : False := by
  rcases Nat.lt_or_ge i listed.size with h' | h'
  · simp [h'] at h0 h1; rw [h0] at h1; cases h1
  · simp [Array.getElem?_eq_none h'] at h1

theorem wpAnyR_first {i : Nat} {oi : Oper} {v : Value} {S : World → Prop} (W : List Nat) (hi : ops[i]? = some oi) (hsel : ∀ (j : Nat) (o : Oper) cs b, ops[j]? = some o → o.op ≠ .select cs b)
    (hQ : ∀ c a w, ¬ Q (.panic c) a w) (hW : ∀ j ∈ W, awaits ops i W j = true) :
    ∀ (fuel : Nat) (listed : Array Bool) (a : Act) (w : World), (∀ j ∈ W, listed.getD j true = false) →
      (∀ j oj, ops[j]? = some oj → j ≠ i → listed.getD j true = false → j ∉ W → oi.apart ops oj = true ∧ ∀ w w', S w → (keepOp md oj.op = true → SameB w w') → S w') →
      i ∈ Region.ready .any ops listed → YieldsIf P ops S oi v a → S w →
      wpAnyR P md ops Q fuel (listed.setIfInBounds i true) (a.put oi.dst v) w → wpAnyR P md ops Q (fuel + 1) listed a w := by
  intro fuel
  induction fuel with
  | zero =>
    intro listed a w _ _ hr hy hS H
    refine ⟨fun h => (by rw [h] at hr; cases hr), fun j hj => ?_⟩
    by_cases hji : j = i
    · subst hji; exact hy.wpOp hi hS ⟨fun _ _ _ => .refl w, H⟩
    · have := ready_mono hj hji
      rw [H.1] at this
      cases this
  | succ fuel ih =>
    intro listed a w hWl hfree hr hy hS H
    refine ⟨fun h => (by rw [h] at hr; cases hr), fun j hj => ?_⟩
    by_cases hji : j = i
    · subst hji; exact hy.wpOp hi hS ⟨fun _ _ _ => .refl w, H⟩
    · have h1 := H.2 j (ready_mono hj hji)
      obtain ⟨hjun, oj, hoj, hall⟩ := mem_ready.1 hj
      have hjW : j ∉ W := by
        intro hm
        have := hW j hm
        simp only [awaits, hoj] at this
        obtain ⟨e, he, hb⟩ := Array.any_eq_true'.1 this
        simp only [Bool.and_eq_true, Bool.or_eq_true, beq_iff_eq, List.contains_eq_mem, decide_eq_true_eq] at hb
        have hl := hall e he hb.1
        rcases hb.2 with hb2 | hb2
        · rw [hb2] at hl; exact listed_no (mem_ready.1 hr).1 hl
        · exact listed_no (hWl _ hb2) hl
      obtain ⟨hap, hkeep⟩ := hfree j oj hoj hji hjun hjW
      have h2 := wpOp_putIf hoj hap (fun cs b => hsel i oi cs b hi) (fun cs b => hsel j oj cs b hoj) (fun c a w hq => (hQ c _ _ hq).elim) hy h1
      have hun' : ∀ {k : Nat}, (listed.setIfInBounds j true).getD k true = false → listed.getD k true = false := fun {k} hun => by
        by_cases hjk : j = k
        · subst hjk; exact hjun
        · rw [getD_set_ne true hjk] at hun; exact hun
      refine wpOp_mono (fun a' w' h3 => ⟨fun o ho hk => h3.2.1 o ho hk, ih (listed.setIfInBounds j true) a' w' ?_ (fun k ok hk hki hun hno => hfree k ok hk hki (hun' hun) hno) (ready_mono hr (Ne.symm hji)) h3.1 (hkeep w w' hS (fun e => h3.2.1 oj hoj e)) ?_⟩) h2
      · intro k hk
        have hne : j ≠ k := by rintro rfl; exact hjW hk
        rw [getD_set_ne true hne]; exact hWl k hk
      · rw [Array.setIfInBounds_comm _ _ hji]
        exact h3.2.2

theorem Plan.join_run : ∀ {ps : List Plan} {p : Plan}, p ∈ ps → ∀ {s : St} {K : St → Prop}, runPlan P G C md ops (Plan.join ps) s K → runPlan P G C md ops p s K
  | [], p, h, _, _, _ => by cases h
  | [q], p, h, s, K, hr => by
    simp only [List.mem_singleton] at h; subst h
    simpa only [Plan.join] using hr
  | q :: q2 :: ps, p, h, s, K, hr => by
    simp only [Plan.join, runPlan] at hr
    rcases List.mem_cons.1 h with rfl | h
    · exact hr.1
    · exact Plan.join_run h hr.2

theorem plan_any (hC : Sound P G C) {n : Nat} {hd0 : Nat → Value} {w0 : World} {I0 : Nat → Prop} (hQ : ∀ c a w, ¬ Q (.panic c) a w) (hK : ∀ a' w', Post G M I0 n hd0 w0 K a' w' → Q .normal a' w') :
    ∀ (fuel : Nat) (listed : Array Bool) (s : St) (I : Nat → Prop) (hd : Nat → Value) (Fp : Nat → List Nat) (a : Act) (w : World), SR G M I s hd Fp a w → Ext M I0 I n hd0 hd w0 w → n ≤ s.next →
      runPlan P G C md ops (mkPlan md ops fuel listed) s K → wpAnyR P md ops Q fuel listed a w := by
  intro fuel
  induction fuel with
  | zero =>
    intro listed s I hd Fp a w h hE hn hp
    simp only [mkPlan] at hp
    split at hp
    · rename_i he
      exact ⟨List.isEmpty_iff.1 he, hK _ _ ⟨s, I, hd, Fp, hp, h, hE, hn⟩⟩
    · exact hp.elim
  | succ fuel ih =>
    intro listed s I hd Fp a w h hE hn hp
    simp only [mkPlan] at hp
    split at hp
    · rename_i i hfind
      have hmem := List.mem_of_find?_eq_some hfind
      have hfree := List.find?_some hfind
      simp only [freeOk] at hfree
      split at hfree
      · cases hfree
      · rename_i oi hoi
        simp only [Bool.and_eq_true] at hfree
        obtain ⟨⟨⟨hq, hns⟩, hWs⟩, hall⟩ := hfree
        simp only [runPlan, hoi] at hp
        obtain ⟨v, s', hy, hK', h', hn'⟩ := opX_quiet h hq hp
        have hWs' : ∀ j ∈ waitSet ops listed i, listed.getD j true = false ∧ awaits ops i (waitSet ops listed i) j = true := fun j hj => by
          have := List.all_eq_true.1 hWs j hj
          simpa only [Bool.and_eq_true, Bool.not_eq_true'] using this
        refine wpAnyR_first (S := fun w' => isLoad oi.op = true → SameB w w') (waitSet ops listed i) hoi (Region.noSelect_spec hns) hQ (fun j hj => (hWs' j hj).2) fuel listed a w (fun j hj => (hWs' j hj).1) ?_ hmem hy (fun _ => .refl w)
          (ih _ s' I hd Fp _ w h' hE (by omega) hK')
        intro j oj hoj hji hun hnW
        have := List.all_eq_true.1 hall j (List.mem_range.2 (Array.getElem?_eq_some_iff.1 hoj).1)
        simp only [hoj, hun, Bool.or_eq_true, beq_iff_eq, List.contains_eq_mem, decide_eq_true_eq, Bool.and_eq_true, Bool.not_eq_true'] at this
        rcases this with ((h1 | h1) | h1) | ⟨h1, h2⟩
        · exact absurd h1 hji
        · cases h1
        · exact absurd h1 hnW
        · refine ⟨h1, fun w1 w2 hS hk hl => ?_⟩
          rcases h2 with h2 | h2
          · rw [hl] at h2; cases h2
          · exact (hS hl).trans (hk h2)
    · rename_i hfind
      refine ⟨fun hr => ?_, fun i hi => ?_⟩
      · rw [hr] at hp
        simp only [List.map_nil, Plan.join, runPlan] at hp
        exact hK _ _ ⟨s, I, hd, Fp, hp, h, hE, hn⟩
      · have hp' := Plan.join_run (List.mem_map_of_mem (f := fun i => Plan.op i (mkPlan md ops fuel (listed.setIfInBounds i true))) hi) hp
        simp only [runPlan] at hp'
        split at hp'
        · rename_i o ho
          refine wpOp_mono (fun a' w' hh => ?_) (opX_sound (Q := Q) h hC ho hp')
          obtain ⟨⟨s', I', hd', Fp', g1, g2, g3, g4⟩, hkp⟩ := hh
          refine ⟨fun o' ho' hk => hkp (by rw [ho] at ho'; cases ho'; exact hk), ih _ s' I' hd' Fp' a' w' g2 (hE.trans (g3.less hn)) (Nat.le_trans hn g4) g1⟩
        · exact hp'.elim

theorem plan_text (hC : Sound P G C) {n : Nat} {hd0 : Nat → Value} {w0 : World} {I0 : Nat → Prop} (hK : ∀ a' w', Post G M I0 n hd0 w0 K a' w' → Q .normal a' w') :
    ∀ (l : List Nat) (s : St) (I : Nat → Prop) (hd : Nat → Value) (Fp : Nat → List Nat) (a : Act) (w : World), SR G M I s hd Fp a w → Ext M I0 I n hd0 hd w0 w → n ≤ s.next →
      runPlan P G C md ops (Plan.text l) s K → wpOps P ops Q l a w := by
  intro l
  induction l with
  | nil => intro s I hd Fp a w h hE hn hp; exact hK _ _ ⟨s, I, hd, Fp, hp, h, hE, hn⟩
  | cons i l ih =>
    intro s I hd Fp a w h hE hn hp
    rw [wpOps_cons]
    simp only [Plan.text, runPlan] at hp
    split at hp
    · rename_i o ho
      refine wpOp_mono (fun a' w' hh => ?_) (opX_sound (Q := Q) h hC ho hp)
      obtain ⟨⟨s', I', hd', Fp', g1, g2, g3, g4⟩, _⟩ := hh
      exact ih s' I' hd' Fp' a' w' g2 (hE.trans (g3.less hn)) (Nat.le_trans hn g4) g1
    · exact hp.elim

/-- The world behind a draw. -/
theorem SR.drew {w1 : World} (h : SR G M I s hd Fp a w) (hh : w1.heap = w.heap) : SR G M I s hd Fp a w1 :=
  h.move (h.heap.grown (by rw [hh]; exact Nat.le_refl _) (fun b _ => by rw [hh])) (h.heap.fr (by rw [hh]; exact Nat.le_refl _) (fun b _ => by rw [hh]))
end
end Go.Proofs.YtlddjlchgibdfaaDoor.X
set_option linter.unusedVariables false
set_option linter.unusedSimpArgs false
namespace Go.Proofs.YtlddjlchgibdfaaDoor.X
open Go

/-! ### Code -/
inductive XE where
  | normal
  | exit (id : Nat)
  | ret
def thenX (K : St → Prop) (Q : XE → St → Prop) : XE → St → Prop
  | .normal, s => K s
  | e, s => Q e s
def inBlockX (id : Nat) (Q : XE → St → Prop) : XE → St → Prop
  | .exit i, s => if i = id then Q .normal s else Q (.exit i) s
  | e, s => Q e s
def know (s : St) (c : Operand) (b : Bool) : St :=
  match c with
  | .tmp d => s.put (some d) (.bool b)
  | _ => s
def X (P : Program) (G : Glo) (C : CT) (md : FuncId → Bool) (B : Nat) : Code → St → (XE → St → Prop) → Prop
  | .skip, s, Q => Q .normal s
  | .label _, s, Q => Q .normal s
  | .region _ ops draw, s, Q => runPlan P G C md ops (planOf md ops draw) s (Q .normal)
  | .seq x y, s, Q => X P G C md B x s (thenX (fun s' => X P G C md B y s' Q) Q)
  | .cond c x y, s, Q => match ev G s c with
    | .bool b => (b = true → X P G C md B x (know s c true) Q) ∧ (b = false → X P G C md B y (know s c false) Q)
    | _ => False
  | .block id c, s, Q => X P G C md B c s (inBlockX id Q)
  | .loop c, s, Q => ∀ J : St → Prop, (∀ s, (∃ acts ρ nx, rhoOk B ρ (objIds acts) nx = true ∧ X P G C md B c (canon B acts ρ nx s) (thenX J Q)) → J s) → J s
  | .exit id, s, Q => Q (.exit id) s
  | .ret, s, Q => Q .ret s
  | _, _, _ => False

def resK (P : Program) (s : St) : List ResultVar → (List AV → Prop) → Prop
  | [], K => K []
  | .tmp t :: r, K => resK P s r fun vs => K (s.tmps.getD t .any :: vs)
  | .cell a t :: r, K => loadK P s.heap t (s.tmps.getD a .any) fun v => resK P s r fun vs => K (v :: vs)
def oneOr (K : AV → Prop) : List AV → Prop
  | [x] => K x
  | xs => K (.tup xs)
def bodyQ (P : Program) (rs : List ResultVar) (K : AV → Heap → Nat → Prop) : XE → St → Prop
  | .exit _, _ => False
  | _, s => resK P s rs (oneOr fun v => K v s.heap s.next)
/-- The body of a function, from its arguments. -/
def BodyX (P : Program) (G : Glo) (C : CT) (md : FuncId → Bool) (f : FuncId) (args : List AV) (h : Heap) (n : Nat) (K : AV → Heap → Nat → Prop) : Prop :=
  ∃ fn c, P.funcs[f]? = some fn ∧ fn.body = some c ∧ fn.name ≠ "runtime.NumGoroutine" ∧ X P G C md n c ⟨args ++ List.replicate (fn.ntmps - args.length) (.con undef), h, n⟩ (bodyQ P fn.results.toList K)
def Closed (P : Program) (G : Glo) (md : FuncId → Bool) (C : CT) : Prop := ∀ f args h n K, BodyX P G C md f args h n K → C f args h n K

def codeQ (G : Glo) (M I : Nat → Prop) (n : Nat) (hd : Nat → Value) (w : World) (Q : XE → St → Prop) : Exit → Act → World → Prop
  | .normal, a, w' => Post G M I n hd w (Q .normal) a w'
  | .exit id, a, w' => Post G M I n hd w (Q (.exit id)) a w'
  | .ret, a, w' => Post G M I n hd w (Q .ret) a w'
  | _, _, _ => False

section
variable {P : Program} {G : Glo} {C : CT} {md : FuncId → Bool} {M I I0 : Nat → Prop} {s : St} {hd hd0 : Nat → Value} {Fp : Nat → List Nat} {a : Act} {w w0 : World} {n0 : Nat}

/-- At the loop's head. -/
def loopWp (P : Program) (c : Code) (Q : Exit → Act → World → Prop) (a : Act) (w : World) : Prop :=
  ∀ (b : Frame) (k : List Item) (cs : List Frame), ∃ e a' w', Q e a' w' ∧ Arrives P (lone (b.at a (.code c :: .inLoop c :: k)) cs w) b k cs e a' w'
theorem loopWp_unroll {c : Code} {Q : Exit → Act → World → Prop} (h : c.wp P (Exit.then (loopWp P c Q) Q) a w) : loopWp P c Q a w := by
  intro b k cs
  obtain ⟨e, a₁, w₁, hq, harr⟩ := h b (.inLoop c :: k) cs
  cases e with
  | normal =>
    obtain ⟨e₂, a₂, w₂, hq₂, harr₂⟩ := hq b k cs
    exact ⟨e₂, a₂, w₂, hq₂, .of_steps (Steps.trans harr (.one step_inLoop)) harr₂⟩
  | exit id => exact ⟨_, a₁, w₁, hq, .pass (x := .inLoop c) rfl (fun _ _ => .inl (by simp)) harr⟩
  | goto l => exact ⟨_, a₁, w₁, hq, .pass (x := .inLoop c) rfl (fun _ _ => .inl (by simp)) harr⟩
  | ret => exact ⟨_, a₁, w₁, hq, .pass (x := .inLoop c) rfl (fun _ _ => .inl (by simp)) harr⟩
  | panic ch => exact ⟨_, a₁, w₁, hq, .pass (x := .inLoop c) rfl (fun _ _ => .inl (by simp)) harr⟩
  | outgrown => exact ⟨_, a₁, w₁, hq, .pass (x := .inLoop c) rfl (fun _ _ => .inl (by simp)) harr⟩
theorem loopWp_wp {c : Code} {Q : Exit → Act → World → Prop} (h : loopWp P c Q a w) : (Code.loop c).wp P Q a w := by
  intro b k cs
  obtain ⟨e, a', w', hq, harr⟩ := h b k cs
  exact ⟨e, a', w', hq, .of_steps (.one step_loop) harr⟩

theorem know_SR (h : SR G M I s hd Fp a w) {c : Operand} {b : Bool} (hb : a.eval c = .bool b) : SR G M I (know s c b) hd Fp a w := by
  cases c with
  | tmp d => exact h.know hb
  | _ => exact h
theorem know_next (s : St) (c : Operand) (b : Bool) : (know s c b).next = s.next := by cases c <;> rfl

theorem X_sound (hm : P.follows .mixedOrders = true) (hC : Sound P G C) : ∀ (c : Code) (s : St) (Q : XE → St → Prop) (I : Nat → Prop) (hd : Nat → Value) (Fp : Nat → List Nat) (a : Act) (w : World), SR G M I s hd Fp a w → Ext M I0 I n0 hd0 hd w0 w → n0 ≤ s.next →
    X P G C md n0 c s Q → c.wp P (codeQ G M I0 n0 hd0 w0 Q) a w := by
  intro c
  induction c with
  | skip => intro s Q I hd Fp a w h hE hn hx; exact wp_skip ⟨s, I, hd, Fp, hx, h, hE, hn⟩
  | label l => intro s Q I hd Fp a w h hE hn hx; exact wp_label ⟨s, I, hd, Fp, hx, h, hE, hn⟩
  | exit id => intro s Q I hd Fp a w h hE hn hx; exact wp_exit ⟨s, I, hd, Fp, hx, h, hE, hn⟩
  | ret => intro s Q I hd Fp a w h hE hn hx; exact wp_ret ⟨s, I, hd, Fp, hx, h, hE, hn⟩
  | region id ops draw =>
    intro s Q I hd Fp a w h hE hn hx
    simp only [X, planOf] at hx
    cases draw with
    | false =>
      simp only [Bool.false_eq_true, if_false] at hx
      exact wp_region (plan_text (K := Q .normal) hC (fun _ _ h => h) _ s I hd Fp a w h hE hn hx)
    | true =>
      simp only [if_true] at hx
      have hE' : Ext M I0 I n0 hd0 hd w0 { w with drawn := w.drawn + 1 } :=
        hE.trans ⟨⟨rfl, rfl, rfl, Nat.le_refl _, fun _ _ _ => rfl⟩, fun b hb => ⟨hb, rfl⟩, fun _ _ => rfl⟩
      refine wp_region_any hm (wpAny_of_R (md := md) _ _ _ _ ?_)
      exact plan_any (K := Q .normal) hC (fun _ _ _ h => h) (fun _ _ h => h) _ _ s I hd Fp a _ (h.drew rfl) hE' hn hx
  | seq x y ihx ihy =>
    intro s Q I hd Fp a w h hE hn hx
    simp only [X] at hx
    refine wp_seq (wp_mono (ihx s _ I hd Fp a w h hE hn hx) ?_)
    intro e a' w' hq
    cases e with
    | normal =>
      obtain ⟨s', I', hd', Fp', h1, h2, h3, h4⟩ := hq
      exact ihy s' Q I' hd' Fp' a' w' h2 h3 h4 h1
    | exit id => exact hq
    | ret => exact hq
    | goto l => exact hq
    | panic ch => exact hq
    | outgrown => exact hq
  | cond c x y ihx ihy =>
    intro s Q I hd Fp a w h hE hn hx
    simp only [X] at hx
    have hc := ev_sound h c
    split at hx
    · rename_i b e
      rw [e] at hc
      have hb := S_bool_inv hc
      refine wp_cond hb ?_
      cases b with
      | true => exact ihx _ Q I hd Fp a w (know_SR h hb) hE (by rw [know_next]; exact hn) (hx.1 rfl)
      | false => exact ihy _ Q I hd Fp a w (know_SR h hb) hE (by rw [know_next]; exact hn) (hx.2 rfl)
    · exact hx.elim
  | block id c ih =>
    intro s Q I hd Fp a w h hE hn hx
    simp only [X] at hx
    refine wp_block (wp_mono (ih s _ I hd Fp a w h hE hn hx) ?_)
    intro e a' w' hq
    cases e with
    | normal => exact hq
    | exit i =>
      obtain ⟨s', I', hd', Fp', h1, h2⟩ := hq
      simp only [inBlockX] at h1
      simp only [Exit.inBlock]
      split at h1
      · rename_i hi; rw [if_pos hi]; exact ⟨s', I', hd', Fp', h1, h2⟩
      · rename_i hi; rw [if_neg hi]; exact ⟨s', I', hd', Fp', h1, h2⟩
    | ret => exact hq
    | goto l => exact hq
    | panic ch => exact hq
    | outgrown => exact hq
  | loop c ih =>
    intro s Q I hd Fp a w h hE hn hx
    simp only [X] at hx
    refine loopWp_wp (hx (fun s => ∀ (I : Nat → Prop) (hd : Nat → Value) (Fp : Nat → List Nat) (a : Act) (w : World), SR G M I s hd Fp a w → Ext M I0 I n0 hd0 hd w0 w → n0 ≤ s.next → loopWp P c (codeQ G M I0 n0 hd0 w0 Q) a w) ?_ I hd Fp a w h hE hn)
    rintro s ⟨acts, ρ, nx, hok, hx⟩ I hd Fp a w h hE hn
    obtain ⟨hd', Fp', h', hB⟩ := h.canon hok
    have hE' : Ext M I0 I n0 hd0 hd' w0 w := ⟨hE.keep, hE.im, fun id hid => (hB id hid).trans (hE.hds id hid)⟩
    refine loopWp_unroll (wp_mono (ih _ _ I hd' Fp' a w h' hE' (rho_spec hok).1 hx) ?_)
    intro e a' w' hq
    cases e with
    | normal =>
      obtain ⟨s', I', hd', Fp', h1, h2, h3, h4⟩ := hq
      exact h1 I' hd' Fp' a' w' h2 h3 h4
    | exit id => exact hq
    | ret => exact hq
    | goto l => exact hq
    | panic ch => exact hq
    | outgrown => exact hq
  | _ => intro s Q I hd Fp a w h hE hn hx; simp only [X] at hx

/-- The results. -/
def resF (tmps : Array Value) : ResultVar → Sem Value
  | .tmp t => pure (tmps.getD t undef)
  | .cell x t => do loadVar t (← asAddr (tmps.getD x undef))
theorem run_resF_tmp {tmps : Array Value} {t : Tmp} : (resF tmps (.tmp t)).run P w = .ok (tmps.getD t undef) w := rfl
theorem run_resF_cell {tmps : Array Value} {x t : Nat} {v : Value} (h1 : (Instr.loadAt t (tmps.getD x undef)).run P w = .ok v w) : (resF tmps (.cell x t)).run P w = .ok v w := by
  show (do loadVar t (← asAddr (tmps.getD x undef)) : Sem Value).run P w = _
  generalize tmps.getD x undef = u at h1 ⊢
  unfold Instr.loadAt at h1
  cases u with
  | pointer p => cases p with
    | some ad => simpa [Instr.sureAddr, asAddr] using h1
    | none => simp [Instr.sureAddr, stuck] at h1
  | _ => simp [Instr.sureAddr, stuck] at h1
theorem run_mapM_cons {α : Type} {f : α → Sem Value} {x : α} {xs : List α} {v : Value} {vs : List Value} (h1 : (f x).run P w = .ok v w) (h2 : (xs.mapM f).run P w = .ok vs w) : ((x :: xs).mapM f).run P w = .ok (v :: vs) w := by
  rw [List.mapM_cons]
  simp [h1, h2]
theorem resK_sound (h : SR G M I s hd Fp a w) : ∀ (rs : List ResultVar) (K : List AV → Prop), resK P s rs K → ∃ vs avs, (rs.mapM (resF a.tmps)).run P w = .ok vs w ∧ K avs ∧ SV hd s.next w I avs vs
  | [], K, hk => ⟨[], [], by simp, hk, by simp [SV]⟩
  | .tmp t :: r, K, hk => by
    obtain ⟨vs, avs, h1, h2, h3⟩ := resK_sound h r _ hk
    refine ⟨a.tmps.getD t undef :: vs, _, run_mapM_cons run_resF_tmp h1, h2, ?_⟩
    simp only [SV]; exact ⟨_, _, rfl, h.slots t, h3⟩
  | .cell x t :: r, K, hk => by
    simp only [resK] at hk
    obtain ⟨v, av, h1, h2, h3⟩ := loadK_sound h hk (h.slots x)
    obtain ⟨vs, avs, g1, g2, g3⟩ := resK_sound h r _ h2
    refine ⟨v :: vs, _, run_mapM_cons (run_resF_cell (h1 w (.refl w))) g1, g2, ?_⟩
    simp only [SV]; exact ⟨_, _, rfl, h3, g3⟩

theorem SV_single {n : Nat} {av : AV} {vs : List Value} (h : SV hd n w I [av] vs) : ∃ v, vs = [v] ∧ S hd n w I av v := by
  simp only [SV] at h
  obtain ⟨v, vs', rfl, h1, rfl⟩ := h
  exact ⟨v, rfl, h1⟩
theorem SV_length {n : Nat} : ∀ {avs : List AV} {vs : List Value}, SV hd n w I avs vs → vs.length = avs.length
  | [], vs, h => by simp only [SV] at h; rw [h]; rfl
  | _ :: _, vs, h => by
    simp only [SV] at h
    obtain ⟨v, vs', rfl, _, h2⟩ := h
    simp [SV_length h2]

theorem results_sound (h : SR G M I s hd Fp a w) {fn : Func} {K : AV → Prop} (hk : resK P s fn.results.toList (oneOr K)) : ∃ v av, (results fn a.tmps).run P w = .ok v w ∧ K av ∧ S hd s.next w I av v := by
  obtain ⟨vs, avs, h1, h2, h3⟩ := resK_sound h _ _ hk
  have hr : (results fn a.tmps).run P w = .ok (if h : vs.toArray.size = 1 then vs.toArray[0] else .tuple vs.toArray) w := by
    have e : results fn a.tmps = (do let vs ← fn.results.mapM (resF a.tmps); pure (if h : vs.size = 1 then vs[0] else .tuple vs)) := rfl
    rw [e, Array.mapM_eq_mapM_toList]
    simp only [Sem.run_bind, Sem.run_map, h1]
    rfl
  match avs, h3, h2 with
  | [x], h3, h2 =>
    obtain ⟨v, rfl, hv⟩ := SV_single h3
    exact ⟨v, x, by rw [hr]; rfl, h2, hv⟩
  | [], h3, h2 =>
    simp only [SV] at h3
    subst h3
    exact ⟨.tuple #[], .tup [], by rw [hr]; rfl, h2, by simp [S, SV]⟩
  | x :: y :: r, h3, h2 =>
    have hl := SV_length h3
    refine ⟨.tuple vs.toArray, .tup (x :: y :: r), ?_, h2, ?_⟩
    · rw [hr, dif_neg (by simp [hl])]
    · simp only [S]; exact ⟨_, rfl, h3⟩

/-- What a call in the model comes to, for every caller. -/
def CS (P : Program) (G : Glo) : CT := fun f args h n K => Enters P f ∧ ∀ (M I : Nat → Prop) (hd : Nat → Value) (Fp : Nat → List Nat) (w : World) (vals : List Value), HR G M I h n hd Fp w → SV hd n w I args vals →
    Calls P f vals.toArray w fun e w' => ∃ v av h' n' I' hd' Fp', e = .returned v ∧ K av h' n' ∧ HR G M I' h' n' hd' Fp' w' ∧ S hd' n' w' I' av v ∧ Ext M I I' n hd hd' w w' ∧ n ≤ n'
theorem CS_sound : Sound P G (CS P G) := fun f args h n K hc => hc

theorem SV_getD {n : Nat} : ∀ {avs : List AV} {vs : List Value}, SV hd n w I avs vs → ∀ t, S hd n w I (avs.getD t .any) (vs.getD t undef)
  | [], vs, h, t => by simp only [SV] at h; subst h; simp [S]
  | x :: xs, vs, h, t => by
    simp only [SV] at h
    obtain ⟨v, vs', rfl, h1, h2⟩ := h
    cases t with
    | zero => exact h1
    | succ t => simpa using SV_getD h2 t

theorem CS_closed (hm : P.follows .mixedOrders = true) : Closed P G md (CS P G) := by
  rintro f args h n K ⟨fn, c, hf, hb, hne, hx⟩
  refine ⟨⟨fn, hf, by rw [hb]; simp, hne⟩, ?_⟩
  intro M I hd Fp w vals hr hargs
  refine calls_of_wp hf hb ?_
  have hl := SV_length hargs
  have hsr : SR G M I ⟨args ++ List.replicate (fn.ntmps - args.length) (.con undef), h, n⟩ hd Fp ⟨vals.toArray ++ Array.replicate (fn.ntmps - vals.toArray.size) undef, []⟩ w := by
    refine ⟨hr, by simp [hl], fun t => ?_, rfl⟩
    have e : (vals.toArray ++ Array.replicate (fn.ntmps - vals.toArray.size) undef).getD t undef = (vals ++ List.replicate (fn.ntmps - vals.length) undef).getD t undef := by
      rw [Array.getD_eq_getD_getElem?, List.getD_eq_getElem?_getD, ← Array.getElem?_toList]
      simp
    rw [e]
    have hrep : ∀ k, SV hd n w I (List.replicate k (.con undef)) (List.replicate k undef) := by
      intro k
      induction k with
      | zero => simp [SV]
      | succ k ih => simp only [List.replicate_succ, SV]; exact ⟨_, _, rfl, by simp [S], ih⟩
    rw [hl]
    exact SV_getD (hargs.append (hrep _)) t
  refine wp_mono (X_sound (I0 := I) (hd0 := hd) (w0 := w) hm CS_sound c _ _ I hd Fp _ w hsr (Ext.refl _ _ _ _ _) (Nat.le_refl _) hx) ?_
  have fin : ∀ (e : XE) a' w', (∀ id, e ≠ .exit id) → Post G M I n hd w (bodyQ P fn.results.toList K e) a' w' → a'.defers = [] ∧ ∃ v, (results fn a'.tmps).run P w' = .ok v w' ∧ ∃ v' av h' n' I' hd' Fp', Ending.returned v = .returned v' ∧ K av h' n' ∧ HR G M I' h' n' hd' Fp' w' ∧ S hd' n' w' I' av v' ∧ Ext M I I' n hd hd' w w' ∧ n ≤ n' := by
    rintro e a' w' hne ⟨s', I', hd', Fp', h1, h2, h3, h4⟩
    have hk : resK P s' fn.results.toList (oneOr fun v => K v s'.heap s'.next) := by
      cases e with
      | normal => exact h1
      | ret => exact h1
      | exit id => exact absurd rfl (hne id)
    obtain ⟨v, av, g1, g2, g3⟩ := results_sound h2 hk
    exact ⟨h2.defers, v, g1, v, av, s'.heap, s'.next, I', hd', Fp', rfl, g2, h2.heap, g3, h3, h4⟩
  intro e a' w' hq
  cases e with
  | normal => exact fin .normal a' w' (by simp) hq
  | ret => exact fin .ret a' w' (by simp) hq
  | exit id =>
    obtain ⟨s', I', hd', Fp', h1, _⟩ := hq
    exact h1.elim
  | goto l => exact hq.elim
  | panic ch => exact hq.elim
  | outgrown => exact hq.elim
end
theorem eqs_thenX : True := by
  have := @thenX.eq_1
  trivial
theorem eqs_inBlockX : True := by
  have := @inBlockX.eq_1
  trivial
theorem eqs_resK : True := by
  have := @resK.eq_1
  trivial
theorem eqs_oneOr : True := by
  have := @oneOr.eq_1
  trivial
theorem eqs_bodyQ : True := by
  have := @bodyQ.eq_1
  trivial
end Go.Proofs.YtlddjlchgibdfaaDoor.X
set_option linter.unusedVariables false
set_option linter.unusedSimpArgs false
namespace Go.Proofs.YtlddjlchgibdfaaDoor.X
open Go

/-! ### Code in a handier form -/
inductive XC where
  | done
  | op (dst : Option Nat) (o : Op) (g : Option (Nat × Bool)) (r : XC)
  | fork (p q r : XC)
  | cond (c : Operand) (a b r : XC)
  | block (id : Nat) (a r : XC)
  | loop (a : XC)
  | exit (id : Nat)
  | ret
  | fail
def guardG (s : St) (o : Op) (dst : Option Nat) (P : Program) (G : Glo) (C : CT) (md : FuncId → Bool) (K : St → Prop) : Option (Nat × Bool) → Prop
  | none => opK P G C md o s fun v s' => K (s'.put dst v)
  | some (d, want) => match s.tmps.getD d .any with
    | .bool b => (b = want → opK P G C md o (s.put (some d) (.bool want)) fun v s' => K (s'.put dst v)) ∧ (b = !want → K ((s.put (some d) (.bool !want)).put dst (.con undef)))
    | .con (.tuple a) => a = #[] ∧ K (s.put dst (.con undef))
    | _ => False
def R (P : Program) (G : Glo) (C : CT) (md : FuncId → Bool) (B : Nat) : XC → St → (XE → St → Prop) → Prop
  | .done, s, Q => Q .normal s
  | .op dst o g r, s, Q => guardG s o dst P G C md (fun s' => R P G C md B r s' Q) g
  | .fork p q r, s, Q => R P G C md B p s (thenX (fun s' => R P G C md B r s' Q) Q) ∧ R P G C md B q s (thenX (fun s' => R P G C md B r s' Q) Q)
  | .cond c x y r, s, Q => match ev G s c with
    | .bool b => (b = true → R P G C md B x (know s c true) (thenX (fun s' => R P G C md B r s' Q) Q)) ∧ (b = false → R P G C md B y (know s c false) (thenX (fun s' => R P G C md B r s' Q) Q))
    | _ => False
  | .block id c r, s, Q => R P G C md B c s (inBlockX id (thenX (fun s' => R P G C md B r s' Q) Q))
  | .loop c, s, Q => ∀ J : St → Prop, (∀ s, (∃ acts ρ nx, rhoOk B ρ (objIds acts) nx = true ∧ R P G C md B c (canon B acts ρ nx s) (thenX J Q)) → J s) → J s
  | .exit id, s, Q => Q (.exit id) s
  | .ret, s, Q => Q .ret s
  | .fail, _, _ => False

/-- A plan without a fork goes straight on; behind a fork the rest waits. -/
def compPlan (ops : Array Oper) : Plan → XC → XC
  | .done, r => r
  | .fail, _ => .fail
  | .op i p, r => match ops[i]? with
    | none => .fail
    | some o => match o.guard with
      | none => .op o.dst o.op none (compPlan ops p r)
      | some (j, want) => match (ops[j]?).bind (·.dst) with
        | none => .fail
        | some d => .op o.dst o.op (some (d, want)) (compPlan ops p r)
  | .both p q, r => .fork (compPlan ops p .done) (compPlan ops q .done) r
def comp (md : FuncId → Bool) : Code → XC → XC
  | .skip, r => r
  | .label _, r => r
  | .region _ ops draw, r => compPlan ops (planOf md ops draw) r
  | .seq x y, r => comp md x (comp md y r)
  | .cond c x y, r => .cond c (comp md x .done) (comp md y .done) r
  | .block id c, r => .block id (comp md c .done) r
  | .loop c, _ => .loop (comp md c .done)
  | .exit id, _ => .exit id
  | .ret, _ => .ret
  | _, _ => .fail
def compF (md : FuncId → Bool) (fn : Func) : XC := match fn.body with
  | some c => comp md c .done
  | none => .fail

section
variable {P : Program} {G : Glo} {C : CT} {md : FuncId → Bool} {B : Nat} {ops : Array Oper}
theorem thenX_thenX (K K' : St → Prop) (Q : XE → St → Prop) : thenX K (thenX K' Q) = thenX K Q := by
  funext e; cases e <;> rfl
theorem guardG_opX {o : Oper} {s : St} {K : St → Prop} : opX P G C md ops o s K = (match o.guard with
    | none => guardG s o.op o.dst P G C md K none
    | some (j, want) => match (ops[j]?).bind (·.dst) with
      | none => False
      | some d => guardG s o.op o.dst P G C md K (some (d, want))) := by
  unfold opX
  cases o.guard with
  | none => rfl
  | some g =>
    obtain ⟨j, want⟩ := g
    simp only
    cases (ops[j]?).bind (·.dst) <;> rfl
theorem compPlan_run : ∀ (p : Plan) (r : XC) (s : St) (Q : XE → St → Prop), R P G C md B (compPlan ops p r) s Q = runPlan P G C md ops p s (fun s' => R P G C md B r s' Q)
  | .done, r, s, Q => rfl
  | .fail, r, s, Q => rfl
  | .op i p, r, s, Q => by
    simp only [compPlan, runPlan]
    cases hi : ops[i]? with
    | none => rfl
    | some o =>
      simp only
      rw [guardG_opX]
      cases hg : o.guard with
      | none =>
        simp only [R]
        congr 1
        funext s'
        exact compPlan_run p r s' Q
      | some g =>
        obtain ⟨j, want⟩ := g
        simp only
        cases hd : (ops[j]?).bind (·.dst) with
        | none => rfl
        | some d =>
          simp only [R]
          congr 1
          funext s'
          exact compPlan_run p r s' Q
  | .both p q, r, s, Q => by
    simp only [compPlan, runPlan, R]
    rw [compPlan_run p, compPlan_run q]
    rfl
theorem comp_run : ∀ (c : Code) (r : XC) (s : St) (Q : XE → St → Prop), R P G C md B (comp md c r) s Q = X P G C md B c s (thenX (fun s' => R P G C md B r s' Q) Q) := by
  intro c
  induction c with
  | skip => intros; rfl
  | label l => intros; rfl
  | exit id => intros; rfl
  | ret => intros; rfl
  | region id ops draw => intro r s Q; simp only [comp, X]; exact compPlan_run _ r s Q
  | seq x y ihx ihy =>
    intro r s Q
    simp only [comp, X]
    rw [ihx, thenX_thenX]
    congr 2
    funext s'
    exact ihy r s' Q
  | cond c x y ihx ihy =>
    intro r s Q
    have ex : ∀ s, R P G C md B (comp md x .done) s (thenX (fun s' => R P G C md B r s' Q) Q) = X P G C md B x s (thenX (fun s' => R P G C md B r s' Q) Q) := by
      intro s
      rw [ihx]
      congr 1
      funext e; cases e <;> rfl
    have ey : ∀ s, R P G C md B (comp md y .done) s (thenX (fun s' => R P G C md B r s' Q) Q) = X P G C md B y s (thenX (fun s' => R P G C md B r s' Q) Q) := by
      intro s
      rw [ihy]
      congr 1
      funext e; cases e <;> rfl
    simp only [comp, X, R, ex, ey]
    cases ev G s c <;> rfl
  | block id c ih =>
    intro r s Q
    simp only [comp, X, R]
    rw [ih]
    congr 1
    funext e; cases e <;> rfl
  | loop c ih =>
    intro r s Q
    simp only [comp, X, R]
    apply propext
    refine forall_congr' fun J => ?_
    have e : ∀ s, R P G C md B (comp md c .done) s (thenX J Q) = X P G C md B c s (thenX J (thenX (fun s' => R P G C md B r s' Q) Q)) := by
      intro s
      rw [ih]
      congr 1
      funext e; cases e <;> rfl
    simp only [e]
  | _ => intros; rfl
end
end Go.Proofs.YtlddjlchgibdfaaDoor.X
set_option linter.unusedVariables false
namespace Go.Proofs.YtlddjlchgibdfaaDoor.X
open Go

/-- What is returned, read as a tree. -/
def RetTo (h : Heap) (v r : AV) : Prop := ∃ r0 h2, conR 8 h v = some (r0, h2) ∧ NilTo r0 r
theorem Closed.run {P : Program} {G : Glo} {C : CT} {md : FuncId → Bool} (hC : Closed P G md C) {f : FuncId} {fn : Func} {args : List AV} {h : Heap} {n : Nat} {K : AV → Heap → Nat → Prop} {x : XC} (hf : P.funcs[f]? = some fn) (hx : compF md fn = x) (hne : fn.name ≠ "runtime.NumGoroutine")
    (hr : R P G C md n x ⟨args ++ List.replicate (fn.ntmps - args.length) (.con undef), h, n⟩ (bodyQ P fn.results.toList K)) : C f args h n K := by
  cases hb : fn.body with
  | none =>
    simp only [compF, hb] at hx
    subst hx
    exact hr.elim
  | some c =>
    simp only [compF, hb] at hx
    subst hx
    rw [comp_run] at hr
    refine hC f args h n K ⟨fn, c, hf, hb, hne, ?_⟩
    have e : (thenX (fun s' => R P G C md n .done s' (bodyQ P fn.results.toList K)) (bodyQ P fn.results.toList K)) = bodyQ P fn.results.toList K := by funext e; cases e <;> rfl
    rwa [e] at hr
theorem Ev.run {P : Program} {G : Glo} {C : CT} {md : FuncId → Bool} (hC : Closed P G md C) {f : FuncId} {fn : Func} {ts : List AV} {r : AV} {x : XC} (hf : P.funcs[f]? = some fn) (hx : compF md fn = x) (hne : fn.name ≠ "runtime.NumGoroutine") (ho : ownR r = true)
    (hr : R P G C md 0 x ⟨ts ++ List.replicate (fn.ntmps - ts.length) (.con undef), [], 0⟩ (bodyQ P fn.results.toList fun v h _ => RetTo h v r)) : Ev C f ts r :=
  ⟨_, hC.run hf hx hne hr, ho, fun v h n hk => hk⟩

/-- At a loop's head. -/
def HeadAt (B : Nat) (acts : List Keepd) (s s' : St) : Prop := ∃ ρ nx, rhoOk B ρ (objIds acts) nx = true ∧ canon B acts ρ nx s = s'
theorem R_loop {P : Program} {G : Glo} {C : CT} {md : FuncId → Bool} {B : Nat} {c : XC} {s : St} {Q : XE → St → Prop} (acts : List Keepd)
    (h : ∀ J : St → Prop, (∀ s s', HeadAt B acts s s' → R P G C md B c s' (thenX J Q) → J s) → J s) : R P G C md B (.loop c) s Q := by
  simp only [R]
  intro J hJ
  refine h J fun s s' ⟨ρ, nx, h1, h2⟩ hr => hJ s ⟨acts, ρ, nx, h1, ?_⟩
  rw [h2]; exact hr
end Go.Proofs.YtlddjlchgibdfaaDoor.X
set_option linter.unusedVariables false
set_option linter.unusedSimpArgs false
namespace Go.Proofs.YtlddjlchgibdfaaDoor.X
open Go

/-! ### What an argument can be -/
mutual
/-- The cells of a value of type t. -/
def Has (P : Program) : Nat → TypeId → List AV → Prop
  | 0, _, _ => False
  | k + 1, t, xs => match P.underlying t with
    | some .bool => ∃ b, xs = [.bool b]
    | some (.int kd) => ∃ n, xs = [.int kd n] ∧ (Lit.int kd n).wf = true
    | some .string => ∃ s, xs = [.str s] ∧ s.size ≤ reachBytes
    | some (.slice e) => ∃ es, xs = [.sl es] ∧ es.length ≤ maxLen ∧ es.length * P.bytesOf e ≤ reachBytes ∧ ∀ el ∈ es, el.length = P.cellsOf e ∧ Has P k e el
    | some (.struct fs) => HasE P k (fs.toList.map (·.type)) xs
    | _ => False
def HasE (P : Program) : Nat → List TypeId → List AV → Prop
  | 0, _, _ => False
  | _, [], xs => xs = []
  | k + 1, t :: ts, xs => ∃ x1 x2, xs = x1 ++ x2 ∧ x1.length = P.cellsOf t ∧ Has P k t x1 ∧ HasE P k ts x2
end
mutual
def okT (P : Program) : Nat → TypeId → Bool
  | 0, _ => false
  | k + 1, t => match P.underlying t with
    | some .bool | some (.int _) | some .string => P.cellsOf t == 1
    | some (.slice e) => P.cellsOf t == 1 && decide (0 < P.cellsOf e) && okT P k e
    | some (.struct fs) => okE P k 0 (P.cellsOf t) fs.toList
    | _ => false
def okE (P : Program) : Nat → Nat → Nat → List Field → Bool
  | 0, _, _, _ => false
  | _, off, total, [] => off == total
  | k + 1, off, total, f :: fs => f.offset == off && okT P k f.type && okE P k (off + P.cellsOf f.type) total fs
end

theorem At.append {w : World} {b o : Nat} {v1 v2 : List Value} (h1 : At w b o v1) (h2 : At w b (o + v1.length) v2) : At w b o (v1 ++ v2) := by
  intro j u hu
  rcases Nat.lt_or_ge j v1.length with hj | hj
  · rw [List.getElem?_append_left hj] at hu; exact h1 j u hu
  · rw [List.getElem?_append_right hj] at hu
    have := h2 _ u hu
    rwa [show o + v1.length + (j - v1.length) = o + j by omega] at this

section
variable {H : Type} {enc : TypeId × Value → H} {P : Program} {w : World} {base : Nat} {spare : Nat → Bool} {held : Bool}
abbrev Old (w : World) : Nat → Prop := fun b => b < w.heap.size

theorem row_open {k : Nat} {e : TypeId} (hA : ∀ (fuel : Nat) (cs : List Value) (d : DataW H × List MemPlace), DataW.trod enc P w base spare held fuel e cs = some d → (DataW.weights P e d.1).all (· ≤ reachBytes) = true → ∃ xs, TL w (Old w) xs cs [] ∧ Has P k e xs ∧ xs.length = P.cellsOf e)
    {fuel : Nat} {a : Addr} (hsz : 0 < P.cellsOf e) : ∀ (s : Nat) (r : List (DataW H × List MemPlace)),
    (∀ i, i < r.length → (w.cells? base (a.add ((s + i) * P.cellsOf e)) (P.cellsOf e)).bind (DataW.trod enc P w base spare held fuel e) = r[i]?) → (DataW.weightsAll P e (r.map (·.1))).all (· ≤ reachBytes) = true → (a.spot = none ∨ s = 0) →
    ∃ es vs, TLL w (Old w) es vs [] ∧ Each (P.cellsOf e) es ∧ (∀ el ∈ es, el.length = P.cellsOf e ∧ Has P k e el) ∧ es.length = r.length ∧ At w a.block (a.off + s * P.cellsOf e) vs ∧ (r ≠ [] → a.block < w.heap.size ∧ a.spot = none)
  | s, [], h, hw, _ => ⟨[], [], by simp [TLL], trivial, by simp, rfl, by simp [At], by simp⟩
  | s, (d, ps) :: r, h, hw, hsp => by
    simp only [List.map_cons, DataW.weightsAll, List.all_append, Bool.and_eq_true] at hw
    have h0 := h 0 (by simp)
    simp only [Nat.add_zero, List.getElem?_cons_zero] at h0
    obtain ⟨cs, hc1, hc2⟩ := Option.bind_eq_some_iff.1 h0
    obtain ⟨hb, hl, hcell⟩ := World.cells?_some hc1
    have hspot : a.spot = none ∧ a.block < w.heap.size := by
      have := hcell 0 hsz
      have hne : cs[0]? ≠ none := by rw [Ne, List.getElem?_eq_none_iff]; omega
      rw [← this] at hne
      have hbl : ((a.add (s * P.cellsOf e)).add 0).block = a.block := by unfold Addr.add; split <;> split <;> rfl
      refine ⟨?_, ?_⟩
      · rcases hsp with hsp | rfl
        · exact hsp
        · cases hs : a.spot with
          | none => rfl
          | some q =>
            exfalso; apply hne
            simp only [Nat.zero_mul, Addr.add, if_true]
            unfold World.cell?
            split
            · simp [hs]
            · rfl
      · rcases Nat.lt_or_ge a.block w.heap.size with g | g
        · exact g
        · exfalso; apply hne
          unfold World.cell?
          rw [hbl, Array.getElem?_eq_none g]
    obtain ⟨hspn, hlt⟩ := hspot
    obtain ⟨el, g1, g2, g3⟩ := hA fuel cs (d, ps) hc2 hw.1
    obtain ⟨es, vs, k1, k2, k3, k4, k5, _⟩ := row_open hA (fuel := fuel) (a := a) hsz (s + 1) r (fun i hi => by
      have := h (i + 1) (by simpa using hi)
      rw [List.getElem?_cons_succ] at this
      rw [← this, show s + 1 + i = s + (i + 1) by omega]) hw.2 (.inl hspn)
    have hadd : ∀ j, (a.add (s * P.cellsOf e)).add j = ⟨a.block, a.off + s * P.cellsOf e + j, none⟩ := by
      intro j
      obtain ⟨ab, ao, as⟩ := a
      simp only at hspn
      subst hspn
      rw [addr_add, addr_add]
    have hat : At w a.block (a.off + s * P.cellsOf e) cs := by
      intro j u hu
      have hj : j < P.cellsOf e := by rw [← hl]; exact (List.getElem?_eq_some_iff.1 hu).1
      have := hcell j hj
      rw [hadd] at this
      rw [this, hu]
    refine ⟨el :: es, cs ++ vs, ?_, ⟨g3, k2⟩, ?_, by simp [k4], hat.append ?_, fun _ => ⟨hlt, hspn⟩⟩
    · simp only [TLL]; exact ⟨cs, vs, [], [], rfl, rfl, g1, k1⟩
    · intro x hx
      rcases List.mem_cons.1 hx with rfl | hx
      · exact ⟨g3, g2⟩
      · exact k3 x hx
    · rw [hl, show a.off + s * P.cellsOf e + P.cellsOf e = a.off + (s + 1) * P.cellsOf e by rw [Nat.add_mul]; omega]; exact k5

theorem TL_one {w : World} {I : Nat → Prop} {x : AV} {v : Value} (h1 : v.oneCell' = true) (h : T w I x v []) : TL w I [x] [v] [] := by
  simp only [TL]; exact ⟨v, [], [], [], rfl, rfl, h1, h, rfl, rfl⟩

theorem open_both : ∀ (K : Nat), (∀ (t : TypeId) (fuel : Nat) (cs : List Value) (d : DataW H × List MemPlace), okT P K t = true → DataW.trod enc P w base spare held fuel t cs = some d → (DataW.weights P t d.1).all (· ≤ reachBytes) = true → ∃ xs, TL w (Old w) xs cs [] ∧ Has P K t xs ∧ xs.length = P.cellsOf t) ∧
    (∀ (fs : List Field) (off total fuel : Nat) (cs : List Value) (r : List (DataW H × List MemPlace)), okE P K off total fs = true → cs.length = total → r.length = fs.length → (∀ (i : Nat) (f : Field), fs[i]? = some f → DataW.trod enc P w base spare held fuel f.type ((cs.drop f.offset).take (P.cellsOf f.type)) = r[i]?) → (DataW.weightsEach P (fs.map (·.type)) (r.map (·.1))).all (· ≤ reachBytes) = true →
      ∃ xs, TL w (Old w) xs (cs.drop off) [] ∧ HasE P K (fs.map (·.type)) xs ∧ off + xs.length = total) := by
  intro K
  induction K with
  | zero => exact ⟨fun t fuel cs d h => by simp [okT] at h, fun fs off total fuel cs r h => by simp [okE] at h⟩
  | succ K ih =>
    obtain ⟨ihA, ihB⟩ := ih
    refine ⟨fun t fuel cs d hok h hw => ?_, fun fs off total fuel cs r hok hl hrl h hw => ?_⟩
    · simp only [okT] at hok
      simp only [Has]
      cases ht : P.underlying t with
      | none => simp [ht] at hok
      | some u =>
        rw [ht] at hok
        cases u <;> simp only [Bool.false_eq_true] at hok
        case bool =>
          obtain ⟨b, rfl, rfl⟩ := DataW.trod_bool ht h
          exact ⟨[.bool b], TL_one rfl (by simp [T]), ⟨b, rfl⟩, by simpa using (beq_iff_eq.1 hok).symm⟩
        case int kd =>
          obtain ⟨n, rfl, rfl, hwf⟩ := DataW.trod_int ht h
          exact ⟨[.int kd n], TL_one rfl (by simp [T]), ⟨n, rfl, hwf⟩, by simpa using (beq_iff_eq.1 hok).symm⟩
        case string =>
          obtain ⟨s, rfl, rfl, hs⟩ := DataW.trod_string ht h
          refine ⟨[.str s], TL_one rfl (by simp [T]), ⟨s, rfl, ?_⟩, by simpa using (beq_iff_eq.1 hok).symm⟩
          simpa [DataW.weights] using hw
        case slice e =>
          simp only [Bool.and_eq_true, beq_iff_eq, decide_eq_true_eq] at hok
          obtain ⟨⟨h1, h2⟩, h3⟩ := hok
          rcases DataW.trod_slice ht h with ⟨rfl, rfl⟩ | ⟨a, len, cap, elems, rest, n, rfl, rfl, rfl, hba, hlc, hcm, hel, hread, _, _⟩
          · exact ⟨[.sl []], TL_one rfl (by simp [T]), ⟨[], rfl, by simp, by simp, by simp⟩, by simpa using h1.symm⟩
          · simp only [DataW.weights, ht, List.all_cons, List.all_append, Bool.and_eq_true, decide_eq_true_eq, List.length_map] at hw
            obtain ⟨es, vs, k1, k2, k3, k4, k5, k6⟩ := row_open (k := K) (e := e) (fun fuel cs d hd hwd => ihA e fuel cs d h3 hd hwd) (fuel := n) (a := a) h2 0 elems (fun i hi => by rw [Nat.zero_add]; exact hread i (by omega)) hw.2.1 (.inr rfl)
            refine ⟨[.sl es], TL_one rfl ?_, ⟨es, rfl, by omega, ?_, k3⟩, by simpa using h1.symm⟩
            · simp only [T]
              refine ⟨trivial, some a, cap, by rw [k4, hel], by omega, by omega, ?_⟩
              cases elems with
              | nil => exact .inl (List.eq_nil_of_length_eq_zero (by simpa using k4))
              | cons x xs =>
                right
                obtain ⟨hlt, hsp⟩ := k6 (by simp)
                obtain ⟨ab, ao, as⟩ := a
                simp only at hsp hlt k5
                subst hsp
                exact ⟨ab, ao, _, vs, rfl, hlt, k2, by simpa using k5, k1⟩
            · rw [k4]
              exact Nat.le_trans (Nat.mul_le_mul_right _ (Nat.le_add_right _ _)) hw.1
        case struct fs =>
          obtain ⟨xs, n, rfl, rfl, hl, hxl, hread⟩ := DataW.trod_struct ht h
          simp only [DataW.weights, ht] at hw
          obtain ⟨ys, g1, g2, g3⟩ := ihB fs.toList 0 (P.cellsOf t) n cs xs hok hl (by simpa using hxl) (fun i f hf => hread i f (by simpa using hf)) hw
          exact ⟨ys, by simpa using g1, g2, by simpa using g3⟩
    · cases fs with
      | nil =>
        simp only [okE, beq_iff_eq] at hok
        subst hok
        refine ⟨[], ?_, rfl, rfl⟩
        rw [List.drop_eq_nil_of_le (by omega)]
        simp [TL]
      | cons f fs =>
        cases r with
        | nil => simp at hrl
        | cons x r =>
          simp only [okE, Bool.and_eq_true, beq_iff_eq] at hok
          obtain ⟨⟨h1, h2⟩, h3⟩ := hok
          simp only [List.map_cons, DataW.weightsEach, List.all_append, Bool.and_eq_true] at hw
          have hx := h 0 f rfl
          simp only [List.getElem?_cons_zero] at hx
          rw [h1] at hx
          obtain ⟨y1, g1, g2, g3⟩ := ihA f.type fuel _ x h2 hx hw.1
          obtain ⟨y2, k1, k2, k3⟩ := ihB fs (off + P.cellsOf f.type) total fuel cs r h3 hl (by simpa using hrl) (fun i f' hf' => by
            have := h (i + 1) f' (by simpa using hf')
            simpa using this) hw.2
          refine ⟨y1 ++ y2, ?_, ?_, ?_⟩
          · have e : cs.drop off = (cs.drop off).take (P.cellsOf f.type) ++ cs.drop (off + P.cellsOf f.type) := by
              rw [← List.drop_drop, List.take_append_drop]
            rw [e]
            exact TL.append g1 k1
          · simp only [List.map_cons, HasE]
            exact ⟨y1, y2, rfl, g3, g2, k2⟩
          · simp only [List.length_append]; omega
end
end Go.Proofs.YtlddjlchgibdfaaDoor.X
set_option linter.unusedVariables false
set_option linter.unusedSimpArgs false
namespace Go.Proofs.YtlddjlchgibdfaaDoor.X
open Go Go.RowKit

/-- A value of type t. -/
def HasV (P : Program) (K : Nat) (t : TypeId) (x : AV) : Prop := match P.underlying t with
  | some (.struct _) => ∃ xs, x = .agg xs ∧ Has P K t xs
  | _ => Has P K t [x]
def HasVs (P : Program) (K : Nat) : List TypeId → List AV → Prop
  | [], xs => xs = []
  | t :: ts, xs => ∃ x r, xs = x :: r ∧ HasV P K t x ∧ HasVs P K ts r

theorem has_frz {P : Program} : ∀ (K : Nat), (∀ t xs, Has P K t xs → frzOkL xs = true) ∧ (∀ ts xs, HasE P K ts xs → frzOkL xs = true) := by
  have happ : ∀ xs ys : List AV, frzOkL xs = true → frzOkL ys = true → frzOkL (xs ++ ys) = true := by
    intro xs
    induction xs with
    | nil => intro ys _ h; exact h
    | cons x xs ih => intro ys h1 h2; simp only [frzOkL, Bool.and_eq_true, List.cons_append] at h1 ⊢; exact ⟨h1.1, ih ys h1.2 h2⟩
  intro K
  induction K with
  | zero => exact ⟨fun t xs h => by simp [Has] at h, fun ts xs h => by simp [HasE] at h⟩
  | succ K ih =>
    refine ⟨fun t xs h => ?_, fun ts xs h => ?_⟩
    · simp only [Has] at h
      split at h
      · obtain ⟨b, rfl⟩ := h; rfl
      · obtain ⟨n, rfl, _⟩ := h; rfl
      · obtain ⟨s, rfl, _⟩ := h; rfl
      · obtain ⟨es, rfl, _⟩ := h; rfl
      · exact ih.2 _ _ h
      · exact h.elim
    · cases ts with
      | nil => simp only [HasE] at h; subst h; rfl
      | cons t ts =>
        simp only [HasE] at h
        obtain ⟨x1, x2, rfl, _, h1, h2⟩ := h
        exact happ _ _ (ih.1 _ _ h1) (ih.2 _ _ h2)

section
variable {H : Type} {enc : TypeId × Value → H} {P : Program} {W W' : World} {base : Nat} {spare : Nat → Bool} {held : Bool}
theorem open_arg {K b0 : Nat} {t : TypeId} {v : Value} {d : DataW H} {p : List MemPlace} (hval : Value.okWide P W .any b0 t v) (h : DataW.Trod enc P W base spare held t v d p) (hok : okT P K t = true) (hw : (DataW.weights P t d).all (· ≤ reachBytes) = true) :
    ∃ x, T W (Old W) x v [] ∧ HasV P K t x ∧ frzOk x = true := by
  obtain ⟨fuel, hf⟩ := h
  obtain ⟨xs, h1, h2, h3⟩ := (open_both K).1 t fuel _ (d, p) hok hf hw
  have hz := (has_frz K).1 t xs h2
  have single : v.cells.toList = [v] → (∀ fs, P.underlying t ≠ some (.struct fs)) → ∃ x, T W (Old W) x v [] ∧ HasV P K t x ∧ frzOk x = true := by
    intro hc hs
    rw [hc] at h1
    cases xs with
    | nil => simp [TL] at h1
    | cons x xs =>
      simp only [TL] at h1
      obtain ⟨v', vs', F1, F2, e1, e2, _, hT, hr⟩ := h1
      simp only [List.cons.injEq] at e1
      obtain ⟨rfl, rfl⟩ := e1
      obtain ⟨rfl, rfl⟩ := List.append_eq_nil_iff.1 e2.symm
      cases xs with
      | cons y ys => simp [TL] at hr
      | nil =>
        refine ⟨x, hT, ?_, by simpa [frzOkL] using hz⟩
        unfold HasV
        split
        · rename_i fs e; exact absurd e (hs fs)
        · exact h2
  cases K with
  | zero => simp [okT] at hok
  | succ K =>
    simp only [okT] at hok
    cases ht : P.underlying t with
    | none => simp [ht] at hok
    | some u =>
      rw [ht] at hok
      cases u <;> simp only [Bool.false_eq_true] at hok
      case struct fs =>
        simp only [Value.okWide, ht] at hval
        obtain ⟨cs, rfl, _⟩ := hval
        refine ⟨.agg xs, ?_, ?_, by simpa [frzOk] using hz⟩
        · simp only [T]; exact ⟨cs, rfl, by simpa [Value.cells] using h1⟩
        · unfold HasV; rw [ht]; exact ⟨xs, rfl, h2⟩
      all_goals
        refine single ?_ (by simp [ht])
        simp only [Value.okWide, ht, Cell.okWide] at hval
        cases v <;> simp_all [Cell.ok, Value.cells]

theorem args_open {K b0 : Nat} : ∀ {ts : List TypeId} {vs : List Value} {ds : List (DataW H)} {p : List MemPlace}, DataW.TrodAll enc P W base spare held ts vs ds p → (∀ (j : Nat) t v, ts[j]? = some t → vs[j]? = some v → Value.okWide P W .any b0 t v) →
    ts.all (okT P K) = true → (DataW.weightsEach P ts ds).all (· ≤ reachBytes) = true → ∃ xs, TV W (Old W) xs vs [] ∧ HasVs P K ts xs ∧ frzOkL xs = true
  | [], [], [], p, h, hv, hok, hw => ⟨[], by simp [TV], rfl, rfl⟩
  | t :: ts, v :: vs, d :: ds, p, h, hv, hok, hw => by
    obtain ⟨p1, p2, h1, h2, rfl⟩ := h
    simp only [List.all_cons, Bool.and_eq_true] at hok
    simp only [DataW.weightsEach, List.all_append, Bool.and_eq_true] at hw
    obtain ⟨x, g1, g2, g3⟩ := open_arg (hv 0 t v rfl rfl) h1 hok.1 hw.1
    obtain ⟨xs, k1, k2, k3⟩ := args_open h2 (fun j t v ht hv' => hv (j + 1) t v (by simpa using ht) (by simpa using hv')) hok.2 hw.2
    refine ⟨x :: xs, ?_, ⟨x, xs, rfl, g2, k2⟩, by simp [frzOkL, g3, k3]⟩
    simp only [TV]; exact ⟨v, vs, [], [], rfl, rfl, g1, k1⟩
  | [], _ :: _, _, _, h, _, _, _ => by cases h
  | [], [], _ :: _, _, h, _, _, _ => by cases h
  | _ :: _, [], _, _, h, _, _, _ => by cases h
  | _ :: _, _ :: _, [], _, h, _, _, _ => by cases h

theorem args_back (hl : laidOutB P = true) : ∀ {ts : List TypeId} {vs : List Value} {ds : List (DataW H)} {p : List MemPlace}, (ts.all fun t => P.readableRec t && decide (t < P.types.size)) = true → DataW.TrodAll enc P W 0 (fun _ => true) true ts vs ds p → Below W.heap.size W W' →
    DataW.TrodAll enc P W' 0 (fun b => decide (b < W.heap.size)) true ts vs ds p
  | [], [], [], p, hr, h, hb => h
  | t :: ts, v :: vs, d :: ds, p, hr, h, hb => by
    obtain ⟨p1, p2, h1, h2, rfl⟩ := h
    simp only [List.all_cons, Bool.and_eq_true, decide_eq_true_eq] at hr
    refine ⟨p1, p2, Below.trod hl hr.1.1 hr.1.2 h1 hb ?_, args_back hl (by simpa using hr.2) h2 hb, rfl⟩
    obtain ⟨m, hm⟩ := h1
    exact DataW.trod_lt m _ _ _ hm
  | [], _ :: _, _, _, _, h, _ => by cases h
  | [], [], _ :: _, _, _, h, _ => by cases h
  | _ :: _, [], _, _, _, h, _ => by cases h
  | _ :: _, _ :: _, [], _, _, h, _ => by cases h
end

abbrev G0 : Glo := fun _ => none
theorem TV_SV {P : Program} {W : World} {hd : Nat → Value} {n : Nat} : ∀ (ts : List AV) (vs : List Value), frzOkL ts = true → TV W (Old W) ts vs [] → SV hd n W (Old W) ts vs := by
  intro ts
  induction ts with
  | nil => intro vs _ h; simp only [TV, SV] at h ⊢; exact h.1
  | cons x ts ih =>
    intro vs hf h
    simp only [frzOkL, Bool.and_eq_true] at hf
    simp only [TV] at h
    obtain ⟨v, vs', F1, F2, rfl, hF, hx, hxs⟩ := h
    obtain ⟨rfl, rfl⟩ := List.append_eq_nil_iff.1 hF.symm
    simp only [SV]
    exact ⟨v, vs', rfl, T.toS x v hf.1 hx, ih vs' hf.2 hxs⟩
/-- A law's call. -/
theorem law_run {P : Program} {f : FuncId} {ts : List AV} {vals : List Value} {W : World} (hEv : Ev (CS P G0) f ts (.bool true)) (hargs : TV W (Old W) ts vals []) (hok : frzOkL ts = true) :
    Calls P f vals.toArray W fun e W' => e = .returned (.bool true) ∧ Below W.heap.size W W' := by
  obtain ⟨K0, ⟨_, hcall⟩, _, hres⟩ := hEv
  have hr0 : HR G0 (fun b => W.heap.size ≤ b) (Old W) [] 0 (fun _ => undef) (fun _ => []) W :=
    ⟨fun id o ho => by simp [hget] at ho, fun b hb => ⟨hb, fun id o ho => by simp [hget] at ho⟩, fun id o ho => by simp [hget] at ho, fun id o id' o' ho => by simp [hget] at ho, fun id o ho => by simp [hget] at ho, fun id o ho => by simp [hget] at ho, fun b hb => hb, fun g cs hg => by cases hg⟩
  refine (hcall _ _ _ _ W vals hr0 (TV_SV (P := P) ts vals hok hargs)).mono ?_
  rintro e W' ⟨v, av, h', n', I', hd', Fp', rfl, hK0, hr', hv, hE, hn⟩
  obtain ⟨r0, h2, hcon, hnil⟩ := hres av h' n' hK0
  obtain ⟨F, hT, _⟩ := (conR_sound 8).1 h' hr' av r0 h2 v hv hcon
  have hT2 := T.nilTo r0 _ v F hT hnil
  simp only [T] at hT2
  refine ⟨by rw [hT2.1], hE.keep.os, hE.keep.tape, hE.keep.output, hE.keep.size, fun b hb => (hE.im b hb).2⟩
end Go.Proofs.YtlddjlchgibdfaaDoor.X
set_option linter.unusedVariables false
set_option linter.unusedSimpArgs false
namespace Go.Proofs.YtlddjlchgibdfaaDoor.X
open Go Go.RowKit
/-- A law's call, where some of the program's variables hold known cells. -/
theorem law_runG {P : Program} {G : Glo} {f : FuncId} {ts : List AV} {vals : List Value} {W : World} (hEv : Ev (CS P G) f ts (.bool true)) (hargs : TV W (Old W) ts vals []) (hok : frzOkL ts = true)
    (hG : ∀ g cs, G g = some cs → T W (Old W) (.pf cs) (.pointer (some ⟨g, 0, none⟩)) []) :
    Calls P f vals.toArray W fun e W' => e = .returned (.bool true) ∧ Below W.heap.size W W' := by
  obtain ⟨K0, ⟨_, hcall⟩, _, hres⟩ := hEv
  have hr0 : HR G (fun b => W.heap.size ≤ b) (Old W) [] 0 (fun _ => undef) (fun _ => []) W :=
    ⟨fun id o ho => by simp [hget] at ho, fun b hb => ⟨hb, fun id o ho => by simp [hget] at ho⟩, fun id o ho => by simp [hget] at ho, fun id o id' o' ho => by simp [hget] at ho, fun id o ho => by simp [hget] at ho, fun id o ho => by simp [hget] at ho, fun b hb => hb, hG⟩
  refine (hcall _ _ _ _ W vals hr0 (TV_SV (P := P) ts vals hok hargs)).mono ?_
  rintro e W' ⟨v, av, h', n', I', hd', Fp', rfl, hK0, hr', hv, hE, hn⟩
  obtain ⟨r0, h2, hcon, hnil⟩ := hres av h' n' hK0
  obtain ⟨F, hT, _⟩ := (conR_sound 8).1 h' hr' av r0 h2 v hv hcon
  have hT2 := T.nilTo r0 _ v F hT hnil
  simp only [T] at hT2
  refine ⟨by rw [hT2.1], hE.keep.os, hE.keep.tape, hE.keep.output, hE.keep.size, fun b hb => (hE.im b hb).2⟩
/-- Scalar cells are as they are written. -/
def scCells : List AV → List Value
  | [] => []
  | .int k n :: r => .int k n :: scCells r
  | _ :: r => scCells r
def allInt : List AV → Bool
  | [] => true
  | .int _ _ :: r => allInt r
  | _ :: _ => false
theorem scCells_int : ∀ {cs : List AV} {v : Value}, v ∈ scCells cs → ∃ k n, v = .int k n
  | [], v, h => by simp [scCells] at h
  | x :: r, v, h => by
    cases x <;> simp only [scCells, List.mem_cons] at h
    case int k n =>
      rcases h with rfl | h
      · exact ⟨k, n, rfl⟩
      · exact scCells_int h
    all_goals exact scCells_int h
theorem cell_row {w : World} {b off : Nat} {cs : Array Value} {t : TypeId} {fr : Nat × Nat} (h : w.heap[b]? = some (.cells cs t fr)) : w.cell? ⟨b, off, none⟩ = cs[off]? := by
  simp only [World.cell?, h]
  rfl
theorem no_iface {w : World} {b off : Nat} {cs : List AV} {t : TypeId} {fr : Nat × Nat} {u : TypeId} {v : Value} (h : w.heap[b]? = some (.cells (scCells cs).toArray t fr)) (hc : w.cell? ⟨b, off, none⟩ = some (.iface u v)) : False := by
  rw [cell_row h, List.getElem?_toArray] at hc
  obtain ⟨k, n, e⟩ := scCells_int (List.mem_of_getElem? hc)
  cases e
theorem TL_ints {w : World} {I : Nat → Prop} : ∀ (cs : List AV), allInt cs = true → TL w I cs (scCells cs) []
  | [], _ => by simp [TL, scCells]
  | .int k n :: r, h => by
    simp only [TL, scCells]
    exact ⟨.int k n, scCells r, [], [], rfl, rfl, rfl, by simp [T], TL_ints r h⟩
theorem glo_of_var {P : Program} {W : World} {n : String} {g : Nat} {cs : List AV} (hg : P.globalNamed n = some g) (hi : allInt cs = true) (h : W.var? P n = some (scCells cs).toArray) : T W (Old W) (.pf cs) (.pointer (some ⟨g, 0, none⟩)) [] := by
  simp only [T]
  have hlt : g < W.heap.size := by
    simp only [World.var?, hg, Option.bind_some] at h
    rcases Nat.lt_or_ge g W.heap.size with hl | hl
    · exact hl
    · rw [Array.getElem?_eq_none hl] at h; cases h
  refine ⟨trivial, g, 0, scCells cs, rfl, hlt, fun j u hu => ?_, TL_ints cs hi⟩
  have := World.var?_cell hg h j
  rw [Nat.zero_add, this]
  simpa using hu
theorem int_of_trod {H : Type} {enc : TypeId × Value → H} {P : Program} {w : World} {base : Nat} {sp : Nat → Bool} {held : Bool} {fuel : Nat} {t : TypeId} {k : IntKind} {c : Value} {y : DataW H × List MemPlace}
    (ht : P.underlying t = some (.int k)) (h : DataW.trod enc P w base sp held fuel t [c] = some y) : ∃ n, c = .int k n ∧ y = (.lit (.int k n), []) := by
  cases fuel with
  | zero => simp [DataW.trod] at h
  | succ fuel =>
    cases c <;> simp [DataW.trod, ht] at h
    rename_i k' n
    obtain ⟨⟨rfl, _⟩, rfl⟩ := h
    exact ⟨n, rfl, rfl⟩
theorem weights_args {H : Type} {enc : TypeId × Value → H} {P : Program} {W : World} {base : Nat} {spare : Nat → Bool} {held : Bool} {us : List TypeId} {es : List (DataW H)} {f : Nat → Bool} : ∀ {ts : List TypeId} {vs : List Value} {ds : List (DataW H)} {p : List MemPlace}, DataW.TrodAll enc P W base spare held ts vs ds p →
    (DataW.weightsEach P (ts ++ us) (ds ++ es)).all f = true → (DataW.weightsEach P ts ds).all f = true
  | [], [], [], _, _, _ => by simp [DataW.weightsEach]
  | t :: ts, v :: vs, d :: ds, p, h, hw => by
    obtain ⟨p1, p2, h1, h2, rfl⟩ := h
    simp only [List.cons_append, DataW.weightsEach, List.all_append, Bool.and_eq_true] at hw ⊢
    exact ⟨hw.1, weights_args h2 hw.2⟩
  | [], _ :: _, _, _, h, _ => by cases h
  | [], [], _ :: _, _, h, _ => by cases h
  | _ :: _, [], _, _, h, _ => by cases h
  | _ :: _, _ :: _, [], _, h, _ => by cases h
end Go.Proofs.YtlddjlchgibdfaaDoor.X
set_option linter.unusedVariables false
set_option linter.unusedSimpArgs false
namespace Go.Proofs.YtlddjlchgibdfaaDoor.X
open Go

theorem RetTo_bool {h : Heap} {b c : Bool} : RetTo h (.bool b) (.bool c) = (b = c) := by
  simp [RetTo, conR, isF, NilTo]
theorem RetTo_int {h : Heap} {k k' : IntKind} {b c : Int} : RetTo h (.int k b) (.int k' c) = (k = k' ∧ b = c) := by
  simp [RetTo, conR, isF, NilTo]
theorem RetTo_str {h : Heap} {b c : ByteArray} : RetTo h (.str b) (.str c) = (b = c) := by
  simp [RetTo, conR, isF, NilTo]

theorem wrap64 {n : Int} (h1 : -9223372036854775808 ≤ n) (h2 : n ≤ 9223372036854775807) : IntKind.i64.wrap n = n := by
  simp only [IntKind.wrap, IntKind.bits, IntKind.signed, IntKind.max]
  simp
  omega

/-! ### The evaluation, a rule an operation: only at a state that is written out, and a slot only takes a value whose kind is known -/
def ifB (b : Bool) (A B : Prop) : Prop := (b = true → A) ∧ (b = false → B)
theorem ifB_true {A B : Prop} : ifB true A B = A := by simp [ifB]
theorem ifB_false {A B : Prop} : ifB false A B = B := by simp [ifB]
theorem ifB_not {b : Bool} {A B : Prop} : ifB (!b) A B = ifB b B A := by cases b <;> simp [ifB]
theorem ifB_intro {b : Bool} {A B : Prop} (h1 : b = true → A) (h2 : b = false → B) : ifB b A B := ⟨h1, h2⟩
def onB : AV → (Bool → Prop) → Prop
  | .bool b, K => K b
  | _, _ => False
theorem onB_bool {b : Bool} {K : Bool → Prop} : onB (.bool b) K = K b := _root_.id rfl
def gK : AV → Bool → Prop → Prop → Prop → Prop
  | .bool b, w, A, B, _ => ifB (b == w) A B
  | .con (.tuple a), _, _, _, B => a = #[] ∧ B
  | _, _, _, _, _ => False
section
variable {P : Program} {G : Glo} {C : CT} {md : FuncId → Bool} {B : Nat} {t : List AV} {h : Heap} {n : Nat} {Q : XE → St → Prop} {d d' : Nat} {r x y : XC} {K : AV → St → Prop} {s : St} {dst : Option Nat} {o : Op}
theorem R_done : R P G C md B .done ⟨t, h, n⟩ Q = Q .normal ⟨t, h, n⟩ := _root_.id rfl
theorem R_exit {id : Nat} : R P G C md B (.exit id) ⟨t, h, n⟩ Q = Q (.exit id) ⟨t, h, n⟩ := _root_.id rfl
theorem R_ret : R P G C md B .ret ⟨t, h, n⟩ Q = Q .ret ⟨t, h, n⟩ := _root_.id rfl
theorem R_block {id : Nat} : R P G C md B (.block id x r) ⟨t, h, n⟩ Q = R P G C md B x ⟨t, h, n⟩ (inBlockX id (thenX (fun s' => R P G C md B r s' Q) Q)) := _root_.id rfl
theorem R_fork : R P G C md B (.fork x y r) ⟨t, h, n⟩ Q = (R P G C md B x ⟨t, h, n⟩ (thenX (fun s' => R P G C md B r s' Q) Q) ∧ R P G C md B y ⟨t, h, n⟩ (thenX (fun s' => R P G C md B r s' Q) Q)) := _root_.id rfl
def cK (P : Program) (G : Glo) (C : CT) (md : FuncId → Bool) (B : Nat) (c : Operand) (x y r : XC) (s : St) (Q : XE → St → Prop) : AV → Prop
  | .bool b => ifB b (R P G C md B x (know s c true) (thenX (fun s' => R P G C md B r s' Q) Q)) (R P G C md B y (know s c false) (thenX (fun s' => R P G C md B r s' Q) Q))
  | _ => False
theorem R_cond {c : Operand} : R P G C md B (.cond c x y r) ⟨t, h, n⟩ Q = cK P G C md B c x y r ⟨t, h, n⟩ Q (ev G ⟨t, h, n⟩ c) := by
  simp only [R]
  cases ev G ⟨t, h, n⟩ c <;> rfl
theorem cK_true {c : Operand} : cK P G C md B c x y r s Q (.bool true) = R P G C md B x (know s c true) (thenX (fun s' => R P G C md B r s' Q) Q) := ifB_true
theorem cK_false {c : Operand} : cK P G C md B c x y r s Q (.bool false) = R P G C md B y (know s c false) (thenX (fun s' => R P G C md B r s' Q) Q) := ifB_false
theorem cK_bool {c : Operand} {b : Bool} : cK P G C md B c x y r s Q (.bool b) = ifB b (R P G C md B x (know s c true) (thenX (fun s' => R P G C md B r s' Q) Q)) (R P G C md B y (know s c false) (thenX (fun s' => R P G C md B r s' Q) Q)) := _root_.id rfl
theorem R_op : R P G C md B (.op dst o none r) ⟨t, h, n⟩ Q = opK P G C md o ⟨t, h, n⟩ fun v s' => R P G C md B r (s'.put dst v) Q := _root_.id rfl
/-- A guarded operation at the guard's value. -/
def gX (P : Program) (G : Glo) (C : CT) (md : FuncId → Bool) (B : Nat) (dst : Option Nat) (o : Op) (d : Nat) (w : Bool) (r : XC) (s : St) (Q : XE → St → Prop) : AV → Prop
  | .bool b => (b = w → opK P G C md o (s.put (some d) (.bool w)) fun v s' => R P G C md B r (s'.put dst v) Q) ∧ (b = !w → R P G C md B r ((s.put (some d) (.bool !w)).put dst (.con undef)) Q)
  | .con (.tuple a) => a = #[] ∧ R P G C md B r (s.put dst (.con undef)) Q
  | _ => False
theorem R_guard {w : Bool} : R P G C md B (.op dst o (some (d, w)) r) ⟨t, h, n⟩ Q = gX P G C md B dst o d w r ⟨t, h, n⟩ Q (t.getD d .any) := by
  simp only [R, guardG]
  generalize t.getD d .any = z
  cases z <;> rfl
theorem gX_tt : gX P G C md B dst o d true r s Q (.bool true) = opK P G C md o (s.put (some d) (.bool true)) fun v s' => R P G C md B r (s'.put dst v) Q := by simp [gX]
theorem gX_ft : gX P G C md B dst o d true r s Q (.bool false) = R P G C md B r ((s.put (some d) (.bool false)).put dst (.con undef)) Q := by simp [gX]
theorem gX_tf : gX P G C md B dst o d false r s Q (.bool true) = R P G C md B r ((s.put (some d) (.bool true)).put dst (.con undef)) Q := by simp [gX]
theorem gX_ff : gX P G C md B dst o d false r s Q (.bool false) = opK P G C md o (s.put (some d) (.bool false)) fun v s' => R P G C md B r (s'.put dst v) Q := by simp [gX]
theorem gX_t {b : Bool} : gX P G C md B dst o d true r s Q (.bool b) = ifB b (opK P G C md o (s.put (some d) (.bool true)) fun v s' => R P G C md B r (s'.put dst v) Q) (R P G C md B r ((s.put (some d) (.bool false)).put dst (.con undef)) Q) := by cases b <;> simp [gX, ifB]
theorem gX_f {b : Bool} : gX P G C md B dst o d false r s Q (.bool b) = ifB b (R P G C md B r ((s.put (some d) (.bool true)).put dst (.con undef)) Q) (opK P G C md o (s.put (some d) (.bool false)) fun v s' => R P G C md B r (s'.put dst v) Q) := by cases b <;> simp [gX, ifB]
theorem gX_u {w : Bool} : gX P G C md B dst o d w r s Q (.con undef) = R P G C md B r (s.put dst (.con undef)) Q := by simp [gX, undef]
-- slots
theorem put_none {v : AV} : St.put ⟨t, h, n⟩ none v = ⟨t, h, n⟩ := _root_.id rfl
theorem put_int {k : IntKind} {m : Int} : St.put ⟨t, h, n⟩ (some d) (.int k m) = ⟨t.set d (.int k m), h, n⟩ := _root_.id rfl
theorem put_bool {b : Bool} : St.put ⟨t, h, n⟩ (some d) (.bool b) = ⟨t.set d (.bool b), h, n⟩ := _root_.id rfl
theorem put_str {b : ByteArray} : St.put ⟨t, h, n⟩ (some d) (.str b) = ⟨t.set d (.str b), h, n⟩ := _root_.id rfl
theorem put_nil : St.put ⟨t, h, n⟩ (some d) .nil = ⟨t.set d .nil, h, n⟩ := _root_.id rfl
theorem put_any : St.put ⟨t, h, n⟩ (some d) .any = ⟨t.set d .any, h, n⟩ := _root_.id rfl
theorem put_con {v : Value} : St.put ⟨t, h, n⟩ (some d) (.con v) = ⟨t.set d (.con v), h, n⟩ := _root_.id rfl
theorem put_sl {es : List (List AV)} : St.put ⟨t, h, n⟩ (some d) (.sl es) = ⟨t.set d (.sl es), h, n⟩ := _root_.id rfl
theorem put_pf {es : List AV} : St.put ⟨t, h, n⟩ (some d) (.pf es) = ⟨t.set d (.pf es), h, n⟩ := _root_.id rfl
theorem put_agg {es : List AV} : St.put ⟨t, h, n⟩ (some d) (.agg es) = ⟨t.set d (.agg es), h, n⟩ := _root_.id rfl
theorem put_tup {es : List AV} : St.put ⟨t, h, n⟩ (some d) (.tup es) = ⟨t.set d (.tup es), h, n⟩ := _root_.id rfl
theorem put_fn {f : FuncId} {es : List AV} : St.put ⟨t, h, n⟩ (some d) (.fn f es) = ⟨t.set d (.fn f es), h, n⟩ := _root_.id rfl
theorem put_ref {i : Nat} {sub : Option (Nat × Nat × Nat)} {a b c : Nat} : St.put ⟨t, h, n⟩ (some d) (.ref i sub a b c) = ⟨t.set d (.ref i sub a b c), h, n⟩ := _root_.id rfl
theorem put_ptr {i : Nat} {sub : Option (Nat × Nat × Nat)} {a b c : Nat} : St.put ⟨t, h, n⟩ (some d) (.ptr i sub a b c) = ⟨t.set d (.ptr i sub a b c), h, n⟩ := _root_.id rfl
theorem know_tmp {b : Bool} : know ⟨t, h, n⟩ (.tmp d) b = ⟨t.set d (.bool b), h, n⟩ := _root_.id rfl
-- operands
theorem ev_tmp : ev G ⟨t, h, n⟩ (.tmp d) = t.getD d .any := _root_.id rfl
theorem ev_int {k : IntKind} {m : Int} : ev G s (.const (.int k m)) = .int k m := _root_.id rfl
theorem ev_bool {b : Bool} : ev G s (.const (.bool b)) = .bool b := _root_.id rfl
theorem ev_str {b : ByteArray} : ev G s (.const (.string b)) = .str b := _root_.id rfl
theorem ev_nil : ev G s (.const (.slice none 0 0)) = .nil := _root_.id rfl
theorem ev_func {f : FuncId} : ev G s (.func f) = .fn f [] := _root_.id rfl
-- operations
theorem o_move {x : Operand} : opK P G C md (.move x) s K = K (ev G s x) s := _root_.id rfl
theorem o_assign {x : Operand} : opK P G C md (.assign x) s K = K (ev G s x) s := _root_.id rfl
def pickK (a b : AV) (K : AV → Prop) : AV → Prop
  | .bool true => K a
  | .bool false => K b
  | _ => False
theorem o_pick {c x y : Operand} : opK P G C md (.pick c x y) s K = pickK (ev G s x) (ev G s y) (fun v => K v s) (ev G s c) := by
  simp only [opK]
  cases ev G s c <;> rfl
theorem pick_true {a b : AV} {K : AV → Prop} : pickK a b K (.bool true) = K a := _root_.id rfl
theorem pick_false {a b : AV} {K : AV → Prop} : pickK a b K (.bool false) = K b := _root_.id rfl
theorem o_bin {op : BinOp} {ty ty' : TypeId} {x y : Operand} : opK P G C md (.binOp op ty x y ty') s K = binK P op ty (ev G s x) (ev G s y) (fun v => K v s) := _root_.id rfl
theorem o_un {op : UnOp} {ty : TypeId} {x : Operand} : opK P G C md (.unOp op ty x) s K = unK op (ev G s x) (fun v => K v s) := _root_.id rfl
theorem o_conv {a b : TypeId} {x : Operand} : opK P G C md (.convert a b x) s K = convK P a b (ev G s x) (fun v => K v s) := _root_.id rfl
def extrK (i : Nat) (K : AV → Prop) : AV → Prop
  | .tup vs => match vs[i]? with
    | some v => K v
    | none => False
  | _ => False
theorem o_extr {x : Operand} {i : Nat} : opK P G C md (.extract x i) s K = extrK i (fun v => K v s) (ev G s x) := by
  simp only [opK]
  cases ev G s x <;> rfl
theorem o_faddr {ty : TypeId} {x : Operand} {j : Nat} : opK P G C md (.fieldAddr ty x j) s K = faddrK P ty (ev G s x) j (fun v => K v s) := _root_.id rfl
theorem o_iaddr {ty : TypeId} {x i : Operand} : opK P G C md (.indexAddr ty x i) s K = iaddrK P ty (ev G s x) (ev G s i) (fun v => K v s) := _root_.id rfl
theorem o_idx {ty : TypeId} {x i : Operand} : opK P G C md (.index ty x i) s K = idxK P ty (ev G s x) (ev G s i) (fun v => K v s) := _root_.id rfl
theorem o_slice {ty : TypeId} {x : Operand} {lo hi : Option Operand} : opK P G C md (.slice ty x lo hi none) s K = sliceK P ty (ev G s x) (lo.map (ev G s)) (hi.map (ev G s)) (fun v => K v s) := _root_.id rfl
theorem o_load {ty : TypeId} {x : Operand} : opK P G C md (.load ty x) s K = loadK P s.heap ty (ev G s x) (fun v => K v s) := _root_.id rfl
theorem o_store {ty : TypeId} {x v : Operand} : opK P G C md (.store ty x v) s K = storeK P s ty (ev G s x) (ev G s v) (fun s' => K .any s') := _root_.id rfl
theorem o_alloc {ty : TypeId} : opK P G C md (.alloc ty) s K = allocK P s ty K := _root_.id rfl
theorem o_box {ty : TypeId} {x : Operand} : opK P G C md (.box ty x) s K = boxK s (ev G s x) K := _root_.id rfl
theorem o_build {ty : TypeId} {ps : Array (Nat × Operand)} : opK P G C md (.build ty ps) s K = buildK P ty (ps.toList.map fun p => (p.1, ev G s p.2)) (fun v => K v s) := _root_.id rfl
theorem o_buildS {ty : TypeId} {m : Nat} {ps : Array (Nat × Operand)} : opK P G C md (.buildSlice ty m ps) s K = ((m = 0 → ps.toList = []) ∧ buildSliceK P s ty m (ps.toList.map fun p => (p.1, ev G s p.2)) K) := _root_.id rfl
theorem o_make {ty : TypeId} {l c : Operand} : opK P G C md (.makeSlice ty l c) s K = makeSliceK P s ty (ev G s l) (ev G s c) K := _root_.id rfl
theorem o_len {x : Operand} {ty : TypeId} : opK P G C md (.call ⟨.builtin .len, ⟨[x]⟩, ⟨[ty]⟩⟩) s K = lenK P ty (ev G s x) (fun v => K v s) := _root_.id rfl
theorem o_append {x y : Operand} {ty ty' : TypeId} : opK P G C md (.call ⟨.builtin .append, ⟨[x, y]⟩, ⟨[ty, ty']⟩⟩) s K = appendK P s ty ty' (ev G s x) (ev G s y) K := _root_.id rfl
theorem o_min {x y : Operand} {ty ty' : TypeId} : opK P G C md (.call ⟨.builtin .min, ⟨[x, y]⟩, ⟨[ty, ty']⟩⟩) s K = minK (ev G s x) (ev G s y) (fun v => K v s) := _root_.id rfl
theorem o_max {x y : Operand} {ty ty' : TypeId} : opK P G C md (.call ⟨.builtin .max, ⟨[x, y]⟩, ⟨[ty, ty']⟩⟩) s K = maxK (ev G s x) (ev G s y) (fun v => K v s) := _root_.id rfl
theorem o_call {f : Operand} {xs : List Operand} {tys : Array TypeId} : opK P G C md (.call ⟨.value f, ⟨xs⟩, tys⟩) s K = callK C md s (ev G s f) (xs.map (ev G s)) K := _root_.id rfl
theorem o_mkfn {f : FuncId} {caps : Array Operand} : opK P G C md (.makeFunc (.func f) ⟨[]⟩ caps) s K = (K (.fn f (evL G s caps)) s ∧ opK.allCells (evL G s caps) = true) := by
  simp [opK]
end
-- comparisons
theorem b_int {P : Program} {op : BinOp} {ty : TypeId} {k : IntKind} {a b : Int} {K : AV → Prop} (h : op ≠ .shl ∧ op ≠ .shr) : binK P op ty (.int k a) (.int k b) K = intK op k a b K := by
  unfold binK
  cases op <;> simp_all
theorem mid_get {α : Type} {A B : List α} {x : α} {i : Nat} (h : A.length = i) : (A ++ x :: B)[i]? = some x := by
  subst h; simp
theorem mid_set {α : Type} {A B : List α} {x y : α} {i : Nat} (h : A.length = i) : (A ++ x :: B).set i y = A ++ y :: B := by
  subst h; simp
mutual
theorem NilTo.refl : ∀ x : AV, NilTo x x
  | .nil => by simp [NilTo]
  | .ow sz es => by simp only [NilTo]; exact ⟨es, rfl, NilToLL.refl es⟩
  | .agg xs => by simp only [NilTo]; exact ⟨xs, rfl, NilToL.refl xs⟩
  | .tup xs => by simp only [NilTo]; exact ⟨xs, rfl, NilToL.refl xs⟩
  | .op xs => by simp only [NilTo]; exact ⟨xs, rfl, NilToL.refl xs⟩
  | .any => by simp [NilTo]
  | .con _ => by simp [NilTo]
  | .int _ _ => by simp [NilTo]
  | .bool _ => by simp [NilTo]
  | .str _ => by simp [NilTo]
  | .sl _ => by simp [NilTo]
  | .pf _ => by simp [NilTo]
  | .ref _ _ _ _ _ => by simp [NilTo]
  | .ptr _ _ _ _ _ => by simp [NilTo]
  | .fn _ _ => by simp [NilTo]
theorem NilToL.refl : ∀ xs : List AV, NilToL xs xs
  | [] => by simp [NilToL]
  | x :: xs => by simp only [NilToL]; exact ⟨x, xs, rfl, NilTo.refl x, NilToL.refl xs⟩
theorem NilToLL.refl : ∀ xs : List (List AV), NilToLL xs xs
  | [] => by simp [NilToLL]
  | x :: xs => by simp only [NilToLL]; exact ⟨x, xs, rfl, NilToL.refl x, NilToLL.refl xs⟩
end
/-- A result that is a slice of one's own. -/
theorem RetTo_ow {h : Heap} {id sz len : Nat} {es : List (List AV)} (hg : hget h id = some (.slice sz es)) (hl : len = es.length) : RetTo h (.ref id none sz 0 len) (.ow sz es) := by
  refine ⟨.ow sz es, hdel h id, ?_, NilTo.refl _⟩
  simp [conR, hg, hl]
/-- What is read back as itself. -/
theorem RetTo_of {h h2 : Heap} {v r : AV} (hc : conR 8 h v = some (r, h2)) : RetTo h v r := ⟨r, h2, hc, NilTo.refl r⟩
end Go.Proofs.YtlddjlchgibdfaaDoor.X
set_option linter.unusedVariables false
set_option linter.unusedSimpArgs false
namespace Go.Proofs.YtlddjlchgibdfaaDoor.X
open Go

/-! ### Operations, the layout an argument: rules that fire at what is written out -/
def fieldK : Option (Nat × Nat) → (Nat → Prop) → Prop
  | some (off, _ + 1), K => K off
  | _, _ => False
theorem field_some {off n : Nat} {K : Nat → Prop} : fieldK (some (off, n + 1)) K = K off := _root_.id rfl
def faddrT (k : TK) (x : AV) (j : Nat) (K : AV → Prop) : Prop :=
  match k with
  | .struct fs => match fs[j]? with
    | some (off, sz') => sz' ≠ 0 ∧ match x with
      | .ptr id sub sz i c => K (.ptr id sub sz i (c + off))
      | .pf cs => K (.pf (cs.drop off))
      | _ => False
    | none => False
  | _ => False
theorem fa_ptr {fs : List (Nat × Nat)} {id : Nat} {sub : Option (Nat × Nat × Nat)} {sz i c j : Nat} {K : AV → Prop} : faddrT (.struct fs) (.ptr id sub sz i c) j K = fieldK fs[j]? fun off => K (.ptr id sub sz i (c + off)) := by
  simp only [faddrT]
  rcases fs[j]? with _ | ⟨off, _ | n⟩ <;> simp [fieldK]
theorem fa_pf {fs : List (Nat × Nat)} {cs : List AV} {j : Nat} {K : AV → Prop} : faddrT (.struct fs) (.pf cs) j K = fieldK fs[j]? fun off => K (.pf (cs.drop off)) := by
  simp only [faddrT]
  rcases fs[j]? with _ | ⟨off, _ | n⟩ <;> simp [fieldK]
def elK (z : Nat) (K : AV → Prop) : Option (List AV) → Prop
  | some el => el.length = z ∧ K (.pf el)
  | none => False
theorem el_some {z : Nat} {K : AV → Prop} {el : List AV} : elK z K (some el) = (el.length = z ∧ K (.pf el)) := _root_.id rfl
def iaddrT (P : Program) (k : TK) (x ix : AV) (K : AV → Prop) : Prop :=
  match k, x, ix with
  | .slice e, .ref id sub sz off len, .int _ i => sz = szOf P e ∧ szOf P e ≠ 0 ∧ 0 ≤ i ∧ i < len ∧ K (.ptr id sub sz (off + i.toNat) 0)
  | .slice e, .sl es, .int _ i => szOf P e ≠ 0 ∧ 0 ≤ i ∧ match es[i.toNat]? with
    | some el => el.length = szOf P e ∧ K (.pf el)
    | none => False
  | .array m e, .ptr id sub sz i0 c, .int _ i => szOf P e ≠ 0 ∧ 0 ≤ i ∧ i < m ∧ K (.ptr id sub sz i0 (c + i.toNat * szOf P e))
  | .array m e, .pf cs, .int _ i => szOf P e ≠ 0 ∧ 0 ≤ i ∧ i < m ∧ K (.pf (cs.drop (i.toNat * szOf P e)))
  | _, _, _ => False
section
variable {P : Program} {G : Glo} {C : CT} {md : FuncId → Bool} {t : List AV} {h : Heap} {n m : Nat} {K : AV → Prop} {KS : AV → St → Prop} {s : St} {e ty ty' : TypeId} {k k' : IntKind} {i a b : Int} {es : List (List AV)} {cs : List AV} {id sz off len c i0 : Nat} {sub : Option (Nat × Nat × Nat)}
theorem ia_ref : iaddrT P (.slice e) (.ref id sub sz off len) (.int k i) K = (sz = szOf P e ∧ szOf P e ≠ 0 ∧ 0 ≤ i ∧ i < len ∧ K (.ptr id sub sz (off + i.toNat) 0)) := _root_.id rfl
theorem ia_sl : iaddrT P (.slice e) (.sl es) (.int k i) K = (szOf P e ≠ 0 ∧ 0 ≤ i ∧ elK (szOf P e) K es[i.toNat]?) := by
  simp only [iaddrT]
  cases es[i.toNat]? <;> rfl
theorem ia_aptr : iaddrT P (.array m e) (.ptr id sub sz i0 c) (.int k i) K = (szOf P e ≠ 0 ∧ 0 ≤ i ∧ i < m ∧ K (.ptr id sub sz i0 (c + i.toNat * szOf P e))) := _root_.id rfl
theorem ia_apf : iaddrT P (.array m e) (.pf cs) (.int k i) K = (szOf P e ≠ 0 ∧ 0 ≤ i ∧ i < m ∧ K (.pf (cs.drop (i.toNat * szOf P e)))) := _root_.id rfl
end
def idxT (k : TK) (x ix : AV) (K : AV → Prop) : Prop :=
  match k, x, ix with
  | .str, .str s, .int _ i => 0 ≤ i ∧ i < s.size ∧ K (.int .u8 (bt s i))
  | _, _, _ => False
theorem ix_str {s : ByteArray} {k : IntKind} {i : Int} {K : AV → Prop} : idxT .str (.str s) (.int k i) K = (0 ≤ i ∧ i < s.size ∧ K (.int .u8 (bt s i))) := _root_.id rfl
/-- A slice of a place, of a tree, of a string; the limits are known. -/
def slR (P : Program) (e : TypeId) (id : Nat) (sub : Option (Nat × Nat × Nat)) (sz off len : Nat) (K : AV → Prop) : AV → AV → Prop
  | .int _ l, .int _ r => sz = szOf P e ∧ szOf P e ≠ 0 ∧ 0 ≤ l ∧ l ≤ r ∧ r ≤ len ∧ K (.ref id sub sz (off + l.toNat) (r - l).toNat)
  | _, _ => False
def slF (P : Program) (e : TypeId) (es : List (List AV)) (K : AV → Prop) : AV → AV → Prop
  | .int _ l, .int _ r => szOf P e ≠ 0 ∧ (∀ el ∈ es, el.length = szOf P e) ∧ 0 ≤ l ∧ l ≤ r ∧ r ≤ es.length ∧ K (.sl ((es.drop l.toNat).take (r - l).toNat))
  | _, _ => False
def slN (P : Program) (e : TypeId) (K : AV → Prop) : AV → AV → Prop
  | .int _ l, .int _ r => szOf P e ≠ 0 ∧ l = 0 ∧ r = 0 ∧ K .nil
  | _, _ => False
def slS (s : ByteArray) (K : AV → Prop) : AV → AV → Prop
  | .int _ l, .int _ r => 0 ≤ l ∧ l ≤ r ∧ r ≤ s.size ∧ K (.str (s.extract l.toNat r.toNat))
  | _, _ => False
def sliceT (P : Program) (k : TK) (x : AV) (lo hi : Option AV) (K : AV → Prop) : Prop :=
  match k, x with
  | .slice e, .ref id sub sz off len => slR P e id sub sz off len K (lo.getD (.int .i64 0)) (hi.getD (.int .i64 len))
  | .slice e, .sl es => slF P e es K (lo.getD (.int .i64 0)) (hi.getD (.int .i64 es.length))
  | .slice e, .nil => slN P e K (lo.getD (.int .i64 0)) (hi.getD (.int .i64 0))
  | .str, .str s => slS s K (lo.getD (.int .i64 0)) (hi.getD (.int .i64 s.size))
  | _, _ => False
section
variable {P : Program} {K : AV → Prop} {e : TypeId} {k k' : IntKind} {l r : Int} {es : List (List AV)} {id sz off len : Nat} {sub : Option (Nat × Nat × Nat)} {lo hi : Option AV} {b : ByteArray}
theorem sl_ref : sliceT P (.slice e) (.ref id sub sz off len) lo hi K = slR P e id sub sz off len K (lo.getD (.int .i64 0)) (hi.getD (.int .i64 len)) := _root_.id rfl
theorem sl_sl : sliceT P (.slice e) (.sl es) lo hi K = slF P e es K (lo.getD (.int .i64 0)) (hi.getD (.int .i64 es.length)) := _root_.id rfl
theorem sl_nil : sliceT P (.slice e) .nil lo hi K = slN P e K (lo.getD (.int .i64 0)) (hi.getD (.int .i64 0)) := _root_.id rfl
theorem sl_str : sliceT P .str (.str b) lo hi K = slS b K (lo.getD (.int .i64 0)) (hi.getD (.int .i64 b.size)) := _root_.id rfl
theorem slR_int : slR P e id sub sz off len K (.int k l) (.int k' r) = (sz = szOf P e ∧ szOf P e ≠ 0 ∧ 0 ≤ l ∧ l ≤ r ∧ r ≤ len ∧ K (.ref id sub sz (off + l.toNat) (r - l).toNat)) := _root_.id rfl
theorem slF_int : slF P e es K (.int k l) (.int k' r) = (szOf P e ≠ 0 ∧ (∀ el ∈ es, el.length = szOf P e) ∧ 0 ≤ l ∧ l ≤ r ∧ r ≤ es.length ∧ K (.sl ((es.drop l.toNat).take (r - l).toNat))) := _root_.id rfl
theorem slN_int : slN P e K (.int k l) (.int k' r) = (szOf P e ≠ 0 ∧ l = 0 ∧ r = 0 ∧ K .nil) := _root_.id rfl
theorem slS_int : slS b K (.int k l) (.int k' r) = (0 ≤ l ∧ l ≤ r ∧ r ≤ b.size ∧ K (.str (b.extract l.toNat r.toNat))) := _root_.id rfl
end
/-- Loading: what is at the place? -/
def ldC (ag : Option Nat) (cs : List AV) (c : Nat) (K : AV → Prop) : Prop :=
  match ag with
  | some n => c + n ≤ cs.length ∧ K (.agg ((cs.drop c).take n))
  | none => match cs[c]? with
    | some y => K y
    | none => False
def okV (K : AV → Prop) : Option AV → Prop
  | some y => K y
  | none => False
theorem okV_some {K : AV → Prop} {y : AV} : okV K (some y) = K y := _root_.id rfl
def okL (K : List AV → Prop) : Option (List AV) → Prop
  | some y => K y
  | none => False
theorem okL_some {K : List AV → Prop} {y : List AV} : okL K (some y) = K y := _root_.id rfl
def ldE (id : Nat) (sub : Option (Nat × Nat × Nat)) (sz i c : Nat) (K : AV → Prop) : Option Nat → Option (List AV) → Prop
  | some n, some e => c + n ≤ e.length ∧ okL (fun ys => K (.agg ys)) (cellsS id sub sz i c ((e.drop c).take n))
  | none, some e => okV K ((e[c]?).bind (cellS id sub sz i c))
  | _, none => False
def ldS (id : Nat) (sub : Option (Nat × Nat × Nat)) (sz i c : Nat) (K : AV → Prop) (ag : Option Nat) : Option (Nat × List (List AV)) → Prop
  | some (sz', es) => sz' = sz ∧ ldE id sub sz i c K ag es[i]?
  | none => False
def ldV (h : Heap) (id sz i c : Nat) (K : AV → Prop) (ag : Option Nat) : Option Ob → Prop
  | some (.var cs) => i = 0 ∧ ldC ag cs c K
  | some (.slice sz' es) => sz' = sz ∧ ldE id none sz i c K ag es[i]?
  | none => False
def loadT (ag : Option (Option Nat)) (h : Heap) (x : AV) (K : AV → Prop) : Prop :=
  match x, ag with
  | .pf cs, some (some n) => n ≤ cs.length ∧ allF (cs.take n) = true ∧ K (.agg (cs.take n))
  | .pf cs, some none => match cs with
    | y :: _ => isF y = true ∧ K y
    | [] => False
  | .ptr id none sz i c, some ag => ldV h id sz i c K ag (hget h id)
  | .ptr id (some u) sz i c, some ag => ldS id (some u) sz i c K ag (getS h id (some u))
  | _, _ => False
theorem load_eq {P : Program} {h : Heap} {ty : TypeId} {x : AV} {K : AV → Prop} : loadK P h ty x K = loadT (agT P ty) h x K := by
  unfold loadK loadT
  cases x <;> try rfl
  case pf cs => rcases agT P ty with _ | _ | n <;> rfl
  case ptr id sub sz i c =>
    rcases agT P ty with _ | ag
    · cases sub <;> rfl
    cases sub with
    | none =>
      simp only [getS, ldV]
      rcases hget h id with _ | ⟨sz', es⟩ | cs
      · rfl
      · simp only
        rcases es[i]? with _ | e
        · simp [ldE]
        rcases ag with _ | n
        · simp only [ldE]
          rcases e[c]? with _ | y
          · rfl
          · simp only [Option.bind_some]
            rcases cellS id none sz i c y with _ | z <;> rfl
        · simp only [ldE]
          rcases cellsS id none sz i c _ with _ | z <;> rfl
      · simp only [ldC]
        cases ag <;> rfl
    | some u =>
      simp only [ldS]
      rcases hq : getS h id (some u) with _ | ⟨sz', es⟩
      · simp
      · simp only
        rcases es[i]? with _ | e
        · simp [ldE]
        rcases ag with _ | n
        · simp only [ldE]
          rcases e[c]? with _ | y
          · rfl
          · simp only [Option.bind_some]
            rcases cellS id (some u) sz i c y with _ | z <;> rfl
        · simp only [ldE]
          rcases cellsS id (some u) sz i c _ with _ | z <;> rfl
section
variable {h : Heap} {id sz sz' i c n : Nat} {sub : Option (Nat × Nat × Nat)} {u : Nat × Nat × Nat} {K : AV → Prop} {ag : Option Nat} {cs e : List AV} {es : List (List AV)} {y : AV}
theorem ld_pfa : loadT (some (some n)) h (.pf cs) K = (n ≤ cs.length ∧ allF (cs.take n) = true ∧ K (.agg (cs.take n))) := _root_.id rfl
theorem ld_pf : loadT (some none) h (.pf (y :: cs)) K = (isF y = true ∧ K y) := _root_.id rfl
theorem ld_ptr : loadT (some ag) h (.ptr id none sz i c) K = ldV h id sz i c K ag (hget h id) := _root_.id rfl
theorem ld_sub : loadT (some ag) h (.ptr id (some u) sz i c) K = ldS id (some u) sz i c K ag (getS h id (some u)) := _root_.id rfl
theorem ldV_var : ldV h id sz i c K ag (some (.var cs)) = (i = 0 ∧ ldC ag cs c K) := _root_.id rfl
theorem ldV_slice : ldV h id sz i c K ag (some (.slice sz' es)) = (sz' = sz ∧ ldE id none sz i c K ag es[i]?) := _root_.id rfl
theorem ldS_some : ldS id sub sz i c K ag (some (sz', es)) = (sz' = sz ∧ ldE id sub sz i c K ag es[i]?) := _root_.id rfl
theorem ldE_agg : ldE id sub sz i c K (some n) (some e) = (c + n ≤ e.length ∧ okL (fun ys => K (.agg ys)) (cellsS id sub sz i c ((e.drop c).take n))) := _root_.id rfl
theorem ldE_one : ldE id sub sz i c K none (some e) = okV K ((e[c]?).bind (cellS id sub sz i c)) := _root_.id rfl
theorem ldC_agg : ldC (some n) cs c K = (c + n ≤ cs.length ∧ K (.agg ((cs.drop c).take n))) := _root_.id rfl
theorem ldC_one : ldC none cs c K = okV K cs[c]? := by simp only [ldC]; cases cs[c]? <;> rfl
end
/-! storing -/
def stIf (b : Bool) (K : St → Prop) (s : St) : Prop := if b = true then K s else K (killSt s)
theorem stIf_true {K : St → Prop} {s : St} : stIf true K s = K s := _root_.id rfl
theorem stIf_false {K : St → Prop} {s : St} : stIf false K s = K (killSt s) := _root_.id rfl
def stC (s : St) (id sz i : Nat) (es : List (List AV)) (K : St → Prop) (f : List AV → List AV) : Option (List AV × Heap) → Prop
  | some (ys, h') => match hget h' id with
    | some (.slice _ _) => K (killSt ⟨s.tmps, hset h' id (.slice sz (es.set i (f ys))), s.next⟩)
    | _ => False
  | none => False
def stE (s : St) (id : Nat) (sub : Option (Nat × Nat × Nat)) (sz i c : Nat) (cs : List AV) (es : List (List AV)) (K : St → Prop) : Option (List AV) → Prop
  | some e => c + cs.length ≤ e.length ∧ ifB (allSc cs && allSc ((e.drop c).take cs.length)) (K ⟨s.tmps, setS s.heap id sub (es.set i (setsA e c cs)), s.next⟩)
      (sub = none ∧ stC s id sz i es K (setsA e c) (conL s.heap cs))
  | none => False
def stG (s : St) (id : Nat) (sub : Option (Nat × Nat × Nat)) (sz i c : Nat) (cs : List AV) (K : St → Prop) : Option (Nat × List (List AV)) → Prop
  | some (sz', es) => sz' = sz ∧ stE s id sub sz i c cs es K es[i]?
  | none => False
def stV (s : St) (id sz i c : Nat) (cs : List AV) (K : St → Prop) : Option Ob → Prop
  | some (.var old) => i = 0 ∧ c + cs.length ≤ old.length ∧ stIf (allSc ((old.drop c).take cs.length)) K ⟨s.tmps, hset s.heap id (.var (setsA old c cs)), s.next⟩
  | some (.slice sz' es) => sz' = sz ∧ stE s id none sz i c cs es K es[i]?
  | none => False
def storeT (z : Nat) (s : St) (x : AV) (K : St → Prop) : Option (List AV) → Prop
  | some cs => z ≠ 0 ∧ cs.length = z ∧ match x with
    | .ptr id none sz i c => stV s id sz i c cs K (hget s.heap id)
    | .ptr id (some u) sz i c => stG s id (some u) sz i c cs K (getS s.heap id (some u))
    | _ => False
  | none => False
theorem stE_eq {s : St} {id : Nat} {sub : Option (Nat × Nat × Nat)} {sz i c : Nat} {cs : List AV} {es : List (List AV)} {K : St → Prop} : stE s id sub sz i c cs es K es[i]? = match es[i]? with
        | some e => c + cs.length ≤ e.length ∧
          (if allSc cs = true ∧ allSc ((e.drop c).take cs.length) = true then K ⟨s.tmps, setS s.heap id sub (es.set i (setsA e c cs)), s.next⟩
           else sub = none ∧ match conL s.heap cs with
             | some (ys, h') => match hget h' id with
               | some (.slice _ _) => K (killSt ⟨s.tmps, hset h' id (.slice sz (es.set i (setsA e c ys))), s.next⟩)
               | _ => False
             | none => False)
        | none => False := by
  rcases es[i]? with _ | e
  · rfl
  simp only [stE, stC]
  cases h1 : allSc cs <;> cases h2 : allSc ((e.drop c).take cs.length) <;> simp [ifB] <;>
    (rcases conL s.heap cs with _ | ⟨ys, h'⟩ <;> simp)
theorem store_eq {P : Program} {s : St} {ty : TypeId} {x v : AV} {K : St → Prop} : storeK P s ty x v K = storeT (szOf P ty) s x K (cellsV v) := by
  unfold storeK storeT
  cases x <;> (try (rcases cellsV v with _ | cs <;> simp; done))
  case ptr id sub sz i c =>
    rcases cellsV v with _ | cs
    · rfl
    cases sub with
    | none =>
      simp only [getS, stV]
      rcases hget s.heap id with _ | ⟨sz', es⟩ | old
      · rfl
      · simp only [stE_eq]; rfl
      · simp only [stIf]
    | some u =>
      simp only [stG]
      rcases getS s.heap id (some u) with _ | ⟨sz', es⟩
      · rfl
      · simp only [stE_eq]; rfl
section
variable {s : St} {h' : Heap} {id z sz sz' i c : Nat} {sub : Option (Nat × Nat × Nat)} {u : Nat × Nat × Nat} {K : St → Prop} {cs e old ys : List AV} {es : List (List AV)} {f : List AV → List AV}
theorem st_ptr : storeT z s (.ptr id none sz i c) K (some cs) = (z ≠ 0 ∧ cs.length = z ∧ stV s id sz i c cs K (hget s.heap id)) := _root_.id rfl
theorem st_sub : storeT z s (.ptr id (some u) sz i c) K (some cs) = (z ≠ 0 ∧ cs.length = z ∧ stG s id (some u) sz i c cs K (getS s.heap id (some u))) := _root_.id rfl
theorem stV_var : stV s id sz i c cs K (some (.var old)) = (i = 0 ∧ c + cs.length ≤ old.length ∧ stIf (allSc ((old.drop c).take cs.length)) K ⟨s.tmps, hset s.heap id (.var (setsA old c cs)), s.next⟩) := _root_.id rfl
theorem stV_slice : stV s id sz i c cs K (some (.slice sz' es)) = (sz' = sz ∧ stE s id none sz i c cs es K es[i]?) := _root_.id rfl
theorem stG_some : stG s id sub sz i c cs K (some (sz', es)) = (sz' = sz ∧ stE s id sub sz i c cs es K es[i]?) := _root_.id rfl
theorem stE_some : stE s id sub sz i c cs es K (some e) = (c + cs.length ≤ e.length ∧ ifB (allSc cs && allSc ((e.drop c).take cs.length)) (K ⟨s.tmps, setS s.heap id sub (es.set i (setsA e c cs)), s.next⟩)
      (sub = none ∧ stC s id sz i es K (setsA e c) (conL s.heap cs))) := _root_.id rfl
def stD (s : St) (id sz i : Nat) (es : List (List AV)) (K : St → Prop) (ys' : List AV) (h' : Heap) : Option Ob → Prop
  | some (.slice _ _) => K (killSt ⟨s.tmps, hset h' id (.slice sz (es.set i ys')), s.next⟩)
  | _ => False
theorem stC_some : stC s id sz i es K f (some (ys, h')) = stD s id sz i es K (f ys) h' (hget h' id) := by
  simp only [stC, stD]

theorem stD_some {es' : List (List AV)} : stD s id sz i es K ys h' (some (.slice sz' es')) = K (killSt ⟨s.tmps, hset h' id (.slice sz (es.set i ys)), s.next⟩) := _root_.id rfl
end
/-! variables and slices that are made -/
def allocT (z : Option (List AV)) (s : St) (K : AV → St → Prop) : Prop :=
  match z with
  | some cs => K (.ptr s.next none 0 0 0) ⟨s.tmps, (s.next, .var cs) :: s.heap, s.next + 1⟩
  | none => False
theorem al_some {cs : List AV} {t : List AV} {h : Heap} {n : Nat} {K : AV → St → Prop} : allocT (some cs) ⟨t, h, n⟩ K = K (.ptr n none 0 0 0) ⟨t, (n, .var cs) :: h, n + 1⟩ := _root_.id rfl
theorem box_eq {s : St} {v : AV} {K : AV → St → Prop} : boxK s v K = allocT (cellsV v) s K := by
  unfold boxK allocT; cases cellsV v <;> rfl
theorem cv_agg {cs : List AV} : cellsV (.agg cs) = some cs := _root_.id rfl
theorem cv_int {k : IntKind} {i : Int} : cellsV (.int k i) = some [.int k i] := _root_.id rfl
theorem cv_bool {b : Bool} : cellsV (.bool b) = some [.bool b] := _root_.id rfl
theorem cv_str {b : ByteArray} : cellsV (.str b) = some [.str b] := _root_.id rfl
theorem cv_nil : cellsV .nil = some [.nil] := _root_.id rfl
theorem cv_sl {es : List (List AV)} : cellsV (.sl es) = some [.sl es] := _root_.id rfl
theorem cv_pf {es : List AV} : cellsV (.pf es) = some [.pf es] := _root_.id rfl
theorem cv_ref {id : Nat} {sub : Option (Nat × Nat × Nat)} {a b c : Nat} : cellsV (.ref id sub a b c) = some [.ref id sub a b c] := _root_.id rfl
theorem cv_ptr {id : Nat} {sub : Option (Nat × Nat × Nat)} {a b c : Nat} : cellsV (.ptr id sub a b c) = some [.ptr id sub a b c] := _root_.id rfl
theorem cv_fn {f : FuncId} {cs : List AV} : cellsV (.fn f cs) = some [.fn f cs] := _root_.id rfl
def okAgg (K : AV → Prop) : Option (List AV) → Prop
  | some cs => K (.agg cs)
  | none => False
theorem okAgg_some {K : AV → Prop} {cs : List AV} : okAgg K (some cs) = K (.agg cs) := _root_.id rfl
def buildT (pl : Option (List (Nat × Nat))) (z : Option (List AV)) (parts : List (Nat × AV)) (K : AV → Prop) : Prop :=
  match pl, z with
  | some pl, some zs => okAgg K (fillA (pl[·]?) zs parts)
  | _, _ => False
theorem build_eq {P : Program} {ty : TypeId} {parts : List (Nat × AV)} {K : AV → Prop} : buildK P ty parts K = buildT (places P ty) (zeroCells P ty) parts K := by
  unfold buildK buildT
  rcases places P ty with _ | pl <;> rcases zeroCells P ty with _ | zs <;> try rfl


theorem bu_some {pl : List (Nat × Nat)} {zs : List AV} {parts : List (Nat × AV)} {K : AV → Prop} : buildT (some pl) (some zs) parts K = okAgg K (fillA (pl[·]?) zs parts) := _root_.id rfl
theorem fill_nil {p : Nat → Option (Nat × Nat)} {cs : List AV} : fillA p cs [] = some cs := _root_.id rfl
def fill1 (p : Nat → Option (Nat × Nat)) (cells : List AV) (rest : List (Nat × AV)) : Option (Nat × Nat) → Option (List AV) → Option (List AV)
  | some (off, size), some cs => if cs.length = size ∧ off + cs.length ≤ cells.length then fillA p (setsA cells off cs) rest else none
  | _, _ => none
theorem fill_cons {p : Nat → Option (Nat × Nat)} {cs : List AV} {i : Nat} {v : AV} {rest : List (Nat × AV)} : fillA p cs ((i, v) :: rest) = fill1 p cs rest (p i) (cellsV v) := by
  simp only [fillA]
  rcases p i with _ | ⟨_, _⟩ <;> rcases cellsV v with _ | _ <;> rfl
theorem fill1_some {p : Nat → Option (Nat × Nat)} {cells cs : List AV} {rest : List (Nat × AV)} {off size : Nat} : fill1 p cells rest (some (off, size)) (some cs) = if cs.length = size ∧ off + cs.length ≤ cells.length then fillA p (setsA cells off cs) rest else none := _root_.id rfl
def mkE (s : St) (z : Nat) (l : Int) (K : AV → St → Prop) : Option (List AV) → Prop
  | some zs => zs.length = z ∧ allF zs = true ∧ K (.ref s.next none z 0 l.toNat) ⟨s.tmps, (s.next, .slice z (List.replicate l.toNat zs)) :: s.heap, s.next + 1⟩
  | none => False
theorem mkE_some {t : List AV} {h : Heap} {n z : Nat} {l : Int} {K : AV → St → Prop} {zs : List AV} : mkE ⟨t, h, n⟩ z l K (some zs) = (zs.length = z ∧ allF zs = true ∧ K (.ref n none z 0 l.toNat) ⟨t, (n, .slice z (List.replicate l.toNat zs)) :: h, n + 1⟩) := _root_.id rfl
def makeT (P : Program) (k : TK) (s : St) (l c : AV) (K : AV → St → Prop) : Prop :=
  match k, l, c with
  | .slice e, .int _ l, .int _ c => szOf P e ≠ 0 ∧ 0 ≤ l ∧ l ≤ c ∧ (byOf P e : Int) * c ≤ 140737488355328 ∧ c ≤ 9223372036854775807 ∧ mkE s (szOf P e) l K (zeroCells P e)
  | _, _, _ => False
theorem make_eq {P : Program} {s : St} {ty : TypeId} {l c : AV} {K : AV → St → Prop} : makeSliceK P s ty l c K = makeT P (tk P ty) s l c K := by
  unfold makeSliceK makeT
  rcases tk P ty with _ | _ | _ | _ | _ | _ | _ | _ <;> cases l <;> cases c <;> try rfl



theorem mk_slice {P : Program} {e : TypeId} {s : St} {k k' : IntKind} {l c : Int} {K : AV → St → Prop} : makeT P (.slice e) s (.int k l) (.int k' c) K = (szOf P e ≠ 0 ∧ 0 ≤ l ∧ l ≤ c ∧ (byOf P e : Int) * c ≤ 140737488355328 ∧ c ≤ 9223372036854775807 ∧ mkE s (szOf P e) l K (zeroCells P e)) := _root_.id rfl
def bsC (s : St) (z len : Nat) (K : AV → St → Prop) : Option (List AV × Heap) → Prop
  | some (ts, h') => K (.ref s.next none z 0 len) ⟨s.tmps, (s.next, .slice z (chunk z len ts)) :: h', s.next + 1⟩
  | none => False
def bsF (s : St) (z len : Nat) (K : AV → St → Prop) : Option (List AV) → Prop
  | some cs => bsC s z len K (conL s.heap cs)
  | none => False
def bsZ (s : St) (z len : Nat) (parts : List (Nat × AV)) (K : AV → St → Prop) : Option (List AV) → Prop
  | some zs => zs.length = z ∧ bsF s z len K (fillA (fun i => some (i * z, z)) ((List.replicate len zs).flatten) parts)
  | none => False
def buildST (P : Program) (k : TK) (s : St) (len : Nat) (parts : List (Nat × AV)) (K : AV → St → Prop) : Prop :=
  match k with
  | .slice e => szOf P e ≠ 0 ∧ len * szOf P e ≤ 16777216 ∧ if len = 0 then K (.ref s.next none (szOf P e) 0 0) ⟨s.tmps, (s.next, .slice (szOf P e) []) :: s.heap, s.next + 1⟩ else bsZ s (szOf P e) len parts K (zeroCells P e)
  | _ => False
theorem buildS_eq {P : Program} {s : St} {ty : TypeId} {len : Nat} {parts : List (Nat × AV)} {K : AV → St → Prop} : buildSliceK P s ty len parts K = buildST P (tk P ty) s len parts K := by
  unfold buildSliceK buildST
  rcases tk P ty with e | _ | _ | _ | _ | _ | _ | _ <;> try rfl




theorem bs_slice {P : Program} {e : TypeId} {s : St} {len : Nat} {parts : List (Nat × AV)} {K : AV → St → Prop} : buildST P (.slice e) s len parts K = (szOf P e ≠ 0 ∧ len * szOf P e ≤ 16777216 ∧ if len = 0 then K (.ref s.next none (szOf P e) 0 0) ⟨s.tmps, (s.next, .slice (szOf P e) []) :: s.heap, s.next + 1⟩ else bsZ s (szOf P e) len parts K (zeroCells P e)) := _root_.id rfl
theorem bsZ_some {s : St} {z len : Nat} {parts : List (Nat × AV)} {K : AV → St → Prop} {zs : List AV} : bsZ s z len parts K (some zs) = (zs.length = z ∧ bsF s z len K (fillA (fun i => some (i * z, z)) ((List.replicate len zs).flatten) parts)) := _root_.id rfl
theorem bsF_some {s : St} {z len : Nat} {K : AV → St → Prop} {cs : List AV} : bsF s z len K (some cs) = bsC s z len K (conL s.heap cs) := _root_.id rfl
theorem bsC_some {t : List AV} {h h' : Heap} {n : Nat} {z len : Nat} {K : AV → St → Prop} {ts : List AV} : bsC ⟨t, h, n⟩ z len K (some (ts, h')) = K (.ref n none z 0 len) ⟨t, (n, .slice z (chunk z len ts)) :: h', n + 1⟩ := _root_.id rfl
def lenT (k : TK) (x : AV) (K : AV → Prop) : Prop :=
  match k, x with
  | .slice _, .ref _ _ _ _ len => K (.int .i64 len)
  | .slice _, .sl es => K (.int .i64 es.length)
  | .slice _, .nil => K (.int .i64 0)
  | .str, .str s => K (.int .i64 s.size)
  | _, _ => False
theorem len_eq {P : Program} {ty : TypeId} {x : AV} {K : AV → Prop} : lenK P ty x K = lenT (tk P ty) x K := _root_.id rfl
theorem len_ref {e : TypeId} {id sz off len : Nat} {sub : Option (Nat × Nat × Nat)} {K : AV → Prop} : lenT (.slice e) (.ref id sub sz off len) K = K (.int .i64 len) := _root_.id rfl
theorem len_sl {e : TypeId} {es : List (List AV)} {K : AV → Prop} : lenT (.slice e) (.sl es) K = K (.int .i64 es.length) := _root_.id rfl
theorem len_nil {e : TypeId} {K : AV → Prop} : lenT (.slice e) .nil K = K (.int .i64 0) := _root_.id rfl
theorem len_str {b : ByteArray} {K : AV → Prop} : lenT .str (.str b) K = K (.int .i64 b.size) := _root_.id rfl
def convT (k k' : TK) (x : AV) (K : AV → Prop) : Prop :=
  match k, k', x with
  | .int _, .int k, .int _ n => K (.int k (k.wrap n))
  | _, _, _ => False
theorem conv_eq {P : Program} {ty ty' : TypeId} {x : AV} {K : AV → Prop} : convK P ty ty' x K = convT (tk P ty) (tk P ty') x K := _root_.id rfl
theorem conv_int {k k' k2 : IntKind} {n : Int} {K : AV → Prop} : convT (.int k) (.int k') (.int k2 n) K = K (.int k' (k'.wrap n)) := _root_.id rfl
/-! appending -/
def apY (s : St) (z by' : Nat) (es1 : List (List AV)) (K : AV → St → Prop) : Option (List (List AV) × Heap) → Prop
  | some (es2, h2) => (es1.length + es2.length) * by' ≤ 140737488355328 ∧ K (.ref s.next none z 0 (es1.length + es2.length)) (killSt ⟨s.tmps, (s.next, .slice z (es1 ++ es2)) :: h2, s.next + 1⟩)
  | none => False
def apX (P : Program) (s : St) (tx : TypeId) (z by' : Nat) (y : AV) (K : AV → St → Prop) : Option (List (List AV) × Heap) → Prop
  | some (es1, h1) => apY s z by' es1 K (appY P h1 z tx y)
  | none => False
def appendT (P : Program) (k : TK) (s : St) (tx : TypeId) (x y : AV) (K : AV → St → Prop) : Prop :=
  match k with
  | .slice e => szOf P e ≠ 0 ∧ byOf P e ≠ 0 ∧ (zeroCells P e).map (·.length) = some (szOf P e) ∧ apX P s tx (szOf P e) (byOf P e) y K (appX P s.heap (szOf P e) x)
  | _ => False
theorem append_eq {P : Program} {s : St} {ty tx : TypeId} {x y : AV} {K : AV → St → Prop} : appendK P s ty tx x y K = appendT P (tk P ty) s tx x y K := by
  unfold appendK appendT
  rcases tk P ty with e | _ | _ | _ | _ | _ | _ | _ <;> try rfl



def apXR (z z' off len : Nat) (h : Heap) (id : Nat) : Option Ob → Option (List (List AV) × Heap)
  | some (.slice sz2 es) => if z' = sz2 ∧ z' = z then some ((es.drop off).take len, hdel h id) else none
  | _ => none
def apYR (z z' off len : Nat) (h : Heap) (id : Nat) (sub : Option (Nat × Nat × Nat)) : Option (Nat × List (List AV)) → Option (List (List AV) × Heap)
  | some (sz2, es) => if z' = sz2 ∧ z' = z then (if allScs ((es.drop off).take len) then some ((es.drop off).take len, h) else match sub with | none => some ((es.drop off).take len, hdel h id) | some _ => none) else none
  | _ => none
def appYT (h : Heap) (sz : Nat) (k : TK) : AV → Option (List (List AV) × Heap)
  | .nil => match k with | .slice _ => some ([], h) | _ => none
  | .ref id sub sz' off len => match k with | .slice _ => apYR sz sz' off len h id sub (getS h id sub) | _ => none
  | .sl es => match k with | .slice _ => if es.all (fun e => e.length == sz) then some (es, h) else none | _ => none
  | .str s => match k with | .str => if sz = 1 then some (s.data.toList.map fun b => [.int .u8 b.toNat], h) else none | _ => none
  | _ => none
theorem appY_eq {P : Program} {h : Heap} {sz : Nat} {tx : TypeId} {y : AV} : appY P h sz tx y = appYT h sz (tk P tx) y := by
  cases y <;> try rfl
  rename_i id sub sz' off len
  simp only [appY, appYT]
  rcases tk P tx with e | _ | _ | _ | _ | _ | _ | _ <;> try rfl
  simp only
  rcases getS h id sub with _ | ⟨a, b⟩ <;> rfl
section
variable {P : Program} {e tx : TypeId} {s : St} {t : List AV} {h h1 h2 : Heap} {n z z' by' id off len sz2 : Nat} {x y : AV} {K : AV → St → Prop} {es es1 es2 : List (List AV)} {sub : Option (Nat × Nat × Nat)} {b : ByteArray}
theorem ap_slice : appendT P (.slice e) s tx x y K = (szOf P e ≠ 0 ∧ byOf P e ≠ 0 ∧ (zeroCells P e).map (·.length) = some (szOf P e) ∧ apX P s tx (szOf P e) (byOf P e) y K (appX P s.heap (szOf P e) x)) := _root_.id rfl
theorem apX_some : apX P s tx z by' y K (some (es1, h1)) = apY s z by' es1 K (appYT h1 z (tk P tx) y) := by rw [← appY_eq]; rfl
theorem apY_some : apY ⟨t, h, n⟩ z by' es1 K (some (es2, h2)) = ((es1.length + es2.length) * by' ≤ 140737488355328 ∧ K (.ref n none z 0 (es1.length + es2.length)) (killSt ⟨t, (n, .slice z (es1 ++ es2)) :: h2, n + 1⟩)) := _root_.id rfl
theorem appX_nil : appX P h z .nil = some ([], h) := _root_.id rfl
theorem appX_ref : appX P h z (.ref id none z' off len) = apXR z z' off len h id (hget h id) := by
  simp only [appX, apXR]
  rcases hget h id with _ | ⟨_, _⟩ | _ <;> rfl
theorem apXR_some : apXR z z' off len h id (some (.slice sz2 es)) = if z' = sz2 ∧ z' = z then some ((es.drop off).take len, hdel h id) else none := _root_.id rfl
theorem appY_nil : appYT h z (.slice e) .nil = some ([], h) := _root_.id rfl
theorem appY_ref : appYT h z (.slice e) (.ref id sub z' off len) = apYR z z' off len h id sub (getS h id sub) := _root_.id rfl
theorem appY_sl : appYT h z (.slice e) (.sl es) = if es.all (fun e => e.length == z) then some (es, h) else none := _root_.id rfl
theorem appY_str : appYT h z .str (.str b) = if z = 1 then some (b.data.toList.map fun b => [.int .u8 b.toNat], h) else none := _root_.id rfl
theorem apYR_sc (hs : allScs ((es.drop off).take len) = true) : apYR z z' off len h id sub (some (sz2, es)) = if z' = sz2 ∧ z' = z then some ((es.drop off).take len, h) else none := by
  simp [apYR, hs]
theorem apYR_ns (hs : allScs ((es.drop off).take len) = false) : apYR z z' off len h id none (some (sz2, es)) = if z' = sz2 ∧ z' = z then some ((es.drop off).take len, hdel h id) else none := by
  simp [apYR, hs]
theorem getS_none : getS h id none = (match hget h id with | some (.slice sz es) => some (sz, es) | _ => none) := _root_.id rfl
end
/-! the operations by their layouts -/
section
variable {P : Program} {G : Glo} {C : CT} {md : FuncId → Bool} {s : St} {K : AV → St → Prop} {ty ty' : TypeId} {x y i v l c : Operand} {j : Nat}
theorem p_faddr : opK P G C md (.fieldAddr ty x j) s K = faddrT (tk P ty) (ev G s x) j (fun v => K v s) := _root_.id rfl
theorem p_iaddr : opK P G C md (.indexAddr ty x i) s K = iaddrT P (tk P ty) (ev G s x) (ev G s i) (fun v => K v s) := _root_.id rfl
theorem p_idx : opK P G C md (.index ty x i) s K = idxT (tk P ty) (ev G s x) (ev G s i) (fun v => K v s) := _root_.id rfl
theorem p_slice {lo hi : Option Operand} : opK P G C md (.slice ty x lo hi none) s K = sliceT P (tk P ty) (ev G s x) (lo.map (ev G s)) (hi.map (ev G s)) (fun v => K v s) := by
  simp only [opK, sliceK, sliceT]
  rcases tk P ty with e | _ | _ | _ | _ | _ | _ | _ <;> cases ev G s x <;> (try rfl) <;>
  cases (lo.map (ev G s)).getD (.int .i64 0) <;> (try rfl) <;> simp only [slR, slF, slN, slS] <;>
  (generalize Option.getD _ _ = z; cases z <;> rfl)
theorem p_load : opK P G C md (.load ty x) s K = loadT (agT P ty) s.heap (ev G s x) (fun v => K v s) := (_root_.id rfl : _ = loadK P s.heap ty (ev G s x) (fun v => K v s)).trans load_eq
theorem p_store : opK P G C md (.store ty x v) s K = storeT (szOf P ty) s (ev G s x) (fun s' => K .any s') (cellsV (ev G s v)) := store_eq
theorem p_alloc : opK P G C md (.alloc ty) s K = allocT (zeroCells P ty) s K := _root_.id rfl
theorem p_box : opK P G C md (.box ty x) s K = allocT (cellsV (ev G s x)) s K := box_eq
theorem p_build {ps : Array (Nat × Operand)} : opK P G C md (.build ty ps) s K = buildT (places P ty) (zeroCells P ty) (ps.toList.map fun p => (p.1, ev G s p.2)) (fun v => K v s) := (_root_.id rfl : _ = buildK P ty (ps.toList.map fun p => (p.1, ev G s p.2)) (fun v => K v s)).trans build_eq
theorem p_buildS {m : Nat} {ps : Array (Nat × Operand)} : opK P G C md (.buildSlice ty m ps) s K = ((m = 0 → ps.toList = []) ∧ buildST P (tk P ty) s m (ps.toList.map fun p => (p.1, ev G s p.2)) K) := by
  rw [o_buildS, buildS_eq]
theorem p_make : opK P G C md (.makeSlice ty l c) s K = makeT P (tk P ty) s (ev G s l) (ev G s c) K := make_eq
theorem p_conv : opK P G C md (.convert ty ty' x) s K = convT (tk P ty) (tk P ty') (ev G s x) (fun v => K v s) := _root_.id rfl
theorem p_len : opK P G C md (.call ⟨.builtin .len, ⟨[x]⟩, ⟨[ty]⟩⟩) s K = lenT (tk P ty) (ev G s x) (fun v => K v s) := _root_.id rfl
theorem p_append : opK P G C md (.call ⟨.builtin .append, ⟨[x, y]⟩, ⟨[ty, ty']⟩⟩) s K = appendT P (tk P ty) s ty' (ev G s x) (ev G s y) K := append_eq
end
/-! binary operators -/
section
variable {P : Program} {ty : TypeId} {k k' : IntKind} {a b : Int} {K : AV → Prop} {u v : ByteArray} {p q : Bool}
theorem bi_add : binK P .add ty (.int k a) (.int k' b) K = (k = k' ∧ K (.int k (k.wrap (a + b)))) := _root_.id rfl
theorem bi_sub : binK P .sub ty (.int k a) (.int k' b) K = (k = k' ∧ K (.int k (k.wrap (a - b)))) := _root_.id rfl
theorem bi_mul : binK P .mul ty (.int k a) (.int k' b) K = (k = k' ∧ K (.int k (k.wrap (a * b)))) := _root_.id rfl
theorem bi_quo : binK P .quo ty (.int k a) (.int k' b) K = (k = k' ∧ b ≠ 0 ∧ K (.int k (k.wrap (a.tdiv b)))) := _root_.id rfl
theorem bi_rem : binK P .rem ty (.int k a) (.int k' b) K = (k = k' ∧ b ≠ 0 ∧ K (.int k (a.tmod b))) := _root_.id rfl
theorem bi_eql : binK P .eql ty (.int k a) (.int k' b) K = (k = k' ∧ K (.bool (decide (a = b)))) := by
  simp only [binK, intK]; rw [show (a == b) = decide (a = b) from rfl]
theorem bi_neq : binK P .neq ty (.int k a) (.int k' b) K = (k = k' ∧ K (.bool (!decide (a = b)))) := by
  simp only [binK, intK]; rw [show (a != b) = !decide (a = b) from rfl]
theorem bi_lss : binK P .lss ty (.int k a) (.int k' b) K = (k = k' ∧ K (.bool (decide (a < b)))) := _root_.id rfl
theorem bi_leq : binK P .leq ty (.int k a) (.int k' b) K = (k = k' ∧ K (.bool (decide (a ≤ b)))) := _root_.id rfl
theorem bi_gtr : binK P .gtr ty (.int k a) (.int k' b) K = (k = k' ∧ K (.bool (decide (b < a)))) := _root_.id rfl
theorem bi_geq : binK P .geq ty (.int k a) (.int k' b) K = (k = k' ∧ K (.bool (decide (b ≤ a)))) := _root_.id rfl
theorem bi_shl : binK P .shl ty (.int k a) (.int k' b) K = (0 ≤ b ∧ K (.int k (k.wrap (a * 2 ^ (min b.toNat k.bits))))) := _root_.id rfl
theorem bi_shr : binK P .shr ty (.int k a) (.int k' b) K = (0 ≤ b ∧ K (.int k (a.fdiv (2 ^ (min b.toNat k.bits))))) := _root_.id rfl
theorem bi_str {op : BinOp} : binK P op ty (.str u) (.str v) K = strK op u v K := by cases op <;> rfl
def bbT (k : TK) (op : BinOp) (a b : Bool) (K : AV → Prop) : Prop :=
  match k, op with
  | .bool, .eql => K (.bool (a == b))
  | .bool, .neq => K (.bool (!(a == b)))
  | _, _ => False
theorem bi_bool {op : BinOp} : binK P op ty (.bool p) (.bool q) K = bbT (tk P ty) op p q K := by cases op <;> rfl
theorem bb_eql : bbT .bool .eql p q K = K (.bool (p == q)) := _root_.id rfl
theorem bb_neq : bbT .bool .neq p q K = K (.bool (!(p == q))) := _root_.id rfl
def snT (k : TK) (op : BinOp) (e : Prop) (K : AV → Prop) : Prop :=
  match k, op with
  | .slice _, .eql => ∀ b : Bool, (b = true → e) → K (.bool b)
  | .slice _, .neq => ∀ b : Bool, (b = false → e) → K (.bool b)
  | _, _ => False
theorem bi_sln {op : BinOp} {es : List (List AV)} : binK P op ty (.sl es) .nil K = snT (tk P ty) op (es = []) K := by cases op <;> rfl
theorem bi_refn {op : BinOp} {id sz off len : Nat} : binK P op ty (.ref id none sz off len) .nil K = snT (tk P ty) op (len = 0) K := by cases op <;> rfl
def nnT (k : TK) (op : BinOp) (K : AV → Prop) : Prop :=
  match k, op with
  | .slice _, .eql => K (.bool true)
  | .slice _, .neq => K (.bool false)
  | _, _ => False
theorem bi_niln {op : BinOp} : binK P op ty .nil .nil K = nnT (tk P ty) op K := by cases op <;> rfl
theorem nn_eql {e : TypeId} : nnT (.slice e) .eql K = K (.bool true) := _root_.id rfl
theorem nn_neq {e : TypeId} : nnT (.slice e) .neq K = K (.bool false) := _root_.id rfl
theorem sn_eql {e : TypeId} {z : Prop} : snT (.slice e) .eql z K = ∀ b : Bool, (b = true → z) → K (.bool b) := _root_.id rfl
theorem sn_neq {e : TypeId} {z : Prop} : snT (.slice e) .neq z K = ∀ b : Bool, (b = false → z) → K (.bool b) := _root_.id rfl
end
/-! loops -/
section
variable {P : Program} {G : Glo} {C : CT} {md : FuncId → Bool} {B : Nat} {c : XC} {s : St} {Q : XE → St → Prop}
/-- A loop by what its heads may be; k: how many rounds are still to come at most. -/
theorem R_ind (acts : List Keepd) (H : Nat → St → Prop) (k0 : Nat) (s0 : St) (h0 : HeadAt B acts s s0) (hH : H k0 s0)
    (h : ∀ k s', H k s' → ∀ J : St → Prop, (∀ k' s s'', k' < k → H k' s'' → HeadAt B acts s s'' → J s) → R P G C md B c s' (thenX J Q)) : R P G C md B (.loop c) s Q := by
  refine R_loop acts fun J hJ => ?_
  have key : ∀ k s s', H k s' → HeadAt B acts s s' → J s := by
    intro k
    induction k using Nat.strongRecOn with
    | ind k ih =>
      intro s s' hk hs
      exact hJ s s' hs (h k s' hk J fun k' s s'' hlt h2 h3 => ih k' hlt s s'' h2 h3)
  exact key k0 s s0 hH h0
/-- A loop that counts: its heads are a function of the count. -/
theorem R_count (acts : List Keepd) (S : Nat → St) (I : Nat → Prop) (n i0 : Nat) (h0 : HeadAt B acts s (S i0)) (hle : i0 ≤ n) (hI : I i0)
    (h : ∀ i, i ≤ n → I i → ∀ J : St → Prop, (i < n → I (i + 1) → ∀ s, HeadAt B acts s (S (i + 1)) → J s) → R P G C md B c (S i) (thenX J Q)) : R P G C md B (.loop c) s Q := by
  refine R_ind acts (fun k s' => ∃ i, i + k = n ∧ s' = S i ∧ I i) (n - i0) (S i0) h0 ⟨i0, by omega, rfl, hI⟩ ?_
  rintro k s' ⟨i, hi, rfl, hIi⟩ J hJ
  exact h i (by omega) hIi J fun hlt hI' s hs => hJ (k - 1) s _ (by omega) ⟨i + 1, by omega, rfl, hI'⟩ hs
end
end Go.Proofs.YtlddjlchgibdfaaDoor.X
set_option linter.unusedVariables false
set_option linter.unusedSimpArgs false
namespace Go.Proofs.YtlddjlchgibdfaaDoor.X
open Go

/-! ### Slots by what was written last -/
def lk (u : AV) : List (Nat × AV) → Nat → AV
  | [], _ => u
  | (i, v) :: l, d => if i = d then v else lk u l d
def tb (n : Nat) (u : AV) (l : List (Nat × AV)) : List AV := (List.range n).map (lk u l)
theorem lk_same {u v : AV} {l : List (Nat × AV)} {d : Nat} : lk u ((d, v) :: l) d = v := by simp [lk]
theorem lk_ne {u v : AV} {l : List (Nat × AV)} {i d : Nat} (h : (i == d) = false) : lk u ((i, v) :: l) d = lk u l d := by
  simp at h; simp [lk, h]
theorem lk_nil {u : AV} {d : Nat} : lk u [] d = u := _root_.id rfl
theorem tb_length {n : Nat} {u : AV} {l : List (Nat × AV)} : (tb n u l).length = n := by simp [tb]
theorem tb_get {n d : Nat} {u : AV} {l : List (Nat × AV)} (h : d < n) : (tb n u l).getD d .any = lk u l d := by
  simp [tb, List.getD, h]
theorem tb_set {n d : Nat} {u v : AV} {l : List (Nat × AV)} : (tb n u l).set d v = tb n u ((d, v) :: l) := by
  apply List.ext_getElem
  · simp [tb]
  · intro i h1 h2
    simp only [tb, List.length_map, List.length_range, List.length_set] at h1 h2
    rw [List.getElem_set]
    split
    · rename_i h; subst h; simp [tb, lk]
    · rename_i h; simp [tb, lk, h]
def killA : List (Nat × AV) → List (Nat × AV)
  | [] => []
  | (i, v) :: l => (i, killS v) :: killA l
theorem killL_map {α : Type} (f : α → AV) : ∀ l : List α, killL (l.map f) = l.map fun i => killS (f i)
  | [] => rfl
  | x :: l => by simp only [List.map_cons, killL, killL_map f l]
theorem kill_lk {u : AV} (hu : killS u = u) : ∀ (l : List (Nat × AV)) (d : Nat), killS (lk u l d) = lk u (killA l) d
  | [], d => hu
  | (i, v) :: l, d => by
    simp only [lk, killA]
    split
    · rfl
    · exact kill_lk hu l d
theorem tb_kill {n : Nat} {u : AV} {l : List (Nat × AV)} (hu : killS u = u) : killL (tb n u l) = tb n u (killA l) := by
  simp only [tb, killL_map, kill_lk hu]
theorem tb_kill_u {n : Nat} {l : List (Nat × AV)} {h : Heap} {m : Nat} : killSt ⟨tb n (.con undef) l, h, m⟩ = ⟨tb n (.con undef) (killA l), killH h, m⟩ := by
  simp only [killSt, tb_kill (show killS (.con undef) = .con undef from rfl)]
theorem tb_kill_a {n : Nat} {l : List (Nat × AV)} {h : Heap} {m : Nat} : killSt ⟨tb n .any l, h, m⟩ = ⟨tb n .any (killA l), killH h, m⟩ := by
  simp only [killSt, tb_kill (show killS .any = .any from rfl)]
def argA : Nat → List AV → List (Nat × AV)
  | _, [] => []
  | k, x :: xs => (k, x) :: argA (k + 1) xs
theorem lk_arg {u : AV} : ∀ (xs : List AV) (k d : Nat), lk u (argA k xs) d = if k ≤ d then xs.getD (d - k) u else u
  | [], k, d => by simp [argA, lk]
  | x :: xs, k, d => by
    simp only [argA, lk]
    rcases Nat.lt_trichotomy k d with h | h | h
    · rw [if_neg (by omega), lk_arg xs, if_pos (by omega), if_pos (by omega), show d - k = (d - (k + 1)) + 1 by omega, List.getD_cons_succ]
    · subst h; simp
    · rw [if_neg (by omega), lk_arg xs, if_neg (by omega), if_neg (by omega)]
theorem tb_arg {u : AV} {xs : List AV} {n : Nat} (h : xs.length ≤ n) : xs ++ List.replicate (n - xs.length) u = tb n u (argA 0 xs) := by
  apply List.ext_getElem
  · simp [tb]; omega
  · intro i h1 h2
    simp only [List.length_append, List.length_replicate] at h1
    simp only [tb, List.getElem_map, List.getElem_range, lk_arg, Nat.zero_le, if_true, Nat.sub_zero]
    rw [List.getElem_append]
    split
    · rename_i h; simp [List.getD, h]
    · rename_i h; simp [List.getD, show xs[i]? = none by simp; omega]
section
variable {P : Program} {G : Glo} {C : CT} {md : FuncId → Bool}
/-- A function's contract from its compact code; its slots by what was written last. -/
theorem Ev.runT (hC : Closed P G md C) {f : FuncId} {fn : Func} {ts : List AV} {r : AV} {x : XC} {n : Nat} {rs : List ResultVar} (hf : P.funcs[f]? = some fn) (hx : compF md fn = x) (hn : fn.ntmps = n) (hrs : fn.results.toList = rs) (hne : fn.name ≠ "runtime.NumGoroutine") (hl : ts.length ≤ n) (ho : ownR r = true)
    (hr : R P G C md 0 x ⟨tb n (.con undef) (argA 0 ts), [], 0⟩ (bodyQ P rs fun v h _ => RetTo h v r)) : Ev C f ts r := by
  subst hn; subst hrs
  refine Ev.run hC hf hx hne ho ?_
  rw [tb_arg hl]; exact hr
/-- The same in an open call. -/
theorem Closed.runT (hC : Closed P G md C) {f : FuncId} {fn : Func} {ts : List AV} {x : XC} {n m : Nat} {h : Heap} {K : AV → Heap → Nat → Prop} {rs : List ResultVar} (hf : P.funcs[f]? = some fn) (hx : compF md fn = x) (hn : fn.ntmps = n) (hrs : fn.results.toList = rs) (hne : fn.name ≠ "runtime.NumGoroutine") (hl : ts.length ≤ n)
    (hr : R P G C md m x ⟨tb n (.con undef) (argA 0 ts), h, m⟩ (bodyQ P rs K)) : C f ts h m K := by
  subst hn; subst hrs
  refine hC.run hf hx hne ?_
  rw [tb_arg hl]; exact hr
end
/-! heads -/
def Head (B : Nat) (s s' : St) : Prop := ∃ acts ρ nx, rhoOk B ρ (objIds acts) nx = true ∧ canon B acts ρ nx s = s'
/-- What is kept is as it shall be, by the new names. -/
def keptV (B : Nat) (ρ : List (Nat × Nat)) (t : List AV) : List (Nat × AV) → Prop
  | [] => True
  | (k, v) :: r => ren B ρ (t.getD k .any) = v ∧ keptV B ρ t r
theorem keptV_nil {B : Nat} {ρ : List (Nat × Nat)} {t : List AV} : keptV B ρ t [] = True := _root_.id rfl
theorem keptV_cons {B : Nat} {ρ : List (Nat × Nat)} {t : List AV} {k : Nat} {v : AV} {r : List (Nat × AV)} : keptV B ρ t ((k, v) :: r) = (ren B ρ (t.getD k .any) = v ∧ keptV B ρ t r) := _root_.id rfl
theorem keptV_lk {B : Nat} {ρ : List (Nat × Nat)} {t : List AV} : ∀ {V : List (Nat × AV)}, keptV B ρ t V → ∀ i, i ∈ V.map (·.1) → ren B ρ (t.getD i .any) = lk .any V i
  | [], _, i, hi => by simp at hi
  | (k, v) :: r, ⟨h1, h2⟩, i, hi => by
    simp only [lk]
    split
    · rename_i h; subst h; exact h1
    · rename_i h
      simp only [List.map_cons, List.mem_cons] at hi
      rcases hi with hi | hi
      · exact absurd hi.symm h
      · exact keptV_lk h2 i hi
theorem lk_out {u : AV} : ∀ {V : List (Nat × AV)} {i : Nat}, i ∉ V.map (·.1) → lk u V i = u
  | [], i, _ => rfl
  | (k, v) :: r, i, h => by
    simp only [List.map_cons, List.mem_cons, not_or] at h
    simp only [lk]
    rw [if_neg (fun e => h.1 e.symm)]
    exact lk_out h.2
theorem canSlots_map {α : Type} {B : Nat} {ρ : List (Nat × Nat)} (a : α → Keepd) (x y : α → AV) : ∀ (l : List α), (∀ i ∈ l, canSlots B ρ [a i] [x i] = [y i]) → canSlots B ρ (l.map a) (l.map x) = l.map y
  | [], _ => by simp [canSlots]
  | i :: l, h => by
    have h0 := h i (by simp)
    have ih := canSlots_map a x y l fun j hj => h j (by simp [hj])
    simp only [List.map_cons]
    cases ha : a i <;> rw [ha] at h0
    · simp only [canSlots, List.cons.injEq, and_true] at h0 ⊢
      exact ⟨h0, ih⟩
    · simp only [canSlots, List.cons.injEq, and_true] at h0 ⊢
      exact ⟨h0, ih⟩
    · cases hx : x i <;> rw [hx] at h0 <;> simp only [canSlots, List.cons.injEq, and_true] at h0 ⊢ <;> exact ⟨h0, ih⟩
theorem canObjs_no : ∀ (as : List Keepd) (xs : List AV), (∀ a ∈ as, ∀ id sz, a ≠ .obj id sz) → canObjs as xs = []
  | [], xs, _ => by cases xs <;> simp [canObjs]
  | a :: as, [], _ => by cases a <;> simp [canObjs]
  | a :: as, x :: xs, h => by
    have := h a (by simp)
    cases a with
    | obj id sz => exact absurd rfl (this id sz)
    | drop => simp only [canObjs]; exact canObjs_no as xs fun b hb => h b (by simp [hb])
    | keep => simp only [canObjs]; exact canObjs_no as xs fun b hb => h b (by simp [hb])
theorem objIds_no : ∀ (as : List Keepd), (∀ a ∈ as, ∀ id sz, a ≠ .obj id sz) → objIds as = []
  | [], _ => rfl
  | a :: as, h => by
    have := h a (by simp)
    cases a with
    | obj id sz => exact absurd rfl (this id sz)
    | drop => simp only [objIds]; exact objIds_no as fun b hb => h b (by simp [hb])
    | keep => simp only [objIds]; exact objIds_no as fun b hb => h b (by simp [hb])
def actK (V : List (Nat × AV)) (i : Nat) : Keepd := if i ∈ V.map (·.1) then .keep else .drop
theorem head_tb {B n m nx : Nat} {u : AV} {l V : List (Nat × AV)} {h h' : Heap} (ρ : List (Nat × Nat)) (h1 : rhoOk B ρ [] nx = true) (hV : keptV B ρ (tb n u l) V) (hh : canR B ρ h ρ ++ canB B ρ h = h') : Head B ⟨tb n u l, h, m⟩ ⟨tb n .any V, h', nx⟩ := by
  have hno : ∀ a ∈ (List.range n).map (actK V), ∀ id sz, a ≠ Keepd.obj id sz := by
    intro a ha id sz e
    simp only [List.mem_map] at ha
    obtain ⟨i, _, rfl⟩ := ha
    unfold actK at e
    split at e <;> cases e
  refine ⟨(List.range n).map (actK V), ρ, nx, by rw [objIds_no _ hno]; exact h1, ?_⟩
  simp only [canon, canObjs_no _ _ hno, List.nil_append, hh]
  congr 1
  refine canSlots_map _ _ _ _ fun i hi => ?_
  simp only [List.mem_range] at hi
  unfold actK
  split
  · rename_i hm
    have := keptV_lk hV i hm
    rw [tb_get hi] at this
    simp only [canSlots, this]
  · rename_i hm
    simp only [canSlots, lk_out hm]
theorem filterMap_one {α : Type} {g : Nat → Option α} {k n : Nat} {x : α} (hk : k < n) (h1 : g k = some x) (h2 : ∀ i, i ≠ k → g i = none) : (List.range n).filterMap g = [x] := by
  induction n with
  | zero => omega
  | succ n ih =>
    rw [List.range_succ, List.filterMap_append]
    by_cases h : k = n
    · subst h
      have : (List.range k).filterMap g = [] := by
        rw [List.filterMap_eq_nil_iff]
        intro a ha
        simp only [List.mem_range] at ha
        exact h2 a (by omega)
      rw [this]; simp [h1]
    · rw [ih (by omega)]
      simp [h2 n (fun e => h e.symm)]
theorem canObjs_map (a : Nat → Keepd) (x : Nat → AV) : ∀ l : List Nat, canObjs (l.map a) (l.map x) = l.filterMap fun i => match a i, x i with | .obj id sz, .nil => some (id, .slice sz []) | _, _ => none
  | [] => rfl
  | i :: l => by
    simp only [List.map_cons, List.filterMap_cons, ← canObjs_map a x l]
    cases a i <;> cases x i <;> simp [canObjs]
theorem objIds_map (a : Nat → Keepd) : ∀ l : List Nat, objIds (l.map a) = l.filterMap fun i => match a i with | .obj id sz => some id | _ => none
  | [] => rfl
  | i :: l => by
    simp only [List.map_cons, List.filterMap_cons, ← objIds_map a l]
    cases a i <;> simp [objIds]
/-- One slot that is nil becomes an empty slice of one's own. -/
theorem head_obj {B n m nx : Nat} {u : AV} {l V : List (Nat × AV)} {h h' : Heap} (k id sz : Nat) (ρ : List (Nat × Nat)) (h1 : rhoOk B ρ [id] nx = true) (hk : (tb n u l).getD k .any = .nil) (hkn : k < n) (hV : keptV B ρ (tb n u l) V) (hkV : k ∉ V.map (·.1)) (hh : (id, .slice sz []) :: (canR B ρ h ρ ++ canB B ρ h) = h') : Head B ⟨tb n u l, h, m⟩ ⟨tb n .any ((k, .ref id none sz 0 0) :: V), h', nx⟩ := by
  rw [tb_get hkn] at hk
  refine ⟨(List.range n).map (fun i => if i = k then .obj id sz else actK V i), ρ, nx, ?_, ?_⟩
  · rw [objIds_map, filterMap_one (k := k) (x := id) hkn (by simp)]
    · exact h1
    · intro i hi
      simp only [hi, if_false]
      unfold actK
      by_cases hm : i ∈ V.map (·.1) <;> simp only [hm, if_true, if_false]
  · simp only [canon]
    congr 1
    · refine canSlots_map _ _ _ _ fun i hi => ?_
      simp only [List.mem_range] at hi
      by_cases hik : i = k
      · subst hik
        simp only [if_true, hk, canSlots, lk]
      · rw [if_neg hik]
        unfold actK
        simp only [lk, if_neg (fun e : k = i => hik e.symm)]
        split
        · rename_i hm
          have := keptV_lk hV i hm
          rw [tb_get hi] at this
          simp only [canSlots, this]
        · rename_i hm
          simp only [canSlots, lk_out hm]
    · rw [← hh]
      have : canObjs ((List.range n).map (fun i => if i = k then .obj id sz else actK V i)) (tb n u l) = [(id, .slice sz [])] := by
        unfold tb
        rw [canObjs_map]
        refine filterMap_one hkn (by simp [hk]) fun i hi => ?_
        simp only [hi, if_false]
        unfold actK
        by_cases hm : i ∈ V.map (·.1) <;> simp only [hm, if_true, if_false]
      rw [this]; rfl
section
variable {P : Program} {G : Glo} {C : CT} {md : FuncId → Bool} {B : Nat} {c : XC} {s : St} {Q : XE → St → Prop}
theorem RL_ind (H : Nat → St → Prop) (k0 : Nat) (s0 : St) (h0 : Head B s s0) (hH : H k0 s0)
    (h : ∀ k s', H k s' → ∀ J : St → Prop, (∀ k' s s'', k' < k → H k' s'' → Head B s s'' → J s) → R P G C md B c s' (thenX J Q)) : R P G C md B (.loop c) s Q := by
  simp only [R]
  intro J hJ
  have key : ∀ k s s', H k s' → Head B s s' → J s := by
    intro k
    induction k using Nat.strongRecOn with
    | ind k ih =>
      intro s s' hk ⟨acts, ρ, nx, h1, h2⟩
      refine hJ s ⟨acts, ρ, nx, h1, ?_⟩
      rw [h2]
      exact h k s' hk J fun k' s s'' hlt h3 h4 => ih k' hlt s s'' h3 h4
  exact key k0 s s0 hH h0
/-- A loop that counts. -/
theorem RL_count (S : Nat → St) (I : Nat → Prop) (n i0 : Nat) (h0 : Head B s (S i0)) (hle : i0 ≤ n) (hI : I i0)
    (h : ∀ i, i ≤ n → I i → ∀ J : St → Prop, (i < n → I (i + 1) → ∀ s, Head B s (S (i + 1)) → J s) → R P G C md B c (S i) (thenX J Q)) : R P G C md B (.loop c) s Q := by
  refine RL_ind (fun k s' => ∃ i, i + k = n ∧ s' = S i ∧ I i) (n - i0) (S i0) h0 ⟨i0, by omega, rfl, hI⟩ ?_
  rintro k s' ⟨i, hi, rfl, hIi⟩ J hJ
  exact h i (by omega) hIi J fun hlt hI' s hs => hJ (k - 1) s _ (by omega) ⟨i + 1, by omega, rfl, hI'⟩ hs
end
/-! what an argument of a type is -/
def sty (P : Program) (t : TypeId) : Option (List TypeId) := match P.underlying t with
  | some (.struct fs) => some (fs.toList.map (·.type))
  | _ => none
theorem sty_und {P : Program} {t : TypeId} {ts : List TypeId} (h : sty P t = some ts) : ∃ fs, P.underlying t = some (.struct fs) ∧ fs.toList.map (·.type) = ts := by
  unfold sty at h
  split at h
  · rename_i fs e
    simp only [Option.some.injEq] at h
    exact ⟨fs, e, h⟩
  · cases h
theorem has_struct {P : Program} {k : Nat} {t : TypeId} {ts : List TypeId} {xs : List AV} (e : sty P t = some ts) (h : Has P (k + 1) t xs) : HasE P k ts xs := by
  obtain ⟨fs, hu, rfl⟩ := sty_und e
  simp only [Has, hu] at h
  exact h
theorem has_int {P : Program} {k : Nat} {t : TypeId} {kd : IntKind} {xs : List AV} (e : tk P t = .int kd) (h : Has P (k + 1) t xs) : ∃ n, xs = [.int kd n] ∧ (Lit.int kd n).wf = true := by
  simp only [Has, tk_int e] at h
  exact h
theorem has_bool {P : Program} {k : Nat} {t : TypeId} {xs : List AV} (e : tk P t = .bool) (h : Has P (k + 1) t xs) : ∃ b, xs = [.bool b] := by
  simp only [Has, tk_bool e] at h
  exact h
theorem has_str {P : Program} {k : Nat} {t : TypeId} {xs : List AV} (e : tk P t = .str) (h : Has P (k + 1) t xs) : ∃ s, xs = [.str s] ∧ s.size ≤ reachBytes := by
  simp only [Has, tk_str e] at h
  exact h
theorem has_slice {P : Program} {k : Nat} {t e : TypeId} {xs : List AV} (he : tk P t = .slice e) (h : Has P (k + 1) t xs) : ∃ es, xs = [.sl es] ∧ es.length ≤ maxLen ∧ es.length * P.bytesOf e ≤ reachBytes ∧ ∀ el ∈ es, el.length = P.cellsOf e ∧ Has P k e el := by
  simp only [Has, tk_slice he] at h
  exact h
theorem hasE_cons {P : Program} {k : Nat} {t : TypeId} {ts : List TypeId} {xs : List AV} (h : HasE P (k + 1) (t :: ts) xs) : ∃ x1 x2, xs = x1 ++ x2 ∧ x1.length = P.cellsOf t ∧ Has P k t x1 ∧ HasE P k ts x2 := by
  simpa only [HasE] using h
theorem hasE_nil {P : Program} {k : Nat} {xs : List AV} (h : HasE P (k + 1) [] xs) : xs = [] := by
  simpa only [HasE] using h
theorem hasV_struct {P : Program} {k : Nat} {t : TypeId} {ts : List TypeId} {x : AV} (e : sty P t = some ts) (h : HasV P (k + 1) t x) : ∃ xs, x = .agg xs ∧ HasE P k ts xs := by
  obtain ⟨fs, hu, hts⟩ := sty_und e
  unfold HasV at h
  simp only [hu] at h
  obtain ⟨xs, rfl, h⟩ := h
  exact ⟨xs, rfl, has_struct e h⟩
theorem hasV_int {P : Program} {k : Nat} {t : TypeId} {kd : IntKind} {x : AV} (e : tk P t = .int kd) (h : HasV P (k + 1) t x) : ∃ n, x = .int kd n ∧ (Lit.int kd n).wf = true := by
  unfold HasV at h
  simp only [tk_int e] at h
  obtain ⟨n, h1, h2⟩ := has_int e h
  exact ⟨n, by simpa using h1, h2⟩
theorem hasV_bool {P : Program} {k : Nat} {t : TypeId} {x : AV} (e : tk P t = .bool) (h : HasV P (k + 1) t x) : ∃ b, x = .bool b := by
  unfold HasV at h
  simp only [tk_bool e] at h
  obtain ⟨n, h1⟩ := has_bool e h
  exact ⟨n, by simpa using h1⟩
theorem hasV_str {P : Program} {k : Nat} {t : TypeId} {x : AV} (e : tk P t = .str) (h : HasV P (k + 1) t x) : ∃ s, x = .str s ∧ s.size ≤ reachBytes := by
  unfold HasV at h
  simp only [tk_str e] at h
  obtain ⟨n, h1, h2⟩ := has_str e h
  exact ⟨n, by simpa using h1, h2⟩
theorem hasV_slice {P : Program} {k : Nat} {t e : TypeId} {x : AV} (he : tk P t = .slice e) (h : HasV P (k + 1) t x) : ∃ es, x = .sl es ∧ es.length ≤ maxLen ∧ es.length * P.bytesOf e ≤ reachBytes ∧ ∀ el ∈ es, el.length = P.cellsOf e ∧ Has P k e el := by
  unfold HasV at h
  simp only [tk_slice he] at h
  obtain ⟨n, h1, h2⟩ := has_slice he h
  exact ⟨n, by simpa using h1, h2⟩
theorem wf64 {n : Int} (h : (Lit.int .i64 n).wf = true) : -9223372036854775808 ≤ n ∧ n ≤ 9223372036854775807 := by
  simp [Lit.wf, IntKind.min, IntKind.max, IntKind.bits, IntKind.signed] at h
  omega
theorem all_map {α β : Type} {f : β → α} {es : List α} (h : ∀ e ∈ es, ∃ p, e = f p) : ∃ l : List β, es = l.map f := by
  induction es with
  | nil => exact ⟨[], rfl⟩
  | cons e es ih =>
    obtain ⟨l, hl⟩ := ih fun x hx => h x (by simp [hx])
    obtain ⟨p, hp⟩ := h e (by simp)
    exact ⟨p :: l, by rw [hl, hp]; rfl⟩
theorem RetTo_sc {h : Heap} {xs : List AV} (hs : allSc xs = true) : RetTo h (.tup xs) (.tup xs) := by
  have key : ∀ (xs : List AV), allSc xs = true → conRL 7 h xs = some (xs, h) := by
    intro xs
    induction xs with
    | nil => intro _; simp [conRL]
    | cons x xs ih =>
      intro hs
      simp only [allSc, Bool.and_eq_true] at hs
      have h1 : conR 7 h x = some (x, h) := by
        have := hs.1
        cases x <;> simp [isSc] at this <;> simp [conR, isF]
      simp [conRL, h1, ih hs.2]
  exact RetTo_of (h2 := h) (by simp only [conR, key xs hs])
theorem RetTo_ib {h : Heap} {k k' : IntKind} {a c : Int} {b d : Bool} : RetTo h (.tup [.int k a, .bool b]) (.tup [.int k' c, .bool d]) = (k = k' ∧ a = c ∧ b = d) := by
  apply propext
  constructor
  · rintro ⟨r0, h2, e1, e2⟩
    simp [conR, conRL, isF] at e1
    obtain ⟨rfl, rfl⟩ := e1
    simp [NilTo, NilToL] at e2
    exact ⟨e2.1.1.symm, e2.1.2.symm, e2.2.symm⟩
  · rintro ⟨rfl, rfl, rfl⟩
    exact RetTo_sc rfl
theorem RetTo_ii {h : Heap} {k k' j j' : IntKind} {a b c d : Int} : RetTo h (.tup [.int k a, .int j b]) (.tup [.int k' c, .int j' d]) = (k = k' ∧ a = c ∧ j = j' ∧ b = d) := by
  apply propext
  constructor
  · rintro ⟨r0, h2, e1, e2⟩
    simp [conR, conRL, isF] at e1
    obtain ⟨rfl, rfl⟩ := e1
    simp [NilTo, NilToL] at e2
    exact ⟨e2.1.1.symm, e2.1.2.symm, e2.2.1.symm, e2.2.2.symm⟩
  · rintro ⟨rfl, rfl, rfl, rfl⟩
    exact RetTo_sc rfl
/-! the rules of the evaluation, by one name -/
attribute [push_cast] R_done R_exit R_ret R_block R_fork R_cond cK_true cK_false cK_bool R_op R_guard gX_tt
  gX_ft gX_tf gX_ff gX_t gX_f gX_u put_none put_int put_bool put_str put_nil put_any
  put_con put_sl put_pf put_agg put_tup put_fn put_ref put_ptr know_tmp ev_tmp ev_int ev_bool
  ev_str ev_nil ev_func o_move o_assign o_pick pick_true pick_false o_bin o_un o_extr extrK
  o_min o_max o_call o_mkfn evL opK.allCells load_eq p_faddr p_iaddr p_idx p_slice p_load
  p_store p_alloc p_box p_build p_buildS p_make p_conv p_len p_append field_some fa_ptr fa_pf
  el_some ia_ref ia_sl ia_aptr ia_apf ix_str sl_ref sl_sl sl_nil sl_str slR_int slF_int
  slN_int slS_int okV_some okL_some ld_pfa ld_pf ld_ptr ld_sub ldV_var ldV_slice ldS_some ldE_agg
  ldE_one ldC_agg ldC_one stIf_true stIf_false st_ptr st_sub stV_var stV_slice stG_some stE_some stC_some
  stD_some al_some cv_agg cv_int cv_bool cv_str cv_nil cv_sl cv_pf cv_ref cv_ptr cv_fn
  okAgg_some bu_some fill_nil fill_cons fill1_some mkE_some mk_slice bs_slice bsZ_some bsF_some bsC_some len_ref
  len_sl len_nil len_str conv_int ap_slice apX_some apY_some appX_nil appX_ref apXR_some appY_nil appY_ref
  appY_sl appY_str bi_add bi_sub bi_mul bi_quo bi_rem bi_eql bi_neq bi_lss bi_leq bi_gtr
  bi_geq bi_shl bi_shr bi_str bi_bool bb_eql bb_neq bi_sln bi_refn bi_niln nn_eql nn_neq
  sn_eql sn_neq ifB_not tb_get tb_set lk_same lk_ne lk_nil tb_kill_u tb_kill_a killA argA
  List.set_cons_zero List.set_cons_succ unK thenX inBlockX bodyQ resK oneOr List.cons_append List.nil_append List.length_cons List.length_nil
  List.replicate minK maxK callK frzA frzAL isF List.map_cons List.map_nil frzOkL frzOk Bool.and_true
  Bool.true_and true_and and_true Bool.false_eq_true if_false if_true Bool.and_self Option.some.injEq List.append_nil cellS cellsS getS
  hget hdel killL killS killH imp impL setS setsA hset List.drop_zero List.take_length
  List.drop_succ_cons List.take_succ_cons List.take_zero List.getElem?_cons_zero List.getElem?_cons_succ Nat.add_zero Nat.zero_add ne_eq not_false_eq_true not_true_eq_false allSc isSc
  Bool.not_eq_true' Option.getD_some Option.getD_none Option.map_some Option.map_none Option.bind_some Nat.lt_irrefl Nat.zero_le Nat.le_refl isCell Bool.not_true Bool.not_false
  false_implies true_implies forall_const implies_true RetTo_bool RetTo_int RetTo_str RetTo_ib RetTo_ii decide_eq_true_eq decide_eq_false_iff_not exists_const
  Bool.true_eq_false ge_iff_le gt_iff_lt allF Bool.and_false Bool.false_and Bool.or_false Bool.false_or Bool.or_true Bool.true_or conL conC
  chunk List.flatten_cons List.flatten_nil beq_self_eq_true decide_true allScs apYR_sc
end Go.Proofs.YtlddjlchgibdfaaDoor.X
set_option linter.unusedVariables false
namespace Go.Proofs.YtlddjlchgibdfaaDoor.X
open Go
theorem str_eq (a b : ByteArray) : (a.toList == b.toList) = decide (a = b) := by
  rw [Bool.eq_iff_iff, beq_iff_eq, decide_eq_true_eq, ByteArray.toList_eq, ByteArray.toList_eq]
  constructor
  · intro h; exact ByteArray.ext (Array.toList_inj.mp h)
  · rintro rfl; rfl
theorem bs_eql {a b : ByteArray} {K : AV → Prop} : strK .eql a b K = K (.bool (decide (a = b))) := by
  rw [← str_eq]; rfl
theorem bs_neq {a b : ByteArray} {K : AV → Prop} : strK .neq a b K = K (.bool (!decide (a = b))) := by
  rw [← str_eq]; rfl
theorem bs_add {a b : ByteArray} {K : AV → Prop} : strK .add a b K = (((a.size + b.size : Nat) : Int) ≤ 9223372036854775807 ∧ K (.str (a ++ b))) := _root_.id rfl
theorem bt_lo (s : ByteArray) (i : Int) : 0 ≤ bt s i ∧ bt s i ≤ 255 := by
  unfold bt
  have := (s.data.toList.getD i.toNat 0).toNat_lt
  omega
attribute [push_cast] bs_eql bs_neq bs_add
end Go.Proofs.YtlddjlchgibdfaaDoor.X
