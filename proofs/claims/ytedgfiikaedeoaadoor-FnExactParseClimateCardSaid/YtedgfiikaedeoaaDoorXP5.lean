/- A part of the proof: lemmas on the machine or on the functions that the law reaches. No condition of its own. -/
import Derived.Test.YtedgfiikaedeoaaDoorXP4
import Derived.Test.YtedgfiikaedeoaaDoorXM5
set_option maxHeartbeats 4000000
set_option maxRecDepth 8000
set_option linter.unusedVariables false
set_option linter.unusedSimpArgs false
open Nat renaming reduceBEq → N1, reduceAdd → N2, reduceSub → N3, reduceMul → N4, reduceEqDiff → N5, reduceLeDiff → N6, reduceLT → N7
open Int renaming reduceLE → I1, reduceLT → I2, reduceToNat → I3
namespace Go.Proofs.YtedgfiikaedeoaaDoor.X
open Go
theorem dgv_ge : ∀ (l : List UInt8) (n m : Nat), dgv n l = some m → n ≤ m
  | [], n, m, h => by simp [dgv] at h; omega
  | b :: r, n, m, h => by
    rw [dgv] at h
    split at h
    · have := dgv_ge r _ m h; omega
    · cases h
theorem u8_of {b : UInt8} {n : Nat} (h : b.toNat = n) : UInt8.ofNat n = b := by subst h; simp
theorem rd_num {p : List UInt8} {n : Nat} (h : rdS p = (n : Int)) (hn : n < 37) : p = Lib.decDigits n := by
  rw [rdS] at h
  split at h
  · omega
  rename_i hc
  cases hd : dgv 0 p with
  | none => rw [hd] at h; simp at h
  | some m =>
    rw [hd] at h
    simp only at h
    have hm : m = n := by omega
    subst hm
    match p, hc, hd with
    | [], hc, hd => simp at hc
    | [b], hc, hd =>
      simp only [dgv] at hd
      split at hd
      · rename_i g
        simp only [Option.some.injEq, Nat.mul_zero, Nat.zero_add] at hd
        rw [Lib.decDigits_one (by omega), u8_of (show b.toNat = 48 + m by omega)]
      · cases hd
    | [a, b], hc, hd =>
      simp only [dgv] at hd
      split at hd
      · rename_i g
        split at hd
        · rename_i g2
          simp only [Option.some.injEq, Nat.mul_zero, Nat.zero_add] at hd
          have ha : a.toNat ≠ 48 := fun e => hc (.inr (.inr ⟨by simpa using e, by simp⟩))
          rw [Lib.decDigits_two (by omega) (by omega), u8_of (show a.toNat = 48 + m / 10 by omega), u8_of (show b.toNat = 48 + m % 10 by omega)]
        · cases hd
      · cases hd
    | a :: b :: c :: r, hc, hd =>
      exfalso
      have ha : a.toNat ≠ 48 := fun e => hc (.inr (.inr ⟨by simpa using e, by simp⟩))
      simp only [dgv] at hd
      split at hd
      · split at hd
        · split at hd
          · have := dgv_ge _ _ _ hd; omega
          · cases hd
        · cases hd
      · cases hd
theorem one_fin : ∀ i : Fin 10, rdS [UInt8.ofNat (48 + i.val)] = (i.val : Int) ∧ Lib.atoiAll [UInt8.ofNat (48 + i.val)] = .ok (i.val : Int) := by decide +kernel
theorem two_fin : ∀ i : Fin 100, 10 ≤ i.val → rdS [UInt8.ofNat (48 + i.val / 10), UInt8.ofNat (48 + i.val % 10)] = (i.val : Int) ∧ Lib.atoiAll [UInt8.ofNat (48 + i.val / 10), UInt8.ofNat (48 + i.val % 10)] = .ok (i.val : Int) := by decide +kernel
theorem num_rd {n : Nat} (h : n < 37) : rdS (Lib.decDigits n) = (n : Int) ∧ rdI ⟨(Lib.decDigits n).toArray⟩ = some (n : Int) := by
  have h0 : rdS (Lib.decDigits n) = (n : Int) ∧ Lib.atoiAll (Lib.decDigits n) = .ok (n : Int) ∧ (Lib.decDigits n).length ≤ 10 := by
    by_cases h1 : n < 10
    · rw [Lib.decDigits_one h1]
      exact ⟨(one_fin ⟨n, h1⟩).1, (one_fin ⟨n, h1⟩).2, by simp⟩
    · rw [Lib.decDigits_two h1 (by omega)]
      have := two_fin ⟨n, by omega⟩ (by simpa using h1)
      exact ⟨this.1, this.2, by simp⟩
  refine ⟨h0.1, ?_⟩
  have hi : Lib.itoa (n : Int) = Lib.decDigits n := by rw [Lib.itoa, if_neg (by omega)]; simp
  rw [rdI]
  simp only [List.toList_toArray, h0.2.1, hi]
  rw [if_pos ⟨h0.2.2, trivial⟩]
def rdV (l : List ByteArray) : List Int := l.map fun p => rdS p.data.toList
def pcS (s : ByteArray) : Bool := decide ((prt s).length = 9) && goodW (chk (rdV (prt s)) 3)
theorem nine_at {V : List Int} {l : List Nat} (h9 : V.length = 9) (h : Nine (chk V 3) l) : V = l.map fun n : Nat => (n : Int) := by
  apply List.ext_getElem?
  intro m
  by_cases hm : m < 9
  · obtain ⟨r, h1, h2, h3⟩ := h.row (m / 3) (by omega)
    have e : (chk V 3)[m / 3]? = some ((V.drop (3 * (m / 3))).take 3) := by
      rw [chk, List.getElem?_map, List.getElem?_range (by omega)]; rfl
    rw [e] at h1
    cases h1
    have := h3 (m % 3) (by omega)
    rw [List.getElem?_take_of_lt (by omega), List.getElem?_drop, show 3 * (m / 3) + m % 3 = m by omega] at this
    rw [this]
    have hl := h.len
    simp [List.getD, show m < l.length by omega]
  · have hl := h.len
    rw [List.getElem?_eq_none (by omega), List.getElem?_eq_none (by simp; omega)]
theorem nine_lt {D : List (List Int)} {l : List Nat} (h : Nine D l) {n : Nat} (hn : n ∈ l) : n < 37 := by
  obtain ⟨j, hj, rfl⟩ := List.mem_iff_getElem.1 hn
  have := h.lt j (by have := h.len; omega)
  simpa [List.getD, hj] using this
theorem specGood {s : ByteArray} (h : pcS s = true) : ∃ l, Nine (chk (rdV (prt s)) 3) l ∧ spl s.data.toList = l.map Lib.decDigits := by
  simp only [pcS, Bool.and_eq_true, decide_eq_true_eq] at h
  obtain ⟨l, hl⟩ := nine h.2
  refine ⟨l, hl, ?_⟩
  have hv := nine_at (by simp [rdV, h.1]) hl
  have hlen : (spl s.data.toList).length = l.length := by rw [hl.len]; simpa [prt] using h.1
  apply List.ext_getElem (by rw [List.length_map]; exact hlen)
  intro m h1 h2'
  have h2 : m < l.length := by simpa using h2'
  have := congrArg (·[m]?) hv
  simp only [rdV, prt, List.map_map, List.getElem?_map, List.getElem?_eq_getElem h1, List.getElem?_eq_getElem h2, Option.map_some, Option.some.injEq] at this
  rw [List.getElem_map]
  exact rd_num this (nine_lt hl (List.getElem_mem h2))
theorem implGood {s : ByteArray} (h : pcOk s = true) : ∃ l, Nine (chk (rwV (prt s)) 3) l ∧ spl s.data.toList = l.map Lib.decDigits := by
  simp only [pcOk, Bool.and_eq_true, decide_eq_true_eq] at h
  obtain ⟨⟨ho, h9⟩, hg⟩ := h
  obtain ⟨l, hl⟩ := nine hg
  refine ⟨l, hl, ?_⟩
  have hv := nine_at h9 hl
  have hlen : (spl s.data.toList).length = l.length := by rw [hl.len, ← h9]; simp [rwV, prt]
  apply List.ext_getElem (by rw [List.length_map]; exact hlen)
  intro m h1 h2'
  have h2 : m < l.length := by simpa using h2'
  have := congrArg (·[m]?) hv
  simp only [rwV, prt, List.map_map, List.getElem?_map, List.getElem?_eq_getElem h1, List.getElem?_eq_getElem h2, Option.map_some, Option.some.injEq] at this
  rw [List.getElem_map]
  have hs : (rdI ⟨(spl s.data.toList)[m].toArray⟩).isSome = true := by
    simp only [rwO, List.all_eq_true] at ho
    exact ho _ (by rw [prt]; exact List.mem_map.2 ⟨_, List.getElem_mem h1, rfl⟩)
  obtain ⟨v, hv2⟩ := Option.isSome_iff_exists.1 hs
  have e : v = ((l[m] : Nat) : Int) := by
    have h3 : (rdI ⟨(spl s.data.toList)[m].toArray⟩).getD 0 = ((l[m] : Nat) : Int) := this
    rw [hv2] at h3; exact h3
  subst e
  rw [rdI] at hv2
  split at hv2
  · rename_i n hn
    split at hv2
    · rename_i g
      cases hv2
      have hi : Lib.itoa ((l[m] : Nat) : Int) = Lib.decDigits l[m] := by rw [Lib.itoa, if_neg (by omega)]; simp
      have g2 := congrArg (fun b : ByteArray => b.data.toList) g.2
      simp only [List.toList_toArray, hi] at g2
      exact g2.symm
    · cases hv2
  · cases hv2
theorem both {s : ByteArray} {l : List Nat} (h : spl s.data.toList = l.map Lib.decDigits) (hlt : ∀ n ∈ l, n < 37) : rdV (prt s) = l.map (fun n : Nat => (n : Int)) ∧ rwV (prt s) = l.map (fun n : Nat => (n : Int)) ∧ rwO (prt s) = true := by
  have hp : prt s = l.map fun n => ⟨(Lib.decDigits n).toArray⟩ := by rw [prt, h, List.map_map]; rfl
  rw [hp]
  refine ⟨?_, ?_, ?_⟩
  · rw [rdV, List.map_map]
    exact List.map_congr_left fun n hn => (num_rd (hlt n hn)).1
  · rw [rwV, List.map_map]
    exact List.map_congr_left fun n hn => by
      show (rdI _).getD 0 = _
      rw [(num_rd (hlt n hn)).2]; rfl
  · simp only [rwO, List.all_eq_true, List.mem_map]
    rintro p ⟨n, hn, rfl⟩
    rw [(num_rd (hlt n hn)).2]; rfl
theorem pc_eq (s : ByteArray) : pcOk s = pcS s ∧ (pcS s = true → chk (rwV (prt s)) 3 = chk (rdV (prt s)) 3) := by
  have hlen : (rwV (prt s)).length = (prt s).length := by simp [rwV]
  constructor
  · apply Bool.eq_iff_iff.2
    constructor
    · intro h
      obtain ⟨l, hl, hs⟩ := implGood h
      obtain ⟨b1, b2, b3⟩ := both hs fun n hn => nine_lt hl hn
      simp only [pcOk, Bool.and_eq_true, decide_eq_true_eq] at h
      simp only [pcS, Bool.and_eq_true, decide_eq_true_eq]
      refine ⟨by omega, ?_⟩
      rw [b1, ← b2]; exact h.2
    · intro h
      obtain ⟨l, hl, hs⟩ := specGood h
      obtain ⟨b1, b2, b3⟩ := both hs fun n hn => nine_lt hl hn
      simp only [pcS, Bool.and_eq_true, decide_eq_true_eq] at h
      simp only [pcOk, Bool.and_eq_true, decide_eq_true_eq]
      refine ⟨⟨b3, by omega⟩, ?_⟩
      rw [b2, ← b1]; exact h.2
  · intro h
    obtain ⟨l, hl, hs⟩ := specGood h
    obtain ⟨b1, b2, b3⟩ := both hs fun n hn => nine_lt hl hn
    rw [b1, b2]
theorem pc_text {s : ByteArray} {l : List Nat} (h9 : (prt s).length = 9) (hn : Nine (chk (rdV (prt s)) 3) l) : txB l = s := by
  have hg : goodW (chk (rdV (prt s)) 3) = true ∨ True := .inr trivial
  have hv := nine_at (by simp [rdV, h9]) hn
  have hlen : (spl s.data.toList).length = l.length := by rw [hn.len]; simpa [prt] using h9
  have hs : spl s.data.toList = l.map Lib.decDigits := by
    apply List.ext_getElem (by rw [List.length_map]; exact hlen)
    intro m h1 h2
    have h2' : m < l.length := by simpa using h2
    have := congrArg (·[m]?) hv
    simp only [rdV, prt, List.map_map, List.getElem?_map, List.getElem?_eq_getElem h1, List.getElem?_eq_getElem h2', Option.map_some, Option.some.injEq] at this
    rw [List.getElem_map]
    exact rd_num this (nine_lt hn (List.getElem_mem h2'))
  rw [txB, ← hs, join_spl]
end Go.Proofs.YtedgfiikaedeoaaDoor.X
set_option maxHeartbeats 4000000
set_option maxRecDepth 8000
set_option linter.unusedVariables false
set_option linter.unusedSimpArgs false
open Nat renaming reduceBEq → N1, reduceAdd → N2, reduceSub → N3, reduceMul → N4, reduceEqDiff → N5, reduceLeDiff → N6, reduceLT → N7
open Int renaming reduceLE → I1, reduceLT → I2, reduceToNat → I3
namespace Go.Proofs.YtedgfiikaedeoaaDoor.X
open Go
variable {mx : Int} {ev1 ev2 : Value}
attribute [local irreducible] Ev
section
variable {C : CT} (hC : Closed Tryd.prog (Gp mx ev1 ev2) md0 C)
include hC
theorem t10 (s : ByteArray) (hs : s.size < 2^21) : Ev C 10 [.str s] (.tup [clO (if pcS s then chk (rdV (prt s)) 3 else []), .bool (pcS s)]) := by
  have c1 := t21 hC s hs
  have htx := fun l (h9 : (prt s).length = 9) => @pc_text s l h9
  have hl := prt_len s
  unfold pcS
  have hV : rdV (prt s) = (prt s).map fun p => rdS p.data.toList := rfl
  generalize rdV (prt s) = V at *
  generalize prt s = ps at *
  obtain ⟨D, hD⟩ : ∃ D, D = chk V 3 := ⟨_, rfl⟩
  rw [← hD] at htx ⊢
  have hown := own_cl (if (decide (ps.length = 9) && goodW D) = true then D else [])
  simp only [clO, ownR, ownRL, Bool.and_true] at hown
  have hnil : NilTo (.tup [.agg [.nil], .bool false]) (.tup [.agg [.ow 1 (owss [])], .bool false]) := by simp [NilTo, NilToL, owss]
  have c3 := fun W hW hr => t15 hC W hW hr
  have c4 := fun W l h => t16 hC W l h
  have c2 := fun p => t22 hC p
  have hsl : (strs ps).length = ps.length := strs_length
  have tks : List.take ps.length (strs ps) = strs ps := List.take_of_length_le (by omega)
  simp only [clA, clO] at *
  refine rT hC Q10 ?_ (by simp only [ownR, ownRL, hown, Bool.and_true])
  simp only [c10, push_cast, ↓J1, ↓J2, N1, N2, N3, reduceCtorEq, N4, N5, N6, reduceIte, N7, I1, I2, I3]
  refine ⟨_, c1, ?_⟩
  by_cases h9 : ps.length = 9
  rotate_left
  · have d9 : decide (((ps.length : Nat) : Int) = 9) = false := decide_eq_false (by omega)
    have d9' : decide (ps.length = 9) = false := decide_eq_false h9
    simp only [hsl, d9, d9', Bool.false_and, Bool.false_eq_true, if_false, Bool.not_false, push_cast, ↓J1, ↓J2, N1, N2, N3, reduceCtorEq, N4, N5, N6, reduceIte, N7, I1, I2, I3]
    exact ⟨.tup [.agg [.nil], .bool false], _, by simp only [conR, conRL, isF, Option.map_some, Option.bind_some]; rfl, hnil⟩
  have htx := fun l => htx l h9
  obtain ⟨N, hN⟩ : ∃ N : Nat, N = ps.length := ⟨_, rfl⟩
  rw [← hN] at h9 hsl tks ⊢
  have hNI : (N : Int) = 9 := by omega
  have d9 : decide (N = 9) = true := decide_eq_true h9
  have d8 : decide ((9 : Int) = 9) = true := decide_eq_true rfl
  simp only [hsl, hNI, d8, d9, tks, Bool.true_and, Bool.not_true, push_cast, ↓J1, ↓J2, N1, N2, N3, reduceCtorEq, N4, N5, N6, reduceIte, N7, I1, I2, I3]
  refine RL_count (fun k => ⟨tb 52 .any [(0, .str s), (2, .ptr 0 none 0 0 0), (4, .ref 1 none 1 0 N), (5, .ptr 2 none 0 0 0), (6, .int .i64 ((3 * k : Nat) : Int))], (match k with
    | 0 => [(0, .var [.nil]), (1, .slice 1 (strs ps)), (2, .var [.nil])]
    | j + 1 => [(0, .var [.nil]), (1, .slice 1 (strs ps)), (2, .var [.ref 3 none 1 0 (j + 1)]), (3, .slice 1 (owss (chk V (j + 1))))]), (match k with | 0 => 3 | _ + 1 => 4)⟩) (fun _ => True) 3 0 (hdA [(0, 0), (1, 1), (2, 2)]) (by omega) trivial fun k hk _ J hJ => ?_
  have hns : ∀ l : List (List AV), allScs [[AV.ow 1 l]] = false := fun _ => rfl
  obtain ⟨a, ha⟩ : ∃ a, a = 3 * k := ⟨_, rfl⟩
  have haI : ((3 * k : Nat) : Int) = (a : Int) := by rw [ha]
  rw [haI]
  by_cases h1 : k < 3
  · have hK := hJ h1 trivial
    have e3 : ((3 * (k + 1) : Nat) : Int) = (a : Int) + 3 := by omega
    rw [e3] at hK
    have hd : decide ((a : Int) < 9) = true := decide_eq_true (by omega)
    have g : ∀ q, q < 9 → ∃ p, (strs ps)[q]? = some [.str p] ∧ V[q]? = some (rdS p.data.toList) := by
      intro q hq
      refine ⟨ps[q]'(by omega), ?_, ?_⟩
      · simp [strs, show q < ps.length by omega]
      · rw [hV, List.getElem?_map, List.getElem?_eq_getElem (by omega)]; rfl
    obtain ⟨p0, g0, v0⟩ := g a (by omega)
    obtain ⟨p1, g1, v1⟩ := g (a + 1) (by omega)
    obtain ⟨p2, g2, v2⟩ := g (a + 2) (by omega)
    have erow : (V.drop a).take 3 = [rdS p0.data.toList, rdS p1.data.toList, rdS p2.data.toList] := by
      have hvl : V.length = 9 := by rw [hV, List.length_map]; omega
      apply List.ext_getElem?
      intro m
      match m with
      | 0 => rw [List.getElem?_take_of_lt (by omega), List.getElem?_drop]; exact v0
      | 1 => rw [List.getElem?_take_of_lt (by omega), List.getElem?_drop]; exact v1
      | 2 => rw [List.getElem?_take_of_lt (by omega), List.getElem?_drop]; exact v2
      | m + 3 => rw [List.getElem?_eq_none (by simp; omega), List.getElem?_eq_none (by simp)]
    have hcs := chk_succ V k
    rw [← ha, erow] at hcs
    have eow : owss (chk V (k + 1)) = owss (chk V k) ++ [[.ow 1 [[.int .i64 (rdS p0.data.toList)], [.int .i64 (rdS p1.data.toList)], [.int .i64 (rdS p2.data.toList)]]]] := by
      rw [hcs]; simp [owss, ints]
    have r0 := c2 p0
    have r1 := c2 p1
    have r2 := c2 p2
    generalize rdS p0.data.toList = x0 at *
    generalize rdS p1.data.toList = x1 at *
    generalize rdS p2.data.toList = x2 at *
    have u1 : IntKind.i64.wrap ((a : Int) + 1) = (a : Int) + 1 := wrap64 (by omega) (by omega)
    have u2 : IntKind.i64.wrap ((a : Int) + 2) = (a : Int) + 2 := wrap64 (by omega) (by omega)
    have u3 : IntKind.i64.wrap ((a : Int) + 3) = (a : Int) + 3 := wrap64 (by omega) (by omega)
    have n1 : ((a : Int) + 1).toNat = a + 1 := by omega
    have n2 : ((a : Int) + 2).toNat = a + 2 := by omega
    have hcl := chk_len V k
    have hwl : (owss (chk V k)).length = k := by rw [owss_length, hcl]
    have tkw : List.take k (owss (chk V k)) = owss (chk V k) := List.take_of_length_le (by omega)
    dsimp only at hK
    rw [eow] at hK
    rcases k with _ | j
    · have ez : owss (chk V 0) = [] := rfl
      rw [ez] at hK
      simp only [hd, u1, u2, u3, n1, n2, Int.toNat_natCast, g0, g1, g2, hsl, push_cast, ↓J1, ↓J2, N1, N2, N3, reduceCtorEq, N4, N5, N6, reduceIte, N7, I1, I2, I3]
      repeat (refine ⟨by omega, ?_⟩)
      refine ⟨_, r0, ?_⟩
      simp only [push_cast, ↓J1, ↓J2, N1, N2, N3, reduceCtorEq, N4, N5, N6, reduceIte, N7, I1, I2, I3]
      refine ⟨_, r1, ?_⟩
      simp only [push_cast, ↓J1, ↓J2, N1, N2, N3, reduceCtorEq, N4, N5, N6, reduceIte, N7, I1, I2, I3]
      refine ⟨_, r2, ?_⟩
      simp only [u3, hns, apYR_ns, List.drop_zero, List.take_succ_cons, List.take_zero, tkw, hwl, push_cast, ↓J1, ↓J2, N1, N2, N3, reduceCtorEq, N4, N5, N6, reduceIte, N7, I1, I2, I3]
      repeat (refine ⟨by omega, ?_⟩)
      refine hK _ (hdA [(0, 0), (1, 1), (2, 2), (5, 3)] (hh := ?_))
      simp only [canR, canB, renO, renL, ren, lkp, hget, N7, N5, Nat.not_lt_zero, if_false, if_true, reduceIte, List.append_nil, List.nil_append]
    · simp only [hd, u1, u2, u3, n1, n2, Int.toNat_natCast, g0, g1, g2, hsl, push_cast, ↓J1, ↓J2, N1, N2, N3, reduceCtorEq, N4, N5, N6, reduceIte, N7, I1, I2, I3]
      repeat (refine ⟨by omega, ?_⟩)
      refine ⟨_, r0, ?_⟩
      simp only [push_cast, ↓J1, ↓J2, N1, N2, N3, reduceCtorEq, N4, N5, N6, reduceIte, N7, I1, I2, I3]
      refine ⟨_, r1, ?_⟩
      simp only [push_cast, ↓J1, ↓J2, N1, N2, N3, reduceCtorEq, N4, N5, N6, reduceIte, N7, I1, I2, I3]
      refine ⟨_, r2, ?_⟩
      simp only [u3, hns, apYR_ns, List.drop_zero, List.take_succ_cons, List.take_zero, tkw, hwl, push_cast, ↓J1, ↓J2, N1, N2, N3, reduceCtorEq, N4, N5, N6, reduceIte, N7, I1, I2, I3]
      repeat (refine ⟨by omega, ?_⟩)
      refine hK _ (hdA [(0, 0), (1, 1), (2, 2), (6, 3)] (hh := ?_))
      simp only [canR, canB, renO, renL, ren, lkp, hget, N7, N5, Nat.not_lt_zero, if_false, if_true, reduceIte, List.append_nil, List.nil_append]
  · have hd : decide ((a : Int) < 9) = false := decide_eq_false (by omega)
    have hk3 : k = 3 := by omega
    rcases k with _ | j
    · omega
    have hDj : chk V (j + 1) = D := by rw [hk3, hD]
    have hcl : D.length = j + 1 := by rw [← hDj]; exact chk_len V (j + 1)
    have hwl : (owss D).length = j + 1 := by rw [owss_length, hcl]
    have tkw : List.take (j + 1) (owss D) = owss D := List.take_of_length_le (by omega)
    have cI := c3 D (by omega) (fun r hr => by
      rw [hD] at hr
      simp only [chk, List.mem_map] at hr
      obtain ⟨w, _, rfl⟩ := hr
      simp only [List.length_take]; omega)
    simp only [hDj, hd, tkw, frzLL_owss, push_cast, ↓J1, ↓J2, N1, N2, N3, reduceCtorEq, N4, N5, N6, reduceIte, N7, I1, I2, I3]
    refine ⟨_, cI, ?_⟩
    cases hg : goodW D
    · simp only [Bool.not_false, Bool.false_eq_true, if_false, push_cast, ↓J1, ↓J2, N1, N2, N3, reduceCtorEq, N4, N5, N6, reduceIte, N7, I1, I2, I3]
      exact ⟨.tup [.agg [.nil], .bool false], _, by simp only [conR, conRL, isF, Option.map_some, Option.bind_some]; rfl, hnil⟩
    · obtain ⟨l, hn⟩ := nine hg
      have c5 := c4 D l hn
      rw [htx l hn] at c5
      have ess : decide (s = s) = true := decide_eq_true rfl
      simp only [Bool.not_true, if_true, tkw, frzLL_owss, push_cast, ↓J1, ↓J2, N1, N2, N3, reduceCtorEq, N4, N5, N6, reduceIte, N7, I1, I2, I3]
      refine ⟨_, c5, ?_⟩
      simp only [ess, Bool.not_true, if_true, push_cast, ↓J1, ↓J2, N1, N2, N3, reduceCtorEq, N4, N5, N6, reduceIte, N7, I1, I2, I3]
      exact ⟨.tup [.agg [.ow 1 (owss D)], .bool true], _, by simp only [conR, conRL, isF, hget, hdel, if_true, if_false, reduceIte, Nat.reduceEqDiff, reduceCtorEq, Nat.zero_add, hwl, List.drop_zero, tkw, Option.map_some, Option.bind_some]; rfl, NilTo.refl _⟩
end
end Go.Proofs.YtedgfiikaedeoaaDoor.X
set_option maxHeartbeats 1000000
set_option maxRecDepth 8000
set_option linter.unusedSimpArgs false
set_option linter.unusedVariables false
open Nat renaming reduceBEq → N1, reduceAdd → N2, reduceSub → N3, reduceMul → N4, reduceEqDiff → N5, reduceLeDiff → N6, reduceLT → N7
open Int renaming reduceLE → I1, reduceLT → I2, reduceToNat → I3
namespace Go.Proofs.YtedgfiikaedeoaaDoor.X
open Go
variable {mx : Int} {ev1 ev2 : Value}
/-! a heap that lies below n -/
def below (n : Nat) (h : Heap) : Prop := canB n [] h = h
theorem canB_le (n : Nat) : ∀ h : Heap, (canB n [] h).length ≤ h.length
  | [] => by simp [canB]
  | (i, o) :: h => by
    simp only [canB]
    have := canB_le n h
    split <;> simp <;> omega
theorem below_cons {n i : Nat} {o : Ob} {h : Heap} (hb : below n ((i, o) :: h)) : i < n ∧ renO n [] o = o ∧ below n h := by
  unfold below at hb
  simp only [canB] at hb
  split at hb
  · rename_i hi
    simp only [List.cons.injEq, Prod.mk.injEq, true_and] at hb
    exact ⟨hi, hb.1, hb.2⟩
  · have := canB_le n h
    rw [hb] at this
    simp at this
    omega
theorem below_mk {n i : Nat} {o : Ob} {h : Heap} (hi : i < n) (ho : renO n [] o = o) (hb : below n h) : below n ((i, o) :: h) := by
  unfold below at hb ⊢
  simp only [canB, hi, if_true, ho, hb]
theorem below_set {n : Nat} {id sz : Nat} {es : List (List AV)} : ∀ {h : Heap}, below n h → below n (hset h id (.slice sz es))
  | [], _ => rfl
  | (i, o) :: h, hb => by
    obtain ⟨h1, h2, h3⟩ := below_cons hb
    simp only [hset]
    split
    · exact below_mk h1 rfl h3
    · exact below_mk h1 h2 (below_set h3)
theorem below_lt {n : Nat} {id : Nat} {o : Ob} : ∀ {h : Heap}, below n h → hget h id = some o → id < n
  | [], _, hg => by simp [hget] at hg
  | (i, o') :: h, hb, hg => by
    obtain ⟨h1, h2, h3⟩ := below_cons hb
    simp only [hget] at hg
    split at hg
    · rename_i e; omega
    · exact below_lt h3 hg
theorem hget_same {h : Heap} {id : Nat} {o u : Ob} (hg : hget h id = some o) : hget (hset h id u) id = some u := by
  rw [hget_set]; simp [hg]
theorem hset_hset {id : Nat} {u v : Ob} : ∀ {h : Heap}, hset (hset h id u) id v = hset h id v
  | [] => rfl
  | (i, o) :: h => by
    simp only [hset]
    split
    · rename_i e; simp [hset, e]
    · rename_i e; simp only [hset, if_neg e, hset_hset]
theorem hset_get {id : Nat} {u : Ob} : ∀ {h : Heap}, hget h id = some u → hset h id u = h
  | [], hg => rfl
  | (i, o) :: h, hg => by
    simp only [hget] at hg
    simp only [hset]
    split at hg
    · rename_i e
      simp only [Option.some.injEq] at hg
      subst hg; simp [e]
    · rename_i e; rw [if_neg e, hset_get hg]
theorem kill_set {id sz : Nat} {es : List (List AV)} : ∀ {h : Heap}, killH (hset h id (.slice sz es)) = hset (killH h) id (.slice sz es)
  | [] => rfl
  | (i, .var cs) :: h => by
    simp only [hset]
    split
    · rename_i e; simp [killH, hset, e]
    · rename_i e; simp only [killH, hset, if_neg e, kill_set]
  | (i, .slice a b) :: h => by
    simp only [hset]
    split
    · rename_i e; simp [killH, hset, e]
    · rename_i e; simp only [killH, hset, if_neg e, kill_set]
/-! what is a list of numbers -/
def mk (l : List Int) (k : Int) (i : Nat) : List Int := (List.range i).map (fun j : Nat => k + (j : Int)) ++ l.drop i
theorem mk_length {l : List Int} {k : Int} {i : Nat} (h : i ≤ l.length) : (mk l k i).length = l.length := by simp [mk]; omega
theorem mk_succ {l : List Int} {k : Int} {i : Nat} (h : i < l.length) : (mk l k i).set i (k + i) = mk l k (i + 1) := by
  have e : l.drop i = l[i] :: l.drop (i + 1) := List.drop_eq_getElem_cons h
  simp only [mk, e, List.range_succ, List.map_append, List.map_cons, List.map_nil, List.append_assoc, List.cons_append, List.nil_append]
  rw [mid_set (by simp)]
theorem mk_all {l : List Int} {k : Int} : mk l k l.length = (List.range l.length).map (fun j : Nat => k + (j : Int)) := by simp [mk]
theorem mk_zero {l : List Int} {k : Int} : mk l k 0 = l := by simp [mk]
section
variable {C : CT} (hC : Closed Tryd.prog (Gp mx ev1 ev2) md0 C)
include hC
theorem t40 (l : List Int) (k : Int) (h : Heap) (id n : Nat) (hg : hget h id = some (.slice 1 (ints l))) (hb : below n h) (hk : 0 ≤ k ∧ k < 2^50) (hl : l.length < 2^50) : C 40 [.ref id none 1 0 l.length, .int .i64 k] h n (fun v h' n' => v = .int .i64 (k + l.length) ∧ n' = n ∧ h' = hset h id (.slice 1 (ints (mk l k l.length)))) := by
  have hid := below_lt hb hg
  refine Closed.rT hC Q40 ?_
  simp only [c40, push_cast, ↓J1, ↓J2, N1, N2, N3, reduceCtorEq, N4, N5, N6, reduceIte, N7, I1, I2, I3]
  refine RL_count (fun i => ⟨tb 19 .any [(0, .ref id none 1 0 l.length), (1, .int .i64 (k + i)), (5, .int .i64 (i : Int))], hset h id (.slice 1 (ints (mk l k i))), n⟩) (fun _ => True) l.length 0 (head_tb [] (by simp [rhoOk, objIds]) (by simp only [hid, keptV_cons, keptV_nil, tb_get, lk_same, lk_ne, lk_nil, ren, renL, lkp, N7, N1, N5, reduceIte, and_true, true_and, Nat.not_lt_zero, if_false, if_true, Nat.add_zero, Nat.zero_add]; simp) (by rw [mk_zero, hset_get hg]; exact hb)) (by omega) trivial fun i hi _ J hJ => ?_
  have hgi : hget (hset h id (.slice 1 (ints (mk l k i)))) id = some (.slice 1 (ints (mk l k i))) := hget_same hg
  by_cases h1 : i < l.length
  · have e1 : (ints (mk l k i))[i]? = some [.int .i64 ((mk l k i).getD i 0)] := ints_get (by rw [mk_length hi]; exact h1)
    simp only [Int.toNat_natCast, hgi, e1, push_cast, ↓J1, ↓J2, N1, N2, N3, reduceCtorEq, N4, N5, N6, reduceIte, N7, I1, I2, I3]
    refine ifB_intro (fun _ => ⟨by omega, by omega, ?_⟩) (fun h => by simp at h; omega)
    refine hJ h1 trivial _ (head_tb [] (by simp [rhoOk, objIds]) ?_ ?_)
    · simp only [hid, keptV_cons, keptV_nil, tb_get, lk_same, lk_ne, lk_nil, ren, renL, lkp, N7, N1, N5, reduceIte, and_true, true_and, Nat.not_lt_zero, if_false, if_true, Nat.add_zero, Nat.zero_add]
      rw [wrap64 (by omega) (by omega), wrap64 (by omega) (by omega)]
      simp; omega
    · rw [ints_set, mk_succ h1, hset_hset]
      exact below_set hb
  · obtain rfl : i = l.length := by omega
    simp only [push_cast, ↓J1, ↓J2, N1, N2, N3, reduceCtorEq, N4, N5, N6, reduceIte, N7, I1, I2, I3]
    refine ifB_intro (fun h => by simp at h) (fun h => ?_)
    trivial
theorem t40s (l : List Int) (k : Int) (h : Heap) (id n i0 : Nat) (es : List (List AV)) (hg : hget h id = some (.slice 1 es)) (he : es[i0]? = some [.ow 1 (ints l)]) (hb : below n h) (hk : 0 ≤ k ∧ k < 2^50) (hl : l.length < 2^50) : C 40 [.ref id (some (1, i0, 0)) 1 0 l.length, .int .i64 k] h n (fun v h' n' => v = .int .i64 (k + l.length) ∧ n' = n ∧ h' = hset h id (.slice 1 (es.set i0 [.ow 1 (ints (mk l k l.length))]))) := by
  have hid := below_lt hb hg
  have hi0 : i0 < es.length := by
    rcases Nat.lt_or_ge i0 es.length with h | h
    · exact h
    · rw [List.getElem?_eq_none_iff.2 h] at he; cases he
  refine Closed.rT hC Q40 ?_
  simp only [c40, push_cast, ↓J1, ↓J2, N1, N2, N3, reduceCtorEq, N4, N5, N6, reduceIte, N7, I1, I2, I3]
  refine RL_count (fun i => ⟨tb 19 .any [(0, .ref id (some (1, i0, 0)) 1 0 l.length), (1, .int .i64 (k + i)), (5, .int .i64 (i : Int))], hset h id (.slice 1 (es.set i0 [.ow 1 (ints (mk l k i))])), n⟩) (fun _ => True) l.length 0 (head_tb [] (by simp [rhoOk, objIds]) (by simp only [hid, keptV_cons, keptV_nil, tb_get, lk_same, lk_ne, lk_nil, ren, renL, lkp, N7, N1, N5, reduceIte, and_true, true_and, Nat.not_lt_zero, if_false, if_true, Nat.add_zero, Nat.zero_add]; simp) ?_) (by omega) trivial fun i hi _ J hJ => ?_
  · rw [mk_zero]
    have : es.set i0 [.ow 1 (ints l)] = es := by
      apply List.ext_getElem?
      intro j
      rw [List.getElem?_set]
      split
      · rename_i e; subst e; rw [he]
      · rfl
    rw [this, hset_get hg]; exact hb
  have hgi : hget (hset h id (.slice 1 (es.set i0 [.ow 1 (ints (mk l k i))]))) id = some (.slice 1 (es.set i0 [.ow 1 (ints (mk l k i))])) := hget_same hg
  have hei : (es.set i0 [.ow 1 (ints (mk l k i))])[i0]? = some [.ow 1 (ints (mk l k i))] := by simp [hi0]
  by_cases h1 : i < l.length
  · have e1 : (ints (mk l k i))[i]? = some [.int .i64 ((mk l k i).getD i 0)] := ints_get (by rw [mk_length hi]; exact h1)
    simp only [Int.toNat_natCast, hgi, hei, e1, push_cast, ↓J1, ↓J2, N1, N2, N3, reduceCtorEq, N4, N5, N6, reduceIte, N7, I1, I2, I3]
    refine ifB_intro (fun _ => ⟨by omega, by omega, ?_⟩) (fun h => by simp at h; omega)
    refine hJ h1 trivial _ (head_tb [] (by simp [rhoOk, objIds]) ?_ ?_)
    · simp only [hid, keptV_cons, keptV_nil, tb_get, lk_same, lk_ne, lk_nil, ren, renL, lkp, N7, N1, N5, reduceIte, and_true, true_and, Nat.not_lt_zero, if_false, if_true, Nat.add_zero, Nat.zero_add]
      rw [wrap64 (by omega) (by omega), wrap64 (by omega) (by omega)]
      simp; omega
    · rw [ints_set, mk_succ h1, List.set_set, hset_hset]
      exact below_set hb
  · obtain rfl : i = l.length := by omega
    simp only [push_cast, ↓J1, ↓J2, N1, N2, N3, reduceCtorEq, N4, N5, N6, reduceIte, N7, I1, I2, I3]
    refine ifB_intro (fun h => by simp at h) (fun h => ?_)
    trivial
end
end Go.Proofs.YtedgfiikaedeoaaDoor.X
set_option maxHeartbeats 1000000
set_option maxRecDepth 8000
set_option linter.unusedSimpArgs false
set_option linter.unusedVariables false
open Nat renaming reduceBEq → N1, reduceAdd → N2, reduceSub → N3, reduceMul → N4, reduceEqDiff → N5, reduceLeDiff → N6, reduceLT → N7
open Int renaming reduceLE → I1, reduceLT → I2, reduceToNat → I3
namespace Go.Proofs.YtedgfiikaedeoaaDoor.X
open Go
variable {mx : Int} {ev1 ev2 : Value}
attribute [local irreducible] Ev
def mkR : List (List Int) → Int → List (List Int)
  | [], _ => []
  | r :: W, k => mk r k r.length :: mkR W (k + r.length)
def mkW (W : List (List Int)) (k : Int) (i : Nat) : List (List Int) := mkR (W.take i) k ++ W.drop i
theorem mkR_length : ∀ (W : List (List Int)) (k : Int), (mkR W k).length = W.length
  | [], k => rfl
  | r :: W, k => by simp [mkR, mkR_length W]
theorem mkR_append : ∀ (W V : List (List Int)) (k : Int), mkR (W ++ V) k = mkR W k ++ mkR V (k + lens W)
  | [], V, k => by simp [mkR, lens]
  | r :: W, V, k => by
    have e : k + (r.length : Int) + (lens W : Int) = k + (lens (r :: W) : Int) := by simp [lens]; omega
    simp only [List.cons_append, mkR, mkR_append W, e]
theorem mkW_length {W : List (List Int)} {k : Int} {i : Nat} (h : i ≤ W.length) : (mkW W k i).length = W.length := by simp [mkW, mkR_length]; omega
theorem mkW_succ {W : List (List Int)} {k : Int} {i : Nat} (h : i < W.length) : (owss (mkW W k i)).set i [.ow 1 (ints (mk W[i] (k + lens (W.take i)) W[i].length))] = owss (mkW W k (i + 1)) := by
  have e : W.drop i = W[i] :: W.drop (i + 1) := List.drop_eq_getElem_cons h
  have hl : (mkR (W.take i) k).length = i := by rw [mkR_length]; simp; omega
  simp only [mkW, e, List.take_succ_eq_append_getElem h, mkR_append, owss, List.map_append, List.map_cons, mkR, List.map_nil, List.append_assoc, List.cons_append, List.nil_append]
  rw [mid_set (by simp [hl])]
theorem mkW_get {W : List (List Int)} {k : Int} {i : Nat} (h : i < W.length) : (owss (mkW W k i))[i]? = some [.ow 1 (ints W[i])] := by
  have e : W.drop i = W[i] :: W.drop (i + 1) := List.drop_eq_getElem_cons h
  have hl : (mkR (W.take i) k).length = i := by rw [mkR_length]; simp; omega
  simp only [mkW, e, owss, List.map_append, List.map_cons]
  rw [mid_get (by simp [hl])]
theorem mkW_zero {W : List (List Int)} {k : Int} : mkW W k 0 = W := by simp [mkW, mkR]
mutual
theorem ren_mono {n : Nat} : ∀ x : AV, ren n [] x = x → ren (n + 1) [] x = x
  | .ref id sub sz off len, h => by
    simp only [ren, lkp] at h ⊢
    split at h
    · rw [if_pos (by omega)]
    · cases h
  | .ptr id sub sz i c, h => by
    simp only [ren, lkp] at h ⊢
    split at h
    · rw [if_pos (by omega)]
    · cases h
  | .fn f cs, h => by
    simp only [ren, AV.fn.injEq, true_and] at h ⊢
    exact renL_mono cs h
  | .agg cs, h => by
    simp only [ren, AV.agg.injEq] at h ⊢
    exact renL_mono cs h
  | .tup cs, h => by
    simp only [ren, AV.tup.injEq] at h ⊢
    exact renL_mono cs h
  | .any, h => by simp [ren]
  | .con _, h => by simp [ren]
  | .int _ _, h => by simp [ren]
  | .bool _, h => by simp [ren]
  | .str _, h => by simp [ren]
  | .nil, h => by simp [ren]
  | .sl _, h => by simp [ren]
  | .pf _, h => by simp [ren]
  | .ow _ _, h => by simp [ren]
  | .op _, h => by simp [ren]
theorem renL_mono {n : Nat} : ∀ xs : List AV, renL n [] xs = xs → renL (n + 1) [] xs = xs
  | [], _ => by simp [renL]
  | x :: xs, h => by
    simp only [renL, List.cons.injEq] at h ⊢
    exact ⟨ren_mono x h.1, renL_mono xs h.2⟩
end
theorem below_succ {n : Nat} : ∀ {h : Heap}, below n h → below (n + 1) h
  | [], _ => rfl
  | (i, o) :: h, hb => by
    obtain ⟨h1, h2, h3⟩ := below_cons hb
    refine below_mk (by omega) ?_ (below_succ h3)
    cases o with
    | slice sz es => rfl
    | var cs =>
      simp only [renO, Ob.var.injEq] at h2 ⊢
      exact renL_mono cs h2
def solid (h : Heap) : Prop := killH h = h
theorem solid_set {id sz : Nat} {es : List (List AV)} {h : Heap} (hs : solid h) : solid (hset h id (.slice sz es)) := by
  unfold solid at *
  rw [kill_set, hs]
theorem lens_le : ∀ (W : List (List Int)) (i : Nat), lens (W.take i) ≤ lens W
  | [], i => by simp
  | r :: W, 0 => by simp [lens]
  | r :: W, i + 1 => by
    have := lens_le W i
    simp [lens] at this ⊢
    omega
section
variable {C : CT} (hC : Closed Tryd.prog (Gp mx ev1 ev2) md0 C)
include hC
theorem t25 (W : List (List Int)) (k : Int) (h : Heap) (id n : Nat) (hg : hget h id = some (.slice 1 (owss W))) (hb : below n h) (hs : solid h) (hk : 0 ≤ k ∧ k < 2^48) (hW : W.length < 2^50) (hl : lens W < 2^48) (hr : ∀ r ∈ W, r.length < 2^50) : C 25 [.ref id none 1 0 W.length, .int .i64 k] h n (fun v h' n' => v = .int .i64 (k + lens W) ∧ n' = n ∧ h' = hset h id (.slice 1 (owss (mkW W k W.length)))) := by
  have hid := below_lt hb hg
  refine Closed.rT hC Q25 ?_
  simp only [c25, push_cast, ↓J1, ↓J2, N1, N2, N3, reduceCtorEq, N4, N5, N6, reduceIte, N7, I1, I2, I3]
  refine RL_count (fun i => ⟨tb 19 .any [(0, .ref id none 1 0 W.length), (1, .int .i64 (k + lens (W.take i))), (5, .int .i64 (i : Int))], hset h id (.slice 1 (owss (mkW W k i))), n⟩) (fun _ => True) W.length 0 (head_tb [] (by simp [rhoOk, objIds]) (by simp only [hid, keptV_cons, keptV_nil, tb_get, lk_same, lk_ne, lk_nil, ren, renL, lkp, N7, N1, N5, reduceIte, and_true, true_and, Nat.not_lt_zero, if_false, if_true, Nat.add_zero, Nat.zero_add]; simp [lens]) (by rw [mkW_zero, hset_get hg]; exact hb)) (by omega) trivial fun i hi _ J hJ => ?_
  have hgi : hget (hset h id (.slice 1 (owss (mkW W k i)))) id = some (.slice 1 (owss (mkW W k i))) := hget_same hg
  by_cases h1 : i < W.length
  · have e1 := mkW_get (k := k) h1
    have hle := lens_le W i
    simp only [Int.toNat_natCast, hgi, e1, ints_length, push_cast, ↓J1, ↓J2, N1, N2, N3, reduceCtorEq, N4, N5, N6, reduceIte, N7, I1, I2, I3]
    refine ifB_intro (fun _ => ⟨by omega, by omega, _, t40s hC W[i] (k + lens (W.take i)) _ id n i _ hgi e1 (below_set hb) (by omega) (hr _ (List.getElem_mem h1)), ?_⟩) (fun h => by simp at h; omega)
    rintro v h' n' ⟨rfl, rfl, rfl⟩ _
    simp only [push_cast, ↓J1, ↓J2, N1, N2, N3, reduceCtorEq, N4, N5, N6, reduceIte, N7, I1, I2, I3]
    refine hJ h1 trivial _ (head_tb [] (by simp [rhoOk, objIds]) ?_ ?_)
    · simp only [hid, keptV_cons, keptV_nil, tb_get, lk_same, lk_ne, lk_nil, ren, renL, lkp, N7, N1, N5, reduceIte, and_true, true_and, Nat.not_lt_zero, if_false, if_true, Nat.add_zero, Nat.zero_add]
      rw [wrap64 (by omega) (by omega), lens_succ h1]
      simp; omega
    · rw [mkW_succ h1, hset_hset, solid_set hs]
      exact below_set hb
  · obtain rfl : i = W.length := by omega
    simp only [List.take_length, push_cast, ↓J1, ↓J2, N1, N2, N3, reduceCtorEq, N4, N5, N6, reduceIte, N7, I1, I2, I3]
    refine ifB_intro (fun h => by simp at h) (fun h => ?_)
    trivial
theorem t12 (W : List (List Int)) (k : Int) (h : Heap) (id n : Nat) (hg : hget h id = some (.slice 1 (owss W))) (hb : below n h) (hs : solid h) (hk : 0 ≤ k ∧ k < 2^48) (hW : W.length < 2^50) (hl : lens W < 2^48) (hr : ∀ r ∈ W, r.length < 2^50) : C 12 [.agg [.ref id none 1 0 W.length], .int .i64 k] h n (fun v h' n' => v = .int .i64 (k + lens W) ∧ n' = n + 1 ∧ h' = (n, .var [.ref id none 1 0 W.length]) :: hset h id (.slice 1 (owss (mkW W k W.length)))) := by
  have hid := below_lt hb hg
  have hne : ¬ n = id := by omega
  refine Closed.rT hC Q12 ?_
  simp only [c12, push_cast, ↓J1, ↓J2, N1, N2, N3, reduceCtorEq, N4, N5, N6, reduceIte, N7, I1, I2, I3]
  have hb' : below (n + 1) ((n, .var [.ref id none 1 0 W.length]) :: h) :=
    below_mk (by omega) (by simp only [renO, renL, ren, if_pos (show id < n + 1 by omega)]) (below_succ hb)
  refine ⟨_, t25 hC W k _ id (n + 1) (by simp only [hget, if_neg hne]; exact hg) hb' ?_ hk hW hl hr, ?_⟩
  · unfold solid at *
    simp only [killH, killL, killS, hs]
  rintro v h' n' ⟨rfl, rfl, rfl⟩ _
  have hs2 := solid_set (id := id) (sz := 1) (es := owss (mkW W k W.length)) hs
  unfold solid at hs2
  simp only [hset, if_neg hne, hs2, push_cast, ↓J1, ↓J2, N1, N2, N3, reduceCtorEq, N4, N5, N6, reduceIte, N7, I1, I2, I3]
end
end Go.Proofs.YtedgfiikaedeoaaDoor.X
set_option maxHeartbeats 2000000
set_option maxRecDepth 8000
set_option linter.unusedSimpArgs false
set_option linter.unusedVariables false
open Nat renaming reduceBEq → N1, reduceAdd → N2, reduceSub → N3, reduceMul → N4, reduceEqDiff → N5, reduceLeDiff → N6, reduceLT → N7
open Int renaming reduceLE → I1, reduceLT → I2, reduceToNat → I3
namespace Go.Proofs.YtedgfiikaedeoaaDoor.X
open Go
variable {mx : Int} {ev1 ev2 : Value}
attribute [local irreducible] Ev
def inn (x : Int) (row v : List Int) : Nat → List Int
  | 0 => v
  | k + 1 => (inn x row v k).set k (w64 ((inn x row v k).getD k 0 + w64 (x * row.getD k 0)))
def outS (W : List (List Int)) (o v : List Int) : Nat → List Int
  | 0 => v
  | i + 1 => inn (o.getD i 0) (W.getD i []) (outS W o v i) 3
def chS (W : List (List Int)) (o : List Int) : Nat → List Int
  | 0 => o
  | m + 1 => outS W (chS W o m) [0, 0, 0] 3
theorem inn_length (x : Int) (row v : List Int) : ∀ k, (inn x row v k).length = v.length
  | 0 => rfl
  | k + 1 => by simp [inn, inn_length x row v k]
theorem outS_length (W : List (List Int)) (o : List Int) {v : List Int} (h : v.length = 3) : ∀ i, (outS W o v i).length = 3
  | 0 => h
  | i + 1 => by rw [outS, inn_length, outS_length W o h i]
theorem chS_length (W : List (List Int)) {o : List Int} (h : o.length = 3) : ∀ m, (chS W o m).length = 3
  | 0 => h
  | m + 1 => outS_length W _ rfl 3
theorem good_rows {W : List (List Int)} (hg : goodW W = true) : W.length = 3 ∧ ∀ i, i < 3 → W[i]? = some (W.getD i []) ∧ (W.getD i []).length = 3 := by
  simp only [goodW, Bool.and_eq_true, decide_eq_true_eq] at hg
  refine ⟨hg.1, fun i hi => ?_⟩
  have hl : i < W.length := by omega
  have e : W.getD i [] = W[i] := by simp [List.getD, hl]
  have hr := List.all_eq_true.1 hg.2 _ (List.getElem_mem hl)
  simp only [rowOk, Bool.and_eq_true, decide_eq_true_eq] at hr
  rw [e]
  exact ⟨List.getElem?_eq_getElem hl, hr.1.1⟩
section
variable {C : CT} (hC : Closed Tryd.prog (Gp mx ev1 ev2) md0 C)
include hC
end
end Go.Proofs.YtedgfiikaedeoaaDoor.X
set_option maxHeartbeats 2000000
set_option maxRecDepth 8000
set_option linter.unusedSimpArgs false
set_option linter.unusedVariables false
open Nat renaming reduceBEq → N1, reduceAdd → N2, reduceSub → N3, reduceMul → N4, reduceEqDiff → N5, reduceLeDiff → N6, reduceLT → N7
open Int renaming reduceLE → I1, reduceLT → I2, reduceToNat → I3
namespace Go.Proofs.YtedgfiikaedeoaaDoor.X
open Go
variable {mx : Int} {ev1 ev2 : Value}
attribute [local irreducible] Ev szSS szRows
theorem szRows_lens : ∀ (W : List (List Int)) (v : Int), 0 ≤ v → 0 ≤ szRows W v → (lens W : Int) ≤ v
  | [], v, h0, _ => by simp [lens]; exact h0
  | s :: W, v, h0, h => by
    rw [szRows] at h
    split at h
    · omega
    · rename_i hs
      have := szRows_lens W (v - s.length) (by omega) h
      have e : lens (s :: W) = s.length + lens W := by simp [lens]
      rw [e]; omega
theorem szSS_lens {W : List (List Int)} {v : Int} (h0 : 0 ≤ v) (h : 0 ≤ szSS W v) : (lens W : Int) ≤ v := by
  rw [szSS] at h
  split at h
  · omega
  · have := szRows_lens W (v - W.length) (by omega) h
    omega
def run (k : Int) (n : Nat) : List Int := (List.range n).map (fun j : Nat => k + (j : Int))
theorem run_length {k : Int} {n : Nat} : (run k n).length = n := by simp [run]
theorem run_get {k : Int} {n i : Nat} (h : i < n) : (run k n).getD i 0 = k + i := by simp [run, List.getD, h]
theorem mk_run {l : List Int} {k : Int} : mk l k l.length = run k l.length := mk_all
theorem RetTo_lb {h : Heap} {id : Nat} {es : List (List AV)} {len : Nat} {b : Bool} (hg : hget h id = some (.slice 1 es)) (hl : len = es.length) : RetTo h (.tup [.ref id none 1 0 len, .bool b]) (.tup [.ow 1 es, .bool b]) := by
  subst hl
  exact RetTo_of (h2 := hdel h id) (by simp [conR, conRL, isF, hg])
theorem RetTo_nb {h : Heap} {b : Bool} : RetTo h (.tup [.nil, .bool b]) (.tup [.ow 1 [], .bool b]) :=
  ⟨.tup [.nil, .bool b], h, by simp [conR, conRL, isF], by simp [NilTo, NilToL]⟩
section
variable {C : CT} (hC : Closed Tryd.prog (Gp mx ev1 ev2) md0 C)
include hC
theorem t41 (k : Int) (n : Nat) (hk : 0 ≤ k ∧ k < 2^50) (hn : n < 2^50) : Ev C 41 [.sl (ints (run k n)), .int .i64 k] (.int .i64 (k + n)) := by
  refine rT hC Q41 ?_
  simp only [c41, push_cast, ↓J1, ↓J2, N1, N2, N3, reduceCtorEq, N4, N5, N6, reduceIte, N7, I1, I2, I3]
  refine RL_count (fun i => ⟨tb 21 .any [(0, .sl (ints (run k n))), (1, .int .i64 (k + i)), (5, .int .i64 (i : Int))], [], 0⟩) (fun _ => True) n 0 (hdA []) (by omega) trivial fun i hi _ J hJ => ?_
  by_cases h1 : i < n
  · have e1 : (ints (run k n))[i]? = some [.int .i64 ((run k n).getD i 0)] := ints_get (by rw [run_length]; exact h1)
    simp only [ints_length, run_length, Int.toNat_natCast, e1, run_get h1, push_cast, ↓J1, ↓J2, N1, N2, N3, reduceCtorEq, N4, N5, N6, reduceIte, N7, I1, I2, I3]
    refine ifB_intro (fun _ => ?_) (fun h => by simp at h; omega)
    repeat (refine ⟨by omega, ?_⟩)
    refine hJ h1 trivial _ (hdA [] (hV := ?_))
    simp only [keptV_cons, keptV_nil, tb_get, lk_same, lk_ne, lk_nil, ren, renL, lkp, N7, N1, N5, reduceIte, and_true, true_and, Nat.not_lt_zero, if_false, if_true, Nat.add_zero, Nat.zero_add]
    rw [wrap64 (by omega) (by omega), wrap64 (by omega) (by omega)]
    simp; omega
  · obtain rfl : i = n := by omega
    simp only [ints_length, run_length, push_cast, ↓J1, ↓J2, N1, N2, N3, reduceCtorEq, N4, N5, N6, reduceIte, N7, I1, I2, I3]
    refine ifB_intro (fun h => by simp at h) (fun h => trivial)
def askCh (W : List (List Int)) (w n : Int) : Bool := goodW W && inR 0 2 w && inR 0 6 n
def resCh (W : List (List Int)) (w n : Int) : List Int := if askCh W w n then chS W ([0, 0, 0].set w.toNat 1) n.toNat else []
omit hC in
theorem resCh_length (W : List (List Int)) (w n : Int) : (resCh W w n).length ≤ 3 := by
  unfold resCh
  split
  · rw [chS_length _ (by simp)]; omega
  · simp
omit hC in
theorem own_lb (l : List Int) (b : Bool) : ownR (.tup [.ow 1 (ints l), .bool b]) = true := by
  have e := own_ints l
  simp only [ownR] at e
  simp only [ownR, ownRL, e, Bool.and_true]
end
end Go.Proofs.YtedgfiikaedeoaaDoor.X
set_option maxHeartbeats 4000000
set_option maxRecDepth 8000
set_option linter.unusedVariables false
set_option linter.unusedSimpArgs false
open Nat renaming reduceBEq → N1, reduceAdd → N2, reduceSub → N3, reduceMul → N4, reduceEqDiff → N5, reduceLeDiff → N6, reduceLT → N7
open Int renaming reduceLE → I1, reduceLT → I2, reduceToNat → I3
namespace Go.Proofs.YtedgfiikaedeoaaDoor.X
open Go
variable {mx : Int} {ev1 ev2 : Value}
attribute [local irreducible] Ev
theorem mkR_get {W : List (List Int)} {k : Int} {i : Nat} (h : i < W.length) : (mkR W k)[i]? = some (run (k + lens (W.take i)) W[i].length) := by
  have e : W = W.take i ++ W[i] :: W.drop (i + 1) := by rw [← List.drop_eq_getElem_cons h, List.take_append_drop]
  have hl : (mkR (W.take i) k).length = i := by rw [mkR_length]; simp; omega
  have e2 : mkR W k = mkR (W.take i) k ++ mkR (W[i] :: W.drop (i + 1)) (k + lens (W.take i)) := by rw [← mkR_append, ← e]
  rw [e2, List.getElem?_append_right (by omega), hl, Nat.sub_self, mkR, mk_run]
  rfl
theorem mkW_all {W : List (List Int)} {k : Int} {n : Nat} (h : n = W.length) : mkW W k n = mkR W k := by subst h; simp [mkW]
section
variable {C : CT} (hC : Closed Tryd.prog (Gp mx ev1 ev2) md0 C)
include hC
theorem t26 (W : List (List Int)) (k : Int) (hk : 0 ≤ k ∧ k < 2^48) (hW : W.length < 2^48) (hl : lens W < 2^48) (hr : ∀ r ∈ W, r.length < 2^48) : Ev C 26 [.sl (intss (mkR W k)), .int .i64 k] (.int .i64 (k + lens W)) := by
  have hml : (intss (mkR W k)).length = W.length := by rw [intss_length, mkR_length]
  refine rT hC Q26 ?_
  simp only [c26, push_cast, ↓J1, ↓J2, N1, N2, N3, reduceCtorEq, N4, N5, N6, reduceIte, N7, I1, I2, I3]
  refine RL_count (fun i => ⟨tb 21 .any [(0, .sl (intss (mkR W k))), (1, .int .i64 (k + lens (W.take i))), (5, .int .i64 (i : Int))], [], 0⟩) (fun _ => True) W.length 0 (head_tb [] (by simp [rhoOk, objIds]) (by simp only [keptV_cons, keptV_nil, tb_get, lk_same, lk_ne, lk_nil, ren, renL, lkp, N7, N1, N5, reduceIte, and_true, true_and, Nat.not_lt_zero, if_false, if_true, Nat.add_zero, Nat.zero_add]; simp [lens]) rfl) (by omega) trivial fun i hi _ J hJ => ?_
  by_cases h1 : i < W.length
  · have hK := hJ h1 trivial
    have hle := lens_le W i
    have hlt : decide ((i : Int) < (W.length : Int)) = true := decide_eq_true (by omega)
    have e1 : (intss (mkR W k))[i]? = some [.sl (ints (run (k + lens (W.take i)) W[i].length))] := by
      rw [intss, List.getElem?_map, mkR_get h1]; rfl
    have hri := hr _ (List.getElem_mem h1)
    have c1 := t41 hC (k + lens (W.take i)) W[i].length (by omega) (by omega)
    have hsu : (lens (W.take (i + 1)) : Int) = lens (W.take i) + W[i].length := by rw [lens_succ h1]; omega
    have w5 : IntKind.i64.wrap ((i : Int) + 1) = (i : Int) + 1 := wrap64 (by omega) (by omega)
    have d1 : decide (k + (lens (W.take i) : Int) + (W[i].length : Int) < 0) = false := decide_eq_false (by omega)
    rw [hsu] at hK
    simp only [hml, hlt, Int.toNat_natCast, e1, w5, push_cast, ↓J1, ↓J2, N1, N2, N3, reduceCtorEq, N4, N5, N6, reduceIte, N7, I1, I2, I3]
    repeat (refine ⟨by omega, ?_⟩)
    refine ⟨_, c1, ?_⟩
    simp only [d1, w5, push_cast, ↓J1, ↓J2, N1, N2, N3, reduceCtorEq, N4, N5, N6, reduceIte, N7, I1, I2, I3]
    refine hK _ (head_tb [] (by simp [rhoOk, objIds]) ?_ ?_)
    · simp only [keptV_cons, keptV_nil, tb_get, lk_same, lk_ne, lk_nil, ren, renL, lkp, N7, N1, N5, reduceIte, and_true, true_and, Nat.not_lt_zero, if_false, if_true, Nat.add_zero, Nat.zero_add]
      simp [Int.add_assoc]
    · rfl
  · have hlt : decide ((i : Int) < (W.length : Int)) = false := decide_eq_false (by omega)
    have htl : W.take i = W := List.take_of_length_le (by omega)
    rw [htl]
    simp only [hml, hlt, push_cast, ↓J1, ↓J2, N1, N2, N3, reduceCtorEq, N4, N5, N6, reduceIte, N7, I1, I2, I3]
theorem t13 (W : List (List Int)) (k : Int) (hk : 0 ≤ k ∧ k < 2^48) (hW : W.length < 2^48) (hl : lens W < 2^48) (hr : ∀ r ∈ W, r.length < 2^48) : Ev C 13 [.agg [.sl (intss (mkR W k))], .int .i64 k] (.int .i64 (k + lens W)) := by
  have c1 := t26 hC W k hk hW hl hr
  have d1 : decide (k + (lens W : Int) < 0) = false := decide_eq_false (by omega)
  refine rT hC Q13 ?_
  simp only [c13, push_cast, ↓J1, ↓J2, N1, N2, N3, reduceCtorEq, N4, N5, N6, reduceIte, N7, I1, I2, I3]
  refine ⟨_, c1, ?_⟩
  simp only [d1, push_cast, ↓J1, ↓J2, N1, N2, N3, reduceCtorEq, N4, N5, N6, reduceIte, N7, I1, I2, I3]
theorem tPcBig (s : ByteArray) (hs : ¬ s.size ≤ 1048576) : Ev C 4 [.str s] (.bool true) := by
  have d1 : decide ((1048576 : Int) < (s.size : Int)) = true := decide_eq_true (by omega)
  refine rT hC Q4 ?_
  simp only [X.c4, d1, push_cast, ↓J1, ↓J2, N1, N2, N3, reduceCtorEq, N4, N5, N6, reduceIte, N7, I1, I2, I3]
theorem t4 (hB : LibP C) (s : ByteArray) : Ev C 4 [.str s] (.bool true) := by
  by_cases hs : s.size ≤ 1048576
  rotate_left
  · exact tPcBig hC s hs
  have c3 := t10 hC s (by omega)
  have c4 := t11 hC hB s (by omega)
  have hD : (if pcOk s then chk (rwV (prt s)) 3 else []) = (if pcS s then chk (rdV (prt s)) 3 else []) := by
    obtain ⟨h1, h2⟩ := pc_eq s
    rw [h1]
    cases h : pcS s
    · rfl
    · simp only [if_true]; exact h2 h
  rw [hD, (pc_eq s).1] at c4
  obtain ⟨D, hDe⟩ : ∃ D, D = (if pcS s then chk (rdV (prt s)) 3 else []) := ⟨_, rfl⟩
  have hDl : D.length ≤ 3 ∧ ∀ r ∈ D, r.length ≤ 3 := by
    rw [hDe]; split
    · refine ⟨by rw [chk_len]; omega, fun r hr => ?_⟩
      simp only [chk, List.mem_map] at hr
      obtain ⟨w, _, rfl⟩ := hr
      simp only [List.length_take]; omega
    · simp
  have hDs : lens D < 2^40 := by
    have : ∀ W : List (List Int), (∀ r ∈ W, r.length ≤ 3) → lens W ≤ 3 * W.length := by
      intro W
      induction W with
      | nil => simp [lens]
      | cons r W ih =>
        intro h
        have := ih fun r hr => h r (by simp [hr])
        have := h r (by simp)
        simp only [lens, List.map_cons, List.sum_cons, List.length_cons] at *; omega
    have := this D hDl.2; omega
  rw [← hDe] at c3 c4
  generalize pcS s = ok at *
  clear hD hDe
  have c5 := t9 hC D D (by omega) (by omega) (fun r h => by have := hDl.2 r h; omega) (fun r h => by have := hDl.2 r h; omega)
  have c6 := t13 hC D 1 (by omega) (by omega) (by omega) (fun r h => by have := hDl.2 r h; omega)
  have es : decide (D = D) = true := decide_eq_true rfl
  have eo : (ok == ok) = true := by cases ok <;> rfl
  have d1 : decide ((1048576 : Int) < (s.size : Int)) = false := decide_eq_false (by omega)
  have hol := owss_length D
  have tkD : List.take D.length (owss D) = owss D := List.take_of_length_le (by omega)
  have tkM : List.take D.length (owss (mkR D 1)) = owss (mkR D 1) := List.take_of_length_le (by rw [owss_length, mkR_length]; omega)
  have dk : decide (1 + (lens D : Int) < 0) = false := decide_eq_false (by omega)
  simp only [clA, clO] at *
  refine rT hC Q4 ?_
  simp only [X.c4, d1, push_cast, ↓J1, ↓J2, N1, N2, N3, reduceCtorEq, N4, N5, N6, reduceIte, N7, I1, I2, I3]
  refine ⟨_, c3, ?_⟩
  simp only [push_cast, ↓J1, ↓J2, N1, N2, N3, reduceCtorEq, N4, N5, N6, reduceIte, N7, I1, I2, I3]
  refine ⟨_, c4, ?_⟩
  simp only [hol, tkD, frzLL_owss, push_cast, ↓J1, ↓J2, N1, N2, N3, reduceCtorEq, N4, N5, N6, reduceIte, N7, I1, I2, I3]
  refine ⟨_, c5, ?_⟩
  simp only [es, eo, push_cast, ↓J1, ↓J2, N1, N2, N3, reduceCtorEq, N4, N5, N6, reduceIte, N7, I1, I2, I3]
  refine ⟨_, t12 hC D 1 _ 2 4 rfl (by simp [below, canB, renO, ren, renL]) (by simp [solid, killH, killL, killS]) (by omega) (by omega) (by omega) (fun r h => by have := hDl.2 r h; omega), ?_⟩
  rintro v h' n' ⟨rfl, rfl, rfl⟩ _
  rw [mkW_all rfl]
  have dx : decide (1 + (lens D : Int) = 1 + (lens D : Int)) = true := decide_eq_true rfl
  simp only [hol, tkD, tkM, frzLL_owss, push_cast, ↓J1, ↓J2, N1, N2, N3, reduceCtorEq, N4, N5, N6, reduceIte, N7, I1, I2, I3]
  refine ⟨_, c6, ?_⟩
  simp only [dk, dx, hol, tkD, tkM, frzLL_owss, push_cast, ↓J1, ↓J2, N1, N2, N3, reduceCtorEq, N4, N5, N6, reduceIte, N7, I1, I2, I3]
  refine ⟨_, c4, ?_⟩
  simp only [dk, dx, hol, tkD, tkM, frzLL_owss, push_cast, ↓J1, ↓J2, N1, N2, N3, reduceCtorEq, N4, N5, N6, reduceIte, N7, I1, I2, I3]
  refine ⟨_, c5, ?_⟩
  simp only [es, eo, dk, dx, hol, tkD, tkM, frzLL_owss, push_cast, ↓J1, ↓J2, N1, N2, N3, reduceCtorEq, N4, N5, N6, reduceIte, N7, I1, I2, I3]
  refine ⟨_, c6, ?_⟩
  simp only [dk, dx, hol, tkD, tkM, frzLL_owss, push_cast, ↓J1, ↓J2, N1, N2, N3, reduceCtorEq, N4, N5, N6, reduceIte, N7, I1, I2, I3]
end
end Go.Proofs.YtedgfiikaedeoaaDoor.X
set_option maxHeartbeats 1000000
set_option maxRecDepth 8000
set_option linter.unusedSimpArgs false
set_option linter.unusedVariables false
open Nat renaming reduceBEq → N1, reduceAdd → N2, reduceSub → N3, reduceMul → N4, reduceEqDiff → N5, reduceLeDiff → N6, reduceLT → N7
open Int renaming reduceLE → I1, reduceLT → I2, reduceToNat → I3
namespace Go.Proofs.YtedgfiikaedeoaaDoor.X
open Go
variable {mx : Int} {ev1 ev2 : Value}
theorem lawParseClimate_C {C : CT} (hC : Closed Tryd.prog (Gp mx ev1 ev2) md0 C) (hB : LibP C) : ∀ xs, HasVs Tryd.prog 14 [9] xs → Ev C 4 xs (.bool true) := by
  rintro xs ⟨x0, r0, rfl, h0, rfl⟩
  obtain ⟨s, e, _⟩ := has_str tk_9 (show Has Tryd.prog (13 + 1) 9 [x0] from h0)
  obtain rfl : x0 = .str s := by simpa using e
  exact t4 hC hB s
theorem libP_CS {e1 e2 : Value} (m : Int) (he1 : ∃ te pe, e1 = .iface te pe) (he2 : ∃ te pe, e2 = .iface te pe) : LibP (CS Tryd.prog (Gp m e1 e2)) := ⟨fun s h => lib_rdi m he1 he2 s h, fun s h => lib_split m s h⟩
theorem lawParseClimate {m : Int} {e1 e2 : Value} (he1 : ∃ te pe, e1 = .iface te pe) (he2 : ∃ te pe, e2 = .iface te pe) : ∀ xs, HasVs Tryd.prog 14 [9] xs → Ev (CS Tryd.prog (Gp m e1 e2)) 4 xs (.bool true) := lawParseClimate_C (CS_closed (by kernel_rfl)) (libP_CS m he1 he2)
end Go.Proofs.YtedgfiikaedeoaaDoor.X
