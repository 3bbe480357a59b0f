/- A part of the proof: lemmas on the machine or on the functions that the law reaches. No condition of its own. -/
import Derived.Test.YtiemjnkblggimaaXP6
import Derived.Test.YtiemjnkblggimaaXP7
set_option maxHeartbeats 4000000
set_option maxRecDepth 8000
set_option linter.unusedSimpArgs false
set_option linter.unusedSectionVars false
set_option linter.unusedVariables false
open Nat renaming reduceBEq → N1, reduceAdd → N2, reduceSub → N3, reduceMul → N4, reduceEqDiff → N5, reduceLeDiff → N6, reduceLT → N7
open Int renaming reduceLE → I1, reduceLT → I2, reduceToNat → I3
namespace Go.Proofs.Ytiemjnkblggimaa.X
open Go
attribute [local irreducible] Ev fE
theorem fa_ext {l m : List Fa} (hl : l.length = m.length) (h : ∀ i, i < l.length → arc l i = arc m i) : l = m := by
  refine List.ext_getElem hl fun i h1 h2 => ?_
  have := h i h1
  simpa [arc, List.getD, h1, h2] using this
theorem cpN_length {l : List Fa} {c : List Int} {k : Nat} : (cpN l c k).length = l.length := by simp [cpN]
theorem cpN_arc {l : List Fa} {c : List Int} {k x : Nat} (hx : x < l.length) : arc (cpN l c k) x = ⟨(arc l x).f, (arc l x).t, if x < k ∧ 0 ≤ c.getD x 0 then min (arc l x).m (c.getD x 0) else (arc l x).m, (arc l x).g⟩ := by
  rw [cpN, map_arc hx]
theorem cpN_zero {l : List Fa} {c : List Int} : cpN l c 0 = l := fa_ext cpN_length fun i hi => by
  rw [cpN_length] at hi
  rw [cpN_arc hi, if_neg (by omega)]
theorem cpN_skip {l : List Fa} {c : List Int} {k : Nat} (h : ¬ 0 ≤ c.getD k 0) : cpN l c (k + 1) = cpN l c k := fa_ext (by rw [cpN_length, cpN_length]) fun i hi => by
  rw [cpN_length] at hi
  rw [cpN_arc hi, cpN_arc hi]
  by_cases e : i = k
  · subst e; rw [if_neg (fun q => h q.2), if_neg (fun q => h q.2)]
  · congr 1
    by_cases e2 : 0 ≤ c.getD i 0
    · by_cases e3 : i < k
      · rw [if_pos ⟨by omega, e2⟩, if_pos ⟨e3, e2⟩]
      · rw [if_neg (by omega), if_neg (by omega)]
    · rw [if_neg (fun q => e2 q.2), if_neg (fun q => e2 q.2)]
theorem cpN_set {l : List Fa} {c : List Int} {k : Nat} (hk : k < l.length) (h : 0 ≤ c.getD k 0) : (cpN l c k).set k ⟨(arc l k).f, (arc l k).t, min (arc l k).m (c.getD k 0), (arc l k).g⟩ = cpN l c (k + 1) := fa_ext (by rw [List.length_set, cpN_length, cpN_length]) fun i hi => by
  rw [List.length_set, cpN_length] at hi
  rw [arc_set (by rw [cpN_length]; exact hk), cpN_arc (k := k + 1) hi]
  by_cases e : k = i
  · subst e; rw [if_pos rfl, if_pos ⟨by omega, h⟩]
  · rw [if_neg e, cpN_arc hi]
    congr 1
    by_cases e2 : 0 ≤ c.getD i 0
    · by_cases e3 : i < k
      · rw [if_pos ⟨e3, e2⟩, if_pos ⟨by omega, e2⟩]
      · rw [if_neg (by omega), if_neg (by omega)]
    · rw [if_neg (fun q => e2 q.2), if_neg (fun q => e2 q.2)]
def fxL (v : Nat → Int) (w nl W x : Nat) : List Int := (List.range W).map fun y => if y < x ∧ y % w < nl then v y else -1
theorem fxL_length {v : Nat → Int} {w nl W x : Nat} : (fxL v w nl W x).length = W := by simp [fxL]
theorem fxL_get {v : Nat → Int} {w nl W x y : Nat} (hy : y < W) : (fxL v w nl W x).getD y 0 = if y < x ∧ y % w < nl then v y else -1 := by
  simp [fxL, List.getD, hy]
theorem fxL_zero {v : Nat → Int} {w nl W : Nat} : fxL v w nl W 0 = List.replicate W (-1) := by
  refine List.ext_getElem (by simp [fxL]) fun i h1 h2 => ?_
  simp [fxL]
theorem fxL_skip {v : Nat → Int} {w nl W x : Nat} (h : ¬ x % w < nl) : fxL v w nl W (x + 1) = fxL v w nl W x := by
  refine List.ext_getElem (by simp [fxL]) fun i h1 h2 => ?_
  simp only [fxL, List.getElem_map, List.getElem_range]
  by_cases e : i = x
  · subst e; rw [if_neg (fun q => h q.2), if_neg (fun q => h q.2)]
  · by_cases e2 : i % w < nl
    · by_cases e3 : i < x
      · rw [if_pos ⟨by omega, e2⟩, if_pos ⟨e3, e2⟩]
      · rw [if_neg (by omega), if_neg (by omega)]
    · rw [if_neg (fun q => e2 q.2), if_neg (fun q => e2 q.2)]
theorem fxL_set {v : Nat → Int} {w nl W x : Nat} (h : x % w < nl) : (fxL v w nl W x).set x (v x) = fxL v w nl W (x + 1) := by
  refine List.ext_getElem (by simp [fxL]) fun i h1 h2 => ?_
  simp only [fxL, List.getElem_set, List.getElem_map, List.getElem_range]
  by_cases e : x = i
  · subst e; rw [if_pos rfl, if_pos ⟨by omega, h⟩]
  · rw [if_neg e]
    by_cases e2 : i % w < nl
    · by_cases e3 : i < x
      · rw [if_pos ⟨e3, e2⟩, if_pos ⟨by omega, e2⟩]
      · rw [if_neg (by omega), if_neg (by omega)]
    · rw [if_neg (fun q => e2 q.2), if_neg (fun q => e2 q.2)]
def ldF (v : Nat → Int) (w nl : Nat) (x : Nat) : List Int := ((List.range x).filter fun y => decide (y % w < nl)).map v
theorem ldF_skip {v : Nat → Int} {w nl x : Nat} (h : ¬ x % w < nl) : ldF v w nl (x + 1) = ldF v w nl x := by
  simp [ldF, List.range_succ, h]
theorem ldF_succ {v : Nat → Int} {w nl x : Nat} (h : x % w < nl) : ldF v w nl (x + 1) = ldF v w nl x ++ [v x] := by
  simp [ldF, List.range_succ, h]
theorem ldF_le {v : Nat → Int} {w nl x : Nat} : (ldF v w nl x).length ≤ x := by
  have := List.length_filter_le (fun y => decide (y % w < nl)) (List.range x)
  simpa [ldF] using this
theorem ldF_add {v : Nat → Int} {w nl d : Nat} (hw : nl ≤ w) : ∀ k, k ≤ w → ldF v w nl (d * w + k) = ldF v w nl (d * w) ++ (List.range (min k nl)).map fun j => v (d * w + j)
  | 0, _ => by simp
  | k + 1, hk => by
    have h1 := (dm (w := w) (d := d) (k := k) (by omega)).2
    have ih := ldF_add (v := v) (d := d) hw k (by omega)
    rw [← Nat.add_assoc]
    by_cases h : k < nl
    · rw [ldF_succ (by rw [h1]; exact h), ih, Nat.min_eq_left (by omega), Nat.min_eq_left (by omega), List.range_succ, List.map_append, List.append_assoc]; rfl
    · rw [ldF_skip (by rw [h1]; exact h), ih, Nat.min_eq_right (by omega), Nat.min_eq_right (by omega)]
theorem ldF_all {u v : Nat → Int} {nl dep : Nat} : ∀ D, (∀ d k, d < D → k < nl → v (d * (nl + dep) + k) = u (d * nl + k)) → ldF v (nl + dep) nl (D * (nl + dep)) = (List.range (D * nl)).map u
  | 0, _ => by simp [ldF]
  | D + 1, h => by
    rw [Nat.add_mul, Nat.one_mul, ldF_add (by omega) (nl + dep) (Nat.le_refl _), ldF_all D (fun d k h1 h2 => h d k (by omega) h2), Nat.min_eq_right (by omega), Nat.add_mul, Nat.one_mul, List.range_add, List.map_append, List.map_map]
    congr 1
    refine List.map_congr_left fun k hk => ?_
    exact h D k (by omega) (by simpa using hk)
def dpV (lim' : Int) (L : Lanes) (F T D : Nat) (i : Nat) : Int := (arc (dpI (nN L D) (fE (iN L F T D) (nN L D) F (eN L T D) lim').1 (D * L.ls.length)) i).g
def dpG (lim' : Int) (L : Lanes) (F T D : Nat) (y : Nat) : Int := dpV lim' L F T D (tgL L D y)
theorem sN_len {L : Lanes} {F T D : Nat} : (sN L F T D).length = wN L D := S_len
theorem dp_bnd {lim lim' : Int} (m1 : 126000 < lim) (m2 : 126000 < lim') {L : Lanes} (h : lanesOk L = true) {F T D : Nat} (hF : F < L.d.toNat) (hT : T < L.d.toNat) (hFT : F ≠ T) (hD : D ≤ 6) {d k : Nat} (hd : d < D) (hk : k < L.ls.length) : 0 ≤ dpV lim' L F T D (d * L.ls.length + k) ∧ dpV lim' L F T D (d * L.ls.length + k) ≤ (L.ls.getD k ⟨0, 0, 0⟩).c := by
  have X := deliv (lim := lim) (lim' := lim') m1 m2 h hF hT hFT hD
  obtain ⟨q1, q2, k1, k2⟩ := p0_cut (D := D) h hF hT hFT hD
  obtain ⟨b1, b2, b3, b4, b5⟩ := fE_ok (lim := lim') X.nI X.fI X.s X.e X.ne q1 q2 k2 m2
  have lI : (iN L F T D).length = wN L D := I_len
  have l0 : (fE (iN L F T D) (nN L D) F (eN L T D) lim').1.length = wN L D := (shp_len b2).trans lI
  have hkl : D * L.ls.length ≤ wN L D := by rw [wN, Nat.mul_add]; omega
  have inv := dpI_inv (net_shp b2 X.nI) X.s X.e X.ne b1 (D * L.ls.length) (by omega)
  have shst := inv.sh.trans b2
  have hlt := blk_lt hk hd
  have h1 := inv.fl.bnd _ (arc_mem (l := dpI (nN L D) (fE (iN L F T D) (nN L D) F (eN L T D) lim').1 (D * L.ls.length)) (i := d * L.ls.length + k) (by rw [shp_len shst]; omega))
  have h2 := (shp_arc shst (d * L.ls.length + k)).2.2
  have h3 : (arc (iN L F T D) (d * L.ls.length + k)).m = (L.ls.getD k ⟨0, 0, 0⟩).c := congrArg Fa.m (I_l (L := L) (F := F) (T := T) (B := 1000000000) hd hk)
  rw [h2, h3] at h1
  exact h1
section
variable {C : CT} (hC : Closed Try.prog G0 md0 C)
include hC
theorem t57 {lim : Int} (r1 : 10000000 = lim) (L : Lanes) (F T D : Nat) (c : List Int) (h : lanesOk L = true) (hF : F < L.d.toNat) (hT : T < L.d.toNat) (hFT : F ≠ T) (hD : D ≤ 6) (hc : c.length = wN L D)
    (hp : Flow (nN L D) F (eN L T D) (cpN (sN L F T D) c (wN L D)) 0 ∧ NetOk (nN L D) (cpN (sN L F T D) c (wN L D)) ∧ (fE (cpN (sN L F T D) c (wN L D)) (nN L D) F (eN L T D) lim).2 < lim) :
    Ev C 57 [L.av, .int .i64 F, .int .i64 T, .int .i64 D, .sl (ints c)] (.int .i64 (fE (cpN (sN L F T D) c (wN L D)) (nN L D) F (eN L T D) lim).2) := by
  have hL := lanesOk_LOk h
  have hd := hL.d
  have hm := mul_ok (d := (D : Int)) ⟨by omega, by omega⟩ hd
  have x := deliv (lim := lim) (lim' := lim) (by omega) (by omega) h hF hT hFT hD
  have c1 := t54 hC L F T D hD hL
  rw [x.aS, nN_int hL] at c1
  have he := x.e
  have hn := x.n
  have hl := x.lS
  have lS : (sN L F T D).length = wN L D := sN_len
  have w1 : IntKind.i64.wrap ((D : Int) * L.d) = (D : Int) * L.d := wrap64 (by omega) (by omega)
  have w2 : IntKind.i64.wrap ((D : Int) * L.d + T) = ((eN L T D : Nat) : Int) := by rw [eN_int hL]; exact wrap64 (by omega) (by omega)
  have cm : ∀ a ∈ cpN (sN L F T D) c (wN L D), a.m < 2^32 := fun a ha => by
    obtain ⟨y, hy, rfl⟩ := arc_of ha
    rw [cpN_length] at hy
    have := x.mS _ (arc_mem hy)
    rw [cpN_arc hy]
    simp only
    split <;> omega
  have c2 := t55 hC L (cpN (sN L F T D) c (wN L D)) (nN L D) F (eN L T D) lim hp.2.1 hp.1 x.s x.e x.ne (by omega) (by rw [cpN_length]; omega) cm ⟨by omega, by omega⟩ hp.2.2
  generalize (fE (cpN (sN L F T D) c (wN L D)) (nN L D) F (eN L T D) lim) = g at *
  generalize sN L F T D = l at *
  obtain ⟨W, hW⟩ : ∃ W, wN L D = W := ⟨_, rfl⟩
  rw [hW] at hc c2 cm lS
  rw [cpN_length] at c2
  simp only [Lanes.av] at *
  refine rT hC Q57 ?_
  simp only [c57, push_cast, ↓J1, ↓J2, N1, N2, N3, reduceCtorEq, N4, N5, N6, reduceIte, N7, I1, I2, I3]
  refine ⟨_, c1, ?_⟩
  simp only [fa4_length, ints_length, hc, push_cast, ↓J1, ↓J2, N1, N2, N3, reduceCtorEq, N4, N5, N6, reduceIte, N7, I1, I2, I3]
  refine RL_count (fun k => ⟨tb 55 .any [(1, .int .i64 (F : Int)), (2, .int .i64 (T : Int)), (3, .int .i64 (D : Int)), (5, .ptr 0 none 0 0 0), (11, .ptr 2 none 0 0 0), (19, .sl (ints c)), (20, .int .i64 (W : Int)), (21, .int .i64 (k : Int))], [(2, .var [.ref 1 none 4 0 l.length, .int .i64 (nN L D)]), (1, .slice 4 (fa4 (cpN l c k))), (0, .var [.int .i64 L.d, .sl (lns L.ls), .sl (ints L.st)])], 3⟩) (fun _ => True) (W) 0 (by rw [cpN_zero]; exact (hdA [(2, 2), (1, 1), (0, 0)])) (by omega) trivial fun k hk _ J hJ => ?_
  by_cases h3 : k < W
  rotate_left
  · obtain rfl : k = W := by omega
    have hlt : decide ((k : Int) < (k : Int)) = false := decide_eq_false (by omega)
    simp only [hlt, w1, w2, r1, push_cast, ↓J1, ↓J2, N1, N2, N3, reduceCtorEq, N4, N5, N6, reduceIte, N7, I1, I2, I3]
    refine ⟨_, c2, ?_⟩
    rintro v h' n' ⟨rfl, rfl, rfl⟩ _
    simp only [push_cast, ↓J1, ↓J2, N1, N2, N3, reduceCtorEq, N4, N5, N6, reduceIte, N7, I1, I2, I3]
  have hK := hJ h3 trivial
  clear hJ
  have hlt : decide ((k : Int) < ((W : Nat) : Int)) = true := decide_eq_true (by omega)
  have e1 : (ints c)[k]? = some [.int .i64 (c.getD k 0)] := cut_ints_get (by omega)
  have w3 : IntKind.i64.wrap ((k : Int) + 1) = (k : Int) + 1 := wrap64 (by omega) (by omega)
  simp only [hlt, Int.toNat_natCast, e1, w3, push_cast, ↓J1, ↓J2, N1, N2, N3, reduceCtorEq, N4, N5, N6, reduceIte, N7, I1, I2, I3]
  repeat (refine ⟨by omega, ?_⟩)
  cases g2 : decide (0 ≤ c.getD k 0)
  · have g3 := of_decide_eq_false g2
    rw [cpN_skip g3] at hK
    simp only [g2, push_cast, ↓J1, ↓J2, N1, N2, N3, reduceCtorEq, N4, N5, N6, reduceIte, N7, I1, I2, I3]
    exact hK _ (hdA [(2, 2), (1, 1), (0, 0)])
  · have g3 := of_decide_eq_true g2
    rw [← cpN_set (by omega) g3] at hK
    have ea : arc (cpN l c k) k = arc l k := by rw [cpN_arc (by omega), if_neg (by omega)]
    have e3 := fa4_get (l := cpN l c k) (i := k) (by rw [cpN_length]; omega)
    rw [ea] at e3
    have s1 := fa4_set (l := cpN l c k) (i := k) (a := ⟨(arc l k).f, (arc l k).t, min (arc l k).m (c.getD k 0), (arc l k).g⟩) rfl
    have c3 := t62 hC (arc l k).m (c.getD k 0)
    simp only [g2, Int.toNat_natCast, e3, fa4_length, cpN_length, push_cast, ↓J1, ↓J2, N1, N2, N3, reduceCtorEq, N4, N5, N6, reduceIte, N7, I1, I2, I3]
    repeat (refine ⟨by omega, ?_⟩)
    refine ⟨_, c3, ?_⟩
    simp only [Int.toNat_natCast, e3, fa4_length, cpN_length, s1, push_cast, ↓J1, ↓J2, N1, N2, N3, reduceCtorEq, N4, N5, N6, reduceIte, N7, I1, I2, I3]
    repeat (refine ⟨by omega, ?_⟩)
    exact hK _ (hdA [(2, 2), (1, 1), (0, 0)])
end
end Go.Proofs.Ytiemjnkblggimaa.X
set_option maxHeartbeats 4000000
set_option maxRecDepth 8000
set_option linter.unusedSimpArgs false
set_option linter.unusedSectionVars false
set_option linter.unusedVariables false
open Nat renaming reduceBEq → N1, reduceAdd → N2, reduceSub → N3, reduceMul → N4, reduceEqDiff → N5, reduceLeDiff → N6, reduceLT → N7
open Int renaming reduceLE → I1, reduceLT → I2, reduceToNat → I3
namespace Go.Proofs.Ytiemjnkblggimaa.X
open Go
attribute [local irreducible] Ev fE
theorem pl {lim lim' : Int} (m1 : 126000 < lim) (m2 : 126000 < lim') {L : Lanes} (h : lanesOk L = true) {F T D : Nat} (hF : F < L.d.toNat) (hT : T < L.d.toNat) (hFT : F ≠ T) (hD : D ≤ 6) {w W x : Nat} (hw : L.ls.length + L.st.length = w) (hW : D * w = W) (hx : x < W) (hk : x % w < L.ls.length) {M : Int} (hM : 0 ≤ M) (c : List Int) (hc : c = (fxL (dpG lim' L F T D) w L.ls.length W x).set x M) :
    (Flow (nN L D) F (eN L T D) (cpN (sN L F T D) c (wN L D)) 0 ∧ NetOk (nN L D) (cpN (sN L F T D) c (wN L D)) ∧ (fE (cpN (sN L F T D) c (wN L D)) (nN L D) F (eN L T D) lim).2 < lim) ∧
    decide (gvL lim L F T D ≤ (fE (cpN (sN L F T D) c (wN L D)) (nN L D) F (eN L T D) lim).2) = decide (dpG lim' L F T D x ≤ M) := by
  subst hw hW
  have hlen : (fxL (dpG lim' L F T D) (L.ls.length + L.st.length) L.ls.length (wN L D) x).length = wN L D := fxL_length
  have hg : ∀ y, c.getD y 0 = if x = y then M else (fxL (dpG lim' L F T D) (L.ls.length + L.st.length) L.ls.length (wN L D) x).getD y 0 := fun y => by
    rw [hc, mgetD_set _ _ _ _ _ (by rw [hlen]; exact hx)]
  refine plan_least (k := 0) m1 m2 h hF hT hFT hD hx hk c hM (fun y hy hl => ?_) ?_ (fun y hy hne hn => ?_)
  · rw [hg, if_neg (by omega), fxL_get (Nat.lt_trans hy hx), if_pos ⟨hy, hl⟩]; rfl
  · rw [hg, if_pos rfl]
  · rw [hg, if_neg (by omega), fxL_get hy, if_neg hn]
theorem ints_snD {l : List Int} {x : Int} : ints l ++ [[.int .i64 x]] = ints (l ++ [x]) := by simp [ints]
theorem fxL_self {v : Nat → Int} {w nl W x : Nat} (hx : x < W) : (fxL v w nl W x).set x (-1) = fxL v w nl W x := by
  refine List.ext_getElem (by simp) fun i h1 h2 => ?_
  simp only [fxL, List.getElem_set, List.getElem_map, List.getElem_range]
  split
  · rename_i e; subst e; rw [if_neg (by omega)]
  · rfl
section
variable {C : CT} (hC : Closed Try.prog G0 md0 C)
include hC
theorem t40 {lim lim' : Int} (r1 : 10000000 = lim) (m2 : 126000 < lim') (L : Lanes) (F T D : Nat) (h : lanesOk L = true) (hF : F < L.d.toNat) (hT : T < L.d.toNat) (hFT : F ≠ T) (hD : D ≤ 6) : Ev C 40 [L.av, .int .i64 F, .int .i64 T, .int .i64 D] (.ow 1 (ints ((List.range (D * L.ls.length)).map (dpV lim' L F T D)))) := by
  have hL := lanesOk_LOk h
  have hd := hL.d
  have hn := hL.n
  have hst := hL.s
  obtain ⟨w, hw⟩ : ∃ w, L.ls.length + L.st.length = w := ⟨_, rfl⟩
  obtain ⟨W, hW⟩ : ∃ W, D * w = W := ⟨_, rfl⟩
  have hw21 : w ≤ 21 := by omega
  have hw0 : 0 < w := by omega
  have hW126 : W ≤ 126 := by rw [← hW]; exact Nat.mul_le_mul hD hw21
  have hwd : (L.ls.length : Int) + L.d = (w : Int) := by omega
  have wr1 : IntKind.i64.wrap ((L.ls.length : Int) + L.d) = (w : Int) := by rw [hwd]; exact wrap64 (by omega) (by omega)
  have wr2 : IntKind.i64.wrap ((D : Int) * (w : Int)) = (W : Int) := by rw [← hW, Int.natCast_mul]; exact wrap64 (by rw [← Int.natCast_mul, hW]; omega) (by rw [← Int.natCast_mul, hW]; omega)
  have c1 := t37 hC r1 L F T D h hF hT hFT hD
  have cp := fun c hc hp => t57 hC r1 L F T D c h hF hT hFT hD hc hp
  have hfin : ldF (dpG lim' L F T D) w L.ls.length W = (List.range (D * L.ls.length)).map (dpV lim' L F T D) := by
    rw [← hW, ← hw]
    exact ldF_all (u := dpV lim' L F T D) D fun d k h1 h2 => by rw [dpG, show tgL L D (d * (L.ls.length + L.st.length) + k) = d * L.ls.length + k from tg_l h2]
  rw [← hfin]
  have hpl := fun {x : Nat} (hx : x < W) (hk : x % w < L.ls.length) {M : Int} (hM : 0 ≤ M) => pl (lim := lim) (lim' := lim') (by omega) m2 h hF hT hFT hD hw hW hx hk hM _ rfl
  have hvb : ∀ x, x < W → x % w < L.ls.length → 0 ≤ dpG lim' L F T D x ∧ dpG lim' L F T D x ≤ (L.ls.getD (x % w) ⟨0, 0, 0⟩).c ∧ (L.ls.getD (x % w) ⟨0, 0, 0⟩).c ≤ 1000 := fun x hx hk => by
    have hx2 := hx
    rw [← hW, ← hw] at hx2
    obtain ⟨d, hd', ⟨k, hk', e⟩ | ⟨k, hk', e⟩⟩ := xcase hx2
    · have e2 : x % w = k := by rw [e, ← hw]; exact (dm (by omega)).2
      have := dp_bnd (lim := lim) (lim' := lim') (by omega) m2 h hF hT hFT hD hd' hk'
      have hmem := hL.ls _ (List.getElem_mem hk')
      have e3 : L.ls.getD k ⟨0, 0, 0⟩ = L.ls[k] := by simp [List.getD, hk']
      rw [dpG, e, show tgL L D (d * (L.ls.length + L.st.length) + k) = d * L.ls.length + k from tg_l hk', ← e, e2]
      refine ⟨this.1, this.2, ?_⟩
      rw [e3]; omega
    · exfalso
      have e2 : x % w = L.ls.length + k := by rw [e, ← hw]; exact (dm (by omega)).2
      omega
  have hcW : ∀ c : List Int, c.length = W → c.length = wN L D := fun c hc => by rw [hc, ← hW, ← hw]
  generalize gvL lim L F T D = want at *
  clear hfin
  have hvg : ∀ x, dpG lim' L F T D x = dpG lim' L F T D x := fun _ => rfl
  generalize dpG lim' L F T D = v at *
  simp only [Lanes.av] at *
  refine rT hC Q40 ?_ (own_ints _)
  simp only [c40, push_cast, ↓J1, ↓J2, N1, N2, N3, reduceCtorEq, N4, N5, N6, reduceIte, N7, I1, I2, I3]
  refine ⟨_, c1, ?_⟩
  simp only [lns_length, wr1, wr2, Int.toNat_natCast, mints_rep, ints_length, List.length_replicate, push_cast, ↓J1, ↓J2, N1, N2, N3, reduceCtorEq, N4, N5, N6, reduceIte, N7, I1, I2, I3]
  repeat (refine ⟨by omega, ?_⟩)
  rw [← rpT_0]
  refine RL_count (fun k => ⟨tb 103 .any [(1, .int .i64 (F : Int)), (2, .int .i64 (T : Int)), (3, .int .i64 (D : Int)), (4, .ptr 0 none 0 0 0), (9, .int .i64 want), (10, .int .i64 (W : Int)), (11, .ref 1 none 1 0 W), (12, .nil), (34, .int .i64 (W : Int)), (35, .int .i64 (k : Int))], [(1, .slice 1 (ints (rpT k W))), (0, .var [.int .i64 L.d, .sl (lns L.ls), .sl (ints L.st)])], 2⟩) (fun _ => True) W 0 (hdA [(1, 1), (0, 0)]) (by omega) trivial fun k hk _ J hJ => ?_
  by_cases h3 : k < W
  · have hlt : decide ((k : Int) < ((W : Nat) : Int)) = true := decide_eq_true (by omega)
    have e1 : ∃ z, (ints (rpT k W))[k]? = some [.int .i64 z] := ⟨_, cut_ints_get (by rw [rpT_len hk]; exact h3)⟩
    obtain ⟨z, e1⟩ := e1
    have w3 : IntKind.i64.wrap ((k : Int) + 1) = (k : Int) + 1 := wrap64 (by omega) (by omega)
    simp only [hlt, Int.toNat_natCast, e1, w3, mints_set, rpT_set h3, push_cast, ↓J1, ↓J2, N1, N2, N3, reduceCtorEq, N4, N5, N6, reduceIte, N7, I1, I2, I3]
    repeat (refine ⟨by omega, ?_⟩)
    exact hJ h3 trivial _ (hdA [(1, 1), (0, 0)])
  obtain rfl : k = W := by omega
  clear hJ h3
  have hlt : decide ((k : Int) < (k : Int)) = false := decide_eq_false (by omega)
  rw [rpT_n, ← fxL_zero (v := v) (w := w) (nl := L.ls.length)]
  simp only [hlt, push_cast, ↓J1, ↓J2, N1, N2, N3, reduceCtorEq, N4, N5, N6, reduceIte, N7, I1, I2, I3]
  clear hlt
  have fxl : ∀ x, (fxL v w L.ls.length k x).length = k := fun x => fxL_length
  refine RL_count (fun x => ⟨tb 103 .any [(12, .ref 2 none 1 0 (ldF v w L.ls.length x).length), (1, .int .i64 (F : Int)), (2, .int .i64 (T : Int)), (3, .int .i64 (D : Int)), (4, .ptr 0 none 0 0 0), (9, .int .i64 want), (10, .int .i64 (k : Int)), (11, .ref 1 none 1 0 k), (14, .int .i64 (x : Int))], [(2, .slice 1 (ints (ldF v w L.ls.length x))), (1, .slice 1 (ints (fxL v w L.ls.length k x))), (0, .var [.int .i64 L.d, .sl (lns L.ls), .sl (ints L.st)])], 3⟩) (fun _ => True) k 0 (hdO 12 2 1 [(1, 1), (0, 0)]) (by omega) trivial fun x hx _ J hJ => ?_
  have hle := ldF_le (v := v) (w := w) (nl := L.ls.length) (x := x)
  have tkl : List.take (ldF v w L.ls.length x).length (ints (ldF v w L.ls.length x)) = ints (ldF v w L.ls.length x) := List.take_of_length_le (by rw [ints_length]; omega)
  by_cases h3 : x < k
  rotate_left
  · obtain rfl : x = k := by omega
    have hlt : decide ((x : Int) < (x : Int)) = false := decide_eq_false (by omega)
    simp only [hlt, push_cast, ↓J1, ↓J2, N1, N2, N3, reduceCtorEq, N4, N5, N6, reduceIte, N7, I1, I2, I3]
    exact RetTo_ow rfl (by rw [ints_length])
  have hlt : decide ((x : Int) < (k : Int)) = true := decide_eq_true (by omega)
  have hK := hJ h3 trivial
  clear hJ
  have ec : ((x % w : Nat) : Int) = (x : Int) % (w : Int) := Int.natCast_emod x w
  have et : Int.tmod (x : Int) (w : Int) = (x : Int) % (w : Int) := (Int.ofNat_tmod x w).symm.trans ec
  have en : ((x : Int) % (w : Int)).toNat = x % w := by rw [← ec]; rfl
  have hml := Nat.mod_lt x hw0
  have w3 : IntKind.i64.wrap ((x : Int) + 1) = (x : Int) + 1 := wrap64 (by omega) (by omega)
  have hwz : ¬ (w : Int) = 0 := by omega
  simp only [hlt, lns_length, wr1, et, w3, ne_eq, hwz, not_false_eq_true, true_and, push_cast, ↓J1, ↓J2, N1, N2, N3, reduceCtorEq, N4, N5, N6, reduceIte, N7, I1, I2, I3]
  by_cases hl : x % w < L.ls.length
  rotate_left
  · have hg : decide ((L.ls.length : Int) ≤ (x : Int) % (w : Int)) = true := decide_eq_true (by rw [← ec]; omega)
    rw [ldF_skip hl, fxL_skip hl] at hK
    simp only [hg, w3, push_cast, ↓J1, ↓J2, N1, N2, N3, reduceCtorEq, N4, N5, N6, reduceIte, N7, I1, I2, I3]
    exact hK _ (hdA [(2, 2), (1, 1), (0, 0)])
  have hg : decide ((L.ls.length : Int) ≤ (x : Int) % (w : Int)) = false := decide_eq_false (by rw [← ec]; omega)
  have e1 : (lns L.ls)[x % w]? = some [.int .i64 (L.ls.getD (x % w) ⟨0, 0, 0⟩).a, .int .i64 (L.ls.getD (x % w) ⟨0, 0, 0⟩).b, .int .i64 (L.ls.getD (x % w) ⟨0, 0, 0⟩).c] := by simp [lns, lnA, hl, List.getD]
  have hb := hvb x h3 hl
  rw [ldF_succ hl, List.length_append, List.length_singleton] at hK
  have hfs := fxL_set (v := v) (W := k) hl
  simp only [hg, lns_length, wr1, et, en, w3, ne_eq, hwz, not_false_eq_true, true_and, Int.toNat_natCast, e1, push_cast, ↓J1, ↓J2, N1, N2, N3, reduceCtorEq, N4, N5, N6, reduceIte, N7, I1, I2, I3]
  refine ⟨by rw [← ec]; omega, ?_⟩
  generalize (L.ls.getD (x % w) ⟨0, 0, 0⟩).c = load at *
  obtain ⟨ld, rfl⟩ : ∃ n : Nat, load = n := ⟨load.toNat, by omega⟩
  obtain ⟨vx, hvx⟩ : ∃ n : Nat, v x = n := ⟨(v x).toNat, by omega⟩
  rw [hvx] at hb hfs hK
  have hpl := fun {M : Int} (hM : 0 ≤ M) => hpl h3 hl hM
  rw [hvx] at hpl
  clear e1 hg hvb
  refine RL_ind (fun j s' => ∃ (a b : Nat) (z : Int), a ≤ vx ∧ vx ≤ b ∧ b ≤ 1000 ∧ b - a = j ∧ s' = ⟨tb 103 .any [(12, .ref 2 none 1 0 (ldF v w L.ls.length x).length), (1, .int .i64 (F : Int)), (2, .int .i64 (T : Int)), (3, .int .i64 (D : Int)), (4, .ptr 0 none 0 0 0), (9, .int .i64 want), (10, .int .i64 (k : Int)), (11, .ref 1 none 1 0 k), (14, .int .i64 (x : Int)), (15, .int .i64 (a : Int)), (16, .int .i64 (b : Int))], [(2, .slice 1 (ints (ldF v w L.ls.length x))), (1, .slice 1 (ints ((fxL v w L.ls.length k x).set x z))), (0, .var [.int .i64 L.d, .sl (lns L.ls), .sl (ints L.st)])], 3⟩) ld ⟨tb 103 .any [(12, .ref 2 none 1 0 (ldF v w L.ls.length x).length), (1, .int .i64 (F : Int)), (2, .int .i64 (T : Int)), (3, .int .i64 (D : Int)), (4, .ptr 0 none 0 0 0), (9, .int .i64 want), (10, .int .i64 (k : Int)), (11, .ref 1 none 1 0 k), (14, .int .i64 (x : Int)), (15, .int .i64 ((0 : Nat) : Int)), (16, .int .i64 (ld : Int))], [(2, .slice 1 (ints (ldF v w L.ls.length x))), (1, .slice 1 (ints (fxL v w L.ls.length k x))), (0, .var [.int .i64 L.d, .sl (lns L.ls), .sl (ints L.st)])], 3⟩ (hdA [(2, 2), (1, 1), (0, 0)]) ⟨0, ld, -1, by omega, by omega, by omega, by omega, by rw [fxL_self h3]⟩ ?_
  rintro j _ ⟨a, b, z, b1, b2, b3, hj, rfl⟩ J hJ
  have hsl : ((fxL v w L.ls.length k x).set x z).length = k := by rw [List.length_set, fxL_length]
  have e1 : ∃ u, (ints ((fxL v w L.ls.length k x).set x z))[x]? = some [.int .i64 u] := ⟨_, cut_ints_get (by omega)⟩
  obtain ⟨u, e1⟩ := e1
  by_cases hab : a < b
  · have hlt2 : decide ((a : Int) < (b : Int)) = true := decide_eq_true (by omega)
    have wm1 : IntKind.i64.wrap ((a : Int) + (b : Int)) = (a : Int) + (b : Int) := wrap64 (by omega) (by omega)
    have em : Int.tdiv ((a : Int) + (b : Int)) 2 = (((a + b) / 2 : Nat) : Int) := rfl
    obtain ⟨mid, hmid⟩ : ∃ mid, (a + b) / 2 = mid := ⟨_, rfl⟩
    rw [hmid] at em
    have wm2 : IntKind.i64.wrap (mid : Int) = (mid : Int) := wrap64 (by omega) (by omega)
    have wm3 : IntKind.i64.wrap ((mid : Int) + 1) = (mid : Int) + 1 := wrap64 (by omega) (by omega)
    have tks : List.take k (ints ((fxL v w L.ls.length k x).set x (mid : Int))) = ints ((fxL v w L.ls.length k x).set x (mid : Int)) := List.take_of_length_le (by rw [ints_length, List.length_set, fxL_length]; omega)
    obtain ⟨p1, p2⟩ := hpl (M := (mid : Int)) (by omega)
    have c5 := cp _ (hcW _ (by rw [List.length_set, fxL_length])) p1
    simp only [hlt2, wm1, em, wm2, Int.toNat_natCast, e1, mints_set, List.set_set, ints_length, hsl, push_cast, ↓J1, ↓J2, N1, N2, N3, reduceCtorEq, N4, N5, N6, reduceIte, N7, I1, I2, I3]
    repeat (refine ⟨by omega, ?_⟩)
    simp only [tks, frzLL_ints, push_cast, ↓J1, ↓J2, N1, N2, N3, reduceCtorEq, N4, N5, N6, reduceIte, N7, I1, I2, I3]
    refine ⟨_, c5, ?_⟩
    simp only [p2, push_cast, ↓J1, ↓J2, N1, N2, N3, reduceCtorEq, N4, N5, N6, reduceIte, N7, I1, I2, I3]
    refine ifB_intro (fun hc => ?_) (fun hc => ?_)
    · have hc := of_decide_eq_true hc
      exact hJ (mid - a) _ _ (by omega) ⟨a, mid, (mid : Int), by omega, by omega, by omega, rfl, rfl⟩ (hdA [(2, 2), (1, 1), (0, 0)])
    · have hc := of_decide_eq_false hc
      exact hJ (b - (mid + 1)) _ _ (by omega) ⟨mid + 1, b, (mid : Int), by omega, by omega, by omega, rfl, rfl⟩ (hdA [(2, 2), (1, 1), (0, 0)])
  · obtain rfl : a = b := by omega
    obtain rfl : a = vx := by omega
    have hlt2 : decide ((a : Int) < (a : Int)) = false := decide_eq_false (by omega)
    simp only [hlt2, w3, Int.toNat_natCast, e1, mints_set, List.set_set, hfs, tkl, ints_length, allScs, apYR_sc, push_cast, ↓J1, ↓J2, N1, N2, N3, reduceCtorEq, N4, N5, N6, reduceIte, N7, I1, I2, I3]
    repeat (refine ⟨by omega, ?_⟩)
    refine hK _ (hdA [(4, 2), (1, 1), (0, 0)] (hh := ?_))
    simp only [canR, canB, renO, renL, ren, lkp, hget, N7, N5, Nat.not_lt_zero, if_false, if_true, reduceIte, List.append_nil, List.nil_append, ints_snD]
    all_goals rfl
end
end Go.Proofs.Ytiemjnkblggimaa.X
set_option maxHeartbeats 4000000
set_option maxRecDepth 8000
set_option linter.unusedSimpArgs false
set_option linter.unusedSectionVars false
set_option linter.unusedVariables false
open Nat renaming reduceBEq → N1, reduceAdd → N2, reduceSub → N3, reduceMul → N4, reduceEqDiff → N5, reduceLeDiff → N6, reduceLT → N7
open Int renaming reduceLE → I1, reduceLT → I2, reduceToNat → I3
namespace Go.Proofs.Ytiemjnkblggimaa.X
open Go
attribute [local irreducible] Ev
theorem rdB {n s e : Nat} {l : List Fa} {r0 : Int} (hN : NetOk n l) (hb : ∀ a ∈ l, 0 ≤ a.g ∧ a.g ≤ a.m) (hs : s < n) (he : e < n) (hse : s ≠ e) (hsn : seen l n s e = true) (h0 : 1 ≤ r0) : Rd l n s e r0 := by
  have hp := (mfP_inv hN hs (mfN l n s)).1
  obtain ⟨xe, hxe, hxq⟩ := List.getElem_of_mem ((seen_q hN hs he).1 hsn)
  have hxe' : xe < (mfP l n s (mfN l n s)).2.length := hxe
  have hxq' : (mfP l n s (mfN l n s)).2.getD xe 0 = e := by simp only [List.getD, List.getElem?_eq_getElem hxe', Option.getD_some]; exact hxq
  have hend := pwK_end hN hp hxe' hxq'
  have hlt := fun k (hk : k < pwK l (mfB l n s) n s e) => pwK_lt hk
  have harc := fun k (hk : k < pwK l (mfB l n s) n s e) => pw_arc hN hp hxe' hxq' k fun j hj => hlt j (by omega)
  have hroom : ∀ j, j < pwK l (mfB l n s) n s e → 1 ≤ roomA (arc l (byAr (mfB l n s) (pw l (mfB l n s) s e j))) (pw l (mfB l n s) s e j) := fun j hj => by
    have := harc j hj
    exact res_room (hN.rng _ (arc_mem this.1)).2.2 this.2.1
  have hr1 : 1 ≤ fRm l n s e r0 := rmI_ge _ _ _ _ _ h0 _ hroom
  have hr2 : fRm l n s e r0 ≤ r0 := rmI_le0 _ _ _ _ _ _
  refine ⟨hend, fun k hk => ?_, ⟨hr1, hr2⟩, fun k hk => ?_, hp.len, fun k hk => ⟨rmI_ge _ _ _ _ _ h0 _ fun j hj => hroom j (by omega), rmI_le0 _ _ _ _ _ _⟩⟩
  · have := harc k hk
    refine ⟨hlt k hk, this.1, this.2.2.1, this.2.2.2, this.2.1, ?_⟩
    rw [pw, if_neg (hlt k hk)]
  · obtain ⟨u1, u2, _⟩ := upI_inv (r := fRm l n s e r0) hN hp hb (by omega) hxe' hxq' k (fun j hj => hlt j (by omega)) fun j hj => rmI_le _ _ _ _ _ _ j (by omega)
    exact ⟨u1, u2⟩
def fq (kz : Nat) (lz l : List Fa) : List (List AV) := (List.range l.length).map fun j => if j < kz then [.int .i64 (arc lz j).f, .int .i64 (arc lz j).t, .int .i64 (arc lz j).m, .int .i64 (arc lz j).g, .bool true] else [.int .i64 (arc l j).f, .int .i64 (arc l j).t, .int .i64 (arc l j).m, .int .i64 (arc l j).g, .bool false]
theorem fq_length {kz : Nat} {lz l : List Fa} : (fq kz lz l).length = l.length := by simp [fq]
theorem fq_get {kz : Nat} {lz l : List Fa} {i : Nat} (h : i < l.length) (hk : ¬ i < kz) : (fq kz lz l)[i]? = some [.int .i64 (arc l i).f, .int .i64 (arc l i).t, .int .i64 (arc l i).m, .int .i64 (arc l i).g, .bool false] := by
  simp [fq, h, hk]
theorem fq_get1 {kz : Nat} {lz l : List Fa} {i : Nat} (h : i < l.length) (hk : i < kz) : (fq kz lz l)[i]? = some [.int .i64 (arc lz i).f, .int .i64 (arc lz i).t, .int .i64 (arc lz i).m, .int .i64 (arc lz i).g, .bool true] := by
  simp [fq, h, hk]
theorem fq_set {kz : Nat} {lz l : List Fa} {i : Nat} {a : Fa} {x : List AV} (hk : ¬ i < kz) (h : x = [.int .i64 a.f, .int .i64 a.t, .int .i64 a.m, .int .i64 a.g, .bool false]) : (fq kz lz l).set i x = fq kz lz (l.set i a) := by
  refine List.ext_getElem (by simp [fq]) fun j h1 h2 => ?_
  have hj : j < l.length := by simpa [fq] using h1
  simp only [fq, List.getElem_set, List.getElem_map, List.getElem_range]
  by_cases e : i = j
  · subst e
    rw [if_pos rfl, if_neg hk, h, arc_set hj, if_pos rfl]
  · rw [if_neg e]
    by_cases hi : i < l.length
    · rw [arc_set hi, if_neg e]
    · rw [List.set_eq_of_length_le (by omega)]
theorem fq_take {kz : Nat} {lz l : List Fa} : (fq kz lz l).take l.length = fq kz lz l := List.take_of_length_le (by rw [fq_length]; omega)
theorem frz_fq (kz : Nat) (lz l : List Fa) : frzLL (fq kz lz l) = fq kz lz l := by
  unfold fq
  generalize List.range l.length = q
  induction q with
  | nil => rfl
  | cons x q ih =>
    simp only [List.map_cons, frzLL, ih]
    split <;> simp [frzL, frzT]
theorem mfS_zero {l : List Fa} {v i : Nat} {p : List Int × List Nat} (h : (arc l i).m = 0 ∧ (arc l i).g = 0) : mfS l v p i = p := by
  simp [mfS, mf1, mf2, h.1, h.2]
section
variable {C : CT} (hC : Closed Try.prog G0 md0 C)
include hC
theorem t58z (kz : Nat) (lz l : List Fa) (n s : Nat) (hZ : ∀ j, j < kz → (arc l j).m = 0 ∧ (arc l j).g = 0) (hN : NetOk n l) (hs : s < n) (hn : n ≤ 1000) (hl : l.length < 2^30) : Ev C 58 [.pf [.int .i64 n, .sl (fq kz lz l)], .int .i64 s] (.ow 3 (vis l (mfB l n s))) := by
  refine rT hC Q58 ?_ (by simp only [ownR, own_vis])
  simp only [c58, push_cast, ↓J1, ↓J2, N1, N2, N3, reduceCtorEq, N4, N5, N6, reduceIte, N7, I1, I2, I3]
  simp only [Int.toNat_natCast, List.length_replicate, push_cast, ↓J1, ↓J2, N1, N2, N3, reduceCtorEq, N4, N5, N6, reduceIte, N7, I1, I2, I3]
  repeat (refine ⟨by omega, ?_⟩)
  have hvs := vis_set (l := l) (o := List.replicate n (-1)) (v := s) (b := -2) (x := [.int .i64 (-1), .bool false, .bool true]) (by simpa using hs) rfl
  have e0 := vis_get (l := l) (o := List.replicate n (-1)) (v := s) (by simpa using hs)
  simp only [vis_rep (l := l), vis_length, Int.toNat_natCast, e0, hvs, List.length_replicate, push_cast, ↓J1, ↓J2, N1, N2, N3, reduceCtorEq, N4, N5, N6, reduceIte, N7, I1, I2, I3]
  repeat (refine ⟨by omega, ?_⟩)
  have hNN : mfN l n s ≤ n + 1 := mfN_le
  refine RL_count (fun a => ⟨tb 107 .any [(0, .pf [.int .i64 (n : Int), .sl (fq kz lz l)]), (5, .ref 0 none 3 0 n), (6, .ref 1 none 1 0 (mfP l n s a).2.length), (7, .int .i64 (a : Int))], [(1, .slice 1 (ints (ni (mfP l n s a).2))), (0, .slice 3 (vis l (mfP l n s a).1))], 2⟩) (fun _ => True) (mfN l n s) 0 (hdA [(1, 1), (0, 0)]) (by omega) trivial fun a ha _ J hJ => ?_
  have inv := (mfP_inv hN hs a).1
  by_cases h1 : a < mfN l n s
  rotate_left
  · obtain rfl : a = mfN l n s := by omega
    have hend := mfN_end hN hs
    have hlt : decide (((mfN l n s : Nat) : Int) < ((mfP l n s (mfN l n s)).2.length : Int)) = false := decide_eq_false (by omega)
    have i1 := inv.len
    simp only [hlt, push_cast, ↓J1, ↓J2, N1, N2, N3, reduceCtorEq, N4, N5, N6, reduceIte, N7, I1, I2, I3]
    exact RetTo_ow rfl (by rw [vis_length]; exact i1.symm)
  have hJ1 := hJ h1 trivial
  clear hJ
  have hal := mfN_lt h1
  rw [mfP_next hal] at hJ1
  have hv := getDn_mem hal
  have hlt : decide ((a : Int) < ((mfP l n s a).2.length : Int)) = true := decide_eq_true (by omega)
  generalize mfP l n s a = p at *
  have hqv : ∃ v, p.2.getD a 0 = v := ⟨_, rfl⟩
  obtain ⟨v, hqv⟩ := hqv
  rw [hqv] at hv hJ1
  have i0 := inv.cn
  simp only [hlt, fq_length, push_cast, ↓J1, ↓J2, N1, N2, N3, reduceCtorEq, N4, N5, N6, reduceIte, N7, I1, I2, I3]
  refine RL_count (fun j => ⟨tb 107 .any [(0, .pf [.int .i64 (n : Int), .sl (fq kz lz l)]), (5, .ref 0 none 3 0 n), (6, .ref 1 none 1 0 (mfR l v p j).2.length), (7, .int .i64 (a : Int)), (30, .sl (fq kz lz l)), (31, .int .i64 (l.length : Int)), (32, .int .i64 (j : Int))], [(1, .slice 1 (ints (ni (mfR l v p j).2))), (0, .slice 3 (vis l (mfR l v p j).1))], 2⟩) (fun _ => True) l.length 0 (hdA [(1, 1), (0, 0)]) (by omega) trivial fun j hj _ JJ hJ2 => ?_
  have inv2 := (mfR_inv hN inv hv j hj).1
  obtain ⟨tt, ht2⟩ := (mfR_inv hN inv hv j hj).2.1
  have hca : (mfR l v p j).2.getD a 0 = v := by rw [ht2, getDn_app hal]; exact hqv
  have hal2 : a < (mfR l v p j).2.length := by rw [ht2, List.length_append]; omega
  by_cases h2 : j < l.length
  rotate_left
  · obtain rfl : j = l.length := by omega
    have hd : decide ((l.length : Int) < (l.length : Int)) = false := decide_eq_false (by omega)
    simp only [hd, push_cast, ↓J1, ↓J2, N1, N2, N3, reduceCtorEq, N4, N5, N6, reduceIte, N7, I1, I2, I3]
    exact hJ1 _ (hdA [(1, 1), (0, 0)])
  have hd : decide ((j : Int) < (l.length : Int)) = true := decide_eq_true (by omega)
  have hK := hJ2 h2 trivial
  clear hJ2 hJ1
  rw [mfR_succ] at hK
  have hrg := hN.rng _ (arc_mem h2)
  by_cases hjz : j < kz
  · rw [mfS_zero (hZ j hjz)] at hK
    have e1 := fq_get1 (lz := lz) h2 hjz
    simp only [hd, Int.toNat_natCast, e1, fq_length, push_cast, ↓J1, ↓J2, N1, N2, N3, reduceCtorEq, N4, N5, N6, reduceIte, N7, I1, I2, I3]
    repeat (refine ⟨by omega, ?_⟩)
    exact hK _ (hdA [(1, 1), (0, 0)])
  have e1 := fq_get (lz := lz) h2 hjz
  generalize mfR l v p j = r at *
  obtain ⟨o, q⟩ := r
  rcases hc : arc l j with ⟨f, t, m, g⟩
  simp only [mfS, mf1, mf2, hc] at hK
  rw [hc] at hrg e1
  have i1 := inv2.len
  have i2 := inv2.cn
  simp only at i1 i2 hrg e1 hca hal2 ⊢
  have e0 := ni_get hal2
  rw [hca] at e0
  have e2 := vis_get (l := l) (o := o) (v := t) (by omega)
  have e3 := vis_get (l := l) (o := o) (v := f) (by omega)
  have tk : List.take q.length (ints (ni q)) = ints (ni q) := List.take_of_length_le (by rw [ints_length, ni_length]; omega)
  simp only [hd, Int.toNat_natCast, e1, e0, fq_length, ints_length, ni_length, push_cast, ↓J1, ↓J2, N1, N2, N3, reduceCtorEq, N4, N5, N6, reduceIte, N7, I1, I2, I3]
  repeat (refine ⟨by omega, ?_⟩)
  by_cases hf : f = v
  · have htv : ¬ t = v := by omega
    have d1 : decide ((f : Int) = (v : Int)) = true := decide_eq_true (by omega)
    have d2 : decide ((t : Int) = (v : Int)) = false := decide_eq_false (by omega)
    simp only [hf, htv, decide_true, decide_false, Bool.true_and, Bool.false_and, Bool.false_eq_true, if_false] at hK
    simp only [d1, push_cast, ↓J1, ↓J2, N1, N2, N3, reduceCtorEq, N4, N5, N6, reduceIte, N7, I1, I2, I3]
    have hvs := vis_set (l := l) (o := o) (v := t) (b := (j : Int)) (x := [.int .i64 (j : Int), .bool false, .bool true]) (by omega) (by rw [vz_arc, hc]; simp only [hf, decide_eq_false (show ¬ v = t by omega)])
    simp only [Int.toNat_natCast, e2, vis_length, i1, push_cast, ↓J1, ↓J2, N1, N2, N3, reduceCtorEq, N4, N5, N6, reduceIte, N7, I1, I2, I3]
    repeat (refine ⟨by omega, ?_⟩)
    cases d4 : decide (o.getD t 0 = -1)
    · simp only [d4, Bool.and_false, Bool.false_eq_true, if_false] at hK
      simp only [d4, Bool.not_false, Bool.not_true, Int.toNat_natCast, e0, ints_length, ni_length, push_cast, ↓J1, ↓J2, N1, N2, N3, reduceCtorEq, N4, N5, N6, reduceIte, N7, I1, I2, I3]
      repeat (refine ⟨by omega, ?_⟩)
      simp only [d2, push_cast, ↓J1, ↓J2, N1, N2, N3, reduceCtorEq, N4, N5, N6, reduceIte, N7, I1, I2, I3]
      exact hK _ (hdA [(1, 1), (0, 0)])
    simp only [d4, Bool.not_false, Bool.not_true, push_cast, ↓J1, ↓J2, N1, N2, N3, reduceCtorEq, N4, N5, N6, reduceIte, N7, I1, I2, I3]
    cases d3 : decide (g < m)
    · simp only [d3, Bool.false_and, Bool.false_eq_true, if_false] at hK
      simp only [d3, Int.toNat_natCast, e0, ints_length, ni_length, push_cast, ↓J1, ↓J2, N1, N2, N3, reduceCtorEq, N4, N5, N6, reduceIte, N7, I1, I2, I3]
      repeat (refine ⟨by omega, ?_⟩)
      simp only [d2, push_cast, ↓J1, ↓J2, N1, N2, N3, reduceCtorEq, N4, N5, N6, reduceIte, N7, I1, I2, I3]
      exact hK _ (hdA [(1, 1), (0, 0)])
    simp only [d3, d4, Bool.true_and, if_true, List.length_append, List.length_singleton] at hK
    have e7 : (ints (ni q) ++ [[AV.int .i64 (t : Int)]])[a]? = some [.int .i64 (v : Int)] := by rw [List.getElem?_append_left (by rw [ints_length, ni_length]; exact hal2)]; exact e0
    simp only [d3, Int.toNat_natCast, e2, hvs, tk, i1, ints_length, ni_length, vis_length, allScs, apYR_sc, push_cast, ↓J1, ↓J2, N1, N2, N3, reduceCtorEq, N4, N5, N6, reduceIte, N7, I1, I2, I3]
    repeat (refine ⟨by omega, ?_⟩)
    simp only [Int.toNat_natCast, e7, List.length_append, ints_length, ni_length, List.length_singleton, push_cast, ↓J1, ↓J2, N1, N2, N3, reduceCtorEq, N4, N5, N6, reduceIte, N7, I1, I2, I3]
    repeat (refine ⟨by omega, ?_⟩)
    simp only [d2, push_cast, ↓J1, ↓J2, N1, N2, N3, reduceCtorEq, N4, N5, N6, reduceIte, N7, I1, I2, I3]
    refine hK _ (hdA [(4, 1), (0, 0)] (hh := ?_))
    simp only [canR, canB, renO, renL, ren, lkp, hget, N7, N5, Nat.not_lt_zero, if_false, if_true, reduceIte, List.append_nil, List.nil_append, ni_sn]
    all_goals rfl
  · have d1 : decide ((f : Int) = (v : Int)) = false := decide_eq_false (by omega)
    simp only [hf, decide_false, Bool.false_and, Bool.false_eq_true, if_false] at hK
    simp only [d1, Int.toNat_natCast, e0, ints_length, ni_length, push_cast, ↓J1, ↓J2, N1, N2, N3, reduceCtorEq, N4, N5, N6, reduceIte, N7, I1, I2, I3]
    repeat (refine ⟨by omega, ?_⟩)
    by_cases htv : t = v
    rotate_left
    · have d2 : decide ((t : Int) = (v : Int)) = false := decide_eq_false (by omega)
      simp only [htv, decide_false, Bool.false_and, Bool.false_eq_true, if_false] at hK
      simp only [d2, push_cast, ↓J1, ↓J2, N1, N2, N3, reduceCtorEq, N4, N5, N6, reduceIte, N7, I1, I2, I3]
      exact hK _ (hdA [(1, 1), (0, 0)])
    have d2 : decide ((t : Int) = (v : Int)) = true := decide_eq_true (by omega)
    simp only [htv, decide_true, Bool.true_and] at hK
    simp only [d2, push_cast, ↓J1, ↓J2, N1, N2, N3, reduceCtorEq, N4, N5, N6, reduceIte, N7, I1, I2, I3]
    have hvs := vis_set (l := l) (o := o) (v := f) (b := (j : Int)) (x := [.int .i64 (j : Int), .bool true, .bool true]) (by omega) (by rw [vz_arc, hc]; simp only [decide_true])
    simp only [Int.toNat_natCast, e0, e3, vis_length, ints_length, ni_length, i1, push_cast, ↓J1, ↓J2, N1, N2, N3, reduceCtorEq, N4, N5, N6, reduceIte, N7, I1, I2, I3]
    repeat (refine ⟨by omega, ?_⟩)
    cases d4 : decide (o.getD f 0 = -1)
    · simp only [d4, Bool.and_false, Bool.false_eq_true, if_false] at hK
      simp only [d4, Bool.not_false, Bool.not_true, push_cast, ↓J1, ↓J2, N1, N2, N3, reduceCtorEq, N4, N5, N6, reduceIte, N7, I1, I2, I3]
      exact hK _ (hdA [(1, 1), (0, 0)])
    simp only [d4, Bool.not_false, Bool.not_true, push_cast, ↓J1, ↓J2, N1, N2, N3, reduceCtorEq, N4, N5, N6, reduceIte, N7, I1, I2, I3]
    cases d3 : decide (0 < g)
    · simp only [d3, Bool.false_and, Bool.false_eq_true, if_false] at hK
      simp only [d3, push_cast, ↓J1, ↓J2, N1, N2, N3, reduceCtorEq, N4, N5, N6, reduceIte, N7, I1, I2, I3]
      exact hK _ (hdA [(1, 1), (0, 0)])
    simp only [d3, d4, Bool.true_and, if_true, List.length_append, List.length_singleton] at hK
    simp only [d3, Int.toNat_natCast, e3, hvs, tk, i1, ints_length, ni_length, vis_length, allScs, apYR_sc, push_cast, ↓J1, ↓J2, N1, N2, N3, reduceCtorEq, N4, N5, N6, reduceIte, N7, I1, I2, I3]
    repeat (refine ⟨by omega, ?_⟩)
    refine hK _ (hdA [(4, 1), (0, 0)] (hh := ?_))
    simp only [canR, canB, renO, renL, ren, lkp, hget, N7, N5, Nat.not_lt_zero, if_false, if_true, reduceIte, List.append_nil, List.nil_append, ni_sn]
    all_goals rfl
theorem t42z (L : Lanes) (out : List (List AV)) (kz : Nat) (lz l : List Fa) (n s e : Nat) (lim : Int) (hZ : ∀ j, j < kz → (arc l j).m = 0 ∧ (arc l j).g = 0) (hN : NetOk n l) (hb : ∀ a ∈ l, 0 ≤ a.g ∧ a.g ≤ a.m) (hs : s < n) (he : e < n) (hse : s ≠ e) (hn : n ≤ 1000) (hl : l.length < 2^30) (hm : ∀ a ∈ l, a.m < 2^32) (hlim : 0 ≤ lim ∧ lim < 2^40) : C 42 [.ptr 2 none 0 0 0, .int .i64 s, .int .i64 e, .int .i64 lim] [(3, .slice 3 out), (2, .var [.int .i64 n, .ref 1 none 5 0 l.length]), (1, .slice 5 (fq kz lz l)), (0, .var [.int .i64 L.d, .sl (lns L.ls), .sl (ints L.st)])] 4 (fun v h' n' => v = .int .i64 (fE l n s e lim).2 ∧ ((n' = 4 ∧ h' = [(3, .slice 3 out), (2, .var [.int .i64 n, .ref 1 none 5 0 l.length]), (1, .slice 5 (fq kz lz (fE l n s e lim).1)), (0, .var [.int .i64 L.d, .sl (lns L.ls), .sl (ints L.st)])]) ∨ (n' = 5 ∧ ∃ es, h' = (4, .slice 3 es) :: [(3, .slice 3 out), (2, .var [.int .i64 n, .ref 1 none 5 0 l.length]), (1, .slice 5 (fq kz lz (fE l n s e lim).1)), (0, .var [.int .i64 L.d, .sl (lns L.ls), .sl (ints L.st)])]))) := by
  have hend := fN_any (lim := lim) hN hb hs he hse hlim.1
  refine Closed.rT hC Q42 ?_
  simp only [c42, push_cast, ↓J1, ↓J2, N1, N2, N3, reduceCtorEq, N4, N5, N6, reduceIte, N7, I1, I2, I3]
  refine RL_count (fun k => ⟨tb 113 .any [(0, .ptr 2 none 0 0 0), (1, .int .i64 (s : Int)), (2, .int .i64 (e : Int)), (3, .int .i64 lim), (9, .int .i64 (fI l n s e lim k).2)], [(3, .slice 3 out), (2, .var [.int .i64 (n : Int), .ref 1 none 5 0 l.length]), (1, .slice 5 (fq kz lz (fI l n s e lim k).1)), (0, .var [.int .i64 L.d, .sl (lns L.ls), .sl (ints L.st)])], 4⟩) (fun _ => True) (fN l n s e lim) 0 (hdA []) (by omega) trivial fun k hk _ J hJ => ?_
  obtain ⟨i1, i3, _, _⟩ := fI_any (lim := lim) hN hb hs he hse hlim.1 k
  have i2 := i1.sh
  have hNk := net_shp i2 hN
  have hlk : (fI l n s e lim k).1.length = l.length := shp_len i2
  have hmk : ∀ a ∈ (fI l n s e lim k).1, a.m < 2^32 := fun a ha => by
    obtain ⟨i, hi, ea⟩ := arc_of ha
    have h3 := (shp_arc i2 i).2.2
    have h4 := hm _ (arc_mem (l := l) (i := i) (by omega))
    rw [← ea, h3]; exact h4
  have hgo : k < fN l n s e lim → fGo n s e lim (fI l n s e lim k) = true := fun h => fN_lt h
  have hZk : ∀ j, j < kz → (arc (fI l n s e lim k).1 j).m = 0 ∧ (arc (fI l n s e lim k).1 j).g = 0 := fun j hj => by
    have h1 := (shp_arc i2 j).2.2
    have h2 := (hZ j hj).1
    by_cases h3 : j < (fI l n s e lim k).1.length
    · have h4 := i1.bnd _ (arc_mem h3)
      omega
    · have h5 : arc (fI l n s e lim k).1 j = fa0 := by simp [arc, List.getD, List.getElem?_eq_none (Nat.le_of_not_lt h3)]
      rw [h5]; exact ⟨rfl, rfl⟩
  by_cases hltv : (fI l n s e lim k).2 < lim
  rotate_left
  · have hkN : k = fN l n s e lim := by
      by_cases h1 : k < fN l n s e lim
      · have := hgo h1
        simp only [fGo, Bool.and_eq_true, decide_eq_true_eq] at this
        exact absurd this.1 hltv
      · omega
    subst hkN
    simp only [decide_eq_false hltv, push_cast, ↓J1, ↓J2, N1, N2, N3, reduceCtorEq, N4, N5, N6, reduceIte, N7, I1, I2, I3]
    exact ⟨rfl, .inl rfl⟩
  have hlt := decide_eq_true hltv
  have c1 := t58z hC kz lz (fI l n s e lim k).1 n s hZk hNk hs hn (by omega)
  have hsg : (!decide ((mfB (fI l n s e lim k).1 n s).getD e 0 = -1)) = seen (fI l n s e lim k).1 n s e := rfl
  have hBl : (mfB (fI l n s e lim k).1 n s).length = n := (mfP_inv hNk hs _).1.len
  have e1 := vis_get (l := (fI l n s e lim k).1) (o := mfB (fI l n s e lim k).1 n s) (v := e) (by omega)
  have fz := frz_fq kz lz (fI l n s e lim k).1
  have tk : List.take l.length (fq kz lz (fI l n s e lim k).1) = fq kz lz (fI l n s e lim k).1 := by rw [← hlk]; exact fq_take
  simp only [hlt, fz, tk, push_cast, ↓J1, ↓J2, N1, N2, N3, reduceCtorEq, N4, N5, N6, reduceIte, N7, I1, I2, I3]
  refine ⟨_, c1, ?_⟩
  simp only [Int.toNat_natCast, e1, vis_length, hBl, hsg, push_cast, ↓J1, ↓J2, N1, N2, N3, reduceCtorEq, N4, N5, N6, reduceIte, N7, I1, I2, I3]
  repeat (refine ⟨by omega, ?_⟩)
  by_cases h1 : k < fN l n s e lim
  rotate_left
  · obtain rfl : k = fN l n s e lim := by omega
    have hse' : seen (fI l n s e lim (fN l n s e lim)).1 n s e = false := by
      have := hend
      simp only [fGo, hlt, Bool.true_and] at this
      exact this
    simp only [hse', Bool.not_false, push_cast, ↓J1, ↓J2, N1, N2, N3, reduceCtorEq, N4, N5, N6, reduceIte, N7, I1, I2, I3]
    exact ⟨rfl, .inr ⟨_, rfl⟩⟩
  have hJ1 := hJ h1 trivial
  clear hJ hend
  rw [fI_next (hgo h1)] at hJ1
  have hsn : seen (fI l n s e lim k).1 n s e = true := by
    have := hgo h1
    simp only [fGo, hlt, Bool.true_and] at this
    exact this
  clear hgo e1 c1
  have hr := rdB (r0 := lim - (fI l n s e lim k).2) hNk i1.bnd hs he hse hsn (by omega)
  have w0 : IntKind.i64.wrap (lim - (fI l n s e lim k).2) = lim - (fI l n s e lim k).2 := wrap64 (by omega) (by omega)
  have hbk := i1.bnd
  clear i1 i2
  generalize hp : fI l n s e lim k = p at *
  obtain ⟨m, x⟩ := p
  simp only at hsn hr w0 hJ1 hlk hNk hmk hbk i3 hltv hBl fz hZk ⊢
  simp only [hsn, Bool.not_true, w0, push_cast, ↓J1, ↓J2, N1, N2, N3, reduceCtorEq, N4, N5, N6, reduceIte, N7, I1, I2, I3]
  have hmr : ∀ i, i < m.length → (arc m i).f < n ∧ (arc m i).t < n ∧ 0 ≤ (arc m i).g ∧ (arc m i).g ≤ (arc m i).m ∧ (arc m i).m < 2^32 := fun i hi => by
    have h1 := hNk.rng _ (arc_mem hi)
    have h2 := hbk _ (arc_mem hi)
    exact ⟨h1.1, h1.2.1, h2.1, h2.2, hmk _ (arc_mem hi)⟩
  refine RL_count (fun j => ⟨tb 113 .any [(0, .ptr 2 none 0 0 0), (1, .int .i64 (s : Int)), (2, .int .i64 (e : Int)), (3, .int .i64 lim), (9, .int .i64 x), (10, .ref 4 none 3 0 n), (11, .int .i64 (rmI m (mfB m n s) s e (lim - x) j)), (12, .int .i64 (pw m (mfB m n s) s e j : Nat))], [(4, .slice 3 (vis m (mfB m n s))), (3, .slice 3 out), (2, .var [.int .i64 (n : Int), .ref 1 none 5 0 l.length]), (1, .slice 5 (fq kz lz m)), (0, .var [.int .i64 L.d, .sl (lns L.ls), .sl (ints L.st)])], 5⟩) (fun _ => True) (pwK m (mfB m n s) n s e) 0 (hdA [(4, 4)]) (by omega) trivial fun j hj _ Ja hJ2 => ?_
  by_cases h2 : j < pwK m (mfB m n s) n s e
  · have hK := hJ2 h2 trivial
    clear hJ2 hJ1
    obtain ⟨a1, a2, a3, a4, a5, a6⟩ := hr.at_ j h2
    have b1 := hr.rm j (by omega)
    simp only [rmI] at hK
    rw [a6] at hK
    generalize rmI m (mfB m n s) s e (lim - x) j = y at *
    generalize pw m (mfB m n s) s e j = v at *
    have e2 := vis_at (l := m) (o := mfB m n s) (v := v) (by omega) a3
    generalize byAr (mfB m n s) v = i at *
    have c2 := hmr i a2
    have hft : (arc m i).f ≠ (arc m i).t := (hNk.rng _ (arc_mem a2)).2.2
    have hik : ¬ i < kz := fun hi => by
      have := hZk i hi
      rcases a5 with q | q <;> omega
    have e3 := fq_get (lz := lz) a2 hik
    have d1 : decide ((v : Int) = (s : Int)) = false := decide_eq_false (by omega)
    simp only [d1, Int.toNat_natCast, e2, e3, vis_length, fq_length, hBl, push_cast, ↓J1, ↓J2, N1, N2, N3, reduceCtorEq, N4, N5, N6, reduceIte, N7, I1, I2, I3]
    repeat (refine ⟨by omega, ?_⟩)
    by_cases hb : (arc m i).f = v
    · have ht : ¬ (arc m i).t = v := by omega
      simp only [roomA, oth, ht, if_false, min_if] at hK
      have w5 : IntKind.i64.wrap ((arc m i).m - (arc m i).g) = (arc m i).m - (arc m i).g := wrap64 (by omega) (by omega)
      simp only [decide_eq_true hb, w5, push_cast, ↓J1, ↓J2, N1, N2, N3, reduceCtorEq, N4, N5, N6, reduceIte, N7, I1, I2, I3]
      exact ⟨hK _ (hdA [(4, 4)]), hK _ (hdA [(4, 4)])⟩
    · have ht : (arc m i).t = v := a5.elim (fun h => h.1) fun h => absurd h.1 hb
      simp only [roomA, oth, ht, if_true, min_if] at hK
      have w5 : IntKind.i64.wrap ((arc m i).m - (arc m i).g) = (arc m i).m - (arc m i).g := wrap64 (by omega) (by omega)
      simp only [decide_eq_false hb, w5, push_cast, ↓J1, ↓J2, N1, N2, N3, reduceCtorEq, N4, N5, N6, reduceIte, N7, I1, I2, I3]
      exact ⟨hK _ (hdA [(4, 4)]), hK _ (hdA [(4, 4)])⟩
  obtain rfl : j = pwK m (mfB m n s) n s e := by omega
  clear hJ2 h2
  rw [hr.st, show rmI m (mfB m n s) s e (lim - x) (pwK m (mfB m n s) n s e) = fRm m n s e (lim - x) from rfl]
  have d1 : decide ((s : Int) = (s : Int)) = true := decide_eq_true rfl
  simp only [d1, Bool.not_true, push_cast, ↓J1, ↓J2, N1, N2, N3, reduceCtorEq, N4, N5, N6, reduceIte, N7, I1, I2, I3]
  have hr1 := hr.r
  have hup := hr.up
  rw [show fUp m n s e (fRm m n s e (lim - x)) = upI m (mfB m n s) s e (fRm m n s e (lim - x)) (pwK m (mfB m n s) n s e) from rfl] at hJ1
  generalize fRm m n s e (lim - x) = y at *
  refine RL_count (fun j => ⟨tb 113 .any [(0, .ptr 2 none 0 0 0), (1, .int .i64 (s : Int)), (2, .int .i64 (e : Int)), (3, .int .i64 lim), (9, .int .i64 x), (10, .ref 4 none 3 0 n), (11, .int .i64 y), (14, .int .i64 (pw m (mfB m n s) s e j : Nat))], [(4, .slice 3 (vis m (mfB m n s))), (3, .slice 3 out), (2, .var [.int .i64 (n : Int), .ref 1 none 5 0 l.length]), (1, .slice 5 (fq kz lz (upI m (mfB m n s) s e y j))), (0, .var [.int .i64 L.d, .sl (lns L.ls), .sl (ints L.st)])], 5⟩) (fun _ => True) (pwK m (mfB m n s) n s e) 0 (hdA [(4, 4)]) (by omega) trivial fun j hj _ Ja hJ2 => ?_
  by_cases h2 : j < pwK m (mfB m n s) n s e
  · have hK := hJ2 h2 trivial
    clear hJ2 hJ1
    obtain ⟨a1, a2, a3, a4, a5, a6⟩ := hr.at_ j h2
    obtain ⟨u1, u2⟩ := hup j (by omega)
    simp only [upI] at hK
    rw [a6] at hK
    generalize upI m (mfB m n s) s e y j = u at *
    generalize pw m (mfB m n s) s e j = v at *
    have e2 := vis_at (l := m) (o := mfB m n s) (v := v) (by omega) a3
    generalize byAr (mfB m n s) v = i at *
    have c2 := hmr i a2
    have u3 := u2 i a2
    have hft : (arc m i).f ≠ (arc m i).t := (hNk.rng _ (arc_mem a2)).2.2
    have hik : ¬ i < kz := fun hi => by
      have := hZk i hi
      rcases a5 with q | q <;> omega
    have e3 := fq_get (lz := lz) (l := u) (i := i) (by omega) hik
    have ho : oth (arc u i) v = oth (arc m i) v := by simp only [oth, u3.1, u3.2.1]
    have w5 : IntKind.i64.wrap ((arc u i).g + y) = (arc u i).g + y := wrap64 (by omega) (by omega)
    have w6 : IntKind.i64.wrap ((arc u i).g - y) = (arc u i).g - y := wrap64 (by omega) (by omega)
    have d2 : decide ((v : Int) = (s : Int)) = false := decide_eq_false (by omega)
    have s1 := fq_set (lz := lz) (l := u) (i := i) (a := ⟨(arc u i).f, (arc u i).t, (arc u i).m, (arc u i).g + y⟩) hik rfl
    have s2 := fq_set (lz := lz) (l := u) (i := i) (a := ⟨(arc u i).f, (arc u i).t, (arc u i).m, (arc u i).g - y⟩) hik rfl
    have g1 := fq_get (lz := lz) (l := u.set i ⟨(arc u i).f, (arc u i).t, (arc u i).m, (arc u i).g + y⟩) (i := i) (by rw [List.length_set]; omega) hik
    have g2 := fq_get (lz := lz) (l := u.set i ⟨(arc u i).f, (arc u i).t, (arc u i).m, (arc u i).g - y⟩) (i := i) (by rw [List.length_set]; omega) hik
    rw [arc_set (by omega), if_pos rfl] at g1 g2
    simp only at s1 s2 g1 g2
    simp only [d2, Int.toNat_natCast, e2, vis_length, hBl, push_cast, ↓J1, ↓J2, N1, N2, N3, reduceCtorEq, N4, N5, N6, reduceIte, N7, I1, I2, I3]
    repeat (refine ⟨by omega, ?_⟩)
    by_cases hb : (arc m i).f = v
    · have ht : ¬ (arc u i).t = v := by omega
      simp only [mv, oth, if_neg ht, show ¬ (arc m i).t = v by omega, if_false] at hK
      rw [← u3.2.1] at hK
      simp only [decide_eq_true hb, Int.toNat_natCast, e3, w6, s2, g2, fq_length, push_cast, ↓J1, ↓J2, N1, N2, N3, reduceCtorEq, N4, N5, N6, reduceIte, N7, I1, I2, I3]
      repeat (refine ⟨by omega, ?_⟩)
      exact hK _ (hdA [(4, 4)])
    · have htm : (arc m i).t = v := a5.elim (fun h => h.1) fun h => absurd h.1 hb
      have ht : (arc u i).t = v := by omega
      simp only [mv, oth, if_pos ht, htm, if_true] at hK
      rw [← u3.1] at hK
      simp only [decide_eq_false hb, Int.toNat_natCast, e3, w5, s1, g1, fq_length, push_cast, ↓J1, ↓J2, N1, N2, N3, reduceCtorEq, N4, N5, N6, reduceIte, N7, I1, I2, I3]
      repeat (refine ⟨by omega, ?_⟩)
      exact hK _ (hdA [(4, 4)])
  obtain rfl : j = pwK m (mfB m n s) n s e := by omega
  clear hJ2 h2
  rw [hr.st]
  have w7 : IntKind.i64.wrap (x + y) = x + y := wrap64 (by omega) (by omega)
  simp only [d1, w7, Bool.not_true, push_cast, ↓J1, ↓J2, N1, N2, N3, reduceCtorEq, N4, N5, N6, reduceIte, N7, I1, I2, I3]
  exact hJ1 _ (hdA [])
end
end Go.Proofs.Ytiemjnkblggimaa.X
