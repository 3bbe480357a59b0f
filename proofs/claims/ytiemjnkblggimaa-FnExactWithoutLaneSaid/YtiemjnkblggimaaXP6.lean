/- A part of the proof: lemmas on the machine or on the functions that the law reaches. No condition of its own. -/
import Derived.Test.YtiemjnkblggimaaXP5
import Derived.Test.YtiemjnkblggimaaXP2
set_option maxHeartbeats 1000000
set_option maxRecDepth 8000
set_option linter.unusedSimpArgs false
set_option linter.unusedVariables false
open Nat renaming reduceBEq → N1, reduceAdd → N2, reduceSub → N3, reduceMul → N4, reduceEqDiff → N5, reduceLeDiff → N6, reduceLT → N7
open Int renaming reduceLE → I1, reduceLT → I2, reduceToNat → I3
namespace Go.Proofs.Ytiemjnkblggimaa.X
open Go
attribute [local irreducible] Ev
def toFa (a : Arc) : Fa := ⟨a.f.toNat, a.t.toNat, a.m, 0⟩
def sN (L : Lanes) (F T D : Nat) : List Fa := (arcsS F T 1000000 L D).map toFa
def iN (L : Lanes) (F T D : Nat) : List Fa := (arcsL L D ++ arcsT F T 1000000000 L D).map toFa
def nN (L : Lanes) (D : Nat) : Nat := (D + 1) * L.d.toNat
def eN (L : Lanes) (T D : Nat) : Nat := D * L.d.toNat + T
def AOk (L : Lanes) (D : Nat) (a : Arc) : Prop := ∃ d x y : Nat, d < D ∧ x < L.d.toNat ∧ y < L.d.toNat ∧ a.f = ((d * L.d.toNat + x : Nat) : Int) ∧ a.t = (((d + 1) * L.d.toNat + y : Nat) : Int) ∧ 0 ≤ a.m ∧ a.m ≤ 1000000000
theorem lane_AOk {L : Lanes} (h : lanesOk L = true) {D d : Nat} (hd : d < D) (k : Nat) : ∀ a ∈ laneArcs L d k, AOk L D a := by
  have hL := lanesOk_LOk h
  have h2 := hL.d
  intro a ha
  simp only [laneArcs, List.mem_map] at ha
  obtain ⟨l, hl, rfl⟩ := ha
  simp only [lanesOk, Bool.and_eq_true, List.all_eq_true] at h
  have h3 := h.2 l (List.mem_of_mem_take hl)
  simp only [laneOk, inR, Bool.and_eq_true, decide_eq_true_eq] at h3
  have e : L.d = (L.d.toNat : Int) := by omega
  refine ⟨d, l.a.toNat, l.b.toNat, hd, by omega, by omega, ?_, ?_, by simp only [laneArc]; omega, by simp only [laneArc]; omega⟩
  · simp only [laneArc]; rw [Int.natCast_add, Int.natCast_mul, ← e]; omega
  · simp only [laneArc]; rw [Int.natCast_add, Int.natCast_mul, ← e]; simp only [Int.natCast_add, Int.natCast_one]; omega
theorem store_AOk {L : Lanes} (h : lanesOk L = true) {F T B : Int} (hB : 0 ≤ B ∧ B ≤ 1000000000) {D d : Nat} (hd : d < D) : ∀ a ∈ storeArcs F T B L d L.st.length, AOk L D a := by
  have hL := lanesOk_LOk h
  have h2 := hL.d
  have h3 := hL.s
  intro a ha
  simp only [storeArcs, List.mem_map, List.mem_range] at ha
  obtain ⟨k, hk, rfl⟩ := ha
  have h4 := hL.st k hk
  have e : L.d = (L.d.toNat : Int) := by omega
  refine ⟨d, k, k, hd, by omega, by omega, ?_, ?_, ?_, ?_⟩
  · simp only [storeArc]; rw [Int.natCast_add, Int.natCast_mul, ← e]
  · simp only [storeArc]; rw [Int.natCast_add, Int.natCast_mul, ← e]; simp only [Int.natCast_add, Int.natCast_one]
  · simp only [storeArc]; split <;> omega
  · simp only [storeArc]; split <;> omega
theorem AOk_succ {L : Lanes} {D : Nat} {a : Arc} (h : AOk L D a) : AOk L (D + 1) a := by
  obtain ⟨d, x, y, h1, h2⟩ := h
  exact ⟨d, x, y, by omega, h2⟩
theorem arcsS_AOk {L : Lanes} (h : lanesOk L = true) {F T B : Int} (hB : 0 ≤ B ∧ B ≤ 1000000000) : ∀ D, ∀ a ∈ arcsS F T B L D, AOk L D a
  | 0, a, ha => by simp [arcsS] at ha
  | D + 1, a, ha => by
    simp only [arcsS, List.mem_append] at ha
    rcases ha with (ha | ha) | ha
    · exact AOk_succ (arcsS_AOk h hB D a ha)
    · exact lane_AOk h (by omega) _ a ha
    · exact store_AOk h hB (by omega) a ha
theorem arcsL_AOk {L : Lanes} (h : lanesOk L = true) : ∀ D, ∀ a ∈ arcsL L D, AOk L D a
  | 0, a, ha => by simp [arcsL] at ha
  | D + 1, a, ha => by
    simp only [arcsL, List.mem_append] at ha
    rcases ha with ha | ha
    · exact AOk_succ (arcsL_AOk h D a ha)
    · exact lane_AOk h (by omega) _ a ha
theorem arcsT_AOk {L : Lanes} (h : lanesOk L = true) {F T B : Int} (hB : 0 ≤ B ∧ B ≤ 1000000000) : ∀ D, ∀ a ∈ arcsT F T B L D, AOk L D a
  | 0, a, ha => by simp [arcsT] at ha
  | D + 1, a, ha => by
    simp only [arcsT, List.mem_append] at ha
    rcases ha with ha | ha
    · exact AOk_succ (arcsT_AOk h hB D a ha)
    · exact store_AOk h hB (by omega) a ha
theorem arcsI_AOk {L : Lanes} (h : lanesOk L = true) {F T B : Int} (hB : 0 ≤ B ∧ B ≤ 1000000000) (D : Nat) : ∀ a ∈ arcsL L D ++ arcsT F T B L D, AOk L D a := by
  intro a ha
  rcases List.mem_append.1 ha with ha | ha
  · exact arcsL_AOk h D a ha
  · exact arcsT_AOk h hB D a ha
theorem ar4_fa4 {L : Lanes} {D : Nat} : ∀ {l : List Arc}, (∀ a ∈ l, AOk L D a) → ar4 l = fa4 (l.map toFa)
  | [], _ => rfl
  | a :: l, h => by
    have ih := ar4_fa4 (l := l) fun b hb => h b (by simp [hb])
    obtain ⟨d, x, y, h1, h2, h3, h4, h5, h6⟩ := h a (by simp)
    simp only [ar4, fa4, List.map_cons] at ih ⊢
    rw [ih]
    simp only [toFa, List.cons.injEq, AV.int.injEq, true_and, and_true]
    refine ⟨by omega, by omega⟩
theorem ar5_fa5 {L : Lanes} {D : Nat} : ∀ {l : List Arc}, (∀ a ∈ l, AOk L D a) → ar5 l = fa5 (l.map toFa)
  | [], _ => rfl
  | a :: l, h => by
    have ih := ar5_fa5 (l := l) fun b hb => h b (by simp [hb])
    obtain ⟨d, x, y, h1, h2, h3, h4, h5, h6⟩ := h a (by simp)
    simp only [ar5, fa5, List.map_cons] at ih ⊢
    rw [ih]
    simp only [toFa, List.cons.injEq, AV.int.injEq, true_and, and_true]
    refine ⟨by omega, by omega⟩
theorem net_of {L : Lanes} (hL : LOk L) {D : Nat} {l : List Arc} (h : ∀ a ∈ l, AOk L D a) : NetOk (nN L D) (l.map toFa) := by
  have h2 := hL.d
  refine ⟨fun a ha => ?_⟩
  obtain ⟨b, hb, rfl⟩ := List.mem_map.1 ha
  obtain ⟨d, x, y, h1, h2, h3, h4, h5, h6⟩ := h b hb
  simp only [toFa, h4, h5, Int.toNat_natCast, nN]
  have e1 : (d + 1) * L.d.toNat + y < (d + 2) * L.d.toNat := by
    rw [show d + 2 = (d + 1) + 1 from rfl, Nat.add_mul (d + 1)]; omega
  have e2 : (d + 2) * L.d.toNat ≤ (D + 1) * L.d.toNat := Nat.mul_le_mul_right _ (by omega)
  have e3 : d * L.d.toNat + x < (d + 1) * L.d.toNat := by rw [Nat.add_mul]; omega
  omega
theorem dv_zero {l : List Arc} (v : Nat) : dv (l.map toFa) v = 0 := by
  simp only [dv]
  induction l with
  | nil => rfl
  | cons a l ih =>
    simp only [List.map_cons, List.sum_cons]
    rw [ih]
    have : dvA (toFa a) v = 0 := by
      unfold dvA
      split <;> split <;> rfl
    rw [this]; rfl
theorem flow_of {L : Lanes} (hL : LOk L) {D s e : Nat} {l : List Arc} (h : ∀ a ∈ l, AOk L D a) : Flow (nN L D) s e (l.map toFa) 0 := by
  have hN := net_of hL h
  refine ⟨fun a ha => ⟨(hN.rng a ha).1, (hN.rng a ha).2.1⟩, fun a ha => ?_, fun v _ _ _ => dv_zero v, dv_zero s⟩
  obtain ⟨b, hb, rfl⟩ := List.mem_map.1 ha
  obtain ⟨d, x, y, h1, h2, h3, h4, h5, h6⟩ := h b hb
  exact ⟨Int.le_refl 0, h6.1⟩
theorem m_of {L : Lanes} {D : Nat} {l : List Arc} (h : ∀ a ∈ l, AOk L D a) : ∀ a ∈ l.map toFa, a.m < 2^32 := by
  intro a ha
  obtain ⟨b, hb, rfl⟩ := List.mem_map.1 ha
  obtain ⟨d, x, y, h1, h2, h3, h4, h5, h6⟩ := h b hb
  simp only [toFa]; omega
/-! cuts of the two networks -/
def crB (p : Nat → Bool) (dep d k : Nat) : Bool := p (d * dep + k) && !p ((d + 1) * dep + k)
def smS (p : Nat → Bool) (F T : Nat) (L : Lanes) (d : Nat) : Nat → Int
  | 0 => 0
  | k + 1 => smS p F T L d k + (if crB p L.d.toNat d k then (if decide (k = F) || decide (k = T) then 0 else L.st.getD k 0) else 0)
def bcS (p : Nat → Bool) (F T : Nat) (L : Lanes) (d : Nat) : Nat → Int
  | 0 => 0
  | k + 1 => bcS p F T L d k + (if crB p L.d.toNat d k then (if decide (k = F) || decide (k = T) then 1 else 0) else 0)
theorem cap_app (p : Nat → Bool) (l m : List Fa) : cap p (l ++ m) = cap p l + cap p m := by simp [cap]
theorem cap_store {p : Nat → Bool} {F T : Nat} {B : Int} {L : Lanes} (hL : LOk L) (d : Nat) : ∀ k, cap p ((storeArcs F T B L d k).map toFa) = smS p F T L d k + B * bcS p F T L d k
  | 0 => by simp [storeArcs, smS, bcS, cap]
  | k + 1 => by
    have h2 := hL.d
    have e : L.d = (L.d.toNat : Int) := by omega
    have e1 : ((d : Int) * L.d + k).toNat = d * L.d.toNat + k := by
      rw [show ((d : Int) * L.d + k) = ((d * L.d.toNat + k : Nat) : Int) by rw [Int.natCast_add, Int.natCast_mul, ← e]]; rfl
    have e2 : (((d : Int) + 1) * L.d + k).toNat = (d + 1) * L.d.toNat + k := by
      rw [show (((d : Int) + 1) * L.d + k) = (((d + 1) * L.d.toNat + k : Nat) : Int) by rw [Int.natCast_add, Int.natCast_mul, ← e]; rfl]; rfl
    have d1 : decide ((k : Int) = (F : Int)) = decide (k = F) := by rw [decide_eq_decide]; omega
    have d2 : decide ((k : Int) = (T : Int)) = decide (k = T) := by rw [decide_eq_decide]; omega
    rw [storeArcs_succ, List.map_append, cap_app, cap_store hL d k]
    simp only [smS, bcS, List.map_cons, List.map_nil, cap, List.sum_cons, List.sum_nil, capA, toFa, storeArc, e1, e2, d1, d2, crB, Int.mul_add]
    by_cases h3 : (p (d * L.d.toNat + k) && !p ((d + 1) * L.d.toNat + k)) = true
    · by_cases h4 : (decide (k = F) || decide (k = T)) = true
      · simp only [if_pos h3, if_pos h4]; simp only [Int.mul_one, Int.add_zero]; generalize B * bcS p F T L d k = z; omega
      · simp only [if_pos h3, if_neg h4]; simp only [Int.mul_zero, Int.add_zero]; generalize B * bcS p F T L d k = z; omega
    · have h5 := Bool.eq_false_iff.2 h3
      simp only [h5, Bool.false_eq_true, if_false]; simp only [Int.mul_zero, Int.add_zero]
def xC (p : Nat → Bool) (F T : Nat) (L : Lanes) : Nat → Int
  | 0 => 0
  | d + 1 => xC p F T L d + cap p ((laneArcs L d L.ls.length).map toFa) + smS p F T L d L.st.length
def yC (p : Nat → Bool) (F T : Nat) (L : Lanes) : Nat → Int
  | 0 => 0
  | d + 1 => yC p F T L d + bcS p F T L d L.st.length
theorem cap_S {p : Nat → Bool} {F T : Nat} {B : Int} {L : Lanes} (hL : LOk L) : ∀ D, cap p ((arcsS F T B L D).map toFa) = xC p F T L D + B * yC p F T L D
  | 0 => by simp [arcsS, xC, yC, cap]
  | D + 1 => by
    simp only [arcsS, List.map_append, cap_app, cap_S hL D, cap_store hL, xC, yC, Int.mul_add]
    generalize B * yC p F T L D = z; generalize B * bcS p F T L D L.st.length = z2; omega
theorem cap_I {p : Nat → Bool} {F T : Nat} {B : Int} {L : Lanes} (hL : LOk L) : ∀ D, cap p ((arcsL L D).map toFa) + cap p ((arcsT F T B L D).map toFa) = xC p F T L D + B * yC p F T L D
  | 0 => by simp [arcsL, arcsT, xC, yC, cap]
  | D + 1 => by
    have := cap_I (p := p) (F := F) (T := T) (B := B) hL D
    simp only [arcsL, arcsT, List.map_append, cap_app, cap_store hL, xC, yC, Int.mul_add]
    generalize B * yC p F T L D = z at *; generalize B * bcS p F T L D L.st.length = z2; omega
theorem smS_bnd {p : Nat → Bool} {F T : Nat} {L : Lanes} (hL : LOk L) (d : Nat) : ∀ k, k ≤ L.st.length → 0 ≤ smS p F T L d k ∧ smS p F T L d k ≤ 1000 * k
  | 0, _ => by simp [smS]
  | k + 1, hk => by
    have ih := smS_bnd (p := p) (F := F) (T := T) hL d k (by omega)
    have := hL.st k (by omega)
    simp only [smS]
    split <;> (try split) <;> omega
theorem bcS_nn {p : Nat → Bool} {F T : Nat} {L : Lanes} (d : Nat) : ∀ k, 0 ≤ bcS p F T L d k
  | 0 => by simp [bcS]
  | k + 1 => by
    have ih := bcS_nn (p := p) (F := F) (T := T) (L := L) d k
    simp only [bcS]
    split <;> (try split) <;> omega
theorem yC_nn {p : Nat → Bool} {F T : Nat} {L : Lanes} : ∀ D, 0 ≤ yC p F T L D
  | 0 => by simp [yC]
  | D + 1 => by
    have h1 := yC_nn (p := p) (F := F) (T := T) (L := L) D
    have h2 := bcS_nn (p := p) (F := F) (T := T) (L := L) D L.st.length
    simp only [yC]; omega
theorem cap_lane {p : Nat → Bool} {L : Lanes} (hL : LOk L) (d : Nat) : ∀ k, k ≤ L.ls.length → 0 ≤ cap p ((laneArcs L d k).map toFa) ∧ cap p ((laneArcs L d k).map toFa) ≤ 1000 * k
  | 0, _ => by simp [laneArcs, cap]
  | k + 1, hk => by
    have ih := cap_lane (p := p) hL d k (by omega)
    have := hL.ls _ (List.getElem_mem (show k < L.ls.length by omega))
    rw [laneArcs_succ (by omega), List.map_append, cap_app]
    simp only [List.map_cons, List.map_nil, cap, List.sum_cons, List.sum_nil, capA, toFa, laneArc] at ih ⊢
    split <;> omega
theorem xC_bnd {p : Nat → Bool} {F T : Nat} {L : Lanes} (hL : LOk L) : ∀ D, 0 ≤ xC p F T L D ∧ xC p F T L D ≤ 21000 * D
  | 0 => by simp [xC]
  | D + 1 => by
    have h1 := xC_bnd (p := p) (F := F) (T := T) hL D
    have h2 := cap_lane (p := p) hL D L.ls.length (by omega)
    have h3 := smS_bnd (p := p) (F := F) (T := T) hL D L.st.length (by omega)
    have := hL.n; have := hL.s; have := hL.d
    simp only [xC]; omega
def p0 (L : Lanes) (T : Nat) (v : Nat) : Bool := !decide (v % L.d.toNat = T)
theorem p0_at {L : Lanes} {T d k : Nat} (hk : k < L.d.toNat) : p0 L T (d * L.d.toNat + k) = !decide (k = T) := by
  simp only [p0]
  rw [Nat.mul_comm, Nat.mul_add_mod, Nat.mod_eq_of_lt hk]
theorem yC_p0 {F T : Nat} {L : Lanes} (hL : LOk L) : ∀ D, yC (p0 L T) F T L D = 0
  | 0 => rfl
  | D + 1 => by
    have h3 := hL.s
    have hb : ∀ k, k ≤ L.st.length → bcS (p0 L T) F T L D k = 0 := by
      intro k
      induction k with
      | zero => intro _; rfl
      | succ k ih =>
        intro hk
        simp only [bcS, ih (by omega), crB, p0_at (show k < L.d.toNat by omega)]
        cases decide (k = T) <;> simp
    simp only [yC, yC_p0 hL D, hb L.st.length (by omega)]; rfl
def gvL (lim : Int) (L : Lanes) (F T D : Nat) : Int := (fE (sN L F T D) (nN L D) F (eN L T D) lim).2
structure Deliv (lim lim' : Int) (L : Lanes) (F T D : Nat) : Prop where
  nS : NetOk (nN L D) (sN L F T D)
  nI : NetOk (nN L D) (iN L F T D)
  fS : Flow (nN L D) F (eN L T D) (sN L F T D) 0
  fI : Flow (nN L D) F (eN L T D) (iN L F T D) 0
  s : F < nN L D
  e : eN L T D < nN L D
  ne : F ≠ eN L T D
  n : nN L D ≤ 42
  lS : (sN L F T D).length ≤ 126
  lI : (iN L F T D).length ≤ 126
  mS : ∀ a ∈ sN L F T D, a.m < 2^32
  mI : ∀ a ∈ iN L F T D, a.m < 2^32
  vS : gvL lim L F T D < 126001 ∧ 0 ≤ gvL lim L F T D
  vI : (fE (iN L F T D) (nN L D) F (eN L T D) lim').2 = gvL lim L F T D
  sn : ∀ w, w < nN L D → seen (fE (iN L F T D) (nN L D) F (eN L T D) lim').1 (nN L D) F w = seen (fE (sN L F T D) (nN L D) F (eN L T D) lim).1 (nN L D) F w
  z0 : D = 0 → fE (iN L F T D) (nN L D) F (eN L T D) lim' = (iN L F T D, 0)
  shI : shp (fE (iN L F T D) (nN L D) F (eN L T D) lim').1 = shp (iN L F T D)
  shS : shp (fE (sN L F T D) (nN L D) F (eN L T D) lim).1 = shp (sN L F T D)
  aS : ar4 (arcsS F T 1000000 L D) = fa4 (sN L F T D)
  aI : ar5 (arcsL L D ++ arcsT F T 1000000000 L D) = fa5 (iN L F T D)
theorem deliv {lim lim' : Int} (m1 : 126000 < lim) (m2 : 126000 < lim') {L : Lanes} (h : lanesOk L = true) {F T D : Nat} (hF : F < L.d.toNat) (hT : T < L.d.toNat) (hFT : F ≠ T) (hD : D ≤ 6) : Deliv lim lim' L F T D := by
  have hL := lanesOk_LOk h
  have hd := hL.d
  have hn15 := hL.n
  have hsn := hL.s
  have oS := arcsS_AOk h (F := F) (T := T) (B := 1000000) (by omega) D
  have oI := arcsI_AOk h (F := F) (T := T) (B := 1000000000) (by omega) D
  have nS := net_of hL oS
  have nI := net_of hL oI
  have fS := flow_of hL (s := F) (e := eN L T D) oS
  have fI' := flow_of hL (s := F) (e := eN L T D) oI
  have hs : F < nN L D := by
    have : 1 * L.d.toNat ≤ (D + 1) * L.d.toNat := Nat.mul_le_mul_right _ (by omega)
    simp only [nN]; omega
  have he : eN L T D < nN L D := by simp only [nN, eN, Nat.add_mul]; omega
  have hne : F ≠ eN L T D := by
    simp only [eN]
    rcases Nat.eq_zero_or_pos D with e | e
    · subst e; omega
    · have : 1 * L.d.toNat ≤ D * L.d.toNat := Nat.mul_le_mul_right _ (by omega)
      omega
  have hn : nN L D ≤ 42 := by
    have : (D + 1) * L.d.toNat ≤ 7 * 6 := Nat.mul_le_mul (by omega) (by omega)
    exact this
  have q1 : p0 L T F = true := by
    have := p0_at (L := L) (T := T) (d := 0) hF
    rw [Nat.zero_mul, Nat.zero_add] at this
    rw [this]; simp [hFT]
  have q2 : p0 L T (eN L T D) = false := by
    rw [eN, p0_at hT]; simp
  have cS := fun p => cap_S (p := p) (F := F) (T := T) (B := 1000000) hL D
  have cI := fun p => cap_I (p := p) (F := F) (T := T) (B := 1000000000) hL D
  have cI' : ∀ p, cap p (iN L F T D) = xC p F T L D + 1000000000 * yC p F T L D := fun p => by
    rw [iN, List.map_append, cap_app]; exact cI p
  have cS' : ∀ p, cap p (sN L F T D) = xC p F T L D + 1000000 * yC p F T L D := cS
  have xb := fun p => xC_bnd (p := p) (F := F) (T := T) hL D
  have yb := fun p => yC_nn (p := p) (F := F) (T := T) (L := L) D
  have y0 := yC_p0 (F := F) (T := T) hL D
  have k1 : cap (p0 L T) (sN L F T D) ≤ 126000 := by rw [cS', y0]; have := xb (p0 L T); omega
  have k2 : cap (p0 L T) (iN L F T D) ≤ 126000 := by rw [cI', y0]; have := xb (p0 L T); omega
  have k3 : ∀ p : Nat → Bool, cap p (sN L F T D) ≤ 126000 → cap p (iN L F T D) = cap p (sN L F T D) := fun p hp => by
    rw [cS'] at hp
    rw [cS', cI']
    have h1 := xb p; have h2 := yb p
    have : yC p F T L D = 0 := by omega
    rw [this, Int.mul_zero, Int.mul_zero]
  have k4 : ∀ p : Nat → Bool, cap p (iN L F T D) ≤ 126000 → cap p (sN L F T D) = cap p (iN L F T D) := fun p hp => by
    rw [cI'] at hp
    rw [cS', cI']
    have h1 := xb p; have h2 := yb p
    have : yC p F T L D = 0 := by omega
    rw [this, Int.mul_zero, Int.mul_zero]
  obtain ⟨v1, v2⟩ := fE_same (lim := lim) (lim' := lim') nS nI fS fI' hs he hne q1 q2 k1 k2 m1 m2 k3 k4
  obtain ⟨a1, a2, a3, a4, a5⟩ := fE_ok (lim := lim) nS fS hs he hne q1 q2 k1 m1
  obtain ⟨b1, b2, b3, b4, b5⟩ := fE_ok (lim := lim') nI fI' hs he hne q1 q2 k2 m2
  have z0 : D = 0 → fE (iN L F T D) (nN L D) F (eN L T D) lim' = (iN L F T D, 0) := fun e => by
    have hnil : iN L F T D = [] := by subst e; rfl
    have hl := shp_len b2
    have hz : (iN L F T D).length = 0 := by rw [hnil]; rfl
    have h1 := List.eq_nil_of_length_eq_zero (hl.trans hz)
    have h2 : ∀ p, cap p (iN L F T D) = 0 := fun p => by rw [hnil]; rfl
    exact Prod.ext (h1.trans hnil.symm) (b5.trans (h2 _))
  have g0 := (fI_inv (lim := lim) nS fS hs he hne (fN (sN L F T D) (nN L D) F (eN L T D) lim)).2.1
  have l1 := arcsS_len (F := F) (T := T) (B := 1000000) hL D
  have l2 := arcsL_len hL D
  have l3 := arcsT_len (F := F) (T := T) (B := 1000000000) L D
  have l6 : L.st.length * D ≤ 6 * 6 := Nat.mul_le_mul (by omega) (by omega)
  refine ⟨nS, nI, fS, fI', hs, he, hne, hn, by simp only [sN, List.length_map]; omega, by simp only [iN, List.length_map, List.length_append]; omega, m_of oS, m_of oI, ⟨?_, g0⟩, v1.symm, fun w hw => (v2 w hw).symm, z0, b2, a2, ar4_fa4 oS, ar5_fa5 oI⟩
  have a3' : gvL lim L F T D ≤ 126000 := a3
  omega
end Go.Proofs.Ytiemjnkblggimaa.X
set_option maxHeartbeats 4000000
set_option maxRecDepth 8000
set_option linter.unusedSimpArgs false
set_option linter.unusedVariables false
open Nat renaming reduceBEq → N1, reduceAdd → N2, reduceSub → N3, reduceMul → N4, reduceEqDiff → N5, reduceLeDiff → N6, reduceLT → N7
open Int renaming reduceLE → I1, reduceLT → I2, reduceToNat → I3
namespace Go.Proofs.Ytiemjnkblggimaa.X
open Go
attribute [local irreducible] Ev fE
def askT (L : Lanes) (F T D : Int) : Bool := lanesOk L && inR 0 (L.d - 1) F && inR 0 (L.d - 1) T && !decide (F = T) && inR 0 6 D
def gvN (lim : Int) (L : Lanes) (F T D : Int) : Int := gvL lim L F.toNat T.toNat D.toNat
def fdF (g : Nat → Int) (x : Int) : Nat → Nat → Int × Bool
  | 0, _ => (0, false)
  | n + 1, d => if x ≤ g d then ((d : Int), true) else fdF g x n (d + 1)
def askF (L : Lanes) (F T x : Int) : Bool := askT L F T 0 && inR 0 100000 x
def fdR (lim : Int) (L : Lanes) (F T x : Int) : Int × Bool := if askF L F T x then fdF (fun d => gvL lim L F.toNat T.toNat d) x 7 0 else (0, false)
theorem askT_at {L : Lanes} {F T D : Int} (h : askT L F T D = true) : ∃ f t d : Nat, F = f ∧ T = t ∧ D = d ∧ lanesOk L = true ∧ f < L.d.toNat ∧ t < L.d.toNat ∧ f ≠ t ∧ d ≤ 6 := by
  simp only [askT, inR, Bool.and_eq_true, decide_eq_true_eq, Bool.not_eq_true', decide_eq_false_iff_not] at h
  exact ⟨F.toNat, T.toNat, D.toNat, by omega, by omega, by omega, h.1.1.1.1, by omega, by omega, by omega, by omega⟩
section
variable {C : CT} (hC : Closed Try.prog G0 md0 C)
include hC
omit hC in
theorem own_fa5 (l : List Fa) : ownRLL (fa5 l) = true := by
  unfold fa5
  induction l with
  | nil => rfl
  | cons x l ih => simp only [List.map_cons, ownRLL, ownRL, ownR, Bool.and_true, Bool.true_and]; exact ih
theorem t36 (L : Lanes) (F T D : Int) (h1 : L.ls.length < 2^50) (h2 : L.st.length < 2^50) : Ev C 36 [L.av, .int .i64 F, .int .i64 T, .int .i64 D] (.bool (askT L F T D)) := by
  have c1 := t25 hC L h1 h2
  simp only [Lanes.av] at *
  refine rT hC Q36 ?_
  simp only [c36, push_cast, ↓J1, ↓J2, N1, N2, N3, reduceCtorEq, N4, N5, N6, reduceIte, N7, I1, I2, I3]
  refine ⟨_, c1, ?_⟩
  cases g1 : lanesOk L
  · simp only [askT, g1, Bool.false_and, push_cast, ↓J1, ↓J2, N1, N2, N3, reduceCtorEq, N4, N5, N6, reduceIte, N7, I1, I2, I3]
  have hd := (lanesOk_LOk g1).d
  simp only [wrap64 (n := L.d - 1) (by omega) (by omega), push_cast, ↓J1, ↓J2, N1, N2, N3, reduceCtorEq, N4, N5, N6, reduceIte, N7, I1, I2, I3]
  refine ⟨_, t26 hC _ _ _, ?_⟩
  rw [show (decide (0 ≤ F) && decide (F ≤ L.d - 1)) = inR 0 (L.d - 1) F from rfl]
  cases g2 : inR 0 (L.d - 1) F
  · simp only [askT, g1, g2, Bool.false_and, Bool.and_false, push_cast, ↓J1, ↓J2, N1, N2, N3, reduceCtorEq, N4, N5, N6, reduceIte, N7, I1, I2, I3]
  simp only [wrap64 (n := L.d - 1) (by omega) (by omega), push_cast, ↓J1, ↓J2, N1, N2, N3, reduceCtorEq, N4, N5, N6, reduceIte, N7, I1, I2, I3]
  refine ⟨_, t26 hC _ _ _, ?_⟩
  rw [show (decide (0 ≤ T) && decide (T ≤ L.d - 1)) = inR 0 (L.d - 1) T from rfl]
  cases g3 : inR 0 (L.d - 1) T
  · simp only [askT, g1, g2, g3, Bool.false_and, Bool.and_false, push_cast, ↓J1, ↓J2, N1, N2, N3, reduceCtorEq, N4, N5, N6, reduceIte, N7, I1, I2, I3]
  cases g4 : decide (F = T)
  · simp only [g4, Bool.not_false, push_cast, ↓J1, ↓J2, N1, N2, N3, reduceCtorEq, N4, N5, N6, reduceIte, N7, I1, I2, I3]
    refine ⟨_, t26 hC _ _ _, ?_⟩
    rw [show (decide (0 ≤ D) && decide (D ≤ 6)) = inR 0 6 D from rfl]
    simp only [askT, g1, g2, g3, g4, Bool.true_and, Bool.not_false, push_cast, ↓J1, ↓J2, N1, N2, N3, reduceCtorEq, N4, N5, N6, reduceIte, N7, I1, I2, I3]
  · simp only [askT, g1, g2, g3, g4, Bool.not_true, Bool.and_false, Bool.false_and, push_cast, ↓J1, ↓J2, N1, N2, N3, reduceCtorEq, N4, N5, N6, reduceIte, N7, I1, I2, I3]
theorem t41 (L : Lanes) (F T D : Int) (h1 : L.ls.length < 2^50) (h2 : L.st.length < 2^50) : Ev C 41 [L.av, .int .i64 F, .int .i64 T, .int .i64 D] (.bool (askT L F T D)) := by
  have c1 := t30 hC L h1 h2
  simp only [Lanes.av] at *
  refine rT hC Q41 ?_
  simp only [c41, push_cast, ↓J1, ↓J2, N1, N2, N3, reduceCtorEq, N4, N5, N6, reduceIte, N7, I1, I2, I3]
  refine ⟨_, c1, ?_⟩
  cases g1 : lanesOk L
  · simp only [askT, g1, Bool.false_and, push_cast, ↓J1, ↓J2, N1, N2, N3, reduceCtorEq, N4, N5, N6, reduceIte, N7, I1, I2, I3]
  have hd := (lanesOk_LOk g1).d
  simp only [push_cast, ↓J1, ↓J2, N1, N2, N3, reduceCtorEq, N4, N5, N6, reduceIte, N7, I1, I2, I3]
  refine ⟨_, t31 hC _ _ ⟨by omega, by omega⟩, ?_⟩
  rw [show (decide (0 ≤ F) && decide (F ≤ L.d - 1)) = inR 0 (L.d - 1) F from rfl]
  cases g2 : inR 0 (L.d - 1) F
  · simp only [askT, g1, g2, Bool.false_and, Bool.and_false, push_cast, ↓J1, ↓J2, N1, N2, N3, reduceCtorEq, N4, N5, N6, reduceIte, N7, I1, I2, I3]
  simp only [push_cast, ↓J1, ↓J2, N1, N2, N3, reduceCtorEq, N4, N5, N6, reduceIte, N7, I1, I2, I3]
  refine ⟨_, t31 hC _ _ ⟨by omega, by omega⟩, ?_⟩
  rw [show (decide (0 ≤ T) && decide (T ≤ L.d - 1)) = inR 0 (L.d - 1) T from rfl]
  cases g3 : inR 0 (L.d - 1) T
  · simp only [askT, g1, g2, g3, Bool.false_and, Bool.and_false, push_cast, ↓J1, ↓J2, N1, N2, N3, reduceCtorEq, N4, N5, N6, reduceIte, N7, I1, I2, I3]
  cases g4 : decide (F = T)
  · simp only [g4, Bool.not_false, push_cast, ↓J1, ↓J2, N1, N2, N3, reduceCtorEq, N4, N5, N6, reduceIte, N7, I1, I2, I3]
    refine ⟨_, t47 hC _ _ _, ?_⟩
    rw [show (decide (0 ≤ D) && decide (D ≤ 6)) = inR 0 6 D from rfl]
    simp only [askT, g1, g2, g3, g4, Bool.true_and, Bool.not_false, push_cast, ↓J1, ↓J2, N1, N2, N3, reduceCtorEq, N4, N5, N6, reduceIte, N7, I1, I2, I3]
  · simp only [askT, g1, g2, g3, g4, Bool.not_true, Bool.and_false, Bool.false_and, push_cast, ↓J1, ↓J2, N1, N2, N3, reduceCtorEq, N4, N5, N6, reduceIte, N7, I1, I2, I3]
omit hC in
theorem nN_int {L : Lanes} (h : LOk L) (D : Nat) : ((D : Int) + 1) * L.d = ((nN L D : Nat) : Int) := by
  have hd := h.d
  rw [nN, Int.natCast_mul, show ((L.d.toNat : Nat) : Int) = L.d by omega]; rfl
omit hC in
theorem eN_int {L : Lanes} (h : LOk L) (T D : Nat) : (D : Int) * L.d + T = ((eN L T D : Nat) : Int) := by
  have hd := h.d
  rw [eN, Int.natCast_add, Int.natCast_mul, show ((L.d.toNat : Nat) : Int) = L.d by omega]
theorem t37 {lim : Int} (r1 : 10000000 = lim) (L : Lanes) (F T D : Nat) (h : lanesOk L = true) (hF : F < L.d.toNat) (hT : T < L.d.toNat) (hFT : F ≠ T) (hD : D ≤ 6) : Ev C 37 [L.av, .int .i64 F, .int .i64 T, .int .i64 D] (.int .i64 (gvL lim L F T D)) := by
  have hL := lanesOk_LOk h
  have hd := hL.d
  have hm := mul_ok (d := (D : Int)) ⟨by omega, by omega⟩ hd
  have x := deliv (lim := lim) (lim' := lim) (by omega) (by omega) h hF hT hFT hD
  have c1 := t54 hC L F T D hD hL
  rw [x.aS, nN_int hL] at c1
  have he := x.e
  have hn := x.n
  have hl := x.lS
  have w1 : IntKind.i64.wrap ((D : Int) * L.d) = (D : Int) * L.d := wrap64 (by omega) (by omega)
  have w2 : IntKind.i64.wrap ((D : Int) * L.d + T) = ((eN L T D : Nat) : Int) := by rw [eN_int hL]; exact wrap64 (by omega) (by omega)
  have c2 := t55 hC L (sN L F T D) (nN L D) F (eN L T D) lim x.nS x.fS x.s x.e x.ne (by omega) (by omega) x.mS ⟨by omega, by omega⟩ (Int.lt_of_lt_of_le x.vS.1 (by omega))
  rw [show (fE (sN L F T D) (nN L D) F (eN L T D) lim).2 = gvL lim L F T D from rfl] at c2
  simp only [Lanes.av] at *
  generalize gvL lim L F T D = g at *
  refine rT hC Q37 ?_
  simp only [c37, push_cast, ↓J1, ↓J2, N1, N2, N3, reduceCtorEq, N4, N5, N6, reduceIte, N7, I1, I2, I3]
  refine ⟨_, c1, ?_⟩
  simp only [fa4_length, w1, w2, r1, push_cast, ↓J1, ↓J2, N1, N2, N3, reduceCtorEq, N4, N5, N6, reduceIte, N7, I1, I2, I3]
  refine ⟨_, c2, ?_⟩
  rintro v h' n' ⟨rfl, rfl, rfl⟩ _
  simp only [push_cast, ↓J1, ↓J2, N1, N2, N3, reduceCtorEq, N4, N5, N6, reduceIte, N7, I1, I2, I3]
theorem t39 {lim lim' : Int} (r1 : 10000000 = lim) (r2 : 1000000000 = lim') (L : Lanes) (F T D : Nat) (h : lanesOk L = true) (hF : F < L.d.toNat) (hT : T < L.d.toNat) (hFT : F ≠ T) (hD : D ≤ 6) : Ev C 39 [L.av, .int .i64 F, .int .i64 T, .int .i64 D] (.tup [.op [.int .i64 (nN L D), .ow 5 (fa5 (fE (iN L F T D) (nN L D) F (eN L T D) lim').1)], .int .i64 (gvL lim L F T D)]) := by
  have hL := lanesOk_LOk h
  have hd := hL.d
  have hm := mul_ok (d := (D : Int)) ⟨by omega, by omega⟩ hd
  have x := deliv (lim := lim) (lim' := lim') (by omega) (by omega) h hF hT hFT hD
  have c1 := t56 hC L F T D hD hL
  rw [x.aI, nN_int hL] at c1
  have he := x.e
  have hn := x.n
  have hl := x.lI
  have w1 : IntKind.i64.wrap ((D : Int) * L.d) = (D : Int) * L.d := wrap64 (by omega) (by omega)
  have w2 : IntKind.i64.wrap ((D : Int) * L.d + T) = ((eN L T D : Nat) : Int) := by rw [eN_int hL]; exact wrap64 (by omega) (by omega)
  have c2 := t42 hC L (iN L F T D) (nN L D) F (eN L T D) lim' x.nI x.fI x.s x.e x.ne (by omega) (by omega) x.mI ⟨by omega, by omega⟩ (by rw [x.vI]; have := x.vS; omega)
  have hfl := shp_len x.shI
  rw [x.vI] at c2
  have z0 : D = 0 → fE (iN L F T D) (nN L D) F (eN L T D) lim' = (iN L F T D, 0) := x.z0
  have z1 : D = 0 → gvL lim L F T D = 0 := fun e => by rw [← x.vI, z0 e]
  simp only [Lanes.av] at *
  generalize gvL lim L F T D = g at *
  refine rT hC Q39 ?_ (by simp only [ownR, ownRL, own_fa5, Bool.and_true])
  simp only [c39, push_cast, ↓J1, ↓J2, N1, N2, N3, reduceCtorEq, N4, N5, N6, reduceIte, N7, I1, I2, I3]
  refine ⟨_, c1, ?_⟩
  simp only [fa5_length, w1, w2, r2, push_cast, ↓J1, ↓J2, N1, N2, N3, reduceCtorEq, N4, N5, N6, reduceIte, N7, I1, I2, I3]
  have tk5 : List.take (iN L F T D).length (fa5 (iN L F T D)) = fa5 (iN L F T D) := fa5_take
  refine ifB_intro (fun h0 => ?_) (fun h0 => ?_)
  · have e0 : D = 0 := by have := of_decide_eq_true h0; omega
    rw [z0 e0, z1 e0]
    exact RetTo_of (by simp only [conR, conRL, isF, hget, hdel, List.drop_zero, tk5, fa5_length, if_true, if_false, reduceIte, N5, reduceCtorEq]; rfl)
  refine ⟨_, c2, ?_⟩
  rintro v h' n' ⟨rfl, rfl, rfl⟩ _
  have tk6 : List.take (iN L F T D).length (fa5 (fE (iN L F T D) (nN L D) F (eN L T D) lim').1) = fa5 (fE (iN L F T D) (nN L D) F (eN L T D) lim').1 := by rw [← hfl]; exact fa5_take
  simp only [push_cast, ↓J1, ↓J2, N1, N2, N3, reduceCtorEq, N4, N5, N6, reduceIte, N7, I1, I2, I3]
  exact RetTo_of (by simp only [conR, conRL, isF, hget, hdel, List.drop_zero, tk6, fa5_length, hfl, if_true, if_false, reduceIte, N5, reduceCtorEq]; rfl)
omit hC in
theorem gvN_nat {lim : Int} {L : Lanes} {f t d : Nat} : gvN lim L f t d = gvL lim L f t d := by simp only [gvN, Int.toNat_natCast]
theorem qG_at {lim : Int} (r1 : 10000000 = lim) (L : Lanes) (F T D : Int) (g : askT L F T D = true) : Ev C 37 [L.av, .int .i64 F, .int .i64 T, .int .i64 D] (.int .i64 (gvN lim L F T D)) := by
  obtain ⟨f, t, d, rfl, rfl, rfl, a1, a2, a3, a4, a5⟩ := askT_at g
  rw [gvN_nat]
  exact t37 hC r1 L f t d a1 a2 a3 a4 a5
def fN5 (lim' : Int) (L : Lanes) (F T D : Int) : List Fa := (fE (iN L F.toNat T.toNat D.toNat) (nN L D.toNat) F.toNat (eN L T.toNat D.toNat) lim').1
def fN4 (lim : Int) (L : Lanes) (F T D : Int) : List Fa := (fE (sN L F.toNat T.toNat D.toNat) (nN L D.toNat) F.toNat (eN L T.toNat D.toNat) lim).1
theorem dl_at {lim lim' : Int} (r1 : 10000000 = lim) (r2 : 1000000000 = lim') (L : Lanes) (F T D : Int) (g : askT L F T D = true) : Ev C 39 [L.av, .int .i64 F, .int .i64 T, .int .i64 D] (.tup [.op [.int .i64 (nN L D.toNat), .ow 5 (fa5 (fN5 lim' L F T D))], .int .i64 (gvN lim L F T D)]) := by
  obtain ⟨f, t, d, rfl, rfl, rfl, a1, a2, a3, a4, a5⟩ := askT_at g
  rw [gvN_nat]
  simp only [fN5, Int.toNat_natCast]
  exact t39 hC r1 r2 L f t d a1 a2 a3 a4 a5
theorem t38 {lim lim' : Int} (r1 : 10000000 = lim) (r2 : 1000000000 = lim') (L : Lanes) (F T D : Int) (h1 : L.ls.length < 2^50) (h2 : L.st.length < 2^50) : Ev C 38 [L.av, .int .i64 F, .int .i64 T, .int .i64 D] (.tup [.int .i64 (if askT L F T D then gvN lim L F T D else 0), .bool (askT L F T D)]) := by
  have c1 := t41 hC L F T D h1 h2
  have c2 := dl_at hC r1 r2 L F T D
  simp only [Lanes.av] at *
  refine rT hC Q38 ?_
  simp only [c38, push_cast, ↓J1, ↓J2, N1, N2, N3, reduceCtorEq, N4, N5, N6, reduceIte, N7, I1, I2, I3]
  refine ⟨_, c1, ?_⟩
  cases g : askT L F T D
  · simp only [Bool.false_eq_true, if_false, push_cast, ↓J1, ↓J2, N1, N2, N3, reduceCtorEq, N4, N5, N6, reduceIte, N7, I1, I2, I3]
  · simp only [push_cast, ↓J1, ↓J2, N1, N2, N3, reduceCtorEq, N4, N5, N6, reduceIte, N7, I1, I2, I3]
    refine ⟨_, c2 g, ?_⟩
    simp only [if_true, push_cast, ↓J1, ↓J2, N1, N2, N3, reduceCtorEq, N4, N5, N6, reduceIte, N7, I1, I2, I3]
omit hC in
theorem ask_zero {L : Lanes} {F T : Int} {d : Nat} (h : askT L F T 0 = true) (hd : d ≤ 6) : askT L F T d = true := by
  simp only [askT, inR, Bool.and_eq_true, decide_eq_true_eq] at h ⊢
  exact ⟨h.1, by omega, by omega⟩
end
end Go.Proofs.Ytiemjnkblggimaa.X
set_option maxHeartbeats 2000000
set_option maxRecDepth 8000
set_option linter.unusedSimpArgs false
set_option linter.unusedVariables false
open Nat renaming reduceBEq → N1, reduceAdd → N2, reduceSub → N3, reduceMul → N4, reduceEqDiff → N5, reduceLeDiff → N6, reduceLT → N7
open Int renaming reduceLE → I1, reduceLT → I2, reduceToNat → I3
namespace Go.Proofs.Ytiemjnkblggimaa.X
open Go
theorem ints_get {v : List Int} {k : Nat} (h : k < v.length) : (ints v)[k]? = some [.int .i64 (v.getD k 0)] := by
  simp [ints, List.getD, h]
theorem ints_set {v : List Int} {k : Nat} {y : Int} : (ints v).set k [.int .i64 y] = ints (v.set k y) := by
  simp [ints, List.map_set]
/-! ### Sizes: what is left of a limit -/
def sub1 (v : Int) (n : Nat) : Int := if v < n then -1 else v - n
structure SzOk {α : Type} (f : α → Int → Int) (B : Int) (x : α) : Prop where
  le : ∀ v, 0 ≤ v → v ≤ B → -1 ≤ f x v ∧ f x v ≤ v
def szAll {α : Type} (f : α → Int → Int) : List α → Int → Int
  | [], v => v
  | x :: xs, v => if f x v < 0 then -1 else szAll f xs (f x v)
def leftAt {α : Type} (f : α → Int → Int) (l : List α) (v : Int) : Nat → Int
  | 0 => v
  | i + 1 => match l[i]? with | some x => f x (leftAt f l v i) | none => 0
theorem leftAt_succ {α : Type} {f : α → Int → Int} {l : List α} {v : Int} {i : Nat} (h : i < l.length) : leftAt f l v (i + 1) = f l[i] (leftAt f l v i) := by
  simp only [leftAt, List.getElem?_eq_getElem h]
theorem szAll_le {α : Type} {f : α → Int → Int} {B : Int} : ∀ {l : List α}, (∀ x ∈ l, SzOk f B x) → ∀ v, 0 ≤ v → v ≤ B → -1 ≤ szAll f l v ∧ szAll f l v ≤ v
  | [], _, v, h0, _ => ⟨by simp [szAll]; omega, by simp [szAll]⟩
  | x :: xs, h, v, h0, hB => by
    have hx := (h x (by simp)).le v h0 hB
    simp only [szAll]
    split
    · omega
    · have := szAll_le (l := xs) (fun y hy => h y (by simp [hy])) (f x v) (by omega) (by omega)
      omega
theorem szAll_each {α : Type} {f : α → Int → Int} {B : Int} : ∀ {l : List α}, (∀ x ∈ l, SzOk f B x) → ∀ v, 0 ≤ v → v ≤ B → 0 ≤ szAll f l v → ∀ x ∈ l, ∃ u, 0 ≤ u ∧ u ≤ v ∧ 0 ≤ f x u
  | [], _, v, _, _, _, x, hx => by simp at hx
  | y :: ys, h, v, h0, hB, hs, x, hx => by
    have hy := (h y (by simp)).le v h0 hB
    simp only [szAll] at hs
    split at hs
    · omega
    · rename_i hn
      rcases List.mem_cons.1 hx with rfl | hx
      · exact ⟨v, h0, by omega, by omega⟩
      · obtain ⟨u, h1, h2, h3⟩ := szAll_each (fun z hz => h z (by simp [hz])) (f y v) (by omega) (by omega) hs x hx
        exact ⟨u, h1, by omega, h3⟩
theorem sub1_le {v : Int} {n : Nat} (h : 0 ≤ v) : -1 ≤ sub1 v n ∧ sub1 v n ≤ v := by
  simp only [sub1]; split <;> omega
theorem sub1_pos {v : Int} {n : Nat} (h : 0 ≤ sub1 v n) : (n : Int) ≤ v := by
  simp only [sub1] at h; split at h <;> omega
/-! ### The parts of a board -/
structure Ter where
  n : ByteArray
  c : List Int
  s : Int
  h : Int
  b : Bool
  deriving DecidableEq
structure Kin where
  n : ByteArray
  st : Int
  mv : Int
  sp : Int
  z : Bool
  v : Int
  deriving DecidableEq
structure Rul where
  ts : List Ter
  ks : List Kin
  stack : Int
  river : Int
  road : Int
  supply : Int
  turns : Int
  deriving DecidableEq
structure Mp where
  w : Int
  h : Int
  t : List Int
  ri : List Int
  ro : List Int
  deriving DecidableEq
structure Brd where
  r : Rul
  m : Mp
  deriving DecidableEq
def terF (t : Ter) : List AV := [.str t.n, .sl (ints t.c), .int .i64 t.s, .int .i64 t.h, .bool t.b]
def terO (t : Ter) : List AV := [.str t.n, .ow 1 (ints t.c), .int .i64 t.s, .int .i64 t.h, .bool t.b]
def kinA (k : Kin) : List AV := [.str k.n, .int .i64 k.st, .int .i64 k.mv, .int .i64 k.sp, .bool k.z, .int .i64 k.v]
def tersF (l : List Ter) : List (List AV) := l.map terF
def tersO (l : List Ter) : List (List AV) := l.map terO
def kins (l : List Kin) : List (List AV) := l.map kinA
def rulF (r : Rul) : List AV := [.sl (tersF r.ts), .sl (kins r.ks), .int .i64 r.stack, .int .i64 r.river, .int .i64 r.road, .int .i64 r.supply, .int .i64 r.turns]
def rulO (r : Rul) : List AV := [.ow 5 (tersO r.ts), .ow 6 (kins r.ks), .int .i64 r.stack, .int .i64 r.river, .int .i64 r.road, .int .i64 r.supply, .int .i64 r.turns]
def mpF (m : Mp) : List AV := [.int .i64 m.w, .int .i64 m.h, .sl (ints m.t), .sl (ints m.ri), .sl (ints m.ro)]
def mpO (m : Mp) : List AV := [.int .i64 m.w, .int .i64 m.h, .ow 1 (ints m.t), .ow 1 (ints m.ri), .ow 1 (ints m.ro)]
theorem tersF_length (l : List Ter) : (tersF l).length = l.length := by simp [tersF]
theorem tersO_length (l : List Ter) : (tersO l).length = l.length := by simp [tersO]
theorem kins_length (l : List Kin) : (kins l).length = l.length := by simp [kins]
theorem frzLL_ters (l : List Ter) : frzLL (tersO l) = tersF l := by
  unfold tersO tersF
  induction l with
  | nil => rfl
  | cons x l ih => simp only [List.map_cons, frzLL, terO, terF, frzL, frzT, frzLL_ints, ih]
theorem frzLL_kins (l : List Kin) : frzLL (kins l) = kins l := by
  unfold kins
  induction l with
  | nil => rfl
  | cons x l ih => simp only [List.map_cons, frzLL, kinA, frzL, frzT, ih]
theorem own_ints1 (l : List Int) : ownRLL (ints l) = true := by have := own_ints l; simpa only [ownR] using this
theorem own_ters (l : List Ter) : ownRLL (tersO l) = true := by
  unfold tersO
  induction l with
  | nil => rfl
  | cons x l ih => simp only [List.map_cons, ownRLL, terO, ownRL, ownR, own_ints1, Bool.and_true, Bool.true_and]; exact ih
theorem own_kins (l : List Kin) : ownRLL (kins l) = true := by
  unfold kins
  induction l with
  | nil => rfl
  | cons x l ih => simp only [List.map_cons, ownRLL, kinA, ownRL, ownR, Bool.and_true, Bool.true_and]; exact ih
def szTer (t : Ter) (v : Int) : Int := if sub1 v t.n.size < 0 then -1 else sub1 (sub1 v t.n.size) t.c.length
def szTers (l : List Ter) (v : Int) : Int := if sub1 v l.length < 0 then -1 else szAll szTer l (sub1 v l.length)
def szKin (k : Kin) (v : Int) : Int := sub1 v k.n.size
def szKins (l : List Kin) (v : Int) : Int := if sub1 v l.length < 0 then -1 else szAll szKin l (sub1 v l.length)
theorem szTer_ok (B : Int) (t : Ter) : SzOk szTer B t := ⟨fun v h0 hB => by
  have h1 := sub1_le (n := t.n.size) h0
  simp only [szTer]
  split
  · omega
  · have h2 := sub1_le (v := sub1 v t.n.size) (n := t.c.length) (by omega); omega⟩
theorem szKin_ok (B : Int) (t : Kin) : SzOk szKin B t := ⟨fun v h0 hB => sub1_le h0⟩
theorem szTers_le {l : List Ter} {v : Int} (h0 : 0 ≤ v) (hB : v ≤ 2 ^ 50) : -1 ≤ szTers l v ∧ szTers l v ≤ v := by
  have h1 := sub1_le (n := l.length) h0
  simp only [szTers]
  split
  · omega
  · have := szAll_le (l := l) (fun x _ => szTer_ok (2 ^ 50) x) (sub1 v l.length) (by omega) (by omega); omega
theorem szKins_le {l : List Kin} {v : Int} (h0 : 0 ≤ v) (hB : v ≤ 2 ^ 50) : -1 ≤ szKins l v ∧ szKins l v ≤ v := by
  have h1 := sub1_le (n := l.length) h0
  simp only [szKins]
  split
  · omega
  · have := szAll_le (l := l) (fun x _ => szKin_ok (2 ^ 50) x) (sub1 v l.length) (by omega) (by omega); omega
theorem szTers_pos {l : List Ter} {v : Int} (h0 : 0 ≤ v) (hB : v ≤ 2 ^ 50) (h : 0 ≤ szTers l v) : (l.length : Int) ≤ v ∧ ∀ x ∈ l, (x.n.size : Int) ≤ v ∧ (x.c.length : Int) ≤ v := by
  have h1 := sub1_le (n := l.length) h0
  simp only [szTers] at h
  split at h
  · omega
  · have h2 := sub1_pos (v := v) (n := l.length) (by omega)
    refine ⟨h2, fun x hx => ?_⟩
    obtain ⟨u, u0, u1, u2⟩ := szAll_each (fun x _ => szTer_ok (2 ^ 50) x) (sub1 v l.length) (by omega) (by omega) h x hx
    have k1 := sub1_le (n := x.n.size) u0
    simp only [szTer] at u2
    split at u2
    · omega
    · have k2 := sub1_pos (v := u) (n := x.n.size) (by omega)
      have k3 := sub1_pos u2
      omega
theorem szKins_pos {l : List Kin} {v : Int} (h0 : 0 ≤ v) (hB : v ≤ 2 ^ 50) (h : 0 ≤ szKins l v) : (l.length : Int) ≤ v ∧ ∀ x ∈ l, (x.n.size : Int) ≤ v := by
  have h1 := sub1_le (n := l.length) h0
  simp only [szKins] at h
  split at h
  · omega
  · have h2 := sub1_pos (v := v) (n := l.length) (by omega)
    refine ⟨h2, fun x hx => ?_⟩
    obtain ⟨u, u0, u1, u2⟩ := szAll_each (fun x _ => szKin_ok (2 ^ 50) x) (sub1 v l.length) (by omega) (by omega) h x hx
    have k2 := sub1_pos u2
    omega
def andThen (f g : Int → Int) (v : Int) : Int := if f v < 0 then -1 else if g (f v) < 0 then -1 else g (f v)
def szRul (r : Rul) : Int → Int := andThen (szTers r.ts) (szKins r.ks)
def szMp (m : Mp) (v : Int) : Int := if sub1 v m.t.length < 0 then -1 else if sub1 (sub1 v m.t.length) m.ri.length < 0 then -1 else if sub1 (sub1 (sub1 v m.t.length) m.ri.length) m.ro.length < 0 then -1 else sub1 (sub1 (sub1 v m.t.length) m.ri.length) m.ro.length
def szBrd (b : Brd) : Int → Int := andThen (szRul b.r) (szMp b.m)
structure RulB (B : Nat) (r : Rul) : Prop where
  ts : r.ts.length < B
  ks : r.ks.length < B
  t : ∀ x ∈ r.ts, x.n.size < B ∧ x.c.length < B
  k : ∀ x ∈ r.ks, x.n.size < B
structure MpB (B : Nat) (m : Mp) : Prop where
  t : m.t.length < B
  ri : m.ri.length < B
  ro : m.ro.length < B
structure BrdB (B : Nat) (b : Brd) : Prop where
  r : RulB B b.r
  m : MpB B b.m
theorem szRul_le {r : Rul} {v : Int} (h0 : 0 ≤ v) (hB : v ≤ 2 ^ 50) : -1 ≤ szRul r v ∧ szRul r v ≤ v := by
  have h1 := szTers_le (l := r.ts) h0 hB
  simp only [szRul, andThen]
  split
  · omega
  · have h2 := szKins_le (l := r.ks) (v := szTers r.ts v) (by omega) (by omega)
    split <;> omega
theorem szMp_le {m : Mp} {v : Int} (h0 : 0 ≤ v) : -1 ≤ szMp m v ∧ szMp m v ≤ v := by
  have h1 := sub1_le (n := m.t.length) h0
  simp only [szMp]
  split
  · omega
  · have h2 := sub1_le (v := sub1 v m.t.length) (n := m.ri.length) (by omega)
    split
    · omega
    · have h3 := sub1_le (v := sub1 (sub1 v m.t.length) m.ri.length) (n := m.ro.length) (by omega)
      split <;> omega
theorem szBrd_pos {b : Brd} (h : 0 ≤ szBrd b 1048576) : BrdB (2 ^ 21) b := by
  have h1 := szRul_le (r := b.r) (v := 1048576) (by omega) (by omega)
  simp only [szBrd, andThen] at h
  split at h
  · omega
  rename_i n1
  split at h
  · omega
  have k1 := szTers_le (l := b.r.ts) (v := 1048576) (by omega) (by omega)
  have hr : 0 ≤ szTers b.r.ts 1048576 ∧ 0 ≤ szKins b.r.ks (szTers b.r.ts 1048576) := by
    simp only [szRul, andThen] at n1
    split at n1
    · omega
    · split at n1 <;> omega
  have p1 := szTers_pos (by omega) (by omega) hr.1
  have p2 := szKins_pos (by omega) (by omega) hr.2
  refine ⟨⟨by omega, by omega, fun x hx => ?_, fun x hx => ?_⟩, ?_⟩
  · have := p1.2 x hx; omega
  · have := p2.2 x hx; omega
  · generalize szRul b.r 1048576 = v at *
    have q1 := sub1_le (v := v) (n := b.m.t.length) (by omega)
    simp only [szMp] at h
    split at h
    · omega
    · have q2 := sub1_le (v := sub1 v b.m.t.length) (n := b.m.ri.length) (by omega)
      split at h
      · omega
      · split at h
        · omega
        · have r1 := sub1_pos (v := v) (n := b.m.t.length) (by omega)
          have r2 := sub1_pos (v := sub1 v b.m.t.length) (n := b.m.ri.length) (by omega)
          have r3 := sub1_pos h
          exact ⟨by omega, by omega, by omega⟩
def brdF (b : Brd) : AV := .agg (rulF b.r ++ mpF b.m)
def brdO (b : Brd) : AV := .agg (rulO b.r ++ mpO b.m)
end Go.Proofs.Ytiemjnkblggimaa.X
set_option maxHeartbeats 1000000
set_option maxRecDepth 8000
set_option linter.unusedSimpArgs false
set_option linter.unusedSectionVars false
set_option linter.unusedVariables false
open Nat renaming reduceBEq → N1, reduceAdd → N2, reduceSub → N3, reduceMul → N4, reduceEqDiff → N5, reduceLeDiff → N6, reduceLT → N7
open Int renaming reduceLE → I1, reduceLT → I2, reduceToNat → I3
namespace Go.Proofs.Ytiemjnkblggimaa.X
open Go
def intss (W : List (List Int)) : List (List AV) := W.map fun r => [.sl (ints r)]
def owss (W : List (List Int)) : List (List AV) := W.map fun r => [.ow 1 (ints r)]
theorem intss_length (W : List (List Int)) : (intss W).length = W.length := by simp [intss]
theorem owss_length (W : List (List Int)) : (owss W).length = W.length := by simp [owss]
theorem frzLL_owss (W : List (List Int)) : frzLL (owss W) = intss W := by
  unfold owss intss
  induction W with
  | nil => rfl
  | cons x l ih => simp only [List.map_cons, frzLL, frzL, frzT, frzLL_ints, ih]
theorem own_intss (W : List (List Int)) : ownR (.ow 1 (owss W)) = true := by
  simp only [ownR]
  unfold owss
  induction W with
  | nil => rfl
  | cons x l ih =>
    have e2 := own_ints x
    simp only [ownR] at e2
    simp only [List.map_cons, ownRLL, ownRL, ownR, e2, Bool.and_true, Bool.true_and]; exact ih
def lens (W : List (List Int)) : Nat := (W.map List.length).sum
def szRows : List (List Int) → Int → Int
  | [], v => v
  | r :: W, v => if v < r.length then -1 else szRows W (v - r.length)
def szSS (W : List (List Int)) (v : Int) : Int := if v < W.length then -1 else szRows W (v - W.length)
theorem szRows_le {B : Int} : ∀ (W : List (List Int)) (v : Int), 0 ≤ v → v ≤ B → 0 ≤ szRows W v → ∀ r ∈ W, (r.length : Int) ≤ B
  | [], v, _, _, _, r, hr => by simp at hr
  | s :: W, v, h0, hB, h, r, hr => by
    simp only [szRows] at h
    split at h
    · omega
    · rename_i hs
      rcases List.mem_cons.1 hr with rfl | hr
      · omega
      · exact szRows_le W (v - s.length) (by omega) (by omega) h r hr
theorem szSS_le {W : List (List Int)} {v : Int} (h0 : 0 ≤ v) (h : 0 ≤ szSS W v) : (W.length : Int) ≤ v ∧ ∀ r ∈ W, (r.length : Int) ≤ v := by
  simp only [szSS] at h
  split at h
  · omega
  · rename_i hs
    exact ⟨by omega, szRows_le W _ (by omega) (by omega) h⟩
theorem lens_succ {W : List (List Int)} {i : Nat} (h : i < W.length) : lens (W.take (i + 1)) = lens (W.take i) + W[i].length := by
  rw [lens, List.take_succ_eq_append_getElem h, List.map_append, List.sum_append]; simp only [lens, List.map_cons, List.map_nil, List.sum_cons, List.sum_nil, Nat.add_zero]
def sumW (r : List Int) : Int := r.foldl (fun a x => IntKind.i64.wrap (a + x)) 0
theorem sumW_succ {r : List Int} {i : Nat} (h : i < r.length) : sumW (r.take (i + 1)) = IntKind.i64.wrap (sumW (r.take i) + r[i]) := by
  rw [sumW, List.take_succ_eq_append_getElem h, List.foldl_append]; rfl
def rowOk (r : List Int) : Bool := decide (r.length = 3) && r.all (inR 0 36) && decide (sumW r = 36)
def goodW (W : List (List Int)) : Bool := decide (W.length = 3) && W.all rowOk
def clA (W : List (List Int)) : AV := .agg [.sl (intss W)]
def clO (W : List (List Int)) : AV := .agg [.ow 1 (owss W)]
theorem own_cl (W : List (List Int)) : ownR (clO W) = true := by
  have e1 := own_intss W
  simp only [ownR] at e1
  simp only [clO, ownR, ownRL, e1, Bool.and_true]
section
variable {C : CT} (hC : Closed Try.prog G0 md0 C)
include hC
end
end Go.Proofs.Ytiemjnkblggimaa.X
set_option maxHeartbeats 1000000
set_option maxRecDepth 8000
set_option linter.unusedSimpArgs false
set_option linter.unusedVariables false
open Nat renaming reduceBEq → N1, reduceAdd → N2, reduceSub → N3, reduceMul → N4, reduceEqDiff → N5, reduceLeDiff → N6, reduceLT → N7
open Int renaming reduceLE → I1, reduceLT → I2, reduceToNat → I3
namespace Go.Proofs.Ytiemjnkblggimaa.X
open Go
theorem sum3 {a b c : Int} (ha : inR 0 36 a = true) (hb : inR 0 36 b = true) (hc : inR 0 36 c = true) : sumW [a, b, c] = a + b + c := by
  simp only [inR, Bool.and_eq_true, decide_eq_true_eq] at ha hb hc
  simp only [sumW, List.foldl]
  rw [Int.zero_add, wrap64 (n := a) (by omega) (by omega), wrap64 (n := a + b) (by omega) (by omega), wrap64 (by omega) (by omega)]
section
variable {C : CT} (hC : Closed Try.prog G0 md0 C)
include hC
end
end Go.Proofs.Ytiemjnkblggimaa.X
set_option maxHeartbeats 1000000
set_option maxRecDepth 8000
set_option linter.unusedSimpArgs false
set_option linter.unusedVariables false
open Nat renaming reduceBEq → N1, reduceAdd → N2, reduceSub → N3, reduceMul → N4, reduceEqDiff → N5, reduceLeDiff → N6, reduceLT → N7
open Int renaming reduceLE → I1, reduceLT → I2, reduceToNat → I3
namespace Go.Proofs.Ytiemjnkblggimaa.X
open Go
def w64 (n : Int) : Int := IntKind.i64.wrap n
theorem w64_id {n : Int} (h1 : -9223372036854775808 ≤ n) (h2 : n ≤ 9223372036854775807) : w64 n = n := wrap64 h1 h2
def dmod (x m : Int) : Int := (w64 (x.tmod m + m)).tmod m
def mixA (a b x : Int) : Int := (w64 (w64 (w64 (16807 * a) + dmod x 2147483647) + b)).tmod 2147483647
def mixB (a' b x : Int) : Int := (w64 (w64 (w64 (39373 * b) + dmod x 2147483629) + a')).tmod 2147483629
def mixS (ab : Int × Int) (x : Int) : Int × Int := (mixA ab.1 ab.2 x, mixB (mixA ab.1 ab.2 x) ab.2 x)
def mixF (l : List Int) (n : Int) : Int × Int := l.foldl mixS (7, w64 (n + 1))
def mixL (l : List Int) : Int × Int := mixF (l ++ [1, 1, 1]) l.length
theorem mixF_succ {l : List Int} {n : Int} {i : Nat} (h : i < l.length) : mixF (l.take (i + 1)) n = mixS (mixF (l.take i) n) l[i] := by
  simp only [mixF, List.take_succ_eq_append_getElem h, List.foldl_append, List.foldl_cons, List.foldl_nil]
section
variable {C : CT} (hC : Closed Try.prog G0 md0 C)
include hC
end
end Go.Proofs.Ytiemjnkblggimaa.X
set_option maxHeartbeats 1000000
set_option maxRecDepth 8000
set_option linter.unusedSimpArgs false
set_option linter.unusedVariables false
open Nat renaming reduceBEq → N1, reduceAdd → N2, reduceSub → N3, reduceMul → N4, reduceEqDiff → N5, reduceLeDiff → N6, reduceLT → N7
open Int renaming reduceLE → I1, reduceLT → I2, reduceToNat → I3
namespace Go.Proofs.Ytiemjnkblggimaa.X
open Go
attribute [local irreducible] Ev szSS szRows
def nextS : List Int → Int → Int → Int
  | [], _, _ => 0
  | y :: ys, x, k => if x < y then k else nextS ys (w64 (x - y)) (k + 1)
def nextI : List Int → Int → Int → Int → Int
  | [], _, _, _ => 2
  | y :: ys, s, x, k => if x < w64 (s + y) then k else nextI ys (w64 (s + y)) x (k + 1)
def belowOf (seed i n : Int) : Int := (mixL [seed, i, n]).1.tmod n
def rowAt (W : List (List Int)) (w : Int) : List Int := W.getD w.toNat []
theorem rowAt_some {W : List (List Int)} {w : Int} (hg : goodW W = true) (hw : inR 0 2 w = true) : w.toNat < W.length ∧ W[w.toNat]? = some (rowAt W w) ∧ ∃ a b c, rowAt W w = [a, b, c] ∧ inR 0 36 a = true ∧ inR 0 36 b = true ∧ inR 0 36 c = true ∧ a + b + c = 36 := by
  simp only [goodW, Bool.and_eq_true, decide_eq_true_eq] at hg
  simp only [inR, Bool.and_eq_true, decide_eq_true_eq] at hw
  have hl : w.toNat < W.length := by omega
  have e : rowAt W w = W[w.toNat] := by simp [rowAt, List.getD, hl]
  have hr := List.all_eq_true.1 hg.2 _ (List.getElem_mem hl)
  rw [← e] at hr
  refine ⟨hl, by rw [e]; exact List.getElem?_eq_getElem hl, ?_⟩
  generalize rowAt W w = r at hr
  simp only [rowOk, Bool.and_eq_true, decide_eq_true_eq] at hr
  obtain ⟨⟨h1, h2⟩, h3⟩ := hr
  match r, h1 with
  | [a, b, c], _ =>
    simp only [List.all_cons, List.all_nil, Bool.and_true, Bool.and_eq_true] at h2
    rw [sum3 h2.1 h2.2.1 h2.2.2] at h3
    exact ⟨a, b, c, rfl, h2.1, h2.2.1, h2.2.2, h3⟩
theorem next_eq {a b c x : Int} (ha : inR 0 36 a = true) (hb : inR 0 36 b = true) (hc : inR 0 36 c = true) (hs : a + b + c = 36) (hx : -36 < x ∧ x < 36) : nextS [a, b, c] x 0 = nextI [a, b, c] 0 x 0 := by
  simp only [inR, Bool.and_eq_true, decide_eq_true_eq] at ha hb hc
  simp only [nextS, nextI]
  rw [w64_id (n := x - a) (by omega) (by omega), w64_id (n := x - a - b) (by omega) (by omega), show (0 : Int) + a = a from Int.zero_add a, w64_id (n := a) (by omega) (by omega), w64_id (n := a + b) (by omega) (by omega), w64_id (n := a + b + c) (by omega) (by omega)]
  split
  · rfl
  · by_cases n2 : x - a < b
    · rw [if_pos n2, if_pos (by omega)]
    · rw [if_neg n2, if_pos (show x - a - b < c by omega), if_neg (by omega), if_pos (by omega)]
theorem below36 (a b : Int) : -36 < belowOf a b 36 ∧ belowOf a b 36 < 36 := by
  have h1 := Int.lt_tmod_of_pos (mixL [a, b, 36]).1 (show (0 : Int) < 36 by omega)
  have h2 := Int.tmod_lt_of_pos (mixL [a, b, 36]).1 (show (0 : Int) < 36 by omega)
  exact ⟨h1, h2⟩
section
variable {C : CT} (hC : Closed Try.prog G0 md0 C)
include hC
def askNext (W : List (List Int)) (w seed turn : Int) : Bool := goodW W && inR 0 2 w && inR 0 4611686016279904236 seed && inR 0 30 turn
def resNext (W : List (List Int)) (w seed turn : Int) : Int := if askNext W w seed turn then nextS (rowAt W w) (belowOf seed turn 36) 0 else 0
end
end Go.Proofs.Ytiemjnkblggimaa.X
