/- A part of the proof: lemmas on the machine or on the functions that the law reaches. No condition of its own. -/
import Derived.Test.YtiemjnkblggimaaXP1
import Derived.Test.YtiemjnkblggimaaXP5
set_option maxHeartbeats 1000000
set_option maxRecDepth 8000
set_option linter.unusedSimpArgs false
set_option linter.unusedVariables false
open Nat renaming reduceBEq → N1, reduceAdd → N2, reduceSub → N3, reduceMul → N4, reduceEqDiff → N5, reduceLeDiff → N6, reduceLT → N7
open Int renaming reduceLE → I1, reduceLT → I2, reduceToNat → I3
namespace Go.Proofs.Ytiemjnkblggimaa.X
/-! filling from any flow -/
structure Any (n s e : Nat) (l0 : List Fa) (p : List Fa × Int) : Prop where
  sh : shp p.1 = shp l0
  bnd : ∀ a ∈ p.1, 0 ≤ a.g ∧ a.g ≤ a.m
  dvs : ∀ v, dv p.1 v = dv l0 v + (if s = v then p.2 else 0) - (if e = v then p.2 else 0)
theorem aug_any {n s e : Nat} {l : List Fa} {r0 : Int} (hN : NetOk n l) (hb : ∀ a ∈ l, 0 ≤ a.g ∧ a.g ≤ a.m) (hs : s < n) (he : e < n) (hse : s ≠ e) (hsn : seen l n s e = true) (h0 : 1 ≤ r0) : 1 ≤ fRm l n s e r0 ∧ fRm l n s e r0 ≤ r0 ∧ Any n s e l (fUp l n s e (fRm l n s e r0), fRm l n s e r0) := by
  have hp := (mfP_inv hN hs (mfN l n s)).1
  obtain ⟨xe, hxe, hxq⟩ := List.getElem_of_mem ((seen_q hN hs he).1 hsn)
  have hxe' : xe < (mfP l n s (mfN l n s)).2.length := hxe
  have hxq' : (mfP l n s (mfN l n s)).2.getD xe 0 = e := by simp only [List.getD, List.getElem?_eq_getElem hxe', Option.getD_some]; exact hxq
  have hend := pwK_end hN hp hxe' hxq'
  have hlt := fun k (hk : k < pwK l (mfB l n s) n s e) => pwK_lt hk
  have harc := fun k (hk : k < pwK l (mfB l n s) n s e) => pw_arc hN hp hxe' hxq' k fun j hj => hlt j (by omega)
  have hroom : ∀ j, j < pwK l (mfB l n s) n s e → 1 ≤ roomA (arc l (byAr (mfB l n s) (pw l (mfB l n s) s e j))) (pw l (mfB l n s) s e j) := fun j hj => by
    have := harc j hj
    exact res_room (hN.rng _ (arc_mem this.1)).2.2 this.2.1
  have hr1 : 1 ≤ fRm l n s e r0 := rmI_ge _ _ _ _ _ h0 _ hroom
  have hr2 : fRm l n s e r0 ≤ r0 := rmI_le0 _ _ _ _ _ _
  obtain ⟨u1, u2, u3, _⟩ := upI_inv (r := fRm l n s e r0) hN hp hb (by omega) hxe' hxq' (pwK l (mfB l n s) n s e) (fun j hj => hlt j hj) fun j hj => rmI_le _ _ _ _ _ _ j hj
  have hsh : shp (fUp l n s e (fRm l n s e r0)) = shp l := shp_of u1 fun i hi => ⟨(u2 i hi).1, (u2 i hi).2.1, (u2 i hi).2.2.1⟩
  have hNm := net_shp hsh hN
  refine ⟨hr1, hr2, hsh, fun a ha => ?_, fun v => ?_⟩
  · obtain ⟨i, hi, ea⟩ := arc_of ha
    have hi' : i < l.length := by rw [← shp_len hsh]; exact hi
    have h3 : (arc (fUp l n s e (fRm l n s e r0)) i).m = (arc l i).m ∧ 0 ≤ (arc (fUp l n s e (fRm l n s e r0)) i).g ∧ (arc (fUp l n s e (fRm l n s e r0)) i).g ≤ (arc l i).m := (u2 i hi').2.2
    rw [← ea, h3.1]; exact h3.2
  · have := u3 v
    change dv (fUp l n s e (fRm l n s e r0)) v = _ at this
    simp only
    rw [this]
    change dv l v + (if pw l (mfB l n s) s e (pwK l (mfB l n s) n s e) = v then _ else _) - _ = _
    rw [show pw l (mfB l n s) s e (pwK l (mfB l n s) n s e) = s from hend]
theorem fI_any {n s e : Nat} {l : List Fa} {lim : Int} (hN : NetOk n l) (hb : ∀ a ∈ l, 0 ≤ a.g ∧ a.g ≤ a.m) (hs : s < n) (he : e < n) (hse : s ≠ e) (hl : 0 ≤ lim) (k : Nat) : Any n s e l (fI l n s e lim k) ∧ 0 ≤ (fI l n s e lim k).2 ∧ (fI l n s e lim k).2 ≤ lim ∧ ((∀ j, j < k → fGo n s e lim (fI l n s e lim j) = true) → (k : Int) ≤ (fI l n s e lim k).2) := by
  induction k with
  | zero => exact ⟨⟨rfl, hb, fun v => by simp [fI]⟩, by simp [fI], by simpa [fI] using hl, fun _ => by simp [fI]⟩
  | succ k ih =>
    obtain ⟨i1, i2, i4, i3⟩ := ih
    simp only [fI]
    by_cases g : fGo n s e lim (fI l n s e lim k) = true
    · rw [if_pos g]
      have g' := g
      simp only [fGo, Bool.and_eq_true, decide_eq_true_eq] at g'
      obtain ⟨a1, a2, a3⟩ := aug_any (r0 := lim - (fI l n s e lim k).2) (net_shp i1.sh hN) i1.bnd hs he hse g'.2 (by omega)
      refine ⟨⟨a3.sh.trans i1.sh, a3.bnd, fun v => ?_⟩, by simp only; omega, by simp only; omega, fun hj => ?_⟩
      · have e1 := a3.dvs v
        have e2 := i1.dvs v
        simp only at e1 ⊢
        rw [e1, e2]
        split <;> split <;> omega
      · have := i3 fun j hj' => hj j (by omega)
        simp only; omega
    · rw [if_neg g]
      exact ⟨i1, i2, i4, fun hj => absurd (hj k (by omega)) g⟩
theorem fN_any {n s e : Nat} {l : List Fa} {lim : Int} (hN : NetOk n l) (hb : ∀ a ∈ l, 0 ≤ a.g ∧ a.g ≤ a.m) (hs : s < n) (he : e < n) (hse : s ≠ e) (hl : 0 ≤ lim) : fGo n s e lim (fI l n s e lim (fN l n s e lim)) = false := by
  have hlt : fN l n s e lim < (List.range (lim.toNat + 2)).length := by
    simp only [fN]
    refine List.findIdx_lt_length_of_exists ?_
    by_cases hex : ∃ k, k < lim.toNat + 2 ∧ fGo n s e lim (fI l n s e lim k) = false
    · obtain ⟨k, h1, h2⟩ := hex
      exact ⟨k, by simpa using h1, by simp only [h2, Bool.not_false]⟩
    · exfalso
      have hall : ∀ k, k < lim.toNat + 2 → fGo n s e lim (fI l n s e lim k) = true := fun k hk => by
        cases hc : fGo n s e lim (fI l n s e lim k)
        · exact absurd ⟨k, hk, hc⟩ hex
        · rfl
      have h1 := (fI_any (lim := lim) hN hb hs he hse hl (lim.toNat + 1)).2.2.2 fun j hj => hall j (by omega)
      have h2 := hall (lim.toNat + 1) (by omega)
      simp only [fGo, Bool.and_eq_true, decide_eq_true_eq] at h2
      omega
  have h1 : (!fGo n s e lim (fI l n s e lim ((List.range (lim.toNat + 2))[fN l n s e lim]'hlt))) = true := List.findIdx_getElem (w := hlt)
  rw [List.getElem_range hlt] at h1
  simpa using h1
/-! one way is taken out of play, and its goods go elsewhere as far as they can -/
def fa00 (a : Fa) : Fa := ⟨a.f, a.t, 0, 0⟩
def zl (k : Nat) (l : List Fa) : List Fa := (l.take k).map fa00 ++ l.drop k
theorem zl_length {k : Nat} {l : List Fa} : (zl k l).length = l.length := by simp [zl]; omega
theorem zl_arc {k : Nat} {l : List Fa} {j : Nat} (hk : k ≤ l.length) : arc (zl k l) j = if j < k then fa00 (arc l j) else arc l j := by
  simp only [arc, zl, List.getD_eq_getElem?_getD, List.getElem?_append, List.length_map, List.length_take, Nat.min_eq_left hk]
  split
  · rename_i h
    have hj : j < l.length := by omega
    simp [h, hj, List.getElem?_take]
  · rename_i h
    rw [List.getElem?_drop, show k + (j - k) = j by omega]
theorem zl_net {n k : Nat} {l : List Fa} (hN : NetOk n l) (hk : k ≤ l.length) : NetOk n (zl k l) := by
  refine ⟨fun a ha => ?_⟩
  obtain ⟨i, hi, rfl⟩ := arc_of ha
  rw [zl_length] at hi
  have := hN.rng _ (arc_mem hi)
  rw [zl_arc hk]
  split <;> exact this
theorem zl_bnd {k : Nat} {l : List Fa} (hb : ∀ a ∈ l, 0 ≤ a.g ∧ a.g ≤ a.m) (hk : k ≤ l.length) : ∀ a ∈ zl k l, 0 ≤ a.g ∧ a.g ≤ a.m := by
  intro a ha
  obtain ⟨i, hi, rfl⟩ := arc_of ha
  rw [zl_length] at hi
  have := hb _ (arc_mem hi)
  rw [zl_arc hk]
  split
  · exact ⟨Int.le_refl _, Int.le_refl _⟩
  · exact this
def dpF (n : Nat) (l : List Fa) (i : Nat) : List Fa × Int := fE (zl (i + 1) l) n (arc l i).f (arc l i).t (arc l i).g
def dpS (n : Nat) (l : List Fa) (i : Nat) : List Fa := l.take i ++ ⟨(arc l i).f, (arc l i).t, (arc l i).m, (arc l i).g - (dpF n l i).2⟩ :: (dpF n l i).1.drop (i + 1)
def dpI (n : Nat) (l : List Fa) : Nat → List Fa
  | 0 => l
  | i + 1 => dpS n (dpI n l i) i
structure DpInv (n s e : Nat) (want : Int) (l0 l : List Fa) (k : Nat) : Prop where
  fl : Flow n s e l want
  sh : shp l = shp l0
  least : ∀ i, i < k → ∀ m : List Fa, shp m = shp l0 → Flow n s e m want → (∀ j, j < i → (arc m j).g = (arc l j).g) → (arc l i).g ≤ (arc m i).g
theorem dv_range (l : List Fa) (v : Nat) : dv l v = ((List.range l.length).map fun j => dvA (arc l j) v).sum := by
  rw [dv]
  congr 1
  refine List.ext_getElem (by simp) fun j h1 h2 => ?_
  simp only [List.length_map] at h1
  simp [arc, List.getD, h1]
theorem cr_range (p : Nat → Bool) (l : List Fa) : cr p l = ((List.range l.length).map fun j => crA p (arc l j)).sum := by
  rw [cr]
  congr 1
  refine List.ext_getElem (by simp) fun j h1 h2 => ?_
  simp only [List.length_map] at h1
  simp [arc, List.getD, h1]
theorem sum_add (f g : Nat → Int) : ∀ N, ((List.range N).map fun j => f j + g j).sum = ((List.range N).map f).sum + ((List.range N).map g).sum
  | 0 => by simp
  | N + 1 => by simp only [List.range_succ, List.map_append, List.sum_append, List.map_cons, List.map_nil, List.sum_cons, List.sum_nil, sum_add f g N]; omega
theorem sum_at (i : Nat) (c : Int) : ∀ N, ((List.range N).map fun j => if j = i then c else 0).sum = if i < N then c else 0
  | 0 => by simp
  | N + 1 => by
    simp only [List.range_succ, List.map_append, List.sum_append, List.map_cons, List.map_nil, List.sum_cons, List.sum_nil, sum_at i c N]
    split <;> split <;> split <;> omega
theorem sum_congr {f g : Nat → Int} {N : Nat} (h : ∀ j, j < N → f j = g j) : ((List.range N).map f).sum = ((List.range N).map g).sum := by
  congr 1
  exact List.map_congr_left fun j hj => h j (by simpa using hj)
theorem sum_le {f g : Nat → Int} : ∀ {N : Nat}, (∀ j, j < N → f j ≤ g j) → ((List.range N).map f).sum ≤ ((List.range N).map g).sum
  | 0, _ => by simp
  | N + 1, h => by
    have ih := sum_le (N := N) fun j hj => h j (by omega)
    have := h N (by omega)
    simp only [List.range_succ, List.map_append, List.sum_append, List.map_cons, List.map_nil, List.sum_cons, List.sum_nil]
    omega
theorem dv_end {n s e : Nat} {l : List Fa} {val : Int} (h : Flow n s e l val) (hs : s < n) (he : e < n) (hse : s ≠ e) : dv l e = - val := by
  have h1 := dv_cr (p := fun _ => true) h.rng
  have h2 : cr (fun _ => true) l = 0 := by
    rw [cr]
    have : l.map (crA fun _ => true) = l.map fun _ => (0 : Int) := by
      refine List.map_congr_left fun a _ => ?_
      simp [crA]
    rw [this]
    clear h1 h this
    induction l with
    | nil => rfl
    | cons a l ih => simp only [List.map_cons, List.sum_cons, ih]; rfl
  have h3 : sumP n (fun _ => true) (dv l) = sumP n (fun _ => true) (fun v => (if s = v then val else 0) + (if e = v then dv l e else 0)) := by
    refine sumP_congr fun v hv _ => ?_
    by_cases e1 : s = v
    · subst e1; rw [if_pos rfl, if_neg (fun e2 => hse e2.symm), h.val]; omega
    · by_cases e2 : e = v
      · subst e2; rw [if_neg e1, if_pos rfl]; omega
      · rw [if_neg e1, if_neg e2, h.con v hv (Ne.symm e1) (Ne.symm e2)]; rfl
  rw [h3, sumP_add, sumP_one, sumP_one, h2] at h1
  simp only [hs, he, decide_true, Bool.and_true, if_true] at h1
  omega
theorem cr_same {n s e : Nat} {l m : List Fa} {val : Int} (h : Flow n s e l val) (h' : Flow n s e m val) (hs : s < n) (he : e < n) (hse : s ≠ e) (p : Nat → Bool) : cr p l = cr p m := by
  rw [← dv_cr h.rng, ← dv_cr h'.rng]
  refine sumP_congr fun v hv _ => ?_
  by_cases e1 : v = s
  · subst e1; rw [h.val, h'.val]
  · by_cases e2 : v = e
    · subst e2; rw [dv_end h hs he hse, dv_end h' hs he hse]
    · rw [h.con v hv e1 e2, h'.con v hv e1 e2]
section
variable {n s e : Nat} {want : Int} {l0 l : List Fa} {i : Nat}
theorem dpF_any (hN : NetOk n l0) (h : DpInv n s e want l0 l i) (hi : i < l.length) : Any n (arc l i).f (arc l i).t (zl (i + 1) l) (dpF n l i) ∧ 0 ≤ (dpF n l i).2 ∧ (dpF n l i).2 ≤ (arc l i).g ∧ ((dpF n l i).2 < (arc l i).g → seen (dpF n l i).1 n (arc l i).f (arc l i).t = false) := by
  have hNl := net_shp h.sh hN
  have hr := hNl.rng _ (arc_mem hi)
  have hb := h.fl.bnd _ (arc_mem hi)
  have hNz := zl_net hNl (show i + 1 ≤ l.length by omega)
  have hbz := zl_bnd h.fl.bnd (show i + 1 ≤ l.length by omega)
  obtain ⟨a1, a2, a3, _⟩ := fI_any (lim := (arc l i).g) hNz hbz hr.1 hr.2.1 hr.2.2 hb.1 (fN (zl (i + 1) l) n (arc l i).f (arc l i).t (arc l i).g)
  have hend := fN_any (lim := (arc l i).g) hNz hbz hr.1 hr.2.1 hr.2.2 hb.1
  refine ⟨a1, a2, a3, fun hlt => ?_⟩
  simp only [fGo, Bool.and_eq_false_iff, decide_eq_false_iff_not] at hend
  rcases hend with hh | hh
  · exact absurd hlt hh
  · exact hh
theorem dpS_arc (hN : NetOk n l0) (h : DpInv n s e want l0 l i) (hi : i < l.length) (j : Nat) : arc (dpS n l i) j = if j < i then arc l j else if j = i then ⟨(arc l i).f, (arc l i).t, (arc l i).m, (arc l i).g - (dpF n l i).2⟩ else arc (dpF n l i).1 j := by
  simp only [arc, dpS, List.getD_eq_getElem?_getD, List.getElem?_append, List.length_take, Nat.min_eq_left (Nat.le_of_lt hi)]
  split
  · rename_i h1
    simp [h1, List.getElem?_take]
  · rename_i h1
    split
    · rename_i h2; subst h2; simp
    · rename_i h2
      obtain ⟨q, rfl⟩ : ∃ q, j = i + 1 + q := ⟨j - (i + 1), by omega⟩
      rw [show i + 1 + q - i = q + 1 by omega, List.getElem?_cons_succ, List.getElem?_drop]
theorem dpS_len (hN : NetOk n l0) (h : DpInv n s e want l0 l i) (hi : i < l.length) : (dpS n l i).length = l.length := by
  have := shp_len (dpF_any hN h hi).1.sh
  rw [zl_length] at this
  simp [dpS]; omega
theorem dpS_inv (hN : NetOk n l0) (hs : s < n) (he : e < n) (hse : s ≠ e) (h : DpInv n s e want l0 l i) (hi : i < l.length) : DpInv n s e want l0 (dpS n l i) (i + 1) := by
  obtain ⟨a1, a2, a3, a4⟩ := dpF_any hN h hi
  have hA := dpS_arc hN h hi
  have hL := dpS_len hN h hi
  have hNl := net_shp h.sh hN
  have hr := hNl.rng _ (arc_mem hi)
  have hbi := h.fl.bnd _ (arc_mem hi)
  have hlz := shp_len a1.sh
  rw [zl_length] at hlz
  have hz : ∀ j, arc (zl (i + 1) l) j = if j < i + 1 then fa00 (arc l j) else arc l j := fun j => zl_arc (by omega)
  have hZ : ∀ j, (arc (dpF n l i).1 j).f = (arc l j).f ∧ (arc (dpF n l i).1 j).t = (arc l j).t ∧ (arc (dpF n l i).1 j).m = if j < i + 1 then 0 else (arc l j).m := fun j => by
    have := shp_arc a1.sh j
    rw [hz] at this
    by_cases hj : j < i + 1
    · simp only [hj, if_true, fa00] at this ⊢; exact this
    · simp only [hj, if_false] at this ⊢; exact this
  have hZb : ∀ j, j < l.length → 0 ≤ (arc (dpF n l i).1 j).g ∧ (arc (dpF n l i).1 j).g ≤ (arc (dpF n l i).1 j).m := fun j hj => a1.bnd _ (arc_mem (by omega))
  have hZ0 : ∀ j, j < i + 1 → (arc (dpF n l i).1 j).g = 0 := fun j hj => by
    have h1 := hZb j (by omega)
    have h2 := (hZ j).2.2
    rw [if_pos hj] at h2
    omega
  have hsh : shp (dpS n l i) = shp l := shp_of hL fun j hj => by
    rw [hA]
    by_cases h1 : j < i
    · rw [if_pos h1]; exact ⟨rfl, rfl, rfl⟩
    · rw [if_neg h1]
      by_cases h2 : j = i
      · subst h2; rw [if_pos rfl]; exact ⟨rfl, rfl, rfl⟩
      · rw [if_neg h2]
        have := hZ j
        rw [if_neg (by omega)] at this
        exact this
  have hbS : ∀ a ∈ dpS n l i, 0 ≤ a.g ∧ a.g ≤ a.m := by
    intro a ha
    obtain ⟨j, hj, rfl⟩ := arc_of ha
    rw [hL] at hj
    rw [hA]
    by_cases h1 : j < i
    · rw [if_pos h1]; exact h.fl.bnd _ (arc_mem hj)
    · rw [if_neg h1]
      by_cases h2 : j = i
      · rw [if_pos h2]; simp only; omega
      · rw [if_neg h2]; exact hZb j hj
  have hdv : ∀ v, dv (dpS n l i) v = dv l v := fun v => by
    have e1 : ∀ j, j < l.length → dvA (arc (dpS n l i) j) v = (dvA (arc l j) v + (dvA (arc (dpF n l i).1 j) v + - dvA (arc (zl (i + 1) l) j) v)) + (if j = i then - ((if (arc l i).f = v then (dpF n l i).2 else 0) - (if (arc l i).t = v then (dpF n l i).2 else 0)) else 0) := fun j hj => by
      rw [hA, hz]
      by_cases h1 : j < i
      · have z := hZ0 j (by omega)
        rw [if_pos h1, if_pos (by omega), if_neg (by omega)]
        simp only [dvA, z, fa00, ite_self]
        omega
      · rw [if_neg h1]
        by_cases h2 : j = i
        · subst h2
          have z := hZ0 j (by omega)
          rw [if_pos rfl, if_pos (by omega), if_pos rfl]
          simp only [dvA, z, fa00]
          split <;> split <;> split <;> split <;> omega
        · rw [if_neg h2, if_neg (by omega), if_neg h2]; omega
    have e2 : ((List.range l.length).map fun j => - dvA (arc (zl (i + 1) l) j) v).sum = - dv (zl (i + 1) l) v := by
      rw [dv_range, zl_length]
      generalize l.length = N
      induction N with
      | zero => rfl
      | succ N ih => simp only [List.range_succ, List.map_append, List.sum_append, List.map_cons, List.map_nil, List.sum_cons, List.sum_nil, ih]; omega
    rw [dv_range, hL, sum_congr e1, sum_add, sum_add, sum_add, sum_at, if_pos hi, e2, ← dv_range l]
    have e3 := dv_range (dpF n l i).1 v
    rw [hlz] at e3
    rw [← e3]
    have := a1.dvs v
    rw [this]
    split <;> split <;> omega
  have hfl : Flow n s e (dpS n l i) want := ⟨fun a ha => by
      have := (net_shp hsh hNl).rng a ha
      exact ⟨this.1, this.2.1⟩, hbS, fun v hv h1 h2 => by rw [hdv]; exact h.fl.con v hv h1 h2, by rw [hdv]; exact h.fl.val⟩
  refine ⟨hfl, hsh.trans h.sh, fun q hq m hm hmf heq => ?_⟩
  rcases Nat.lt_or_ge q i with h1 | h1
  · rw [hA, if_pos h1]
    exact h.least q h1 m hm hmf fun j hj => by rw [heq j hj, hA, if_pos (by omega)]
  · obtain rfl : q = i := by omega
    have hlm : m.length = l.length := (shp_len hm).trans (shp_len h.sh).symm
    have hmb := hmf.bnd _ (arc_mem (l := m) (i := q) (by omega))
    rw [hA, if_neg (by omega), if_pos rfl]
    simp only
    rcases Int.lt_or_le (dpF n l q).2 (arc l q).g with hlt | hle
    · have hsn := a4 hlt
      have hNz := net_shp a1.sh (zl_net hNl (show q + 1 ≤ l.length by omega))
      have hss := seen_s hNz hr.1
      have hsh2 := seen_shut hNz hr.1 a1.bnd
      generalize seen (dpF n l q).1 n (arc l q).f = p at hsn hss hsh2
      have hcr := cr_same hfl hmf hs he hse p
      rw [cr_range, cr_range, hL, hlm] at hcr
      have hle : ((List.range l.length).map fun j => crA p (arc m j)).sum ≤ ((List.range l.length).map fun j => crA p (arc (dpS n l q) j) + (if j = q then (arc m q).g - ((arc l q).g - (dpF n l q).2) else 0)).sum := by
        refine sum_le fun j hj => ?_
        have sm := shp_arc (hm.trans h.sh.symm) j
        have bm := hmf.bnd _ (arc_mem (l := m) (i := j) (by omega))
        by_cases h2 : j < q
        · rw [if_neg (by omega)]
          have := heq j h2
          have e5 := shp_arc (hm.trans (hsh.trans h.sh).symm) j
          simp only [crA, e5.1, e5.2.1, this]
          omega
        · by_cases h3 : j = q
          · subst h3
            rw [hA, if_neg (by omega), if_pos rfl, if_pos rfl]
            simp only [crA, sm.1, sm.2.1, hss, hsn, if_true, Bool.false_eq_true, if_false]
            omega
          · rw [if_neg h3, hA, if_neg h2, if_neg h3]
            have z := hZ j
            rw [if_neg (by omega)] at z
            have zs := hsh2 _ (arc_mem (l := (dpF n l q).1) (i := j) (by omega))
            rw [z.1, z.2.1, z.2.2] at zs
            simp only [crA, sm.1, sm.2.1, z.1, z.2.1]
            cases c1 : p (arc l j).f <;> cases c2 : p (arc l j).t <;> simp only [c1, c2, true_implies, Bool.false_eq_true, if_true, if_false, reduceCtorEq, false_implies, and_true, true_and] at zs ⊢ <;> omega
      rw [sum_add, sum_at, if_pos hi] at hle
      omega
    · omega
end
theorem dpI_inv {n s e : Nat} {want : Int} {l0 : List Fa} (hN : NetOk n l0) (hs : s < n) (he : e < n) (hse : s ≠ e) (h : Flow n s e l0 want) : ∀ k, k ≤ l0.length → DpInv n s e want l0 (dpI n l0 k) k
  | 0, _ => ⟨h, rfl, fun i hi => absurd hi (Nat.not_lt_zero _)⟩
  | k + 1, hk => by
    have ih := dpI_inv hN hs he hse h k (by omega)
    exact dpS_inv hN hs he hse ih (by rw [shp_len ih.sh]; omega)
theorem dpI_keep {n s e : Nat} {want : Int} {l0 : List Fa} (hN : NetOk n l0) (hs : s < n) (he : e < n) (hse : s ≠ e) (h : Flow n s e l0 want) {i : Nat} : ∀ k, i < k → k ≤ l0.length → arc (dpI n l0 k) i = arc (dpI n l0 (i + 1)) i
  | 0, h1, _ => absurd h1 (Nat.not_lt_zero _)
  | k + 1, h1, hk => by
    rcases Nat.lt_or_ge i k with h2 | h2
    · have ih := dpI_inv hN hs he hse h k (by omega)
      rw [← dpI_keep hN hs he hse h k h2 (by omega), dpI, dpS_arc hN ih (by rw [shp_len ih.sh]; omega), if_pos h2]
    · rw [show k = i by omega]
theorem dpI_least {n s e : Nat} {want : Int} {l0 : List Fa} (hN : NetOk n l0) (hs : s < n) (he : e < n) (hse : s ≠ e) (h : Flow n s e l0 want) {k i : Nat} (hk : k ≤ l0.length) (hi : i < k) {m : List Fa} (hm : shp m = shp l0) (hf : Flow n s e m want) (hle : ∀ j, j < i → (arc m j).g ≤ (arc (dpI n l0 k) j).g) : (arc (dpI n l0 k) i).g ≤ (arc m i).g := by
  have inv := dpI_inv hN hs he hse h k hk
  have key : ∀ j, j < i → (arc m j).g = (arc (dpI n l0 k) j).g := by
    intro j
    induction j using Nat.strongRecOn with
    | ind j ih =>
      intro hj
      have h1 := inv.least j (by omega) m hm hf fun q hq => ih q hq (by omega)
      have h2 := hle j hj
      omega
  exact inv.least i hi m hm hf key
end Go.Proofs.Ytiemjnkblggimaa.X
set_option maxHeartbeats 1000000
set_option maxRecDepth 8000
set_option linter.unusedSimpArgs false
set_option linter.unusedVariables false
open Nat renaming reduceBEq → N1, reduceAdd → N2, reduceSub → N3, reduceMul → N4, reduceEqDiff → N5, reduceLeDiff → N6, reduceLT → N7
open Int renaming reduceLE → I1, reduceLT → I2, reduceToNat → I3
namespace Go.Proofs.Ytiemjnkblggimaa.X
attribute [local irreducible] fE
/-! sums over places in two orders -/
def sm (N : Nat) (f : Nat → Int) : Int := ((List.range N).map f).sum
theorem sm_split (a : Nat) (f : Nat → Int) : ∀ b, sm (a + b) f = sm a f + sm b fun j => f (a + j)
  | 0 => by simp [sm]
  | b + 1 => by
    have ih := sm_split a f b
    simp only [sm] at ih ⊢
    rw [← Nat.add_assoc, List.range_succ, List.map_append, List.sum_append, ih, List.range_succ, List.map_append, List.sum_append]
    simp only [List.map_cons, List.map_nil, List.sum_cons, List.sum_nil]; omega
theorem sm_succ (N : Nat) (f : Nat → Int) : sm (N + 1) f = sm N f + f N := by
  simp only [sm, List.range_succ, List.map_append, List.sum_append, List.map_cons, List.map_nil, List.sum_cons, List.sum_nil]; omega
theorem sm_blk (w : Nat) (f : Nat → Int) : ∀ D, sm (D * w) f = sm D fun d => sm w fun k => f (d * w + k)
  | 0 => by simp [sm]
  | D + 1 => by rw [Nat.add_mul, Nat.one_mul, sm_split, sm_blk w f D, sm_succ]
theorem sm_add (f g : Nat → Int) (N : Nat) : sm N (fun j => f j + g j) = sm N f + sm N g := sum_add f g N
theorem sm_congr {f g : Nat → Int} {N : Nat} (h : ∀ j, j < N → f j = g j) : sm N f = sm N g := sum_congr h
theorem dv_sm (l : List Fa) (v : Nat) : dv l v = sm l.length fun j => dvA (arc l j) v := dv_range l v
def sgI (nl dep D i : Nat) : Nat := if i < D * nl then i / nl * (nl + dep) + i % nl else (i - D * nl) / dep * (nl + dep) + (nl + (i - D * nl) % dep)
def tgI (nl dep D x : Nat) : Nat := if x % (nl + dep) < nl then x / (nl + dep) * nl + x % (nl + dep) else D * nl + (x / (nl + dep) * dep + (x % (nl + dep) - nl))
theorem dm {w d k : Nat} (hk : k < w) : (d * w + k) / w = d ∧ (d * w + k) % w = k := by
  rw [Nat.mul_comm]
  exact ⟨by rw [Nat.mul_add_div (by omega), Nat.div_eq_of_lt hk, Nat.add_zero], by rw [Nat.mul_add_mod, Nat.mod_eq_of_lt hk]⟩
theorem blk_lt {w d k D : Nat} (hk : k < w) (hd : d < D) : d * w + k < D * w := by
  have : (d + 1) * w ≤ D * w := Nat.mul_le_mul_right _ hd
  rw [Nat.add_mul] at this; omega
section
variable {nl dep D d k : Nat}
theorem sg_l (hd : d < D) (hk : k < nl) : sgI nl dep D (d * nl + k) = d * (nl + dep) + k := by
  rw [sgI, if_pos (blk_lt hk hd), (dm hk).1, (dm hk).2]
theorem sg_s (hd : d < D) (hk : k < dep) : sgI nl dep D (D * nl + (d * dep + k)) = d * (nl + dep) + (nl + k) := by
  rw [sgI, if_neg (by omega), show D * nl + (d * dep + k) - D * nl = d * dep + k by omega, (dm hk).1, (dm hk).2]
theorem tg_l (hk : k < nl) : tgI nl dep D (d * (nl + dep) + k) = d * nl + k := by
  have h := dm (w := nl + dep) (d := d) (show k < nl + dep by omega)
  rw [tgI, h.1, h.2, if_pos hk]
theorem tg_s (hk : k < dep) : tgI nl dep D (d * (nl + dep) + (nl + k)) = D * nl + (d * dep + k) := by
  have h := dm (w := nl + dep) (d := d) (show nl + k < nl + dep by omega)
  rw [tgI, h.1, h.2, if_neg (by omega), show nl + k - nl = k by omega]
theorem sm_S (G : Nat → Int) : sm (D * (nl + dep)) G = sm D (fun d => sm nl fun k => G (d * (nl + dep) + k)) + sm D (fun d => sm dep fun k => G (d * (nl + dep) + (nl + k))) := by
  rw [sm_blk, ← sm_add]
  exact sm_congr fun d _ => sm_split nl _ dep
theorem sm_I (H : Nat → Int) : sm (D * (nl + dep)) H = sm D (fun d => sm nl fun k => H (d * nl + k)) + sm D (fun d => sm dep fun k => H (D * nl + (d * dep + k))) := by
  rw [Nat.mul_add, sm_split, sm_blk, sm_blk]
theorem sm_sg (G : Nat → Int) : sm (D * (nl + dep)) (fun i => G (sgI nl dep D i)) = sm (D * (nl + dep)) G := by
  rw [sm_I, sm_S]
  congr 1
  · exact sm_congr fun d hd => sm_congr fun k hk => by rw [sg_l hd hk]
  · exact sm_congr fun d hd => sm_congr fun k hk => by rw [sg_s hd hk]
theorem sm_tg (H : Nat → Int) : sm (D * (nl + dep)) (fun x => H (tgI nl dep D x)) = sm (D * (nl + dep)) H := by
  rw [sm_S, sm_I]
  congr 1
  · exact sm_congr fun d hd => sm_congr fun k hk => by rw [tg_l hk]
  · exact sm_congr fun d hd => sm_congr fun k hk => by rw [tg_s hk]
theorem xcase {x : Nat} (hx : x < D * (nl + dep)) : ∃ d, d < D ∧ ((∃ k, k < nl ∧ x = d * (nl + dep) + k) ∨ ∃ k, k < dep ∧ x = d * (nl + dep) + (nl + k)) := by
  have hw : 0 < nl + dep := by
    rcases Nat.eq_zero_or_pos (nl + dep) with h | h
    · rw [h] at hx; omega
    · exact h
  have h1 := Nat.div_add_mod x (nl + dep)
  have h2 := Nat.mod_lt x hw
  have h3 : x / (nl + dep) < D := Nat.div_lt_of_lt_mul (by rw [Nat.mul_comm]; exact hx)
  rw [Nat.mul_comm] at h1
  refine ⟨x / (nl + dep), h3, ?_⟩
  by_cases h : x % (nl + dep) < nl
  · exact .inl ⟨_, h, h1.symm⟩
  · exact .inr ⟨x % (nl + dep) - nl, by omega, by rw [show nl + (x % (nl + dep) - nl) = x % (nl + dep) by omega]; exact h1.symm⟩
theorem icase {i : Nat} (hi : i < D * (nl + dep)) : ∃ d, d < D ∧ ((∃ k, k < nl ∧ i = d * nl + k) ∨ ∃ k, k < dep ∧ i = D * nl + (d * dep + k)) := by
  rw [Nat.mul_add] at hi
  by_cases h : i < D * nl
  · have hn : 0 < nl := by
      rcases Nat.eq_zero_or_pos nl with e | e
      · rw [e] at h; omega
      · exact e
    have h1 := Nat.div_add_mod i nl
    rw [Nat.mul_comm] at h1
    exact ⟨i / nl, Nat.div_lt_of_lt_mul (by rw [Nat.mul_comm]; exact h), .inl ⟨_, Nat.mod_lt _ hn, h1.symm⟩⟩
  · have hn : 0 < dep := by
      rcases Nat.eq_zero_or_pos dep with e | e
      · rw [e] at hi; omega
      · exact e
    have h1 := Nat.div_add_mod' (i - D * nl) dep
    exact ⟨(i - D * nl) / dep, Nat.div_lt_of_lt_mul (by rw [Nat.mul_comm dep D]; omega), .inr ⟨_, Nat.mod_lt _ hn, by rw [h1]; omega⟩⟩
end
/-! the arcs of both networks by day -/
def blk {α : Type} (f : Nat → List α) : Nat → List α
  | 0 => []
  | D + 1 => blk f D ++ f D
theorem blk_len {α : Type} {f : Nat → List α} {w : Nat} (h : ∀ d, (f d).length = w) : ∀ D, (blk f D).length = D * w
  | 0 => by simp [blk]
  | D + 1 => by rw [blk, List.length_append, blk_len h D, h, Nat.add_mul, Nat.one_mul]
theorem blk_get {α : Type} {f : Nat → List α} {w : Nat} {a0 : α} (h : ∀ d, (f d).length = w) {d k : Nat} (hk : k < w) : ∀ {D}, d < D → (blk f D).getD (d * w + k) a0 = (f d).getD k a0
  | 0, hd => absurd hd (Nat.not_lt_zero _)
  | D + 1, hd => by
    simp only [blk, List.getD_eq_getElem?_getD]
    rcases Nat.lt_or_ge d D with h1 | h1
    · rw [List.getElem?_append_left (by rw [blk_len h]; exact blk_lt hk h1)]
      have := blk_get (a0 := a0) h hk h1
      simpa only [List.getD_eq_getElem?_getD] using this
    · obtain rfl : d = D := by omega
      rw [List.getElem?_append_right (by rw [blk_len h]; omega), blk_len h, show d * w + k - d * w = k by omega]
section
variable {L : Lanes} {F T B : Int} {D : Nat}
def laneFa (L : Lanes) (d k : Nat) : Fa := toFa (laneArc L.d d (L.ls.getD k ⟨0, 0, 0⟩))
def storeFa (F T B : Int) (L : Lanes) (d k : Nat) : Fa := toFa (storeArc F T B L.d d L.st k)
theorem lanesF (d : Nat) : ((laneArcs L d L.ls.length).map toFa).length = L.ls.length ∧ ∀ k, k < L.ls.length → ((laneArcs L d L.ls.length).map toFa).getD k fa0 = laneFa L d k := by
  refine ⟨by simp [laneArcs], fun k hk => ?_⟩
  simp [laneArcs, laneFa, List.getD, hk]
theorem storesF (d : Nat) : ((storeArcs F T B L d L.st.length).map toFa).length = L.st.length ∧ ∀ k, k < L.st.length → ((storeArcs F T B L d L.st.length).map toFa).getD k fa0 = storeFa F T B L d k := by
  refine ⟨by simp [storeArcs], fun k hk => ?_⟩
  simp [storeArcs, storeFa, List.getD, hk]
theorem blk_S : ∀ D, (arcsS F T B L D).map toFa = blk (fun d => (laneArcs L d L.ls.length).map toFa ++ (storeArcs F T B L d L.st.length).map toFa) D
  | 0 => rfl
  | D + 1 => by rw [arcsS, List.map_append, List.map_append, blk_S D, blk, List.append_assoc]
theorem blk_L : ∀ D, (arcsL L D).map toFa = blk (fun d => (laneArcs L d L.ls.length).map toFa) D
  | 0 => rfl
  | D + 1 => by rw [arcsL, List.map_append, blk_L D, blk]
theorem blk_T : ∀ D, (arcsT F T B L D).map toFa = blk (fun d => (storeArcs F T B L d L.st.length).map toFa) D
  | 0 => rfl
  | D + 1 => by rw [arcsT, List.map_append, blk_T D, blk]
theorem S_len : ((arcsS F T B L D).map toFa).length = D * (L.ls.length + L.st.length) := by
  rw [blk_S, blk_len fun d => by rw [List.length_append, (lanesF d).1, (storesF d).1]]
theorem I_len : ((arcsL L D ++ arcsT F T B L D).map toFa).length = D * (L.ls.length + L.st.length) := by
  rw [List.map_append, List.length_append, blk_L, blk_T, blk_len fun d => (lanesF d).1, blk_len fun d => (storesF d).1, Nat.mul_add]
theorem S_l {d k : Nat} (hd : d < D) (hk : k < L.ls.length) : arc ((arcsS F T B L D).map toFa) (d * (L.ls.length + L.st.length) + k) = laneFa L d k := by
  rw [arc, blk_S, blk_get (fun d => by rw [List.length_append, (lanesF d).1, (storesF d).1]) (by omega) hd, ← (lanesF d).2 k hk, List.getD_eq_getElem?_getD, List.getElem?_append_left (by rw [(lanesF d).1]; exact hk), List.getD_eq_getElem?_getD]
theorem S_s {d k : Nat} (hd : d < D) (hk : k < L.st.length) : arc ((arcsS F T B L D).map toFa) (d * (L.ls.length + L.st.length) + (L.ls.length + k)) = storeFa F T B L d k := by
  rw [arc, blk_S, blk_get (fun d => by rw [List.length_append, (lanesF d).1, (storesF d).1]) (by omega) hd, ← (storesF (F := F) (T := T) (B := B) d).2 k hk, List.getD_eq_getElem?_getD, List.getElem?_append_right (by rw [(lanesF d).1]; omega), (lanesF d).1, show L.ls.length + k - L.ls.length = k by omega, List.getD_eq_getElem?_getD]
theorem I_l {d k : Nat} (hd : d < D) (hk : k < L.ls.length) : arc ((arcsL L D ++ arcsT F T B L D).map toFa) (d * L.ls.length + k) = laneFa L d k := by
  rw [arc, List.map_append, List.getD_eq_getElem?_getD, List.getElem?_append_left (by rw [blk_L, blk_len fun d => (lanesF d).1]; exact blk_lt hk hd), ← List.getD_eq_getElem?_getD, blk_L, blk_get (fun d => (lanesF d).1) hk hd, (lanesF d).2 k hk]
theorem I_s {d k : Nat} (hd : d < D) (hk : k < L.st.length) : arc ((arcsL L D ++ arcsT F T B L D).map toFa) (D * L.ls.length + (d * L.st.length + k)) = storeFa F T B L d k := by
  rw [arc, List.map_append, List.getD_eq_getElem?_getD, List.getElem?_append_right (by rw [blk_L, blk_len fun d => (lanesF d).1]; omega), blk_L, blk_len fun d => (lanesF d).1, show D * L.ls.length + (d * L.st.length + k) - D * L.ls.length = d * L.st.length + k by omega, ← List.getD_eq_getElem?_getD, blk_T, blk_get (fun d => (storesF d).1) hk hd, (storesF d).2 k hk]
end
section
variable {L : Lanes} {F T D : Nat}
abbrev nlN (L : Lanes) : Nat := L.ls.length
abbrev wN (L : Lanes) (D : Nat) : Nat := D * (L.ls.length + L.st.length)
abbrev sgL (L : Lanes) (D i : Nat) : Nat := sgI L.ls.length L.st.length D i
abbrev tgL (L : Lanes) (D x : Nat) : Nat := tgI L.ls.length L.st.length D x
structure Pr (L : Lanes) (F T D x i : Nat) : Prop where
  xl : x < wN L D
  il : i < wN L D
  sg : sgL L D i = x
  tg : tgL L D x = i
  f : (arc (iN L F T D) i).f = (arc (sN L F T D) x).f
  t : (arc (iN L F T D) i).t = (arc (sN L F T D) x).t
  m : (arc (sN L F T D) x).m ≤ (arc (iN L F T D) i).m
  m2 : (arc (iN L F T D) i).m = (arc (sN L F T D) x).m ∨ (arc (sN L F T D) x).m = 1000000
theorem pr_l {d k : Nat} (hd : d < D) (hk : k < L.ls.length) : Pr L F T D (d * (L.ls.length + L.st.length) + k) (d * L.ls.length + k) := by
  have e1 := S_l (L := L) (F := F) (T := T) (B := 1000000) hd hk
  have e2 := I_l (L := L) (F := F) (T := T) (B := 1000000000) hd hk
  refine ⟨blk_lt (by omega) hd, ?_, sg_l hd hk, tg_l hk, ?_, ?_, ?_, ?_⟩
  · have := blk_lt hk hd
    rw [wN, Nat.mul_add]; omega
  all_goals rw [iN, sN, e1, e2]
  · exact Int.le_refl _
  · exact .inl rfl
theorem pr_s {d k : Nat} (hL : LOk L) (hd : d < D) (hk : k < L.st.length) : Pr L F T D (d * (L.ls.length + L.st.length) + (L.ls.length + k)) (D * L.ls.length + (d * L.st.length + k)) := by
  have e1 := S_s (L := L) (F := F) (T := T) (B := 1000000) hd hk
  have e2 := I_s (L := L) (F := F) (T := T) (B := 1000000000) hd hk
  refine ⟨blk_lt (by omega) hd, ?_, sg_s hd hk, tg_s hk, ?_, ?_, ?_, ?_⟩
  · have := blk_lt hk hd
    rw [wN, Nat.mul_add]; omega
  all_goals rw [iN, sN, e1, e2]
  · rfl
  · rfl
  · simp only [storeFa, toFa, storeArc]
    split <;> omega
  · simp only [storeFa, toFa, storeArc]
    split
    · exact .inr rfl
    · exact .inl rfl
theorem pr_x (hL : LOk L) {x : Nat} (hx : x < wN L D) : Pr L F T D x (tgL L D x) := by
  obtain ⟨d, hd, ⟨k, hk, rfl⟩ | ⟨k, hk, rfl⟩⟩ := xcase hx
  · have := pr_l (F := F) (T := T) hd hk; rw [this.tg]; exact this
  · have := pr_s (F := F) (T := T) hL hd hk; rw [this.tg]; exact this
theorem pr_i (hL : LOk L) {i : Nat} (hi : i < wN L D) : Pr L F T D (sgL L D i) i := by
  obtain ⟨d, hd, ⟨k, hk, rfl⟩ | ⟨k, hk, rfl⟩⟩ := icase hi
  · have := pr_l (F := F) (T := T) hd hk; rw [this.sg]; exact this
  · have := pr_s (F := F) (T := T) hL hd hk; rw [this.sg]; exact this
theorem val_bnd (h : lanesOk L = true) (hF : F < L.d.toNat) {l : List Fa} {val : Int} (hsh : shp l = shp (iN L F T D)) (hf : Flow (nN L D) F (eN L T D) l val) {i : Nat} (hi : i < l.length) : (arc l i).g ≤ val := by
  have oI := arcsI_AOk h (F := F) (T := T) (B := 1000000000) (by omega) D
  have ha : ∀ j, j < l.length → ∃ d x y, d < D ∧ x < L.d.toNat ∧ y < L.d.toNat ∧ (arc l j).f = d * L.d.toNat + x ∧ (arc l j).t = (d + 1) * L.d.toNat + y := fun j hj => by
    have e := shp_arc hsh j
    have hm := arc_mem (l := iN L F T D) (i := j) (by rw [← shp_len hsh]; exact hj)
    obtain ⟨b, hb, eb⟩ := List.mem_map.1 hm
    obtain ⟨d, x, y, h1, h2, h3, h4, h5, _⟩ := oI b hb
    refine ⟨d, x, y, h1, h2, h3, ?_, ?_⟩
    · rw [e.1, ← eb, toFa]; simp only; omega
    · rw [e.2.1, ← eb, toFa]; simp only; omega
  obtain ⟨d, x, y, h1, h2, h3, h4, h5⟩ := ha i hi
  have hs : F < nN L D := by
    have : 1 * L.d.toNat ≤ (D + 1) * L.d.toNat := Nat.mul_le_mul_right _ (by omega)
    simp only [nN]; omega
  have hd1 : (d + 1) * L.d.toNat ≤ D * L.d.toNat := Nat.mul_le_mul_right _ h1
  have hd0 : 1 * L.d.toNat ≤ (d + 1) * L.d.toNat := Nat.mul_le_mul_right _ (by omega)
  have hcr := flow_cr hf (p := fun v => decide (v < (d + 1) * L.d.toNat)) hs (decide_eq_true (by omega)) (decide_eq_false (by simp only [eN]; omega))
  rw [cr_range] at hcr
  have hle : ((List.range l.length).map fun j => if j = i then (arc l i).g else 0).sum ≤ ((List.range l.length).map fun j => crA (fun v => decide (v < (d + 1) * L.d.toNat)) (arc l j)).sum := by
    refine sum_le fun j hj => ?_
    have bj := hf.bnd _ (arc_mem hj)
    by_cases hji : j = i
    · subst hji
      have q1 : (arc l j).f < (d + 1) * L.d.toNat := by rw [h4, Nat.add_mul]; omega
      have q2 : ¬ (arc l j).t < (d + 1) * L.d.toNat := by omega
      simp only [if_pos, crA, decide_eq_true q1, decide_eq_false q2, if_true, Bool.false_eq_true, if_false]; omega
    · rw [if_neg hji]
      obtain ⟨d', x', y', g1, g2, g3, g4, g5⟩ := ha j hj
      simp only [crA]
      by_cases q : (arc l j).t < (d + 1) * L.d.toNat
      · have q1 : (arc l j).f < (d + 1) * L.d.toNat := by rw [g5] at q; rw [g4]; rw [Nat.add_mul] at q; omega
        simp only [decide_eq_true q1, decide_eq_true q, if_true]; omega
      · simp only [decide_eq_false q, Bool.false_eq_true, if_false]
        split <;> omega
  rw [sum_at, if_pos hi, hcr] at hle
  exact hle
def cpN (l : List Fa) (c : List Int) (k : Nat) : List Fa := (List.range l.length).map fun x => ⟨(arc l x).f, (arc l x).t, if x < k ∧ 0 ≤ c.getD x 0 then min (arc l x).m (c.getD x 0) else (arc l x).m, (arc l x).g⟩
theorem map_arc {f : Nat → Fa} {N x : Nat} (hx : x < N) : arc ((List.range N).map f) x = f x := by
  simp [arc, List.getD, hx]
end
theorem cap_range (p : Nat → Bool) (l : List Fa) : cap p l = ((List.range l.length).map fun j => capA p (arc l j)).sum := by
  rw [cap]
  congr 1
  refine List.ext_getElem (by simp) fun j h1 h2 => ?_
  simp only [List.length_map] at h1
  simp [arc, List.getD, h1]
theorem p0_cut {L : Lanes} (h : lanesOk L = true) {F T D : Nat} (hF : F < L.d.toNat) (hT : T < L.d.toNat) (hFT : F ≠ T) (hD : D ≤ 6) : p0 L T F = true ∧ p0 L T (eN L T D) = false ∧ cap (p0 L T) (sN L F T D) ≤ 126000 ∧ cap (p0 L T) (iN L F T D) ≤ 126000 := by
  have hL := lanesOk_LOk h
  have q1 : p0 L T F = true := by
    have := p0_at (L := L) (T := T) (d := 0) hF
    rw [Nat.zero_mul, Nat.zero_add] at this
    rw [this]; simp [hFT]
  have q2 : p0 L T (eN L T D) = false := by
    rw [eN, p0_at hT]; simp
  have cS' : ∀ p, cap p (sN L F T D) = xC p F T L D + 1000000 * yC p F T L D := fun p => cap_S (p := p) (F := F) (T := T) (B := 1000000) hL D
  have cI' : ∀ p, cap p (iN L F T D) = xC p F T L D + 1000000000 * yC p F T L D := fun p => by
    rw [iN, List.map_append, cap_app]; exact cap_I (p := p) (F := F) (T := T) (B := 1000000000) hL D
  have xb := xC_bnd (p := p0 L T) (F := F) (T := T) hL D
  have y0 := yC_p0 (F := F) (T := T) hL D
  exact ⟨q1, q2, by rw [cS', y0]; omega, by rw [cI', y0]; omega⟩
theorem sm_zero (N : Nat) : sm N (fun _ => 0) = 0 := by
  induction N with
  | zero => rfl
  | succ N ih => rw [sm_succ, ih]; rfl
theorem map_shp {f : Nat → Fa} {l : List Fa} (h : ∀ x, x < l.length → (f x).f = (arc l x).f ∧ (f x).t = (arc l x).t ∧ (f x).m = (arc l x).m) : shp ((List.range l.length).map f) = shp l :=
  shp_of (by simp) fun i hi => by rw [map_arc hi]; exact h i hi
theorem plan_least {lim lim' : Int} (m1 : 126000 < lim) (m2 : 126000 < lim') {L : Lanes} (h : lanesOk L = true) {F T D : Nat} (hF : F < L.d.toNat) (hT : T < L.d.toNat) (hFT : F ≠ T) (hD : D ≤ 6)
    {x k : Nat} (hx : x < wN L D) (hk : x % (L.ls.length + L.st.length) < L.ls.length) (c : List Int) {C : Int} (hC : 0 ≤ C)
    (c1 : ∀ y, y < x → y % (L.ls.length + L.st.length) < L.ls.length → c.getD y 0 = (arc (dpI (nN L D) (fE (iN L F T D) (nN L D) F (eN L T D) lim').1 (D * L.ls.length)) (tgL L D y)).g)
    (c2 : c.getD x 0 = C) (c3 : ∀ y, y < wN L D → y ≠ x → ¬ (y < x ∧ y % (L.ls.length + L.st.length) < L.ls.length) → c.getD y 0 = -1) :
    (Flow (nN L D) F (eN L T D) (cpN (sN L F T D) c (wN L D)) 0 ∧ NetOk (nN L D) (cpN (sN L F T D) c (wN L D)) ∧ (fE (cpN (sN L F T D) c (wN L D)) (nN L D) F (eN L T D) lim).2 < lim) ∧
    decide (gvL lim L F T D ≤ (fE (cpN (sN L F T D) c (wN L D)) (nN L D) F (eN L T D) lim).2) = decide ((arc (dpI (nN L D) (fE (iN L F T D) (nN L D) F (eN L T D) lim').1 (D * L.ls.length)) (tgL L D x)).g ≤ C) := by
  have hL := lanesOk_LOk h
  have X := deliv (lim := lim) (lim' := lim') m1 m2 h hF hT hFT hD
  obtain ⟨q1, q2, k1, k2⟩ := p0_cut (D := D) h hF hT hFT hD
  obtain ⟨b1, b2, b3, b4, b5⟩ := fE_ok (lim := lim') X.nI X.fI X.s X.e X.ne q1 q2 k2 m2
  rw [X.vI] at b1 b5
  have lS : (sN L F T D).length = wN L D := S_len
  have lI : (iN L F T D).length = wN L D := I_len
  have g0 : ∀ y, (arc (sN L F T D) y).g = 0 := fun y => by
    by_cases hy : y < (sN L F T D).length
    · obtain ⟨b, hb, eb⟩ := List.mem_map.1 (arc_mem hy)
      exact (congrArg Fa.g eb).symm
    · simp [arc, List.getD, List.getElem?_eq_none (Nat.le_of_not_lt hy), fa0]
  have cA : ∀ y, y < wN L D → arc (cpN (sN L F T D) c (wN L D)) y = ⟨(arc (sN L F T D) y).f, (arc (sN L F T D) y).t, if y < wN L D ∧ 0 ≤ c.getD y 0 then min (arc (sN L F T D) y).m (c.getD y 0) else (arc (sN L F T D) y).m, 0⟩ := fun y hy => by
    rw [cpN, map_arc (by omega), g0]
  have cL : (cpN (sN L F T D) c (wN L D)).length = wN L D := by simp [cpN, lS]
  have cm : ∀ y, y < wN L D → 0 ≤ (arc (cpN (sN L F T D) c (wN L D)) y).m ∧ (arc (cpN (sN L F T D) c (wN L D)) y).m ≤ (arc (sN L F T D) y).m ∧ (0 ≤ c.getD y 0 → (arc (cpN (sN L F T D) c (wN L D)) y).m ≤ c.getD y 0) := fun y hy => by
    have hm := X.fS.bnd _ (arc_mem (l := sN L F T D) (i := y) (by omega))
    rw [cA y hy]
    simp only
    split
    · omega
    · omega
  have cf : ∀ y, y < wN L D → (arc (cpN (sN L F T D) c (wN L D)) y).f = (arc (sN L F T D) y).f ∧ (arc (cpN (sN L F T D) c (wN L D)) y).t = (arc (sN L F T D) y).t := fun y hy => by rw [cA y hy]; exact ⟨rfl, rfl⟩
  have cmw : ∀ y, y < wN L D → (arc (cpN (sN L F T D) c (wN L D)) y).m = if 0 ≤ c.getD y 0 then min (arc (sN L F T D) y).m (c.getD y 0) else (arc (sN L F T D) y).m := fun y hy => by rw [cA y hy]; simp only [hy, true_and]
  have cg : ∀ y, y < wN L D → (arc (cpN (sN L F T D) c (wN L D)) y).g = 0 := fun y hy => by rw [cA y hy]
  clear cA
  generalize cpN (sN L F T D) c (wN L D) = cN at *
  have nC : NetOk (nN L D) cN := ⟨fun a ha => by
    obtain ⟨y, hy, rfl⟩ := arc_of ha
    rw [cL] at hy
    rw [(cf y hy).1, (cf y hy).2]
    exact X.nS.rng _ (arc_mem (by omega))⟩
  have fC : Flow (nN L D) F (eN L T D) cN 0 := by
    have hz : ∀ v, dv cN v = 0 := fun v => by
      rw [dv_sm, cL, ← sm_zero (wN L D)]
      refine sm_congr fun y hy => ?_
      simp only [dvA, cg y hy, ite_self]; rfl
    refine ⟨fun a ha => ?_, fun a ha => ?_, fun v _ _ _ => hz v, hz _⟩
    · have := nC.rng a ha; exact ⟨this.1, this.2.1⟩
    · obtain ⟨y, hy, rfl⟩ := arc_of ha
      rw [cL] at hy
      rw [cg y hy]
      have := (cm y hy).1; omega
  have kC : cap (p0 L T) cN ≤ 126000 := by
    refine Int.le_trans ?_ k1
    rw [cap_range, cap_range, cL, lS]
    refine sum_le fun y hy => ?_
    have := (cm y hy).2.1
    simp only [capA, (cf y hy).1, (cf y hy).2]
    split <;> omega
  obtain ⟨a1, a2, a3, a4, a5⟩ := fE_ok (lim := lim) nC fC X.s X.e X.ne q1 q2 kC m1
  refine ⟨⟨fC, nC, by omega⟩, ?_⟩
  have hN0 : NetOk (nN L D) (fE (iN L F T D) (nN L D) F (eN L T D) lim').1 := net_shp b2 X.nI
  have l0 : (fE (iN L F T D) (nN L D) F (eN L T D) lim').1.length = wN L D := (shp_len b2).trans lI
  have hkl : D * L.ls.length ≤ wN L D := by rw [wN, Nat.mul_add]; omega
  have inv := dpI_inv hN0 X.s X.e X.ne b1 (D * L.ls.length) (by omega)
  have hleast := fun {i : Nat} (hi : i < D * L.ls.length) {m : List Fa} hm hf hle => dpI_least hN0 X.s X.e X.ne b1 (k := D * L.ls.length) (i := i) (m := m) (by omega) hi hm hf hle
  have shst := inv.sh.trans b2
  have flst := inv.fl
  clear inv
  generalize (fE (iN L F T D) (nN L D) F (eN L T D) lim').1 = L0 at *
  generalize dpI (nN L D) L0 (D * L.ls.length) = st at *
  have lst : st.length = wN L D := (shp_len shst).trans lI
  have wv := X.vS
  have gst : ∀ i, i < wN L D → 0 ≤ (arc st i).g ∧ (arc st i).g ≤ (arc (iN L F T D) i).m ∧ (arc st i).g ≤ 126000 ∧ (arc st i).f = (arc (iN L F T D) i).f ∧ (arc st i).t = (arc (iN L F T D) i).t := fun i hi => by
    have h1 := flst.bnd _ (arc_mem (l := st) (i := i) (by omega))
    have h2 := shp_arc shst i
    have h3 := val_bnd h hF shst flst (i := i) (by omega)
    exact ⟨h1.1, by rw [← h2.2.2]; exact h1.2, by omega, h2.1, h2.2.1⟩
  have hxl : ∃ d k, d < D ∧ k < L.ls.length ∧ x = d * (L.ls.length + L.st.length) + k ∧ tgL L D x = d * L.ls.length + k := by
    obtain ⟨d, hd, ⟨k, hk', rfl⟩ | ⟨k, hk', rfl⟩⟩ := xcase hx
    · exact ⟨d, k, hd, hk', rfl, tg_l hk'⟩
    · rw [(dm (show L.ls.length + k < L.ls.length + L.st.length by omega)).2] at hk; omega
  obtain ⟨d, k, hd, hkn, ex, et⟩ := hxl
  rw [decide_eq_decide]
  constructor
  · intro hwV
    have shm : shp ((List.range (iN L F T D).length).map fun i => (⟨(arc (iN L F T D) i).f, (arc (iN L F T D) i).t, (arc (iN L F T D) i).m, (arc (fE cN (nN L D) F (eN L T D) lim).1 (sgL L D i)).g⟩ : Fa)) = shp (iN L F T D) := map_shp fun y _ => ⟨rfl, rfl, rfl⟩
    have hlf := (shp_len a2).trans cL
    have gf : ∀ y, y < wN L D → 0 ≤ (arc (fE cN (nN L D) F (eN L T D) lim).1 y).g ∧ (arc (fE cN (nN L D) F (eN L T D) lim).1 y).g ≤ (arc cN y).m ∧ (arc (fE cN (nN L D) F (eN L T D) lim).1 y).f = (arc (sN L F T D) y).f ∧ (arc (fE cN (nN L D) F (eN L T D) lim).1 y).t = (arc (sN L F T D) y).t := fun y hy => by
      have h1 := a1.bnd _ (arc_mem (l := (fE cN (nN L D) F (eN L T D) lim).1) (i := y) (by omega))
      have h2 := shp_arc a2 y
      rw [h2.2.2] at h1
      exact ⟨h1.1, h1.2, h2.1.trans (cf y hy).1, h2.2.1.trans (cf y hy).2⟩
    have hmA : ∀ i, i < wN L D → arc ((List.range (iN L F T D).length).map fun i => (⟨(arc (iN L F T D) i).f, (arc (iN L F T D) i).t, (arc (iN L F T D) i).m, (arc (fE cN (nN L D) F (eN L T D) lim).1 (sgL L D i)).g⟩ : Fa)) i = ⟨(arc (iN L F T D) i).f, (arc (iN L F T D) i).t, (arc (iN L F T D) i).m, (arc (fE cN (nN L D) F (eN L T D) lim).1 (sgL L D i)).g⟩ := fun i hi => map_arc (by omega)
    have hml := shp_len shm
    generalize ((List.range (iN L F T D).length).map fun i => (⟨(arc (iN L F T D) i).f, (arc (iN L F T D) i).t, (arc (iN L F T D) i).m, (arc (fE cN (nN L D) F (eN L T D) lim).1 (sgL L D i)).g⟩ : Fa)) = m at shm hmA hml
    have fm : Flow (nN L D) F (eN L T D) m (fE cN (nN L D) F (eN L T D) lim).2 := by
      have hdv : ∀ v, dv m v = dv (fE cN (nN L D) F (eN L T D) lim).1 v := fun v => by
        rw [dv_sm, dv_sm, hlf, hml, lI]
        refine Eq.trans (sm_congr fun i hi => ?_) (sm_sg (nl := L.ls.length) (dep := L.st.length) (D := D) fun y => dvA (arc (fE cN (nN L D) F (eN L T D) lim).1 y) v)
        have P := pr_i (F := F) (T := T) hL hi
        have := gf _ P.xl
        rw [hmA i hi]
        simp only [dvA, P.f, P.t, this.2.2.1, this.2.2.2]
      refine ⟨fun a ha => ?_, fun a ha => ?_, fun v hv h1 h2 => by rw [hdv]; exact a1.con v hv h1 h2, by rw [hdv]; exact a1.val⟩
      · have := (net_shp shm X.nI).rng a ha; exact ⟨this.1, this.2.1⟩
      · obtain ⟨i, hi, rfl⟩ := arc_of ha
        rw [hml, lI] at hi
        have P := pr_i (F := F) (T := T) hL hi
        have h1 := gf _ P.xl
        have h2 := cm _ P.xl
        have h3 := P.m
        rw [hmA i hi]
        simp only; omega
    have hVw := flow_le fm (p := seen L0 (nN L D) F) X.s (seen_s hN0 X.s) b4
    rw [cap_shp shm] at hVw
    have hVe : (fE cN (nN L D) F (eN L T D) lim).2 = gvL lim L F T D := by omega
    rw [hVe] at fm
    have hfin := hleast (i := tgL L D x) (by rw [et]; exact blk_lt hkn hd) (m := m) (shm.trans b2.symm) fm fun j hj => ?_
    · have P := pr_l (L := L) (F := F) (T := T) hd hkn
      rw [et] at hfin ⊢
      have h1 := gf _ P.xl
      have h2 := cm _ P.xl
      have h4 : sgL L D (d * L.ls.length + k) = d * (L.ls.length + L.st.length) + k := P.sg
      rw [hmA _ P.il] at hfin
      simp only [h4] at hfin
      rw [← ex] at h1 h2 hfin
      rw [c2] at h2
      have := h2.2.2 hC
      omega
    · rw [et] at hj
      have hjl : j < D * L.ls.length := Nat.lt_trans hj (blk_lt hkn hd)
      have hnl : 0 < L.ls.length := by omega
      have hdec := Nat.div_add_mod' j L.ls.length
      have hmod := Nat.mod_lt j hnl
      have hdj : j / L.ls.length < D := Nat.div_lt_of_lt_mul (by rw [Nat.mul_comm]; exact hjl)
      have P := pr_l (L := L) (F := F) (T := T) hdj hmod
      rw [hdec] at P
      have hyx : j / L.ls.length * (L.ls.length + L.st.length) + j % L.ls.length < x := by
        rw [ex]
        rcases Nat.lt_or_ge (j / L.ls.length) d with h1 | h1
        · have := blk_lt (w := L.ls.length + L.st.length) (k := j % L.ls.length) (by omega) h1
          omega
        · have h2 : ¬ d < j / L.ls.length := fun h2 => by
            have := blk_lt hkn h2
            omega
          have h3 : j / L.ls.length = d := by omega
          rw [h3] at hdec ⊢
          omega
      have hcy := c1 _ hyx (by rw [(dm (show j % L.ls.length < L.ls.length + L.st.length by omega)).2]; exact hmod)
      have hsgj : sgL L D j = j / L.ls.length * (L.ls.length + L.st.length) + j % L.ls.length := P.sg
      rw [P.tg] at hcy
      have h1 := gf _ P.xl
      have h2 := cm _ P.xl
      have h3 := gst j P.il
      rw [hmA _ P.il]
      simp only [hsgj]
      rw [hcy] at h2
      have := h2.2.2 h3.1
      omega
  · intro hvC
    have shG : shp ((List.range cN.length).map fun y => (⟨(arc cN y).f, (arc cN y).t, (arc cN y).m, (arc st (tgL L D y)).g⟩ : Fa)) = shp cN := map_shp fun y _ => ⟨rfl, rfl, rfl⟩
    have hGA : ∀ y, y < wN L D → arc ((List.range cN.length).map fun y => (⟨(arc cN y).f, (arc cN y).t, (arc cN y).m, (arc st (tgL L D y)).g⟩ : Fa)) y = ⟨(arc cN y).f, (arc cN y).t, (arc cN y).m, (arc st (tgL L D y)).g⟩ := fun y hy => map_arc (by omega)
    have hGl := shp_len shG
    generalize ((List.range cN.length).map fun y => (⟨(arc cN y).f, (arc cN y).t, (arc cN y).m, (arc st (tgL L D y)).g⟩ : Fa)) = G at shG hGA hGl
    have fG : Flow (nN L D) F (eN L T D) G (gvL lim L F T D) := by
      have hdv : ∀ v, dv G v = dv st v := fun v => by
        rw [dv_sm, dv_sm, hGl, cL, lst]
        refine Eq.trans (sm_congr fun y hy => ?_) (sm_tg (nl := L.ls.length) (dep := L.st.length) (D := D) fun i => dvA (arc st i) v)
        have P := pr_x (F := F) (T := T) hL hy
        have := gst _ P.il
        rw [hGA y hy]
        simp only [dvA, (cf y hy).1, (cf y hy).2, this.2.2.2.1, this.2.2.2.2, P.f, P.t]
      refine ⟨fun a ha => ?_, fun a ha => ?_, fun v hv h1 h2 => by rw [hdv]; exact flst.con v hv h1 h2, by rw [hdv]; exact flst.val⟩
      · have := (net_shp shG nC).rng a ha; exact ⟨this.1, this.2.1⟩
      · obtain ⟨y, hy, rfl⟩ := arc_of ha
        rw [hGl, cL] at hy
        have P := pr_x (F := F) (T := T) hL hy
        have h1 := gst _ P.il
        have h2 := cmw y hy
        have hb : (arc st (tgL L D y)).g ≤ (arc (sN L F T D) y).m := by
          rcases P.m2 with e1 | e1 <;> omega
        rw [hGA y hy]
        simp only
        refine ⟨h1.1, ?_⟩
        rw [h2]
        by_cases hc0 : 0 ≤ c.getD y 0
        · rw [if_pos hc0]
          have hcy : (arc st (tgL L D y)).g ≤ c.getD y 0 := by
            by_cases e1 : y = x
            · subst e1; rw [c2]; exact hvC
            · by_cases e2 : y < x ∧ y % (L.ls.length + L.st.length) < L.ls.length
              · rw [c1 y e2.1 e2.2]; exact Int.le_refl _
              · have := c3 y hy e1 e2; omega
          omega
        · rw [if_neg hc0]; exact hb
    have := flow_le fG (p := seen (fE cN (nN L D) F (eN L T D) lim).1 (nN L D) F) X.s (seen_s (net_shp a2 nC) X.s) a4
    rw [cap_shp shG] at this
    omega
end Go.Proofs.Ytiemjnkblggimaa.X
