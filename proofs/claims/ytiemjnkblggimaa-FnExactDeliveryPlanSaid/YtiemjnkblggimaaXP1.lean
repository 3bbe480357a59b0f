/- A part of the proof: lemmas on the machine or on the functions that the law reaches. No condition of its own. -/
import Derived.Test.YtiemjnkblggimaaXM5
set_option maxRecDepth 8000
set_option linter.unusedSimpArgs false
set_option linter.unusedVariables false
open Nat renaming reduceBEq → N1, reduceAdd → N2, reduceSub → N3, reduceMul → N4, reduceEqDiff → N5, reduceLeDiff → N6, reduceLT → N7
open Int renaming reduceLE → I1, reduceLT → I2, reduceToNat → I3
namespace Go.Proofs.Ytiemjnkblggimaa.X
theorem mgetD_set (l : List Int) (i j : Nat) (v d : Int) (h : i < l.length) : (l.set i v).getD j d = if i = j then v else l.getD j d := by
  simp only [List.getD, List.getElem?_set]
  split
  · simp only [h, if_true, Option.getD_some]
  · rfl
structure Fa where
  f : Nat
  t : Nat
  m : Int
  g : Int
  deriving DecidableEq
def dvA (a : Fa) (v : Nat) : Int := (if a.f = v then a.g else 0) - (if a.t = v then a.g else 0)
def dv (l : List Fa) (v : Nat) : Int := (l.map fun a => dvA a v).sum
def crA (p : Nat → Bool) (a : Fa) : Int := (if p a.f then a.g else 0) - (if p a.t then a.g else 0)
def cr (p : Nat → Bool) (l : List Fa) : Int := (l.map (crA p)).sum
def capA (p : Nat → Bool) (a : Fa) : Int := if p a.f && !p a.t then a.m else 0
def cap (p : Nat → Bool) (l : List Fa) : Int := (l.map (capA p)).sum
def sumP (n : Nat) (p : Nat → Bool) (h : Nat → Int) : Int := ((List.range n).map fun v => if p v then h v else 0).sum
theorem sumP_succ (n : Nat) (p : Nat → Bool) (h : Nat → Int) : sumP (n + 1) p h = sumP n p h + if p n then h n else 0 := by
  simp [sumP, List.range_succ, List.sum_append]
theorem sumP_add (n : Nat) (p : Nat → Bool) (h k : Nat → Int) : sumP n p (fun v => h v + k v) = sumP n p h + sumP n p k := by
  induction n with
  | zero => simp [sumP]
  | succ n ih => rw [sumP_succ, sumP_succ, sumP_succ, ih]; split <;> omega
theorem sumP_zero (n : Nat) (p : Nat → Bool) : sumP n p (fun _ => 0) = 0 := by
  induction n with
  | zero => simp [sumP]
  | succ n ih => rw [sumP_succ, ih]; split <;> rfl
theorem sumP_one (n : Nat) (p : Nat → Bool) (w : Nat) (c : Int) : sumP n p (fun v => if w = v then c else 0) = if p w && decide (w < n) then c else 0 := by
  induction n with
  | zero => simp [sumP]
  | succ n ih =>
    rw [sumP_succ, ih]
    by_cases h : w = n
    · subst h
      cases hp : p w <;> simp [hp]
    · have e : decide (w < n + 1) = decide (w < n) := by rw [Bool.eq_iff_iff, decide_eq_true_eq, decide_eq_true_eq]; omega
      rw [e, if_neg h]
      split <;> split <;> omega
theorem sumP_neg (n : Nat) (p : Nat → Bool) (h : Nat → Int) : sumP n p (fun v => - h v) = - sumP n p h := by
  induction n with
  | zero => simp [sumP]
  | succ n ih => rw [sumP_succ, sumP_succ, ih]; split <;> omega
theorem sumP_congr {n : Nat} {p : Nat → Bool} {h k : Nat → Int} (e : ∀ v, v < n → p v = true → h v = k v) : sumP n p h = sumP n p k := by
  induction n with
  | zero => rfl
  | succ n ih =>
    rw [sumP_succ, sumP_succ, ih fun v hv => e v (by omega)]
    split
    · rename_i hp; rw [e n (by omega) hp]
    · rfl
theorem dv_cr {n : Nat} {p : Nat → Bool} : ∀ {l : List Fa}, (∀ a ∈ l, a.f < n ∧ a.t < n) → sumP n p (dv l) = cr p l
  | [], _ => by
    have e : dv [] = fun _ => (0 : Int) := by funext v; simp [dv]
    rw [e, sumP_zero]; simp [cr]
  | a :: l, h => by
    have ih := dv_cr (n := n) (p := p) (l := l) fun b hb => h b (by simp [hb])
    have ha := h a (by simp)
    have e : dv (a :: l) = fun v => dvA a v + dv l v := by funext v; simp [dv]
    rw [e, sumP_add, ih]
    have e2 : dvA a = fun v => (if a.f = v then a.g else 0) + (- (if a.t = v then a.g else 0)) := by funext v; simp only [dvA]; omega
    rw [e2, sumP_add, sumP_neg, sumP_one, sumP_one]
    simp only [cr, List.map_cons, List.sum_cons, crA, decide_eq_true ha.1, decide_eq_true ha.2, Bool.and_true]
    omega
structure Flow (n s e : Nat) (l : List Fa) (val : Int) : Prop where
  rng : ∀ a ∈ l, a.f < n ∧ a.t < n
  bnd : ∀ a ∈ l, 0 ≤ a.g ∧ a.g ≤ a.m
  con : ∀ v, v < n → v ≠ s → v ≠ e → dv l v = 0
  val : dv l s = val
theorem flow_cr {n s e : Nat} {l : List Fa} {val : Int} (h : Flow n s e l val) {p : Nat → Bool} (hs : s < n) (ps : p s = true) (pe : p e = false) : cr p l = val := by
  rw [← dv_cr h.rng]
  have e1 : sumP n p (dv l) = sumP n p (fun v => if s = v then val else 0) := by
    refine sumP_congr fun v hv hp => ?_
    by_cases hvs : s = v
    · subst hvs; rw [if_pos rfl]; exact h.val
    · rw [if_neg hvs]
      refine h.con v hv (Ne.symm hvs) fun hve => ?_
      subst hve; rw [pe] at hp; cases hp
  rw [e1, sumP_one, ps, decide_eq_true hs]; rfl
theorem cr_le_cap {p : Nat → Bool} : ∀ {l : List Fa}, (∀ a ∈ l, 0 ≤ a.g ∧ a.g ≤ a.m) → cr p l ≤ cap p l
  | [], _ => by simp [cr, cap]
  | a :: l, h => by
    have ih := cr_le_cap (p := p) (l := l) fun b hb => h b (by simp [hb])
    have ha := h a (by simp)
    simp only [cr, cap, List.map_cons, List.sum_cons] at ih ⊢
    have : crA p a ≤ capA p a := by
      simp only [crA, capA]
      cases p a.f <;> cases p a.t <;> simp <;> omega
    omega
theorem flow_le {n s e : Nat} {l : List Fa} {val : Int} (h : Flow n s e l val) {p : Nat → Bool} (hs : s < n) (ps : p s = true) (pe : p e = false) : val ≤ cap p l := by
  rw [← flow_cr h hs ps pe]; exact cr_le_cap h.bnd
def Shut (p : Nat → Bool) (l : List Fa) : Prop := ∀ a ∈ l, (p a.f = true → p a.t = false → a.g = a.m) ∧ (p a.t = true → p a.f = false → a.g = 0)
theorem shut_cr {p : Nat → Bool} : ∀ {l : List Fa}, Shut p l → cr p l = cap p l
  | [], _ => by simp [cr, cap]
  | a :: l, h => by
    have ih := shut_cr (p := p) (l := l) fun b hb => h b (by simp [hb])
    have ha := h a (by simp)
    simp only [cr, cap, List.map_cons, List.sum_cons] at ih ⊢
    rw [ih]
    have : crA p a = capA p a := by
      simp only [crA, capA]
      cases h1 : p a.f <;> cases h2 : p a.t <;> simp
      · exact ha.2 h2 h1
      · exact ha.1 h1 h2
    rw [this]
theorem cap_shut {p : Nat → Bool} : ∀ {l : List Fa}, (∀ a ∈ l, 0 ≤ a.g ∧ a.g ≤ a.m) → cap p l ≤ cr p l → Shut p l
  | [], _, _ => fun a ha => by simp at ha
  | a :: l, h, hc => by
    have h1 := cr_le_cap (p := p) (l := l) fun b hb => h b (by simp [hb])
    have ha := h a (by simp)
    simp only [cr, cap, List.map_cons, List.sum_cons] at hc h1
    have h2 : crA p a ≤ capA p a := by
      simp only [crA, capA]
      cases p a.f <;> cases p a.t <;> simp <;> omega
    have ih := cap_shut (p := p) (l := l) (fun b hb => h b (by simp [hb])) (by simp only [cr, cap]; omega)
    intro b hb
    rcases List.mem_cons.1 hb with e | e
    · subst e
      have h3 : capA p b ≤ crA p b := by omega
      simp only [crA, capA] at h3
      constructor
      · intro p1 p2; rw [p1, p2] at h3; simp at h3; omega
      · intro p1 p2; rw [p1, p2] at h3; simp at h3; omega
    · exact ih b e
def mv (a : Fa) (v : Nat) (r : Int) : Fa := if a.t = v then ⟨a.f, a.t, a.m, a.g + r⟩ else ⟨a.f, a.t, a.m, a.g - r⟩
def oth (a : Fa) (v : Nat) : Nat := if a.t = v then a.f else a.t
theorem dv_set : ∀ {l : List Fa} {i : Nat} {b : Fa} (h : i < l.length) (x : Nat), dv (l.set i b) x = dv l x - dvA l[i] x + dvA b x
  | a :: l, 0, b, h, x => by simp [dv]; omega
  | a :: l, i + 1, b, h, x => by
    have := dv_set (l := l) (i := i) (b := b) (by simpa using h) x
    simp only [dv, List.set_cons_succ, List.map_cons, List.sum_cons, List.getElem_cons_succ] at this ⊢
    omega
theorem dv_mv {a : Fa} {v : Nat} {r : Int} (hne : a.f ≠ a.t) (hv : a.t = v ∨ a.f = v) (x : Nat) : dvA (mv a v r) x = dvA a x + (if oth a v = x then r else 0) - (if v = x then r else 0) := by
  obtain ⟨f, t, m, g⟩ := a
  simp only at hne hv
  by_cases h : t = v
  · subst h
    simp only [mv, oth, if_true, dvA]
    split <;> split <;> omega
  · have hf : f = v := hv.resolve_left h
    subst hf
    simp only [mv, oth, if_neg h, dvA]
    split <;> split <;> omega
def fa0 : Fa := ⟨0, 0, 0, 0⟩
def arc (l : List Fa) (i : Nat) : Fa := l.getD i fa0
def res (a : Fa) (w : Nat) : Prop := a.t = w ∧ a.g < a.m ∨ a.f = w ∧ 0 < a.g
def mf1 (l : List Fa) (v : Nat) (p : List Int × List Nat) (i : Nat) : List Int × List Nat :=
  if decide ((arc l i).f = v) && (decide ((arc l i).g < (arc l i).m) && decide (p.1.getD (arc l i).t 0 = -1)) then (p.1.set (arc l i).t i, p.2 ++ [(arc l i).t]) else p
def mf2 (l : List Fa) (v : Nat) (p : List Int × List Nat) (i : Nat) : List Int × List Nat :=
  if decide ((arc l i).t = v) && (decide (0 < (arc l i).g) && decide (p.1.getD (arc l i).f 0 = -1)) then (p.1.set (arc l i).f i, p.2 ++ [(arc l i).f]) else p
def mfS (l : List Fa) (v : Nat) (p : List Int × List Nat) (i : Nat) : List Int × List Nat := mf2 l v (mf1 l v p i) i
def mfR (l : List Fa) (v : Nat) (p : List Int × List Nat) (j : Nat) : List Int × List Nat := (List.range j).foldl (mfS l v) p
theorem mfR_succ (l : List Fa) (v : Nat) (p : List Int × List Nat) (j : Nat) : mfR l v p (j + 1) = mfS l v (mfR l v p j) j := by simp [mfR, List.range_succ, List.foldl_append]
def mfP (l : List Fa) (n s : Nat) : Nat → List Int × List Nat
  | 0 => ((List.replicate n (-1)).set s (-2), [s])
  | a + 1 => if a < (mfP l n s a).2.length then mfR l ((mfP l n s a).2.getD a 0) (mfP l n s a) l.length else mfP l n s a
def nons (l : List Int) : Nat := l.countP fun v => decide (v = -1)
structure NetOk (n : Nat) (l : List Fa) : Prop where
  rng : ∀ a ∈ l, a.f < n ∧ a.t < n ∧ a.f ≠ a.t
structure MInv (n s : Nat) (l : List Fa) (p : List Int × List Nat) : Prop where
  len : p.1.length = n
  qr : ∀ w ∈ p.2, w < n ∧ p.1.getD w 0 ≠ -1
  al : ∀ w, w < n → p.1.getD w 0 ≠ -1 → w ∈ p.2
  q0 : ∃ r, p.2 = s :: r
  s2 : p.1.getD s 0 = -2
  ln : ∀ x, 0 < x → x < p.2.length → ∃ i : Nat, p.1.getD (p.2.getD x 0) 0 = i ∧ i < l.length ∧ res (arc l i) (p.2.getD x 0) ∧ ∃ y, y < x ∧ p.2.getD y 0 = oth (arc l i) (p.2.getD x 0)
  nd : p.2.Nodup
  cn : p.2.length + nons p.1 = n
theorem arc_mem {l : List Fa} {i : Nat} (h : i < l.length) : arc l i ∈ l := by
  simp only [arc, List.getD, List.getElem?_eq_getElem h, Option.getD_some]; exact List.getElem_mem h
theorem getDn_app {l t : List Nat} {x : Nat} (h : x < l.length) : (l ++ t).getD x 0 = l.getD x 0 := by
  simp only [List.getD, List.getElem?_append_left h]
theorem getDn_last {l : List Nat} {w : Nat} : (l ++ [w]).getD l.length 0 = w := by simp [List.getD]
theorem getDn_mem {l : List Nat} {x : Nat} (h : x < l.length) : l.getD x 0 ∈ l := by
  simp only [List.getD, List.getElem?_eq_getElem h, Option.getD_some]; exact List.getElem_mem h
theorem nons_set {o : List Int} {t : Nat} {v : Int} (h : t < o.length) (h0 : v ≠ -1) (h1 : o.getD t 0 = -1) : nons (o.set t v) + 1 = nons o := by
  have e : o.getD t 0 = o[t] := by simp only [List.getD, List.getElem?_eq_getElem h, Option.getD_some]
  rw [e] at h1
  simp only [nons]
  rw [List.countP_set h, if_neg (show ¬ (decide (v = -1) = true) by simpa using h0)]
  have hp : 0 < o.countP fun v => decide (v = -1) := List.countP_pos_iff.2 ⟨_, List.getElem_mem h, by simpa using h1⟩
  rw [if_pos (by simpa using h1)]
  omega
theorem put_inv {n s : Nat} {l : List Fa} {p : List Int × List Nat} {w i v : Nat} (h : MInv n s l p) (hw : w < n) (hn : p.1.getD w 0 = -1) (hi : i < l.length) (hr : res (arc l i) w) (ho : oth (arc l i) w = v) (hv : v ∈ p.2) : MInv n s l (p.1.set w i, p.2 ++ [w]) := by
  have hl := h.len
  have hwl : w < p.1.length := by omega
  have hnq : w ∉ p.2 := fun hm => (h.qr w hm).2 hn
  obtain ⟨r, hq⟩ := h.q0
  have hsw : w ≠ s := by intro e; subst e; rw [h.s2] at hn; omega
  have hg : ∀ x, (p.1.set w (i : Int)).getD x 0 = if w = x then (i : Int) else p.1.getD x 0 := fun x => mgetD_set _ _ _ _ _ hwl
  refine ⟨by simp only [List.length_set]; exact hl, ?_, ?_, ⟨r ++ [w], by simp only [hq, List.cons_append]⟩, ?_, ?_, ?_, ?_⟩
  · intro x hx
    simp only [hg]
    rcases List.mem_append.1 hx with hx | hx
    · have := h.qr x hx
      refine ⟨this.1, ?_⟩
      split
      · omega
      · exact this.2
    · rw [List.mem_singleton.1 hx]; exact ⟨hw, by rw [if_pos rfl]; omega⟩
  · intro x hx hx1
    simp only [hg] at hx1
    by_cases e : w = x
    · subst e; simp
    · rw [if_neg e] at hx1; exact List.mem_append_left _ (h.al x hx hx1)
  · simp only [hg]; rw [if_neg hsw]; exact h.s2
  · intro x hx0 hx
    simp only [List.length_append, List.length_singleton] at hx
    by_cases e : x < p.2.length
    · obtain ⟨i', h1, h2, h3, y, hy, h4⟩ := h.ln x hx0 e
      have hxm := getDn_mem e
      have hne : w ≠ p.2.getD x 0 := fun e => hnq (by rw [e]; exact hxm)
      simp only [getDn_app e, hg]
      refine ⟨i', by rw [if_neg hne]; exact h1, h2, h3, y, hy, ?_⟩
      rw [getDn_app (by omega)]; exact h4
    · have ex : x = p.2.length := by omega
      subst ex
      obtain ⟨y, hy, hyv⟩ := List.getElem_of_mem hv
      simp only [getDn_last, hg]
      refine ⟨i, by rw [if_pos trivial], hi, hr, y, hy, ?_⟩
      rw [getDn_app hy, ho]
      simp only [List.getD, List.getElem?_eq_getElem hy, Option.getD_some]; exact hyv
  · refine List.nodup_append.2 ⟨h.nd, by simp, ?_⟩
    intro a ha b hb e
    rw [List.mem_singleton.1 hb] at e
    exact hnq (e ▸ ha)
  · have := nons_set (o := p.1) (t := w) (v := (i : Int)) hwl (by omega) hn
    have h1 := h.cn
    simp only [List.length_append, List.length_singleton]
    omega
theorem mf1_inv {n s : Nat} {l : List Fa} {p : List Int × List Nat} {v i : Nat} (hN : NetOk n l) (h : MInv n s l p) (hi : i < l.length) (hv : v ∈ p.2) : MInv n s l (mf1 l v p i) ∧ (∃ t, (mf1 l v p i).2 = p.2 ++ t) ∧ (∀ x, p.1.getD x 0 ≠ -1 → (mf1 l v p i).1.getD x 0 = p.1.getD x 0) ∧ ((arc l i).f = v → (arc l i).g < (arc l i).m → (mf1 l v p i).1.getD (arc l i).t 0 ≠ -1) := by
  have ha := hN.rng _ (arc_mem hi)
  simp only [mf1]
  by_cases g : (decide ((arc l i).f = v) && (decide ((arc l i).g < (arc l i).m) && decide (p.1.getD (arc l i).t 0 = -1))) = true
  · rw [if_pos g]
    simp only [Bool.and_eq_true, decide_eq_true_eq] at g
    have hwl : (arc l i).t < p.1.length := by rw [h.len]; exact ha.2.1
    refine ⟨put_inv h ha.2.1 g.2.2 hi (.inl ⟨rfl, g.2.1⟩) (by simp only [oth, if_true]; exact g.1) hv, ⟨_, rfl⟩, fun x hx => ?_, fun _ _ => ?_⟩
    · simp only [mgetD_set _ _ _ _ _ hwl]
      rw [if_neg]; intro e; rw [← e] at hx; exact hx g.2.2
    · simp only [mgetD_set _ _ _ _ _ hwl]; rw [if_pos trivial]; omega
  · rw [if_neg g]
    refine ⟨h, ⟨[], by simp⟩, fun _ _ => rfl, fun h1 h2 h3 => ?_⟩
    simp only [Bool.and_eq_true, decide_eq_true_eq] at g
    exact g ⟨h1, h2, h3⟩
theorem mf2_inv {n s : Nat} {l : List Fa} {p : List Int × List Nat} {v i : Nat} (hN : NetOk n l) (h : MInv n s l p) (hi : i < l.length) (hv : v ∈ p.2) : MInv n s l (mf2 l v p i) ∧ (∃ t, (mf2 l v p i).2 = p.2 ++ t) ∧ (∀ x, p.1.getD x 0 ≠ -1 → (mf2 l v p i).1.getD x 0 = p.1.getD x 0) ∧ ((arc l i).t = v → 0 < (arc l i).g → (mf2 l v p i).1.getD (arc l i).f 0 ≠ -1) := by
  have ha := hN.rng _ (arc_mem hi)
  simp only [mf2]
  by_cases g : (decide ((arc l i).t = v) && (decide (0 < (arc l i).g) && decide (p.1.getD (arc l i).f 0 = -1))) = true
  · rw [if_pos g]
    simp only [Bool.and_eq_true, decide_eq_true_eq] at g
    have hwl : (arc l i).f < p.1.length := by rw [h.len]; exact ha.1
    refine ⟨put_inv h ha.1 g.2.2 hi (.inr ⟨rfl, g.2.1⟩) (by simp only [oth]; rw [if_neg (fun e => ha.2.2 e.symm)]; exact g.1) hv, ⟨_, rfl⟩, fun x hx => ?_, fun _ _ => ?_⟩
    · simp only [mgetD_set _ _ _ _ _ hwl]
      rw [if_neg]; intro e; rw [← e] at hx; exact hx g.2.2
    · simp only [mgetD_set _ _ _ _ _ hwl]; rw [if_pos trivial]; omega
  · rw [if_neg g]
    refine ⟨h, ⟨[], by simp⟩, fun _ _ => rfl, fun h1 h2 h3 => ?_⟩
    simp only [Bool.and_eq_true, decide_eq_true_eq] at g
    exact g ⟨h1, h2, h3⟩
def DoneAt (l : List Fa) (by_ : List Int) (v : Nat) (j : Nat) : Prop := ∀ i, i < j → ((arc l i).f = v → (arc l i).g < (arc l i).m → by_.getD (arc l i).t 0 ≠ -1) ∧ ((arc l i).t = v → 0 < (arc l i).g → by_.getD (arc l i).f 0 ≠ -1)
theorem mfR_inv {n s : Nat} {l : List Fa} {p : List Int × List Nat} {v : Nat} (hN : NetOk n l) (h : MInv n s l p) (hv : v ∈ p.2) (j : Nat) (hj : j ≤ l.length) : MInv n s l (mfR l v p j) ∧ (∃ t, (mfR l v p j).2 = p.2 ++ t) ∧ (∀ x, p.1.getD x 0 ≠ -1 → (mfR l v p j).1.getD x 0 = p.1.getD x 0) ∧ DoneAt l (mfR l v p j).1 v j := by
  induction j with
  | zero => exact ⟨h, ⟨[], by simp [mfR]⟩, fun _ _ => rfl, fun i hi => by omega⟩
  | succ j ih =>
    obtain ⟨i1, ⟨t1, i2⟩, i3, i4⟩ := ih (by omega)
    rw [mfR_succ]
    have hv1 : v ∈ (mfR l v p j).2 := by rw [i2]; exact List.mem_append_left _ hv
    obtain ⟨a1, ⟨t2, a2⟩, a3, a4⟩ := mf1_inv (i := j) hN i1 (by omega) hv1
    have hv2 : v ∈ (mf1 l v (mfR l v p j) j).2 := by rw [a2]; exact List.mem_append_left _ hv1
    obtain ⟨b1, ⟨t3, b2⟩, b3, b4⟩ := mf2_inv (i := j) hN a1 (by omega) hv2
    simp only [mfS]
    have keep : ∀ x, (mfR l v p j).1.getD x 0 ≠ -1 → (mf2 l v (mf1 l v (mfR l v p j) j) j).1.getD x 0 = (mfR l v p j).1.getD x 0 := fun x hx => by
      have h1 := a3 x hx
      rw [b3 x (by rw [h1]; exact hx), h1]
    refine ⟨b1, ⟨t1 ++ t2 ++ t3, by rw [b2, a2, i2]; simp⟩, fun x hx => ?_, fun i hi => ?_⟩
    · have h1 := i3 x hx
      rw [keep x (by rw [h1]; exact hx), h1]
    · by_cases e : i = j
      · subst e
        refine ⟨fun h1 h2 => ?_, b4⟩
        have := a4 h1 h2
        rw [b3 _ this]; exact this
      · have hd := i4 i (by omega)
        refine ⟨fun h1 h2 => ?_, fun h1 h2 => ?_⟩
        · have := hd.1 h1 h2; rw [keep _ this]; exact this
        · have := hd.2 h1 h2; rw [keep _ this]; exact this
theorem cnt_rep (n : Nat) : nons (List.replicate n (-1)) = n := by
  simp only [nons]; rw [List.countP_replicate]; simp
theorem mfP0_inv {n s : Nat} {l : List Fa} (hs : s < n) : MInv n s l (mfP l n s 0) := by
  have hl : s < (List.replicate n (-1 : Int)).length := by simpa using hs
  have hg : ∀ x, ((List.replicate n (-1 : Int)).set s (-2)).getD x 0 = if s = x then -2 else (List.replicate n (-1 : Int)).getD x 0 := fun x => mgetD_set _ _ _ _ _ hl
  have hr : ∀ x, x < n → (List.replicate n (-1 : Int)).getD x 0 = -1 := fun x hx => by simp [List.getD, hx]
  refine ⟨by simp [mfP], ?_, ?_, ⟨[], rfl⟩, ?_, ?_, by simp [mfP], ?_⟩
  · intro w hw
    simp only [mfP, List.mem_singleton] at hw
    subst hw
    simp only [mfP, hg]
    exact ⟨hs, by rw [if_pos trivial]; omega⟩
  · intro w hw h1
    simp only [mfP, hg] at h1 ⊢
    by_cases e : s = w
    · subst e; simp
    · rw [if_neg e, hr w hw] at h1; exact absurd rfl h1
  · simp only [mfP, hg]; rw [if_pos trivial]
  · intro x h1 h2
    simp only [mfP, List.length_singleton] at h2
    omega
  · have := nons_set (o := List.replicate n (-1)) (t := s) (v := -2) hl (by omega) (hr s hs)
    rw [cnt_rep] at this
    simp only [mfP, List.length_singleton]
    omega
theorem mfP_inv {n s : Nat} {l : List Fa} (hN : NetOk n l) (hs : s < n) (a : Nat) : MInv n s l (mfP l n s a) ∧ ∀ x, x < a → x < (mfP l n s a).2.length → DoneAt l (mfP l n s a).1 ((mfP l n s a).2.getD x 0) l.length := by
  induction a with
  | zero => exact ⟨mfP0_inv hs, fun x hx => by omega⟩
  | succ a ih =>
    obtain ⟨h, hd⟩ := ih
    simp only [mfP]
    by_cases ha : a < (mfP l n s a).2.length
    · rw [if_pos ha]
      obtain ⟨b1, ⟨t, b2⟩, b3, b4⟩ := mfR_inv hN h (getDn_mem ha) l.length (Nat.le_refl _)
      refine ⟨b1, fun x hx hxl => ?_⟩
      by_cases e : x = a
      · subst e
        rw [b2, getDn_app ha]; exact b4
      · have hxa : x < (mfP l n s a).2.length := by omega
        rw [b2, getDn_app hxa]
        have h0 := hd x (by omega) hxa
        intro i hi
        refine ⟨fun h1 h2 => ?_, fun h1 h2 => ?_⟩
        · have := (h0 i hi).1 h1 h2; rw [b3 _ this]; exact this
        · have := (h0 i hi).2 h1 h2; rw [b3 _ this]; exact this
    · rw [if_neg ha]
      refine ⟨h, fun x hx hxl => hd x (by omega) hxl⟩
def mfN (l : List Fa) (n s : Nat) : Nat := (List.range (n + 1)).findIdx fun a => decide ((mfP l n s a).2.length ≤ a)
def mfB (l : List Fa) (n s : Nat) : List Int := (mfP l n s (mfN l n s)).1
def mfQ (l : List Fa) (n s : Nat) : List Nat := (mfP l n s (mfN l n s)).2
theorem mfN_lt {l : List Fa} {n s a : Nat} (h : a < mfN l n s) : a < (mfP l n s a).2.length := by
  have := List.not_of_lt_findIdx (xs := List.range (n + 1)) (p := fun a => decide ((mfP l n s a).2.length ≤ a)) (i := a) h
  simp only [List.getElem_range, decide_eq_false_iff_not] at this
  omega
theorem mfN_end {n s : Nat} {l : List Fa} (hN : NetOk n l) (hs : s < n) : (mfP l n s (mfN l n s)).2.length ≤ mfN l n s := by
  have hlt : mfN l n s < (List.range (n + 1)).length := by
    simp only [mfN]
    refine List.findIdx_lt_length_of_exists ⟨n, by simp, ?_⟩
    have := (mfP_inv hN hs n).1.cn
    simp only [decide_eq_true_eq]
    omega
  have h1 : decide ((mfP l n s ((List.range (n + 1))[mfN l n s]'hlt)).2.length ≤ (List.range (n + 1))[mfN l n s]'hlt) = true := List.findIdx_getElem (w := hlt)
  rw [List.getElem_range hlt] at h1
  exact of_decide_eq_true h1
theorem mfN_le {n s : Nat} {l : List Fa} : mfN l n s ≤ n + 1 := by
  simp only [mfN]; exact Nat.le_trans List.findIdx_le_length (by simp)
def seen (l : List Fa) (n s : Nat) (w : Nat) : Bool := !decide ((mfB l n s).getD w 0 = -1)
theorem seen_q {n s : Nat} {l : List Fa} (hN : NetOk n l) (hs : s < n) {w : Nat} (hw : w < n) : seen l n s w = true ↔ w ∈ mfQ l n s := by
  have h := (mfP_inv hN hs (mfN l n s)).1
  simp only [seen, Bool.not_eq_true', decide_eq_false_iff_not]
  exact ⟨fun h1 => h.al w hw h1, fun h1 => (h.qr w h1).2⟩
theorem seen_s {n s : Nat} {l : List Fa} (hN : NetOk n l) (hs : s < n) : seen l n s s = true := by
  have h := (mfP_inv hN hs (mfN l n s)).1
  simp only [seen, mfB, h.s2]; decide
theorem seen_shut {n s : Nat} {l : List Fa} (hN : NetOk n l) (hs : s < n) (hb : ∀ a ∈ l, 0 ≤ a.g ∧ a.g ≤ a.m) : Shut (seen l n s) l := by
  obtain ⟨h, hd⟩ := mfP_inv hN hs (mfN l n s)
  have hend := mfN_end hN hs
  intro a ha
  have hr := hN.rng a ha
  have hba := hb a ha
  obtain ⟨i, hi, ei⟩ := List.getElem_of_mem ha
  have ea : arc l i = a := by simp only [arc, List.getD, List.getElem?_eq_getElem hi, Option.getD_some, ei]
  have key : ∀ w, w < n → seen l n s w = true → DoneAt l (mfB l n s) w l.length := fun w hw h1 => by
    obtain ⟨x, hx, hxw⟩ := List.getElem_of_mem ((seen_q hN hs hw).1 h1)
    have hx' : x < (mfP l n s (mfN l n s)).2.length := hx
    have := hd x (by omega) hx'
    have e : (mfP l n s (mfN l n s)).2.getD x 0 = w := by simp only [List.getD, List.getElem?_eq_getElem hx', Option.getD_some]; exact hxw
    rw [e] at this
    exact this
  refine ⟨fun h1 h2 => ?_, fun h1 h2 => ?_⟩
  · have hdd := (key a.f hr.1 h1 i hi).1
    rw [ea] at hdd
    by_cases hlt : a.g < a.m
    · have := hdd rfl hlt
      simp only [seen, Bool.not_eq_false', decide_eq_true_eq] at h2
      exact absurd h2 this
    · omega
  · have hdd := (key a.t hr.2.1 h1 i hi).2
    rw [ea] at hdd
    by_cases hlt : 0 < a.g
    · have := hdd rfl hlt
      simp only [seen, Bool.not_eq_false', decide_eq_true_eq] at h2
      exact absurd h2 this
    · omega
theorem seen_least {n s : Nat} {l : List Fa} (hN : NetOk n l) (hs : s < n) {p : Nat → Bool} (ps : p s = true) (hp : Shut p l) : ∀ w, w < n → seen l n s w = true → p w = true := by
  have h := (mfP_inv hN hs (mfN l n s)).1
  have key : ∀ x, x < (mfQ l n s).length → ∀ y, y ≤ x → p ((mfQ l n s).getD y 0) = true := by
    intro x
    induction x with
    | zero =>
      intro _ y hy
      obtain ⟨r, hq⟩ := h.q0
      have : y = 0 := by omega
      subst this
      simp only [mfQ, hq]; simpa using ps
    | succ x ih =>
      intro hx y hy
      by_cases e : y ≤ x
      · exact ih (by omega) y e
      · have ey : y = x + 1 := by omega
        subst ey
        obtain ⟨i, h1, h2, h3, z, hz, h4⟩ := h.ln (x + 1) (by omega) hx
        have hz' := ih (by omega) z (by omega)
        have hmem := arc_mem h2
        have hsh := hp _ hmem
        have hrn := hN.rng _ hmem
        change p ((mfP l n s (mfN l n s)).2.getD (x + 1) 0) = true
        change p ((mfP l n s (mfN l n s)).2.getD z 0) = true at hz'
        rw [h4] at hz'
        generalize (mfP l n s (mfN l n s)).2.getD (x + 1) 0 = w at *
        cases hpw : p w with
        | true => rfl
        | false =>
          exfalso
          rcases h3 with ⟨e1, e2⟩ | ⟨e1, e2⟩
          · have eo : oth (arc l i) w = (arc l i).f := by simp only [oth, if_pos e1]
            rw [eo] at hz'
            have := hsh.1 hz' (by rw [e1]; exact hpw)
            omega
          · have eo : oth (arc l i) w = (arc l i).t := by simp only [oth]; rw [if_neg (fun e => hrn.2.2 (e1.trans e.symm))]
            rw [eo] at hz'
            have := hsh.2 hz' (by rw [e1]; exact hpw)
            omega
  intro w hw hsn
  obtain ⟨x, hx, hxw⟩ := List.getElem_of_mem ((seen_q hN hs hw).1 hsn)
  have := key x hx x (Nat.le_refl _)
  simp only [List.getD, List.getElem?_eq_getElem hx, Option.getD_some] at this
  rw [hxw] at this
  exact this
def byAr (by_ : List Int) (v : Nat) : Nat := (by_.getD v 0).toNat
def pw (l : List Fa) (by_ : List Int) (s e : Nat) : Nat → Nat
  | 0 => e
  | k + 1 => if pw l by_ s e k = s then pw l by_ s e k else oth (arc l (byAr by_ (pw l by_ s e k))) (pw l by_ s e k)
def roomA (a : Fa) (v : Nat) : Int := if a.t = v then a.m - a.g else a.g
def rmI (l : List Fa) (by_ : List Int) (s e : Nat) (r0 : Int) : Nat → Int
  | 0 => r0
  | k + 1 => min (rmI l by_ s e r0 k) (roomA (arc l (byAr by_ (pw l by_ s e k))) (pw l by_ s e k))
def upI (l : List Fa) (by_ : List Int) (s e : Nat) (r : Int) : Nat → List Fa
  | 0 => l
  | k + 1 => (upI l by_ s e r k).set (byAr by_ (pw l by_ s e k)) (mv (arc (upI l by_ s e r k) (byAr by_ (pw l by_ s e k))) (pw l by_ s e k) r)
theorem oth_ends {a : Fa} {w : Nat} (hne : a.f ≠ a.t) (h : res a w) : (a.t = w ∧ oth a w = a.f) ∨ (a.f = w ∧ oth a w = a.t) := by
  rcases h with ⟨h, _⟩ | ⟨h, _⟩
  · exact .inl ⟨h, by simp only [oth, if_pos h]⟩
  · exact .inr ⟨h, by simp only [oth]; rw [if_neg (fun e => hne (h.trans e.symm))]⟩
theorem nd_eq {q : List Nat} (hn : q.Nodup) {x y : Nat} (hx : x < q.length) (hy : y < q.length) (e : q.getD x 0 = q.getD y 0) : x = y := by
  simp only [List.getD, List.getElem?_eq_getElem hx, List.getElem?_eq_getElem hy, Option.getD_some] at e
  have hp := List.pairwise_iff_getElem.1 hn
  rcases Nat.lt_trichotomy x y with h | h | h
  · exact absurd e (hp x y hx hy h)
  · exact h
  · exact absurd e.symm (hp y x hy hx h)
theorem by_inj {n s : Nat} {l : List Fa} {p : List Int × List Nat} (hN : NetOk n l) (h : MInv n s l p) {x y : Nat} (hx0 : 0 < x) (hx : x < p.2.length) (hxy : x < y) (hy : y < p.2.length) : byAr p.1 (p.2.getD x 0) ≠ byAr p.1 (p.2.getD y 0) := by
  intro e
  obtain ⟨i, a1, a2, a3, z, a4, a5⟩ := h.ln x hx0 hx
  obtain ⟨j, b1, b2, b3, u, b4, b5⟩ := h.ln y (by omega) hy
  simp only [byAr, a1, b1, Int.toNat_natCast] at e
  subst e
  have hne := (hN.rng _ (arc_mem a2)).2.2
  have ex := oth_ends hne a3
  have ey := oth_ends hne b3
  have hd : p.2.getD y 0 = p.2.getD x 0 ∨ p.2.getD y 0 = p.2.getD z 0 := by
    rw [a5]
    rcases ex with ⟨e1, e2⟩ | ⟨e1, e2⟩ <;> rcases ey with ⟨e3, e4⟩ | ⟨e3, e4⟩
    · left; omega
    · right; omega
    · right; omega
    · left; omega
  rcases hd with e | e
  · have := nd_eq h.nd hy hx e; omega
  · have := nd_eq h.nd hy (by omega) e; omega
theorem res_room {a : Fa} {w : Nat} (hne : a.f ≠ a.t) (h : res a w) : 1 ≤ roomA a w := by
  simp only [roomA]
  rcases h with ⟨h1, h2⟩ | ⟨h1, h2⟩
  · rw [if_pos h1]; omega
  · rw [if_neg (fun e => hne (h1.trans e.symm))]; omega
theorem pw_pos {n s e : Nat} {l : List Fa} {p : List Int × List Nat} (hN : NetOk n l) (h : MInv n s l p) {xe : Nat} (hxe : xe < p.2.length) (he : p.2.getD xe 0 = e) (k : Nat) (hk : ∀ j, j < k → pw l p.1 s e j ≠ s) : ∃ x, x + k ≤ xe ∧ p.2.getD x 0 = pw l p.1 s e k := by
  induction k with
  | zero => exact ⟨xe, by omega, he⟩
  | succ k ih =>
    obtain ⟨x, hx, hq⟩ := ih fun j hj => hk j (by omega)
    have hne := hk k (by omega)
    have hx0 : 0 < x := by
      rcases Nat.eq_zero_or_pos x with e0 | e0
      · exfalso
        subst e0
        obtain ⟨r, hr⟩ := h.q0
        rw [hr] at hq
        exact hne (by rw [← hq]; rfl)
      · exact e0
    obtain ⟨i, a1, a2, a3, z, a4, a5⟩ := h.ln x hx0 (by omega)
    refine ⟨z, by omega, ?_⟩
    simp only [pw, if_neg hne]
    rw [a5, ← hq]
    simp only [byAr, a1, Int.toNat_natCast]
theorem pw_arc {n s e : Nat} {l : List Fa} {p : List Int × List Nat} (hN : NetOk n l) (h : MInv n s l p) {xe : Nat} (hxe : xe < p.2.length) (he : p.2.getD xe 0 = e) (k : Nat) (hk : ∀ j, j ≤ k → pw l p.1 s e j ≠ s) : byAr p.1 (pw l p.1 s e k) < l.length ∧ res (arc l (byAr p.1 (pw l p.1 s e k))) (pw l p.1 s e k) ∧ p.1.getD (pw l p.1 s e k) 0 = (byAr p.1 (pw l p.1 s e k) : Int) ∧ pw l p.1 s e k < n := by
  obtain ⟨x, hx, hq⟩ := pw_pos hN h hxe he k fun j hj => hk j (by omega)
  have hne := hk k (Nat.le_refl _)
  have hx0 : 0 < x := by
    rcases Nat.eq_zero_or_pos x with e0 | e0
    · exfalso
      subst e0
      obtain ⟨r, hr⟩ := h.q0
      rw [hr] at hq
      exact hne (by rw [← hq]; rfl)
    · exact e0
  obtain ⟨i, a1, a2, a3, z, a4, a5⟩ := h.ln x hx0 (by omega)
  rw [hq] at a1 a3
  have eb : byAr p.1 (pw l p.1 s e k) = i := by simp only [byAr, a1, Int.toNat_natCast]
  rw [eb]
  refine ⟨a2, a3, a1, ?_⟩
  rw [← hq]; exact (h.qr _ (getDn_mem (by omega))).1
def pwK (l : List Fa) (by_ : List Int) (n s e : Nat) : Nat := (List.range (n + 1)).findIdx fun k => decide (pw l by_ s e k = s)
theorem pwK_lt {l : List Fa} {by_ : List Int} {n s e k : Nat} (h : k < pwK l by_ n s e) : pw l by_ s e k ≠ s := by
  have := List.not_of_lt_findIdx (xs := List.range (n + 1)) (p := fun k => decide (pw l by_ s e k = s)) (i := k) h
  simpa only [List.getElem_range, decide_eq_false_iff_not] using this
theorem pwK_end {n s e : Nat} {l : List Fa} {p : List Int × List Nat} (hN : NetOk n l) (h : MInv n s l p) {xe : Nat} (hxe : xe < p.2.length) (he : p.2.getD xe 0 = e) : pw l p.1 s e (pwK l p.1 n s e) = s := by
  have hlt : pwK l p.1 n s e < (List.range (n + 1)).length := by
    simp only [pwK]
    refine List.findIdx_lt_length_of_exists ?_
    by_cases hex : ∃ k, k < n + 1 ∧ pw l p.1 s e k = s
    · obtain ⟨k, h1, h2⟩ := hex
      exact ⟨k, by simpa using h1, by simpa using h2⟩
    · exfalso
      have hcn := h.cn
      obtain ⟨x, hx, _⟩ := pw_pos hN h hxe he n fun j hj e0 => hex ⟨j, by omega, e0⟩
      omega
  have h1 : decide (pw l p.1 s e ((List.range (n + 1))[pwK l p.1 n s e]'hlt) = s) = true := List.findIdx_getElem (w := hlt)
  rw [List.getElem_range hlt] at h1
  exact of_decide_eq_true h1
theorem rmI_le (l : List Fa) (by_ : List Int) (s e : Nat) (r0 : Int) : ∀ (k j : Nat), j < k → rmI l by_ s e r0 k ≤ roomA (arc l (byAr by_ (pw l by_ s e j))) (pw l by_ s e j)
  | 0, j, h => by omega
  | k + 1, j, h => by
    simp only [rmI]
    by_cases e1 : j = k
    · subst e1; omega
    · have := rmI_le l by_ s e r0 k j (by omega); omega
theorem rmI_le0 (l : List Fa) (by_ : List Int) (s e : Nat) (r0 : Int) : ∀ k : Nat, rmI l by_ s e r0 k ≤ r0
  | 0 => by simp [rmI]
  | k + 1 => by have := rmI_le0 l by_ s e r0 k; simp only [rmI]; omega
theorem rmI_ge (l : List Fa) (by_ : List Int) (s e : Nat) (r0 : Int) (h0 : 1 ≤ r0) : ∀ k : Nat, (∀ j, j < k → 1 ≤ roomA (arc l (byAr by_ (pw l by_ s e j))) (pw l by_ s e j)) → 1 ≤ rmI l by_ s e r0 k
  | 0, _ => by simpa [rmI] using h0
  | k + 1, h => by
    have := rmI_ge l by_ s e r0 h0 k fun j hj => h j (by omega)
    have h2 := h k (by omega)
    simp only [rmI]; omega
theorem arc_set {l : List Fa} {i j : Nat} {b : Fa} (h : i < l.length) : arc (l.set i b) j = if i = j then b else arc l j := by
  simp only [arc, List.getD, List.getElem?_set]
  split
  · simp only [h, if_true, Option.getD_some]
  · rfl
theorem upI_inv {n s e : Nat} {l : List Fa} {p : List Int × List Nat} {r : Int} (hN : NetOk n l) (h : MInv n s l p) (hb : ∀ a ∈ l, 0 ≤ a.g ∧ a.g ≤ a.m) (h0 : 0 ≤ r) {xe : Nat} (hxe : xe < p.2.length) (he : p.2.getD xe 0 = e) (k : Nat) (hk : ∀ j, j < k → pw l p.1 s e j ≠ s) (hr : ∀ j, j < k → r ≤ roomA (arc l (byAr p.1 (pw l p.1 s e j))) (pw l p.1 s e j)) :
    (upI l p.1 s e r k).length = l.length ∧ (∀ i, i < l.length → (arc (upI l p.1 s e r k) i).f = (arc l i).f ∧ (arc (upI l p.1 s e r k) i).t = (arc l i).t ∧ (arc (upI l p.1 s e r k) i).m = (arc l i).m ∧ 0 ≤ (arc (upI l p.1 s e r k) i).g ∧ (arc (upI l p.1 s e r k) i).g ≤ (arc l i).m) ∧ (∀ v, dv (upI l p.1 s e r k) v = dv l v + (if pw l p.1 s e k = v then r else 0) - (if e = v then r else 0)) ∧ ∃ x, x + k ≤ xe ∧ p.2.getD x 0 = pw l p.1 s e k ∧ ∀ i, (∀ z, x < z → z < p.2.length → byAr p.1 (p.2.getD z 0) ≠ i) → arc (upI l p.1 s e r k) i = arc l i := by
  induction k with
  | zero => exact ⟨rfl, fun i hi => ⟨rfl, rfl, rfl, (hb _ (arc_mem hi)).1, (hb _ (arc_mem hi)).2⟩, fun v => by simp only [upI, pw]; omega, xe, by omega, he, fun i _ => rfl⟩
  | succ k ih =>
    obtain ⟨u1, u2, u3, x, hx, hq, hsame⟩ := ih (fun j hj => hk j (by omega)) fun j hj => hr j (by omega)
    have hne := hk k (by omega)
    have hrk := hr k (by omega)
    have hx0 : 0 < x := by
      rcases Nat.eq_zero_or_pos x with e0 | e0
      · exfalso
        subst e0
        obtain ⟨w, hw⟩ := h.q0
        rw [hw] at hq
        exact hne (by rw [← hq]; rfl)
      · exact e0
    obtain ⟨i, a1, a2, a3, z, a4, a5⟩ := h.ln x hx0 (by omega)
    rw [hq] at a1 a3 a5
    have eb : byAr p.1 (pw l p.1 s e k) = i := by simp only [byAr, a1, Int.toNat_natCast]
    have hsi : arc (upI l p.1 s e r k) i = arc l i := hsame i fun z hz hz2 => by
      have := by_inj hN h hx0 (by omega) hz hz2
      rw [hq, eb] at this
      exact this.symm
    have hmem := arc_mem a2
    have hrn := hN.rng _ hmem
    have hba := hb _ hmem
    rw [eb] at hrk
    have hlu : i < (upI l p.1 s e r k).length := by omega
    have ends := oth_ends hrn.2.2 a3
    have hv : (arc l i).t = pw l p.1 s e k ∨ (arc l i).f = pw l p.1 s e k := by
      rcases ends with ⟨h1, _⟩ | ⟨h1, _⟩
      · exact .inl h1
      · exact .inr h1
    have hpk : pw l p.1 s e (k + 1) = oth (arc l i) (pw l p.1 s e k) := by simp only [pw, if_neg hne, eb]
    have hup : upI l p.1 s e r (k + 1) = (upI l p.1 s e r k).set i (mv (arc l i) (pw l p.1 s e k) r) := by simp only [upI, eb, hsi]
    rw [hup]
    refine ⟨by rw [List.length_set]; exact u1, fun j hj => ?_, fun v => ?_, z, by omega, ?_, fun j hj => ?_⟩
    · rw [arc_set hlu]
      split
      · rename_i e1; subst e1
        simp only [roomA] at hrk
        simp only [mv]
        split
        · rename_i e2; rw [if_pos e2] at hrk; simp only; exact ⟨trivial, trivial, trivial, by omega, by omega⟩
        · rename_i e2; rw [if_neg e2] at hrk; simp only; exact ⟨trivial, trivial, trivial, by omega, by omega⟩
      · exact u2 j hj
    · rw [dv_set hlu, u3 v, dv_mv hrn.2.2 hv, hpk]
      have : (upI l p.1 s e r k)[i] = arc l i := by
        rw [← hsi]; simp only [arc, List.getD, List.getElem?_eq_getElem hlu, Option.getD_some]
      rw [this]
      omega
    · rw [hpk, a5]
    · rw [arc_set hlu]
      split
      · rename_i e1; subst e1
        exfalso
        have := hj x (by omega) (by omega)
        rw [hq, eb] at this
        exact this rfl
      · exact hsame j fun w hw hw2 => hj w (by omega) hw2
def shp (l : List Fa) : List (Nat × Nat × Int) := l.map fun a => (a.f, a.t, a.m)
theorem cap_shp {p : Nat → Bool} {l m : List Fa} (h : shp l = shp m) : cap p l = cap p m := by
  have key : ∀ l : List Fa, cap p l = ((shp l).map fun x => if p x.1 && !p x.2.1 then x.2.2 else 0).sum := fun l => by
    simp only [cap, shp, List.map_map]; rfl
  rw [key, key, h]
theorem shp_len {l m : List Fa} (h : shp l = shp m) : l.length = m.length := by
  have := congrArg List.length h
  simpa [shp] using this
theorem shp_arc {l m : List Fa} (h : shp l = shp m) (i : Nat) : (arc l i).f = (arc m i).f ∧ (arc l i).t = (arc m i).t ∧ (arc l i).m = (arc m i).m := by
  have hl := shp_len h
  have h1 := congrArg (fun x => x[i]?) h
  simp only [shp, List.getElem?_map] at h1
  by_cases hi : i < l.length
  · have hi' : i < m.length := by omega
    rw [List.getElem?_eq_getElem hi, List.getElem?_eq_getElem hi'] at h1
    simp only [Option.map_some, Option.some.injEq, Prod.mk.injEq] at h1
    simp only [arc, List.getD, List.getElem?_eq_getElem hi, List.getElem?_eq_getElem hi', Option.getD_some]
    exact ⟨h1.1, h1.2.1, h1.2.2⟩
  · have e1 : arc l i = arc m i := by simp only [arc, List.getD, List.getElem?_eq_none (show l.length ≤ i by omega), List.getElem?_eq_none (show m.length ≤ i by omega)]
    rw [e1]; exact ⟨rfl, rfl, rfl⟩
theorem shp_of {l m : List Fa} (hl : m.length = l.length) (h : ∀ i, i < l.length → (arc m i).f = (arc l i).f ∧ (arc m i).t = (arc l i).t ∧ (arc m i).m = (arc l i).m) : shp m = shp l := by
  refine List.ext_getElem (by simp [shp, hl]) fun i h1 h2 => ?_
  simp only [shp, List.length_map] at h1 h2
  have := h i h2
  simp only [arc, List.getD, List.getElem?_eq_getElem h1, List.getElem?_eq_getElem h2, Option.getD_some] at this
  simp only [shp, List.getElem_map]
  rw [this.1, this.2.1, this.2.2]
theorem arc_of {l : List Fa} {a : Fa} (h : a ∈ l) : ∃ i, i < l.length ∧ arc l i = a := by
  obtain ⟨i, hi, e⟩ := List.getElem_of_mem h
  exact ⟨i, hi, by simp only [arc, List.getD, List.getElem?_eq_getElem hi, Option.getD_some, e]⟩
theorem net_shp {n : Nat} {l m : List Fa} (h : shp m = shp l) (hN : NetOk n l) : NetOk n m := by
  refine ⟨fun a ha => ?_⟩
  obtain ⟨i, hi, e⟩ := arc_of ha
  have h1 := shp_arc h i
  have h2 := hN.rng _ (arc_mem (l := l) (i := i) (by rw [← shp_len h]; exact hi))
  rw [← e, h1.1, h1.2.1]; exact h2
def fRm (l : List Fa) (n s e : Nat) (r0 : Int) : Int := rmI l (mfB l n s) s e r0 (pwK l (mfB l n s) n s e)
def fUp (l : List Fa) (n s e : Nat) (r : Int) : List Fa := upI l (mfB l n s) s e r (pwK l (mfB l n s) n s e)
def fGo (n s e : Nat) (lim : Int) (p : List Fa × Int) : Bool := decide (p.2 < lim) && seen p.1 n s e
def fI (l : List Fa) (n s e : Nat) (lim : Int) : Nat → List Fa × Int
  | 0 => (l, 0)
  | k + 1 => if fGo n s e lim (fI l n s e lim k) then (fUp (fI l n s e lim k).1 n s e (fRm (fI l n s e lim k).1 n s e (lim - (fI l n s e lim k).2)), (fI l n s e lim k).2 + fRm (fI l n s e lim k).1 n s e (lim - (fI l n s e lim k).2)) else fI l n s e lim k
theorem aug_flow {n s e : Nat} {l : List Fa} {val r0 : Int} (hN : NetOk n l) (h : Flow n s e l val) (hs : s < n) (he : e < n) (hse : s ≠ e) (hsn : seen l n s e = true) (h0 : 1 ≤ r0) : 1 ≤ fRm l n s e r0 ∧ fRm l n s e r0 ≤ r0 ∧ Flow n s e (fUp l n s e (fRm l n s e r0)) (val + fRm l n s e r0) ∧ shp (fUp l n s e (fRm l n s e r0)) = shp l := by
  have hp := (mfP_inv hN hs (mfN l n s)).1
  obtain ⟨xe, hxe, hxq⟩ := List.getElem_of_mem ((seen_q hN hs he).1 hsn)
  have hxe' : xe < (mfP l n s (mfN l n s)).2.length := hxe
  have hxq' : (mfP l n s (mfN l n s)).2.getD xe 0 = e := by simp only [List.getD, List.getElem?_eq_getElem hxe', Option.getD_some]; exact hxq
  have hend := pwK_end hN hp hxe' hxq'
  have hlt := fun k (hk : k < pwK l (mfB l n s) n s e) => pwK_lt hk
  have harc := fun k (hk : k < pwK l (mfB l n s) n s e) => pw_arc hN hp hxe' hxq' k fun j hj => hlt j (by omega)
  have hroom : ∀ j, j < pwK l (mfB l n s) n s e → 1 ≤ roomA (arc l (byAr (mfB l n s) (pw l (mfB l n s) s e j))) (pw l (mfB l n s) s e j) := fun j hj => by
    have := harc j hj
    exact res_room (hN.rng _ (arc_mem this.1)).2.2 this.2.1
  have hr1 : 1 ≤ fRm l n s e r0 := rmI_ge _ _ _ _ _ h0 _ hroom
  have hr2 : fRm l n s e r0 ≤ r0 := rmI_le0 _ _ _ _ _ _
  obtain ⟨u1, u2, u3, _⟩ := upI_inv (r := fRm l n s e r0) hN hp h.bnd (by omega) hxe' hxq' (pwK l (mfB l n s) n s e) (fun j hj => hlt j hj) fun j hj => rmI_le _ _ _ _ _ _ j hj
  have hsh : shp (fUp l n s e (fRm l n s e r0)) = shp l := shp_of u1 fun i hi => ⟨(u2 i hi).1, (u2 i hi).2.1, (u2 i hi).2.2.1⟩
  have hNm := net_shp hsh hN
  refine ⟨hr1, hr2, ⟨fun a ha => ⟨(hNm.rng a ha).1, (hNm.rng a ha).2.1⟩, fun a ha => ?_, fun v hv hvs hve => ?_, ?_⟩, hsh⟩
  · obtain ⟨i, hi, ea⟩ := arc_of ha
    have hi' : i < l.length := by rw [← shp_len hsh]; exact hi
    have h3 : (arc (fUp l n s e (fRm l n s e r0)) i).m = (arc l i).m ∧ 0 ≤ (arc (fUp l n s e (fRm l n s e r0)) i).g ∧ (arc (fUp l n s e (fRm l n s e r0)) i).g ≤ (arc l i).m := (u2 i hi').2.2
    rw [← ea, h3.1]; exact h3.2
  · have := u3 v
    change dv (fUp l n s e (fRm l n s e r0)) v = _ at this
    rw [this]
    change dv l v + (if pw l (mfB l n s) s e (pwK l (mfB l n s) n s e) = v then _ else _) - _ = _
    have hc := h.con v hv hvs hve
    rw [show pw l (mfB l n s) s e (pwK l (mfB l n s) n s e) = s from hend, if_neg (fun e1 => hvs e1.symm), if_neg (fun e1 => hve e1.symm)]
    omega
  · have := u3 s
    change dv (fUp l n s e (fRm l n s e r0)) s = _ at this
    rw [this]
    change dv l s + (if pw l (mfB l n s) s e (pwK l (mfB l n s) n s e) = s then _ else _) - _ = _
    have hv := h.val
    rw [show pw l (mfB l n s) s e (pwK l (mfB l n s) n s e) = s from hend, if_pos rfl, if_neg (fun e1 => hse e1.symm)]
    omega
structure FInv (n s e : Nat) (l0 : List Fa) (p : List Fa × Int) : Prop where
  fl : Flow n s e p.1 p.2
  sh : shp p.1 = shp l0
theorem fI_inv {n s e : Nat} {l : List Fa} {lim : Int} (hN : NetOk n l) (h : Flow n s e l 0) (hs : s < n) (he : e < n) (hse : s ≠ e) (k : Nat) : FInv n s e l (fI l n s e lim k) ∧ 0 ≤ (fI l n s e lim k).2 ∧ ((∀ j, j < k → fGo n s e lim (fI l n s e lim j) = true) → (k : Int) ≤ (fI l n s e lim k).2) := by
  induction k with
  | zero => exact ⟨⟨h, rfl⟩, by simp [fI], fun _ => by simp [fI]⟩
  | succ k ih =>
    obtain ⟨i1, i2, i3⟩ := ih
    simp only [fI]
    by_cases g : fGo n s e lim (fI l n s e lim k) = true
    · rw [if_pos g]
      have g' := g
      simp only [fGo, Bool.and_eq_true, decide_eq_true_eq] at g'
      obtain ⟨a1, a2, a3, a4⟩ := aug_flow (r0 := lim - (fI l n s e lim k).2) (net_shp i1.sh hN) i1.fl hs he hse g'.2 (by omega)
      refine ⟨⟨a3, a4.trans i1.sh⟩, by simp only; omega, fun hj => ?_⟩
      have := i3 fun j hj' => hj j (by omega)
      simp only; omega
    · rw [if_neg g]
      refine ⟨i1, i2, fun hj => absurd (hj k (by omega)) g⟩
def fN (l : List Fa) (n s e : Nat) (lim : Int) : Nat := (List.range (lim.toNat + 2)).findIdx fun k => !fGo n s e lim (fI l n s e lim k)
theorem fN_lt {l : List Fa} {n s e k : Nat} {lim : Int} (h : k < fN l n s e lim) : fGo n s e lim (fI l n s e lim k) = true := by
  have := List.not_of_lt_findIdx (xs := List.range (lim.toNat + 2)) (p := fun k => !fGo n s e lim (fI l n s e lim k)) (i := k) h
  simpa only [List.getElem_range, Bool.not_eq_false'] using this
theorem fN_end {n s e : Nat} {l : List Fa} {lim : Int} (hN : NetOk n l) (h : Flow n s e l 0) (hs : s < n) (he : e < n) (hse : s ≠ e) : fGo n s e lim (fI l n s e lim (fN l n s e lim)) = false := by
  have hlt : fN l n s e lim < (List.range (lim.toNat + 2)).length := by
    simp only [fN]
    refine List.findIdx_lt_length_of_exists ?_
    by_cases hex : ∃ k, k < lim.toNat + 2 ∧ fGo n s e lim (fI l n s e lim k) = false
    · obtain ⟨k, h1, h2⟩ := hex
      exact ⟨k, by simpa using h1, by simp only [h2, Bool.not_false]⟩
    · exfalso
      have hall : ∀ k, k < lim.toNat + 2 → fGo n s e lim (fI l n s e lim k) = true := fun k hk => by
        cases hc : fGo n s e lim (fI l n s e lim k)
        · exact absurd ⟨k, hk, hc⟩ hex
        · rfl
      have h1 := (fI_inv (lim := lim) hN h hs he hse (lim.toNat + 1)).2.2 fun j hj => hall j (by omega)
      have h2 := hall (lim.toNat + 1) (by omega)
      simp only [fGo, Bool.and_eq_true, decide_eq_true_eq] at h2
      omega
  have h1 : (!fGo n s e lim (fI l n s e lim ((List.range (lim.toNat + 2))[fN l n s e lim]'hlt))) = true := List.findIdx_getElem (w := hlt)
  rw [List.getElem_range hlt] at h1
  simpa using h1
def fE (l : List Fa) (n s e : Nat) (lim : Int) : List Fa × Int := fI l n s e lim (fN l n s e lim)
theorem fE_ok {n s e : Nat} {l : List Fa} {lim C : Int} {p0 : Nat → Bool} (hN : NetOk n l) (h : Flow n s e l 0) (hs : s < n) (he : e < n) (hse : s ≠ e) (p1 : p0 s = true) (p2 : p0 e = false) (hc : cap p0 l ≤ C) (hC : C < lim) : Flow n s e (fE l n s e lim).1 (fE l n s e lim).2 ∧ shp (fE l n s e lim).1 = shp l ∧ (fE l n s e lim).2 ≤ C ∧ seen (fE l n s e lim).1 n s e = false ∧ (fE l n s e lim).2 = cap (seen (fE l n s e lim).1 n s) l := by
  obtain ⟨⟨i1, i2⟩, _, _⟩ := fI_inv (lim := lim) hN h hs he hse (fN l n s e lim)
  have hend := fN_end (lim := lim) hN h hs he hse
  have hle := flow_le i1 hs p1 p2
  rw [cap_shp i2] at hle
  have hsn : seen (fE l n s e lim).1 n s e = false := by
    simp only [fGo, Bool.and_eq_false_iff, decide_eq_false_iff_not] at hend
    rcases hend with hh | hh
    · omega
    · exact hh
  have hNm := net_shp i2 hN
  have hcr : cr (seen (fE l n s e lim).1 n s) (fE l n s e lim).1 = (fE l n s e lim).2 := flow_cr i1 hs (seen_s hNm hs) hsn
  have hsh : cr (seen (fE l n s e lim).1 n s) (fE l n s e lim).1 = cap (seen (fE l n s e lim).1 n s) (fE l n s e lim).1 := shut_cr (seen_shut hNm hs i1.bnd)
  have hcs : cap (seen (fE l n s e lim).1 n s) (fE l n s e lim).1 = cap (seen (fE l n s e lim).1 n s) l := cap_shp i2
  exact ⟨i1, i2, by simp only [fE]; omega, hsn, by omega⟩
theorem fE_same {n s e : Nat} {l m : List Fa} {lim lim' C : Int} {p0 : Nat → Bool} (hN : NetOk n l) (hM : NetOk n m) (h : Flow n s e l 0) (h' : Flow n s e m 0) (hs : s < n) (he : e < n) (hse : s ≠ e) (p1 : p0 s = true) (p2 : p0 e = false) (hc : cap p0 l ≤ C) (hc' : cap p0 m ≤ C) (hC : C < lim) (hC' : C < lim')
    (hlm : ∀ p : Nat → Bool, cap p l ≤ C → cap p m = cap p l) (hml : ∀ p : Nat → Bool, cap p m ≤ C → cap p l = cap p m) : (fE l n s e lim).2 = (fE m n s e lim').2 ∧ ∀ w, w < n → seen (fE l n s e lim).1 n s w = seen (fE m n s e lim').1 n s w := by
  obtain ⟨a1, a2, a3, a4, a5⟩ := fE_ok (lim := lim) hN h hs he hse p1 p2 hc hC
  obtain ⟨b1, b2, b3, b4, b5⟩ := fE_ok (lim := lim') hM h' hs he hse p1 p2 hc' hC'
  have hNa := net_shp a2 hN
  have hNb := net_shp b2 hM
  have ca := hlm _ (show cap (seen (fE l n s e lim).1 n s) l ≤ C by omega)
  have cb := hml _ (show cap (seen (fE m n s e lim').1 n s) m ≤ C by omega)
  have la := flow_le b1 hs (seen_s hNa hs) a4
  rw [cap_shp b2, ca] at la
  have lb := flow_le a1 hs (seen_s hNb hs) b4
  rw [cap_shp a2, cb] at lb
  have hv : (fE l n s e lim).2 = (fE m n s e lim').2 := by omega
  refine ⟨hv, fun w hw => ?_⟩
  have sa : Shut (seen (fE m n s e lim').1 n s) (fE l n s e lim).1 := cap_shut a1.bnd (by
    rw [flow_cr a1 hs (seen_s hNb hs) b4, cap_shp a2, cb]; omega)
  have sb : Shut (seen (fE l n s e lim).1 n s) (fE m n s e lim').1 := cap_shut b1.bnd (by
    rw [flow_cr b1 hs (seen_s hNa hs) a4, cap_shp b2, ca]; omega)
  have l1 := seen_least hNa hs (seen_s hNb hs) sa w hw
  have l2 := seen_least hNb hs (seen_s hNa hs) sb w hw
  cases x1 : seen (fE l n s e lim).1 n s w <;> cases x2 : seen (fE m n s e lim').1 n s w
  · rfl
  · rw [l2 x2] at x1; cases x1
  · rw [l1 x1] at x2; cases x2
  · rfl
end Go.Proofs.Ytiemjnkblggimaa.X
