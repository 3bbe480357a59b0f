/- A part of the proof: lemmas on the machine or on the functions that the law reaches. No condition of its own. -/
import Derived.Test.YtlddjlchgibdfaaDoorXP5
import Derived.Test.YtlddjlchgibdfaaDoorXP4
set_option maxHeartbeats 4000000
set_option maxRecDepth 8000
set_option linter.unusedSimpArgs false
set_option linter.unusedVariables false
open Nat renaming reduceBEq → N1, reduceAdd → N2, reduceSub → N3, reduceMul → N4, reduceEqDiff → N5, reduceLeDiff → N6, reduceLT → N7
open Int renaming reduceLE → I1, reduceLT → I2, reduceToNat → I3
namespace Go.Proofs.YtlddjlchgibdfaaDoor.X
open Go
attribute [local irreducible] Ev
structure Se where
  b : Brd
  t : Ct
  c : List (List Int)
  src : List (List Int)
  deriving DecidableEq
def seF (s : Se) : AV := .agg (rulF s.b.r ++ mpF s.b.m ++ ctF s.t ++ [.sl (intss s.c), .sl (intss s.src)])
def seO (s : Se) : AV := .agg (rulO s.b.r ++ mpO s.b.m ++ ctO s.t ++ [.ow 1 (owss s.c), .ow 1 (owss s.src)])
structure SeB (B : Nat) (s : Se) : Prop where
  b : BrdB B s.b
  t : CtB B s.t
  c : SSB B s.c
  s : SSB B s.src
def szSe (s : Se) : Int → Int := andThen (andThen (andThen (szBrd s.b) (szCt s.t)) (szCl s.c)) (szSS s.src)
theorem andThen_nn {f g : Int → Int} {v : Int} (h : 0 ≤ andThen f g v) : 0 ≤ f v ∧ 0 ≤ g (f v) ∧ andThen f g v = g (f v) := by
  have e : andThen f g v = if f v < 0 then -1 else if g (f v) < 0 then -1 else g (f v) := rfl
  rw [e] at h ⊢
  split at h
  · omega
  split at h
  · omega
  rename_i h1 h2
  rw [if_neg h1, if_neg h2]
  exact ⟨by omega, by omega, rfl⟩
theorem szSe_pos {s : Se} (h : 0 ≤ szSe s 1048576) : SeB (2 ^ 21) s := by
  obtain ⟨h1, h2, _⟩ := andThen_nn h
  obtain ⟨h3, h4, e3⟩ := andThen_nn h1
  obtain ⟨h5, h6, e5⟩ := andThen_nn h3
  have u1 := szBrd_le (b := s.b) (v := 1048576) (by omega) (by omega)
  have u2 := szCt_rng (t := s.t) h5
  have u3 := szCl_rng (W := s.c) (v := szCt s.t (szBrd s.b 1048576)) h6
  rw [e5] at h4 e3
  rw [e3] at h2
  have p3 : 0 ≤ szSS s.c (szCt s.t (szBrd s.b 1048576)) := by
    simp only [szCl] at h4
    split at h4 <;> omega
  exact ⟨szBrd_pos h5, szCt_pos h5 (by omega) h6, szSS_pos h6 (by omega) p3, szSS_pos h4 (by omega) h2⟩
theorem SeB.mono {A B : Nat} {s : Se} (h : A ≤ B) (hb : SeB A s) : SeB B s := ⟨hb.b.mono h, hb.t.mono h, hb.c.mono h, hb.s.mono h⟩
def srcOk (b : Brd) (l : List Int) : Bool := decide ((l.length : Int) ≤ 6) && upto l.length (risP l 0 (b.m.w * b.m.h - 1))
def seOk (s : Se) : Bool := brdOk s.b && ctOk s.t && goodW s.c && decide ((s.src.length : Int) = 2) && srcOk s.b (s.src.getD 0 []) && srcOk s.b (s.src.getD 1 [])
theorem src_get {W : List (List Int)} {k : Nat} (h : k < W.length) : (intss W)[k]? = some [.sl (ints (W.getD k []))] := by simp [intss, List.getD, h]
theorem src_mem {W : List (List Int)} {k : Nat} (h : k < W.length) : W.getD k [] ∈ W := by
  simp only [List.getD, List.getElem?_eq_getElem h, Option.getD_some]; exact List.getElem_mem h
theorem ris_eq (cut : List Int) (hi : Int) : (upto (cut.length - 1) (incP cut) && cut.all (inR 0 hi)) = upto cut.length (risP cut 0 hi) := by
  rw [Bool.eq_iff_iff, Bool.and_eq_true, upto_iff, upto_iff]
  rw [List.all_eq_true]
  constructor
  · rintro ⟨h1, h2⟩ j hj
    have hm : cut.getD j 0 ∈ cut := by simp only [List.getD, List.getElem?_eq_getElem hj]; exact List.getElem_mem hj
    simp only [risP, h2 _ hm, Bool.true_and, Bool.or_eq_true, decide_eq_true_eq]
    by_cases h0 : j = 0
    · exact .inl h0
    · right
      have := h1 (j - 1) (by omega)
      simp only [incP, decide_eq_true_eq] at this
      rwa [show j - 1 + 1 = j by omega] at this
  · intro h
    refine ⟨fun j hj => ?_, fun x hx => ?_⟩
    · have := h (j + 1) (by omega)
      simp only [risP, Bool.and_eq_true, Bool.or_eq_true, decide_eq_true_eq] at this
      simp only [incP, decide_eq_true_eq]
      have := this.2
      simp only [Nat.add_sub_cancel] at this
      omega
    · obtain ⟨j, hj, rfl⟩ := List.getElem_of_mem hx
      have := h j hj
      simp only [risP, Bool.and_eq_true] at this
      simpa [List.getD, hj] using this.1
section
variable {C : CT} (hC : Closed Tryd.prog G1 md0 C)
include hC
theorem t131 (b : Brd) (l : List Int) (g : brdOk b = true) (hl : l.length < 2^50) : Ev C 131 [brdF b, .sl (ints l)] (.bool (srcOk b l)) := by
  have hwh := brd_wh g
  have hm := mp_wh (brd_mp g)
  have c2 := t107 hC b.m hm.1 hm.2
  simp only [brdF, rulF, mpF, ctF, clA, List.cons_append, List.nil_append, srcOk] at *
  refine rT hC Q131 ?_
  simp only [c131, ints_length, push_cast, ↓J1, ↓J2, N1, N2, N3, reduceCtorEq, N4, N5, N6, reduceIte, N7, I1, I2, I3]
  cases decide ((l.length : Int) ≤ 6)
  · simp only [push_cast, ↓J1, ↓J2, N1, N2, N3, reduceCtorEq, N4, N5, N6, reduceIte, N7, I1, I2, I3]
  simp only [push_cast, ↓J1, ↓J2, N1, N2, N3, reduceCtorEq, N4, N5, N6, reduceIte, N7, I1, I2, I3]
  refine ⟨_, c2, ?_⟩
  simp only [push_cast, ↓J1, ↓J2, N1, N2, N3, reduceCtorEq, N4, N5, N6, reduceIte, N7, I1, I2, I3]
  rw [wrap64 (n := b.m.w * b.m.h - 1) (by omega) (by omega)]
  refine ⟨_, t162 hC l _ _ hl, ?_⟩
  simp only [push_cast, ↓J1, ↓J2, N1, N2, N3, reduceCtorEq, N4, N5, N6, reduceIte, N7, I1, I2, I3]
theorem t136 (x : Int) (b : Brd) (g : brdOk b = true) : Ev C 136 [.int .i64 x, .pf (rulF b.r ++ mpF b.m)] (.bool (!inR 0 (b.m.w * b.m.h - 1) x)) := by
  have hwh := brd_wh g
  have c1 := t119 hC b
  rw [hwh.1] at c1
  simp only [brdF, rulF, mpF, ctF, clA, List.cons_append, List.nil_append] at *
  refine rT hC Q136 ?_
  simp only [c136, push_cast, ↓J1, ↓J2, N1, N2, N3, reduceCtorEq, N4, N5, N6, reduceIte, N7, I1, I2, I3]
  refine ⟨_, c1, ?_⟩
  simp only [push_cast, ↓J1, ↓J2, N1, N2, N3, reduceCtorEq, N4, N5, N6, reduceIte, N7, I1, I2, I3]
  refine ⟨_, tIdx hC _ _ (by omega), ?_⟩
  simp only [push_cast, ↓J1, ↓J2, N1, N2, N3, reduceCtorEq, N4, N5, N6, reduceIte, N7, I1, I2, I3]
theorem t96 (b : Brd) (l : List Int) (g : brdOk b = true) (hl : l.length < 2^50) : Ev C 96 [brdF b, .sl (ints l)] (.bool (srcOk b l)) := by
  have c3 := t116 hC l 136 [.pf (rulF b.r ++ mpF b.m)] _ hl rfl rfl fun x _ => t136 hC x b g
  rw [srcOk, ← ris_eq]
  simp only [brdF, rulF, mpF, ctF, clA, List.cons_append, List.nil_append] at *
  refine rT hC Q96 ?_
  simp only [c96, ints_length, push_cast, ↓J1, ↓J2, N1, N2, N3, reduceCtorEq, N4, N5, N6, reduceIte, N7, I1, I2, I3]
  cases decide ((l.length : Int) ≤ 6)
  · simp only [push_cast, ↓J1, ↓J2, N1, N2, N3, reduceCtorEq, N4, N5, N6, reduceIte, N7, I1, I2, I3]
  simp only [push_cast, ↓J1, ↓J2, N1, N2, N3, reduceCtorEq, N4, N5, N6, reduceIte, N7, I1, I2, I3]
  refine ⟨_, t135 hC l hl, ?_⟩
  cases upto (l.length - 1) (incP l)
  · simp only [push_cast, ↓J1, ↓J2, N1, N2, N3, reduceCtorEq, N4, N5, N6, reduceIte, N7, I1, I2, I3]
  simp only [push_cast, ↓J1, ↓J2, N1, N2, N3, reduceCtorEq, N4, N5, N6, reduceIte, N7, I1, I2, I3]
  refine ⟨_, c3, ?_⟩
  simp only [all_not, push_cast, ↓J1, ↓J2, N1, N2, N3, reduceCtorEq, N4, N5, N6, reduceIte, N7, I1, I2, I3]
theorem t93 (s : Se) (hb : SeB (2^50) s) : Ev C 93 [seF s] (.bool (seOk s)) := by
  have c1 := t66 hC s.b hb.b
  have c2 := t130 hC s.t hb.t
  have c3 := t49 hC s.c hb.c.l hb.c.r
  have c4 := fun l g h => t131 hC s.b l g h
  simp only [seF, brdF, rulF, mpF, ctF, clA, List.cons_append, List.nil_append, seOk] at *
  refine rT hC Q93 ?_
  simp only [c93, push_cast, ↓J1, ↓J2, N1, N2, N3, reduceCtorEq, N4, N5, N6, reduceIte, N7, I1, I2, I3]
  refine ⟨_, c1, ?_⟩
  cases g1 : brdOk s.b
  · simp only [push_cast, ↓J1, ↓J2, N1, N2, N3, reduceCtorEq, N4, N5, N6, reduceIte, N7, I1, I2, I3]
  simp only [push_cast, ↓J1, ↓J2, N1, N2, N3, reduceCtorEq, N4, N5, N6, reduceIte, N7, I1, I2, I3]
  refine ⟨_, c2, ?_⟩
  cases g2 : ctOk s.t
  · simp only [push_cast, ↓J1, ↓J2, N1, N2, N3, reduceCtorEq, N4, N5, N6, reduceIte, N7, I1, I2, I3]
  simp only [push_cast, ↓J1, ↓J2, N1, N2, N3, reduceCtorEq, N4, N5, N6, reduceIte, N7, I1, I2, I3]
  refine ⟨_, c3, ?_⟩
  cases g3 : goodW s.c
  · simp only [push_cast, ↓J1, ↓J2, N1, N2, N3, reduceCtorEq, N4, N5, N6, reduceIte, N7, I1, I2, I3]
  simp only [intss_length, push_cast, ↓J1, ↓J2, N1, N2, N3, reduceCtorEq, N4, N5, N6, reduceIte, N7, I1, I2, I3]
  cases g4 : decide ((s.src.length : Int) = 2)
  · simp only [push_cast, ↓J1, ↓J2, N1, N2, N3, reduceCtorEq, N4, N5, N6, reduceIte, N7, I1, I2, I3]
  have hl := of_decide_eq_true g4
  have e0 := src_get (W := s.src) (k := 0) (by omega)
  have e1 := src_get (W := s.src) (k := 1) (by omega)
  have m0 := hb.s.r _ (src_mem (W := s.src) (k := 0) (by omega))
  have m1 := hb.s.r _ (src_mem (W := s.src) (k := 1) (by omega))
  have n0 : (0 : Int).toNat = 0 := rfl
  have n1 : (1 : Int).toNat = 1 := rfl
  simp only [n0, e0, push_cast, ↓J1, ↓J2, N1, N2, N3, reduceCtorEq, N4, N5, N6, reduceIte, N7, I1, I2, I3]
  repeat (refine ⟨by omega, ?_⟩)
  refine ⟨_, c4 _ g1 m0, ?_⟩
  cases srcOk s.b (s.src.getD 0 [])
  · simp only [push_cast, ↓J1, ↓J2, N1, N2, N3, reduceCtorEq, N4, N5, N6, reduceIte, N7, I1, I2, I3]
  simp only [n1, e1, push_cast, ↓J1, ↓J2, N1, N2, N3, reduceCtorEq, N4, N5, N6, reduceIte, N7, I1, I2, I3]
  repeat (refine ⟨by omega, ?_⟩)
  refine ⟨_, c4 _ g1 m1, ?_⟩
  simp only [push_cast, ↓J1, ↓J2, N1, N2, N3, reduceCtorEq, N4, N5, N6, reduceIte, N7, I1, I2, I3]
theorem t46 (s : Se) (hb : SeB (2^50) s) : Ev C 46 [seF s] (.bool (seOk s)) := by
  have c1 := t69 hC s.b hb.b
  have c2 := t95 hC s.t hb.t
  have c3 := t52 hC s.c hb.c.l hb.c.r
  have c4 := fun l g h => t96 hC s.b l g h
  simp only [seF, brdF, rulF, mpF, ctF, clA, List.cons_append, List.nil_append, seOk] at *
  refine rT hC Q46 ?_
  simp only [c46, push_cast, ↓J1, ↓J2, N1, N2, N3, reduceCtorEq, N4, N5, N6, reduceIte, N7, I1, I2, I3]
  refine ⟨_, c1, ?_⟩
  cases g1 : brdOk s.b
  · simp only [push_cast, ↓J1, ↓J2, N1, N2, N3, reduceCtorEq, N4, N5, N6, reduceIte, N7, I1, I2, I3]
  simp only [push_cast, ↓J1, ↓J2, N1, N2, N3, reduceCtorEq, N4, N5, N6, reduceIte, N7, I1, I2, I3]
  refine ⟨_, c2, ?_⟩
  cases g2 : ctOk s.t
  · simp only [push_cast, ↓J1, ↓J2, N1, N2, N3, reduceCtorEq, N4, N5, N6, reduceIte, N7, I1, I2, I3]
  simp only [push_cast, ↓J1, ↓J2, N1, N2, N3, reduceCtorEq, N4, N5, N6, reduceIte, N7, I1, I2, I3]
  refine ⟨_, c3, ?_⟩
  cases g3 : goodW s.c
  · simp only [push_cast, ↓J1, ↓J2, N1, N2, N3, reduceCtorEq, N4, N5, N6, reduceIte, N7, I1, I2, I3]
  simp only [intss_length, push_cast, ↓J1, ↓J2, N1, N2, N3, reduceCtorEq, N4, N5, N6, reduceIte, N7, I1, I2, I3]
  cases g4 : decide ((s.src.length : Int) = 2)
  · simp only [push_cast, ↓J1, ↓J2, N1, N2, N3, reduceCtorEq, N4, N5, N6, reduceIte, N7, I1, I2, I3]
  have hl := of_decide_eq_true g4
  have e0 := src_get (W := s.src) (k := 0) (by omega)
  have e1 := src_get (W := s.src) (k := 1) (by omega)
  have m0 := hb.s.r _ (src_mem (W := s.src) (k := 0) (by omega))
  have m1 := hb.s.r _ (src_mem (W := s.src) (k := 1) (by omega))
  have n0 : (0 : Int).toNat = 0 := rfl
  have n1 : (1 : Int).toNat = 1 := rfl
  simp only [n0, e0, push_cast, ↓J1, ↓J2, N1, N2, N3, reduceCtorEq, N4, N5, N6, reduceIte, N7, I1, I2, I3]
  repeat (refine ⟨by omega, ?_⟩)
  refine ⟨_, c4 _ g1 m0, ?_⟩
  cases srcOk s.b (s.src.getD 0 [])
  · simp only [push_cast, ↓J1, ↓J2, N1, N2, N3, reduceCtorEq, N4, N5, N6, reduceIte, N7, I1, I2, I3]
  simp only [n1, e1, push_cast, ↓J1, ↓J2, N1, N2, N3, reduceCtorEq, N4, N5, N6, reduceIte, N7, I1, I2, I3]
  repeat (refine ⟨by omega, ?_⟩)
  refine ⟨_, c4 _ g1 m1, ?_⟩
  simp only [push_cast, ↓J1, ↓J2, N1, N2, N3, reduceCtorEq, N4, N5, N6, reduceIte, N7, I1, I2, I3]
theorem t44 (s : Se) (hb : SeB (2^50) s) : Ev C 44 [seF s] (.bool (seOk s)) := by
  have c1 := t93 hC s hb
  simp only [seF, brdF, rulF, mpF, ctF, clA, List.cons_append, List.nil_append] at *
  refine rT hC Q44 ?_
  simp only [c44, push_cast, ↓J1, ↓J2, N1, N2, N3, reduceCtorEq, N4, N5, N6, reduceIte, N7, I1, I2, I3]
  refine ⟨_, c1, ?_⟩
  simp only [push_cast, ↓J1, ↓J2, N1, N2, N3, reduceCtorEq, N4, N5, N6, reduceIte, N7, I1, I2, I3]
theorem t43 (s : Se) (v : Int) (hv : 0 ≤ v ∧ v < 2^50) (hb : SeB (2^50) s) : Ev C 43 [seF s, .int .i64 v] (.int .i64 (szSe s v)) := by
  have c1 := t17 hC s.b v hv hb.b
  have c2 := fun h => t92 hC s.t (szBrd s.b v) h hb.t
  have c3 := fun h => t12 hC s.c (szCt s.t (szBrd s.b v)) h hb.c.l hb.c.r
  have c4 := fun h => t48 hC s.src (szCl s.c (szCt s.t (szBrd s.b v))) h hb.s.l hb.s.r
  rw [show (if szSS s.c (szCt s.t (szBrd s.b v)) < 0 then -1 else szSS s.c (szCt s.t (szBrd s.b v))) = szCl s.c (szCt s.t (szBrd s.b v)) from rfl] at c3
  have u1 := szBrd_le (b := s.b) (v := v) hv.1 (by omega)
  simp only [seF, brdF, rulF, mpF, ctF, clA, List.cons_append, List.nil_append, szSe] at *
  refine rT hC Q43 ?_
  simp only [c43, push_cast, ↓J1, ↓J2, N1, N2, N3, reduceCtorEq, N4, N5, N6, reduceIte, N7, I1, I2, I3]
  refine ⟨_, c1, ?_⟩
  simp only [push_cast, ↓J1, ↓J2, N1, N2, N3, reduceCtorEq, N4, N5, N6, reduceIte, N7, I1, I2, I3]
  refine ifB_intro (fun h => ?_) (fun h => ?_)
  · simp [andThen, of_decide_eq_true h]
  have h1 := of_decide_eq_false h
  have u2 := szCt_rng (t := s.t) (v := szBrd s.b v) (by omega)
  refine ⟨_, c2 ⟨by omega, by omega⟩, ?_⟩
  simp only [push_cast, ↓J1, ↓J2, N1, N2, N3, reduceCtorEq, N4, N5, N6, reduceIte, N7, I1, I2, I3]
  refine ifB_intro (fun h => ?_) (fun h => ?_)
  · simp [andThen, h1, of_decide_eq_true h]
  have h2 := of_decide_eq_false h
  have u3 := szCl_rng (W := s.c) (v := szCt s.t (szBrd s.b v)) (by omega)
  refine ⟨_, c3 ⟨by omega, by omega⟩, ?_⟩
  simp only [push_cast, ↓J1, ↓J2, N1, N2, N3, reduceCtorEq, N4, N5, N6, reduceIte, N7, I1, I2, I3]
  refine ifB_intro (fun h => ?_) (fun h => ?_)
  · simp [andThen, h1, h2, of_decide_eq_true h]
  have h3 := of_decide_eq_false h
  refine ⟨_, c4 ⟨by omega, by omega⟩, ?_⟩
  simp only [push_cast, ↓J1, ↓J2, N1, N2, N3, reduceCtorEq, N4, N5, N6, reduceIte, N7, I1, I2, I3]
  refine ifB_intro (fun h => ?_) (fun h => ?_)
  · simp [andThen, h1, h2, h3, of_decide_eq_true h]
  · simp [andThen, h1, h2, h3, of_decide_eq_false h]
theorem t45 (s : Se) (hb : SeB (2^30) s) : Ev C 45 [seF s] (seO s) := by
  have c1 := t19 hC s.b hb.b
  have c2 := t94 hC s.t hb.t
  have c3 := t14 hC s.c hb.c.l hb.c.r
  have c4 := t51 hC s.src hb.s.l hb.s.r
  simp only [seF, seO, brdF, rulF, mpF, ctF, clA, List.cons_append, List.nil_append, brdO, rulO, mpO, ctO, clO] at *
  refine rT hC Q45 ?_ (by simp only [ownR, ownRL, own_ters, own_kins, own_ints1, own_ods, own_owss, Bool.and_true])
  simp only [c45, push_cast, ↓J1, ↓J2, N1, N2, N3, reduceCtorEq, N4, N5, N6, reduceIte, N7, I1, I2, I3]
  refine ⟨_, c1, ?_⟩
  simp only [push_cast, ↓J1, ↓J2, N1, N2, N3, reduceCtorEq, N4, N5, N6, reduceIte, N7, I1, I2, I3]
  refine ⟨_, c2, ?_⟩
  simp only [push_cast, ↓J1, ↓J2, N1, N2, N3, reduceCtorEq, N4, N5, N6, reduceIte, N7, I1, I2, I3]
  refine ⟨_, c3, ?_⟩
  simp only [push_cast, ↓J1, ↓J2, N1, N2, N3, reduceCtorEq, N4, N5, N6, reduceIte, N7, I1, I2, I3]
  refine ⟨_, c4, ?_⟩
  simp only [push_cast, ↓J1, ↓J2, N1, N2, N3, reduceCtorEq, N4, N5, N6, reduceIte, N7, I1, I2, I3]
  exact rtA
theorem t47 (s u : Se) (h1 : SeB (2^50) s) (h2 : SeB (2^50) u) : Ev C 47 [seF s, seF u] (.bool (decide (s = u))) := by
  have c1 := t21 hC s.b u.b h1.b h2.b
  have c2 := t97 hC s.t u.t h1.t h2.t
  have c3 := t16 hC s.c u.c h1.c.l h2.c.l h1.c.r h2.c.r
  have c4 := t54 hC s.src u.src h1.s.l h2.s.l h1.s.r h2.s.r
  clear h1 h2
  obtain ⟨a1, a2, a3, a4⟩ := s
  obtain ⟨b1, b2, b3, b4⟩ := u
  simp only [seF, brdF, rulF, mpF, ctF, clA, List.cons_append, List.nil_append] at *
  refine rT hC Q47 ?_
  simp only [c47, push_cast, ↓J1, ↓J2, N1, N2, N3, reduceCtorEq, N4, N5, N6, reduceIte, N7, I1, I2, I3]
  repeat' (first
    | refine ⟨_, c1, ?_⟩
    | refine ⟨_, c2, ?_⟩
    | refine ⟨_, c3, ?_⟩
    | refine ⟨_, c4, ?_⟩
    | refine ifB_intro (fun h => ?_) (fun h => ?_)
    | simp only [push_cast, ↓J1, ↓J2, N1, N2, N3, reduceCtorEq, N4, N5, N6, reduceIte, N7, I1, I2, I3])
  all_goals (clear c1 c2 c3 c4; simp_all)
theorem t11 (s : Se) (hb : SeB (2^50) s) : Ev C 11 [seF s] (.bool true) := by
  have q1 := t43 hC s 1048576 (by omega) hb
  have q2 := fun h => t45 hC s h
  have q3 := t44 hC s hb
  have q4 := t46 hC s hb
  have q5 := t47 hC s s hb hb
  simp only [seF, seO, brdF, rulF, mpF, ctF, clA, List.cons_append, List.nil_append, brdO, rulO, mpO, ctO, clO] at *
  refine rT hC Q11 ?_
  simp only [c11, push_cast, ↓J1, ↓J2, N1, N2, N3, reduceCtorEq, N4, N5, N6, reduceIte, N7, I1, I2, I3]
  refine ⟨_, q1, ?_⟩
  simp only [push_cast, ↓J1, ↓J2, N1, N2, N3, reduceCtorEq, N4, N5, N6, reduceIte, N7, I1, I2, I3]
  refine ifB_intro (fun h => trivial) (fun h => ?_)
  have hs := of_decide_eq_false h
  have hB : SeB (2^30) s := (szSe_pos (by omega)).mono (by omega)
  refine ⟨_, q2 hB, ?_⟩
  simp only [frzLL_ints, frzLL_ters, frzLL_kins, frzLL_ods, frzLL_owss, push_cast, ↓J1, ↓J2, N1, N2, N3, reduceCtorEq, N4, N5, N6, reduceIte, N7, I1, I2, I3]
  refine ⟨_, q3, ?_⟩
  simp only [push_cast, ↓J1, ↓J2, N1, N2, N3, reduceCtorEq, N4, N5, N6, reduceIte, N7, I1, I2, I3]
  refine ⟨_, q2 hB, ?_⟩
  simp only [frzLL_ints, frzLL_ters, frzLL_kins, frzLL_ods, frzLL_owss, push_cast, ↓J1, ↓J2, N1, N2, N3, reduceCtorEq, N4, N5, N6, reduceIte, N7, I1, I2, I3]
  refine ⟨_, q4, ?_⟩
  simp only [push_cast, ↓J1, ↓J2, N1, N2, N3, reduceCtorEq, N4, N5, N6, reduceIte, N7, I1, I2, I3]
  refine ⟨_, q2 hB, ?_⟩
  simp only [frzLL_ints, frzLL_ters, frzLL_kins, frzLL_ods, frzLL_owss, push_cast, ↓J1, ↓J2, N1, N2, N3, reduceCtorEq, N4, N5, N6, reduceIte, N7, I1, I2, I3]
  refine ⟨_, q5, ?_⟩
  simp only [push_cast, ↓J1, ↓J2, N1, N2, N3, reduceCtorEq, N4, N5, N6, reduceIte, N7, I1, I2, I3]
end
end Go.Proofs.YtlddjlchgibdfaaDoor.X
set_option maxHeartbeats 1000000
set_option maxRecDepth 8000
set_option linter.unusedSimpArgs false
set_option linter.unusedVariables false
open Nat renaming reduceBEq → N1, reduceAdd → N2, reduceSub → N3, reduceMul → N4, reduceEqDiff → N5, reduceLeDiff → N6, reduceLT → N7
open Int renaming reduceLE → I1, reduceLT → I2, reduceToNat → I3
namespace Go.Proofs.YtlddjlchgibdfaaDoor.X
open Go
theorem has_intss {k : Nat} {xs : List AV} (h : Has Tryd.prog (k + 3) 22 xs) : ∃ W, xs = [.sl (intss W)] ∧ SSB (2 ^ 50) W := by
  obtain ⟨es, rfl, _, hb, he⟩ := has_slice tk_22 h
  rw [bo_36] at hb
  obtain ⟨W, rfl, hr⟩ := all_map2 (f := fun r : List Int => [AV.sl (ints r)]) (p := fun r => r.length < 2 ^ 50) (es := es) fun e hx => by
    obtain ⟨l, rfl, hl⟩ := has_ints (he e hx).2
    exact ⟨l, rfl, hl⟩
  simp only [reachBytes, List.length_map] at hb
  exact ⟨W, rfl, ⟨by omega, hr⟩⟩
theorem has_od {k : Nat} {xs : List AV} (h : Has Tryd.prog (k + 6) 191 xs) : ∃ p : Od, xs = odA p := by
  have h := has_struct sty_191 h
  obtain ⟨x1, r, rfl, _, h1, h⟩ := hasE_cons h
  obtain ⟨x2, r, rfl, _, h2, h⟩ := hasE_cons h
  obtain rfl := hasE_nil h
  obtain ⟨a, rfl, _⟩ := has_int tk_3 h1
  obtain ⟨b, rfl, _⟩ := has_int tk_3 h2
  exact ⟨⟨a, b⟩, rfl⟩
theorem has_ct {k : Nat} {xs : List AV} (h : Has Tryd.prog (k + 12) 84 xs) : ∃ t : Ct, xs = ctF t ∧ CtB (2 ^ 50) t := by
  have h := has_struct sty_84 h
  obtain ⟨x0, r, rfl, _, h0, h⟩ := hasE_cons h
  obtain ⟨x1, r, rfl, _, h1, h⟩ := hasE_cons h
  obtain ⟨x2, r, rfl, _, h2, h⟩ := hasE_cons h
  obtain rfl := hasE_nil h
  obtain ⟨es, rfl, _, hb, he⟩ := has_slice tk_82 h0
  obtain ⟨cs, rfl⟩ := all_map (f := odA) (es := es) fun e hx => has_od (he e hx).2
  obtain ⟨d, rfl, _⟩ := has_int tk_3 h1
  obtain ⟨rs, rfl, hr⟩ := has_intss h2
  rw [bo_191] at hb
  simp only [reachBytes, List.length_map] at hb
  exact ⟨⟨cs, d, rs⟩, rfl, ⟨by show cs.length < _; omega, hr⟩⟩
theorem has_cl {k : Nat} {xs : List AV} (h : Has Tryd.prog (k + 8) 24 xs) : ∃ W, xs = [.sl (intss W)] ∧ SSB (2 ^ 50) W := by
  have h := has_struct sty_24 h
  obtain ⟨x0, r, rfl, _, h0, h⟩ := hasE_cons h
  obtain rfl := hasE_nil h
  obtain ⟨W, rfl, hr⟩ := has_intss h0
  exact ⟨W, rfl, hr⟩
theorem hasV_se {k : Nat} {x : AV} (hv : HasV Tryd.prog (k + 26) 86 x) : ∃ s : Se, x = seF s ∧ SeB (2 ^ 50) s := by
  obtain ⟨ys, rfl, h⟩ := hasV_struct sty_86 hv
  obtain ⟨x0, r, rfl, _, h0, h⟩ := hasE_cons h
  obtain ⟨x1, r, rfl, _, h1, h⟩ := hasE_cons h
  obtain ⟨x2, r, rfl, _, h2, h⟩ := hasE_cons h
  obtain ⟨x3, r, rfl, _, h3, h⟩ := hasE_cons h
  obtain rfl := hasE_nil h
  obtain ⟨b, rfl, hb⟩ := has_brd h0
  obtain ⟨t, rfl, ht⟩ := has_ct h1
  obtain ⟨c, rfl, hc⟩ := has_cl h2
  obtain ⟨w, rfl, hw⟩ := has_intss h3
  exact ⟨⟨b, t, c, w⟩, by simp only [seF, List.append_nil, List.append_assoc, List.cons_append, List.nil_append], ⟨hb, ht, hc, hw⟩⟩
theorem lawIsSetup_C {C : CT} (hC : Closed Tryd.prog G1 md0 C) : ∀ xs, HasVs Tryd.prog 30 [86] xs → Ev C 11 xs (.bool true) := by
  rintro xs ⟨x0, r0, rfl, h0, rfl⟩
  obtain ⟨s, rfl, hs⟩ := hasV_se h0
  exact t11 hC s hs
theorem lawIsSetup : ∀ xs, HasVs Tryd.prog 30 [86] xs → Ev (CS Tryd.prog G1) 11 xs (.bool true) := lawIsSetup_C (CS_closed (by kernel_rfl))
end Go.Proofs.YtlddjlchgibdfaaDoor.X
