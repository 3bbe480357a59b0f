/- A part of the proof: lemmas on the machine or on the functions that the law reaches. No condition of its own. -/
import Derived.Test.YtjaccjeejeiphaaGreatDoorXP7
import Derived.Test.YtjaccjeejeiphaaGreatDoorXP5
import Derived.Test.YtjaccjeejeiphaaGreatDoorXP6
set_option maxHeartbeats 4000000
set_option maxRecDepth 8000
set_option linter.unusedSimpArgs false
set_option linter.unusedVariables false
open Nat renaming reduceBEq → N1, reduceAdd → N2, reduceSub → N3, reduceMul → N4, reduceEqDiff → N5, reduceLeDiff → N6, reduceLT → N7
open Int renaming reduceLE → I1, reduceLT → I2, reduceToNat → I3
namespace Go.Proofs.YtjaccjeejeiphaaGreatDoor.X
open Go
attribute [local irreducible] Ev
structure Se where
  b : Brd
  t : Ct
  c : List (List Int)
  src : List (List Int)
  deriving DecidableEq
def seF (s : Se) : AV := .agg (rulF s.b.r ++ mpF s.b.m ++ ctF s.t ++ [.sl (intss s.c), .sl (intss s.src)])
def seO (s : Se) : AV := .agg (rulO s.b.r ++ mpO s.b.m ++ ctO s.t ++ [.ow 1 (owss s.c), .ow 1 (owss s.src)])
structure SeB (B : Nat) (s : Se) : Prop where
  b : BrdB B s.b
  t : CtB B s.t
  c : SSB B s.c
  s : SSB B s.src
def szSe (s : Se) : Int → Int := andThen (andThen (andThen (szBrd s.b) (szCt s.t)) (szCl s.c)) (szSS s.src)
theorem andThen_nn {f g : Int → Int} {v : Int} (h : 0 ≤ andThen f g v) : 0 ≤ f v ∧ 0 ≤ g (f v) ∧ andThen f g v = g (f v) := by
  have e : andThen f g v = if f v < 0 then -1 else if g (f v) < 0 then -1 else g (f v) := rfl
  rw [e] at h ⊢
  split at h
  · omega
  split at h
  · omega
  rename_i h1 h2
  rw [if_neg h1, if_neg h2]
  exact ⟨by omega, by omega, rfl⟩
theorem szSe_pos {s : Se} (h : 0 ≤ szSe s 1048576) : SeB (2 ^ 21) s := by
  obtain ⟨h1, h2, _⟩ := andThen_nn h
  obtain ⟨h3, h4, e3⟩ := andThen_nn h1
  obtain ⟨h5, h6, e5⟩ := andThen_nn h3
  have u1 := szBrd_le (b := s.b) (v := 1048576) (by omega) (by omega)
  have u2 := szCt_rng (t := s.t) h5
  have u3 := szCl_rng (W := s.c) (v := szCt s.t (szBrd s.b 1048576)) h6
  rw [e5] at h4 e3
  rw [e3] at h2
  have p3 : 0 ≤ szSS s.c (szCt s.t (szBrd s.b 1048576)) := by
    simp only [szCl] at h4
    split at h4 <;> omega
  exact ⟨szBrd_pos h5, szCt_pos h5 (by omega) h6, szSS_pos h6 (by omega) p3, szSS_pos h4 (by omega) h2⟩
theorem SeB.mono {A B : Nat} {s : Se} (h : A ≤ B) (hb : SeB A s) : SeB B s := ⟨hb.b.mono h, hb.t.mono h, hb.c.mono h, hb.s.mono h⟩
def srcOk (b : Brd) (l : List Int) : Bool := decide ((l.length : Int) ≤ 6) && upto l.length (risP l 0 (b.m.w * b.m.h - 1))
def seOk (s : Se) : Bool := brdOk s.b && ctOk s.t && goodW s.c && decide ((s.src.length : Int) = 2) && srcOk s.b (s.src.getD 0 []) && srcOk s.b (s.src.getD 1 [])
theorem src_get {W : List (List Int)} {k : Nat} (h : k < W.length) : (intss W)[k]? = some [.sl (ints (W.getD k []))] := by simp [intss, List.getD, h]
theorem src_mem {W : List (List Int)} {k : Nat} (h : k < W.length) : W.getD k [] ∈ W := by
  simp only [List.getD, List.getElem?_eq_getElem h, Option.getD_some]; exact List.getElem_mem h
theorem ris_eq (cut : List Int) (hi : Int) : (upto (cut.length - 1) (incP cut) && cut.all (inR 0 hi)) = upto cut.length (risP cut 0 hi) := by
  rw [Bool.eq_iff_iff, Bool.and_eq_true, upto_iff, upto_iff]
  rw [List.all_eq_true]
  constructor
  · rintro ⟨h1, h2⟩ j hj
    have hm : cut.getD j 0 ∈ cut := by simp only [List.getD, List.getElem?_eq_getElem hj]; exact List.getElem_mem hj
    simp only [risP, h2 _ hm, Bool.true_and, Bool.or_eq_true, decide_eq_true_eq]
    by_cases h0 : j = 0
    · exact .inl h0
    · right
      have := h1 (j - 1) (by omega)
      simp only [incP, decide_eq_true_eq] at this
      rwa [show j - 1 + 1 = j by omega] at this
  · intro h
    refine ⟨fun j hj => ?_, fun x hx => ?_⟩
    · have := h (j + 1) (by omega)
      simp only [risP, Bool.and_eq_true, Bool.or_eq_true, decide_eq_true_eq] at this
      simp only [incP, decide_eq_true_eq]
      have := this.2
      simp only [Nat.add_sub_cancel] at this
      omega
    · obtain ⟨j, hj, rfl⟩ := List.getElem_of_mem hx
      have := h j hj
      simp only [risP, Bool.and_eq_true] at this
      simpa [List.getD, hj] using this.1
section
variable {C : CT} (hC : Closed Tryz.prog G1 md0 C)
include hC
theorem t214 (b : Brd) (l : List Int) (g : brdOk b = true) (hl : l.length < 2^50) : Ev C 214 [brdF b, .sl (ints l)] (.bool (srcOk b l)) := by
  have hwh := brd_wh g
  have hm := mp_wh (brd_mp g)
  have c2 := t130 hC b.m hm.1 hm.2
  simp only [brdF, rulF, mpF, ctF, clA, List.cons_append, List.nil_append, srcOk] at *
  refine rT hC Q214 ?_
  simp only [c214, ints_length, push_cast, ↓J1, ↓J2, N1, N2, N3, reduceCtorEq, N4, N5, N6, reduceIte, N7, I1, I2, I3]
  cases decide ((l.length : Int) ≤ 6)
  · simp only [push_cast, ↓J1, ↓J2, N1, N2, N3, reduceCtorEq, N4, N5, N6, reduceIte, N7, I1, I2, I3]
  simp only [push_cast, ↓J1, ↓J2, N1, N2, N3, reduceCtorEq, N4, N5, N6, reduceIte, N7, I1, I2, I3]
  refine ⟨_, c2, ?_⟩
  simp only [push_cast, ↓J1, ↓J2, N1, N2, N3, reduceCtorEq, N4, N5, N6, reduceIte, N7, I1, I2, I3]
  rw [wrap64 (n := b.m.w * b.m.h - 1) (by omega) (by omega)]
  refine ⟨_, t265 hC l _ _ hl, ?_⟩
  simp only [push_cast, ↓J1, ↓J2, N1, N2, N3, reduceCtorEq, N4, N5, N6, reduceIte, N7, I1, I2, I3]
theorem t270 (x : Int) (b : Brd) (g : brdOk b = true) : Ev C 270 [.int .i64 x, .pf (rulF b.r ++ mpF b.m)] (.bool (!inR 0 (b.m.w * b.m.h - 1) x)) := by
  have hwh := brd_wh g
  have c1 := t134 hC b
  rw [hwh.1] at c1
  simp only [brdF, rulF, mpF, ctF, clA, List.cons_append, List.nil_append] at *
  refine rT hC Q270 ?_
  simp only [c270, push_cast, ↓J1, ↓J2, N1, N2, N3, reduceCtorEq, N4, N5, N6, reduceIte, N7, I1, I2, I3]
  refine ⟨_, c1, ?_⟩
  simp only [push_cast, ↓J1, ↓J2, N1, N2, N3, reduceCtorEq, N4, N5, N6, reduceIte, N7, I1, I2, I3]
  refine ⟨_, tIdx hC _ _ (by omega), ?_⟩
  simp only [push_cast, ↓J1, ↓J2, N1, N2, N3, reduceCtorEq, N4, N5, N6, reduceIte, N7, I1, I2, I3]
theorem t218 (b : Brd) (l : List Int) (g : brdOk b = true) (hl : l.length < 2^50) : Ev C 218 [brdF b, .sl (ints l)] (.bool (srcOk b l)) := by
  have c3 := t169 hC l 270 [.pf (rulF b.r ++ mpF b.m)] _ hl rfl rfl fun x _ => t270 hC x b g
  rw [srcOk, ← ris_eq]
  simp only [brdF, rulF, mpF, ctF, clA, List.cons_append, List.nil_append] at *
  refine rT hC Q218 ?_
  simp only [c218, ints_length, push_cast, ↓J1, ↓J2, N1, N2, N3, reduceCtorEq, N4, N5, N6, reduceIte, N7, I1, I2, I3]
  cases decide ((l.length : Int) ≤ 6)
  · simp only [push_cast, ↓J1, ↓J2, N1, N2, N3, reduceCtorEq, N4, N5, N6, reduceIte, N7, I1, I2, I3]
  simp only [push_cast, ↓J1, ↓J2, N1, N2, N3, reduceCtorEq, N4, N5, N6, reduceIte, N7, I1, I2, I3]
  refine ⟨_, t269 hC l hl, ?_⟩
  cases upto (l.length - 1) (incP l)
  · simp only [push_cast, ↓J1, ↓J2, N1, N2, N3, reduceCtorEq, N4, N5, N6, reduceIte, N7, I1, I2, I3]
  simp only [push_cast, ↓J1, ↓J2, N1, N2, N3, reduceCtorEq, N4, N5, N6, reduceIte, N7, I1, I2, I3]
  refine ⟨_, c3, ?_⟩
  simp only [all_not, push_cast, ↓J1, ↓J2, N1, N2, N3, reduceCtorEq, N4, N5, N6, reduceIte, N7, I1, I2, I3]
theorem t157 (s : Se) (hb : SeB (2^50) s) : Ev C 157 [seF s] (.bool (seOk s)) := by
  have c1 := t184 hC s.b hb.b
  have c2 := t212 hC s.t hb.t
  have c3 := t213 hC s.c hb.c.l hb.c.r
  have c4 := fun l g h => t214 hC s.b l g h
  simp only [seF, brdF, rulF, mpF, ctF, clA, List.cons_append, List.nil_append, seOk] at *
  refine rT hC Q157 ?_
  simp only [c157, push_cast, ↓J1, ↓J2, N1, N2, N3, reduceCtorEq, N4, N5, N6, reduceIte, N7, I1, I2, I3]
  refine ⟨_, c1, ?_⟩
  cases g1 : brdOk s.b
  · simp only [push_cast, ↓J1, ↓J2, N1, N2, N3, reduceCtorEq, N4, N5, N6, reduceIte, N7, I1, I2, I3]
  simp only [push_cast, ↓J1, ↓J2, N1, N2, N3, reduceCtorEq, N4, N5, N6, reduceIte, N7, I1, I2, I3]
  refine ⟨_, c2, ?_⟩
  cases g2 : ctOk s.t
  · simp only [push_cast, ↓J1, ↓J2, N1, N2, N3, reduceCtorEq, N4, N5, N6, reduceIte, N7, I1, I2, I3]
  simp only [push_cast, ↓J1, ↓J2, N1, N2, N3, reduceCtorEq, N4, N5, N6, reduceIte, N7, I1, I2, I3]
  refine ⟨_, c3, ?_⟩
  cases g3 : goodW s.c
  · simp only [push_cast, ↓J1, ↓J2, N1, N2, N3, reduceCtorEq, N4, N5, N6, reduceIte, N7, I1, I2, I3]
  simp only [intss_length, push_cast, ↓J1, ↓J2, N1, N2, N3, reduceCtorEq, N4, N5, N6, reduceIte, N7, I1, I2, I3]
  cases g4 : decide ((s.src.length : Int) = 2)
  · simp only [push_cast, ↓J1, ↓J2, N1, N2, N3, reduceCtorEq, N4, N5, N6, reduceIte, N7, I1, I2, I3]
  have hl := of_decide_eq_true g4
  have e0 := src_get (W := s.src) (k := 0) (by omega)
  have e1 := src_get (W := s.src) (k := 1) (by omega)
  have m0 := hb.s.r _ (src_mem (W := s.src) (k := 0) (by omega))
  have m1 := hb.s.r _ (src_mem (W := s.src) (k := 1) (by omega))
  have n0 : (0 : Int).toNat = 0 := rfl
  have n1 : (1 : Int).toNat = 1 := rfl
  simp only [n0, e0, push_cast, ↓J1, ↓J2, N1, N2, N3, reduceCtorEq, N4, N5, N6, reduceIte, N7, I1, I2, I3]
  repeat (refine ⟨by omega, ?_⟩)
  refine ⟨_, c4 _ g1 m0, ?_⟩
  cases srcOk s.b (s.src.getD 0 [])
  · simp only [push_cast, ↓J1, ↓J2, N1, N2, N3, reduceCtorEq, N4, N5, N6, reduceIte, N7, I1, I2, I3]
  simp only [n1, e1, push_cast, ↓J1, ↓J2, N1, N2, N3, reduceCtorEq, N4, N5, N6, reduceIte, N7, I1, I2, I3]
  repeat (refine ⟨by omega, ?_⟩)
  refine ⟨_, c4 _ g1 m1, ?_⟩
  simp only [push_cast, ↓J1, ↓J2, N1, N2, N3, reduceCtorEq, N4, N5, N6, reduceIte, N7, I1, I2, I3]
theorem t160 (s : Se) (hb : SeB (2^50) s) : Ev C 160 [seF s] (.bool (seOk s)) := by
  have c1 := t207 hC s.b hb.b
  have c2 := t216 hC s.t hb.t
  have c3 := t217 hC s.c hb.c.l hb.c.r
  have c4 := fun l g h => t218 hC s.b l g h
  simp only [seF, brdF, rulF, mpF, ctF, clA, List.cons_append, List.nil_append, seOk] at *
  refine rT hC Q160 ?_
  simp only [c160, push_cast, ↓J1, ↓J2, N1, N2, N3, reduceCtorEq, N4, N5, N6, reduceIte, N7, I1, I2, I3]
  refine ⟨_, c1, ?_⟩
  cases g1 : brdOk s.b
  · simp only [push_cast, ↓J1, ↓J2, N1, N2, N3, reduceCtorEq, N4, N5, N6, reduceIte, N7, I1, I2, I3]
  simp only [push_cast, ↓J1, ↓J2, N1, N2, N3, reduceCtorEq, N4, N5, N6, reduceIte, N7, I1, I2, I3]
  refine ⟨_, c2, ?_⟩
  cases g2 : ctOk s.t
  · simp only [push_cast, ↓J1, ↓J2, N1, N2, N3, reduceCtorEq, N4, N5, N6, reduceIte, N7, I1, I2, I3]
  simp only [push_cast, ↓J1, ↓J2, N1, N2, N3, reduceCtorEq, N4, N5, N6, reduceIte, N7, I1, I2, I3]
  refine ⟨_, c3, ?_⟩
  cases g3 : goodW s.c
  · simp only [push_cast, ↓J1, ↓J2, N1, N2, N3, reduceCtorEq, N4, N5, N6, reduceIte, N7, I1, I2, I3]
  simp only [intss_length, push_cast, ↓J1, ↓J2, N1, N2, N3, reduceCtorEq, N4, N5, N6, reduceIte, N7, I1, I2, I3]
  cases g4 : decide ((s.src.length : Int) = 2)
  · simp only [push_cast, ↓J1, ↓J2, N1, N2, N3, reduceCtorEq, N4, N5, N6, reduceIte, N7, I1, I2, I3]
  have hl := of_decide_eq_true g4
  have e0 := src_get (W := s.src) (k := 0) (by omega)
  have e1 := src_get (W := s.src) (k := 1) (by omega)
  have m0 := hb.s.r _ (src_mem (W := s.src) (k := 0) (by omega))
  have m1 := hb.s.r _ (src_mem (W := s.src) (k := 1) (by omega))
  have n0 : (0 : Int).toNat = 0 := rfl
  have n1 : (1 : Int).toNat = 1 := rfl
  simp only [n0, e0, push_cast, ↓J1, ↓J2, N1, N2, N3, reduceCtorEq, N4, N5, N6, reduceIte, N7, I1, I2, I3]
  repeat (refine ⟨by omega, ?_⟩)
  refine ⟨_, c4 _ g1 m0, ?_⟩
  cases srcOk s.b (s.src.getD 0 [])
  · simp only [push_cast, ↓J1, ↓J2, N1, N2, N3, reduceCtorEq, N4, N5, N6, reduceIte, N7, I1, I2, I3]
  simp only [n1, e1, push_cast, ↓J1, ↓J2, N1, N2, N3, reduceCtorEq, N4, N5, N6, reduceIte, N7, I1, I2, I3]
  repeat (refine ⟨by omega, ?_⟩)
  refine ⟨_, c4 _ g1 m1, ?_⟩
  simp only [push_cast, ↓J1, ↓J2, N1, N2, N3, reduceCtorEq, N4, N5, N6, reduceIte, N7, I1, I2, I3]
theorem t26 (s : Se) (v : Int) (hv : 0 ≤ v ∧ v < 2^50) (hb : SeB (2^50) s) : Ev C 26 [seF s, .int .i64 v] (.int .i64 (szSe s v)) := by
  have c1 := t15 hC s.b v hv hb.b
  have c2 := fun h => t73 hC s.t (szBrd s.b v) h hb.t
  have c3 := fun h => t74 hC s.c (szCt s.t (szBrd s.b v)) h hb.c.l hb.c.r
  have c4 := fun h => t75 hC s.src (szCl s.c (szCt s.t (szBrd s.b v))) h hb.s.l hb.s.r
  rw [show (if szSS s.c (szCt s.t (szBrd s.b v)) < 0 then -1 else szSS s.c (szCt s.t (szBrd s.b v))) = szCl s.c (szCt s.t (szBrd s.b v)) from rfl] at c3
  have u1 := szBrd_le (b := s.b) (v := v) hv.1 (by omega)
  simp only [seF, brdF, rulF, mpF, ctF, clA, List.cons_append, List.nil_append, szSe] at *
  refine rT hC Q26 ?_
  simp only [c26, push_cast, ↓J1, ↓J2, N1, N2, N3, reduceCtorEq, N4, N5, N6, reduceIte, N7, I1, I2, I3]
  refine ⟨_, c1, ?_⟩
  simp only [push_cast, ↓J1, ↓J2, N1, N2, N3, reduceCtorEq, N4, N5, N6, reduceIte, N7, I1, I2, I3]
  refine ifB_intro (fun h => ?_) (fun h => ?_)
  · simp [andThen, of_decide_eq_true h]
  have h1 := of_decide_eq_false h
  have u2 := szCt_rng (t := s.t) (v := szBrd s.b v) (by omega)
  refine ⟨_, c2 ⟨by omega, by omega⟩, ?_⟩
  simp only [push_cast, ↓J1, ↓J2, N1, N2, N3, reduceCtorEq, N4, N5, N6, reduceIte, N7, I1, I2, I3]
  refine ifB_intro (fun h => ?_) (fun h => ?_)
  · simp [andThen, h1, of_decide_eq_true h]
  have h2 := of_decide_eq_false h
  have u3 := szCl_rng (W := s.c) (v := szCt s.t (szBrd s.b v)) (by omega)
  refine ⟨_, c3 ⟨by omega, by omega⟩, ?_⟩
  simp only [push_cast, ↓J1, ↓J2, N1, N2, N3, reduceCtorEq, N4, N5, N6, reduceIte, N7, I1, I2, I3]
  refine ifB_intro (fun h => ?_) (fun h => ?_)
  · simp [andThen, h1, h2, of_decide_eq_true h]
  have h3 := of_decide_eq_false h
  refine ⟨_, c4 ⟨by omega, by omega⟩, ?_⟩
  simp only [push_cast, ↓J1, ↓J2, N1, N2, N3, reduceCtorEq, N4, N5, N6, reduceIte, N7, I1, I2, I3]
  refine ifB_intro (fun h => ?_) (fun h => ?_)
  · simp [andThen, h1, h2, h3, of_decide_eq_true h]
  · simp [andThen, h1, h2, h3, of_decide_eq_false h]
theorem t28 (s : Se) (hb : SeB (2^30) s) : Ev C 28 [seF s] (seO s) := by
  have c1 := t19 hC s.b hb.b
  have c2 := t78 hC s.t hb.t
  have c3 := t79 hC s.c hb.c.l hb.c.r
  have c4 := t80 hC s.src hb.s.l hb.s.r
  simp only [seF, seO, brdF, rulF, mpF, ctF, clA, List.cons_append, List.nil_append, brdO, rulO, mpO, ctO, clO] at *
  refine rT hC Q28 ?_ (by simp only [ownR, ownRL, own_ters, own_kins, own_ints1, own_ods, own_owss, Bool.and_true])
  simp only [c28, push_cast, ↓J1, ↓J2, N1, N2, N3, reduceCtorEq, N4, N5, N6, reduceIte, N7, I1, I2, I3]
  refine ⟨_, c1, ?_⟩
  simp only [push_cast, ↓J1, ↓J2, N1, N2, N3, reduceCtorEq, N4, N5, N6, reduceIte, N7, I1, I2, I3]
  refine ⟨_, c2, ?_⟩
  simp only [push_cast, ↓J1, ↓J2, N1, N2, N3, reduceCtorEq, N4, N5, N6, reduceIte, N7, I1, I2, I3]
  refine ⟨_, c3, ?_⟩
  simp only [push_cast, ↓J1, ↓J2, N1, N2, N3, reduceCtorEq, N4, N5, N6, reduceIte, N7, I1, I2, I3]
  refine ⟨_, c4, ?_⟩
  simp only [push_cast, ↓J1, ↓J2, N1, N2, N3, reduceCtorEq, N4, N5, N6, reduceIte, N7, I1, I2, I3]
  exact rtA
theorem t30 (s u : Se) (h1 : SeB (2^50) s) (h2 : SeB (2^50) u) : Ev C 30 [seF s, seF u] (.bool (decide (s = u))) := by
  have c1 := t23 hC s.b u.b h1.b h2.b
  have c2 := t83 hC s.t u.t h1.t h2.t
  have c3 := t84 hC s.c u.c h1.c.l h2.c.l h1.c.r h2.c.r
  have c4 := t85 hC s.src u.src h1.s.l h2.s.l h1.s.r h2.s.r
  clear h1 h2
  obtain ⟨a1, a2, a3, a4⟩ := s
  obtain ⟨b1, b2, b3, b4⟩ := u
  simp only [seF, brdF, rulF, mpF, ctF, clA, List.cons_append, List.nil_append] at *
  refine rT hC Q30 ?_
  simp only [c30, push_cast, ↓J1, ↓J2, N1, N2, N3, reduceCtorEq, N4, N5, N6, reduceIte, N7, I1, I2, I3]
  repeat' (first
    | simp only [push_cast, ↓J1, ↓J2, N1, N2, N3, reduceCtorEq, N4, N5, N6, reduceIte, N7, I1, I2, I3]
    | refine ⟨_, c1, ?_⟩
    | refine ⟨_, c2, ?_⟩
    | refine ⟨_, c3, ?_⟩
    | refine ⟨_, c4, ?_⟩
    | refine ifB_intro (fun h => ?_) (fun h => ?_))
  all_goals (clear c1 c2 c3 c4; simp_all)
end
end Go.Proofs.YtjaccjeejeiphaaGreatDoor.X
set_option maxHeartbeats 1000000
set_option maxRecDepth 8000
set_option linter.unusedSimpArgs false
set_option linter.unusedVariables false
open Nat renaming reduceBEq → N1, reduceAdd → N2, reduceSub → N3, reduceMul → N4, reduceEqDiff → N5, reduceLeDiff → N6, reduceLT → N7
open Int renaming reduceLE → I1, reduceLT → I2, reduceToNat → I3
namespace Go.Proofs.YtjaccjeejeiphaaGreatDoor.X
open Go
def w64 (n : Int) : Int := IntKind.i64.wrap n
theorem w64_id {n : Int} (h1 : -9223372036854775808 ≤ n) (h2 : n ≤ 9223372036854775807) : w64 n = n := wrap64 h1 h2
def dmod (x m : Int) : Int := (w64 (x.tmod m + m)).tmod m
def mixA (a b x : Int) : Int := (w64 (w64 (w64 (16807 * a) + dmod x 2147483647) + b)).tmod 2147483647
def mixB (a' b x : Int) : Int := (w64 (w64 (w64 (39373 * b) + dmod x 2147483629) + a')).tmod 2147483629
def mixS (ab : Int × Int) (x : Int) : Int × Int := (mixA ab.1 ab.2 x, mixB (mixA ab.1 ab.2 x) ab.2 x)
def mixF (l : List Int) (n : Int) : Int × Int := l.foldl mixS (7, w64 (n + 1))
def mixL (l : List Int) : Int × Int := mixF (l ++ [1, 1, 1]) l.length
theorem mixF_succ {l : List Int} {n : Int} {i : Nat} (h : i < l.length) : mixF (l.take (i + 1)) n = mixS (mixF (l.take i) n) l[i] := by
  simp only [mixF, List.take_succ_eq_append_getElem h, List.foldl_append, List.foldl_cons, List.foldl_nil]
section
variable {C : CT} (hC : Closed Tryz.prog G1 md0 C)
include hC
theorem t305 (x m : Int) (hm : m ≠ 0) : Ev C 305 [.int .i64 x, .int .i64 m] (.int .i64 (dmod x m)) := by
  refine rT hC Q305 ?_
  simp only [c305, push_cast, ↓J1, ↓J2, N1, N2, N3, reduceCtorEq, N4, N5, N6, reduceIte, N7, I1, I2, I3]
  simp only [hm, not_false_eq_true, true_and]
  rfl
theorem t307 (x m : Int) (hm : m ≠ 0) : Ev C 307 [.int .i64 x, .int .i64 m] (.int .i64 (dmod x m)) := by
  refine rT hC Q307 ?_
  simp only [c307, push_cast, ↓J1, ↓J2, N1, N2, N3, reduceCtorEq, N4, N5, N6, reduceIte, N7, I1, I2, I3]
  simp only [hm, not_false_eq_true, true_and]
  rfl
theorem t158 (n : Int) : Ev C 158 [.int .i64 n] (.bool (inR 0 4611686016279904236 n)) := by
  refine rT hC Q158 ?_
  simp only [c158, push_cast, ↓J1, ↓J2, N1, N2, N3, reduceCtorEq, N4, N5, N6, reduceIte, N7, I1, I2, I3]
  refine ⟨_, t105 hC _ _ _, ?_⟩
  simp only [push_cast, ↓J1, ↓J2, N1, N2, N3, reduceCtorEq, N4, N5, N6, reduceIte, N7, I1, I2, I3]
  rfl
theorem t111 (n : Int) : Ev C 111 [.int .i64 n] (.bool (inR 0 4611686016279904236 n)) := by
  refine rT hC Q111 ?_
  simp only [c111, push_cast, ↓J1, ↓J2, N1, N2, N3, reduceCtorEq, N4, N5, N6, reduceIte, N7, I1, I2, I3]
  refine ⟨_, t109 hC _ _ _, ?_⟩
  simp only [push_cast, ↓J1, ↓J2, N1, N2, N3, reduceCtorEq, N4, N5, N6, reduceIte, N7, I1, I2, I3]
  rfl
theorem t275 (l : List Int) (hl : l.length < 2^50) : Ev C 275 [.sl (ints l)] (.tup [.int .i64 (mixL l).1, .int .i64 (mixL l).2]) := by
  refine rT hC Q275 ?_
  simp only [c275, ints, List.length_map, push_cast, ↓J1, ↓J2, N1, N2, N3, reduceCtorEq, N4, N5, N6, reduceIte, N7, I1, I2, I3]
  have eL : (l ++ [1, 1, 1]).length = l.length + 3 := by simp
  refine RL_count (fun i => ⟨tb 44 .any [(0, .sl (l.map fun n => [.int .i64 n])), (4, .int .i64 (mixF ((l ++ [1, 1, 1]).take i) l.length).1), (5, .int .i64 (mixF ((l ++ [1, 1, 1]).take i) l.length).2), (6, .int .i64 (i : Int))], [], 0⟩) (fun _ => True) (l.length + 3) 0 (head_tb [] rfl (by simp only [keptV_cons, keptV_nil, tb_get, lk_same, lk_ne, lk_nil, ren, renL, lkp, N7, N1, N5, reduceIte, and_true, true_and, Nat.not_lt_zero, if_false, if_true, Nat.add_zero, Nat.zero_add]; simp [mixF, w64]) rfl) (by omega) trivial fun i hi _ J hJ => ?_
  simp only [List.length_map, Int.toNat_natCast, List.getElem?_map, push_cast, ↓J1, ↓J2, N1, N2, N3, reduceCtorEq, N4, N5, N6, reduceIte, N7, I1, I2, I3]
  rw [wrap64 (n := (l.length : Int) + 3) (by omega) (by omega)]
  by_cases h1 : i < l.length + 3
  · have h2 : i < (l ++ [1, 1, 1]).length := by omega
    have e1 := mixF_succ (n := l.length) h2
    refine ifB_intro (fun _ => ?_) (fun h => by simp at h; omega)
    refine ifB_intro (fun h => ?_) (fun h => ?_)
    · have h3 : i < l.length := by simp at h; omega
      rw [List.getElem_append_left h3] at e1
      simp only [List.getElem?_eq_getElem h3, push_cast, ↓J1, ↓J2, N1, N2, N3, reduceCtorEq, N4, N5, N6, reduceIte, N7, I1, I2, I3]
      refine ⟨by omega, _, t305 hC _ _ (by omega), ?_⟩
      simp only [push_cast, ↓J1, ↓J2, N1, N2, N3, reduceCtorEq, N4, N5, N6, reduceIte, N7, I1, I2, I3]
      refine ⟨by omega, _, t305 hC _ _ (by omega), ?_⟩
      simp only [push_cast, ↓J1, ↓J2, N1, N2, N3, reduceCtorEq, N4, N5, N6, reduceIte, N7, I1, I2, I3]
      refine ⟨by omega, hJ h1 trivial _ (hdA [] (hV := ?_))⟩
      simp only [keptV_cons, keptV_nil, tb_get, lk_same, lk_ne, lk_nil, ren, renL, lkp, N7, N1, N5, reduceIte, and_true, true_and, Nat.not_lt_zero, if_false, if_true, Nat.add_zero, Nat.zero_add]
      rw [wrap64 (n := (i : Int) + 1) (by omega) (by omega), e1]
      and_intros <;> rfl
    · have h3 : ¬ i < l.length := by simp at h; omega
      have h4 : (l ++ [1, 1, 1])[i] = 1 := by
        rw [List.getElem_append_right (by omega)]
        have : i - l.length = 0 ∨ i - l.length = 1 ∨ i - l.length = 2 := by omega
        rcases this with h | h | h <;> simp [h]
      rw [h4] at e1
      refine ⟨_, t305 hC _ _ (by omega), ?_⟩
      simp only [push_cast, ↓J1, ↓J2, N1, N2, N3, reduceCtorEq, N4, N5, N6, reduceIte, N7, I1, I2, I3]
      refine ⟨by omega, _, t305 hC _ _ (by omega), ?_⟩
      simp only [push_cast, ↓J1, ↓J2, N1, N2, N3, reduceCtorEq, N4, N5, N6, reduceIte, N7, I1, I2, I3]
      refine ⟨by omega, hJ h1 trivial _ (hdA [] (hV := ?_))⟩
      simp only [keptV_cons, keptV_nil, tb_get, lk_same, lk_ne, lk_nil, ren, renL, lkp, N7, N1, N5, reduceIte, and_true, true_and, Nat.not_lt_zero, if_false, if_true, Nat.add_zero, Nat.zero_add]
      rw [wrap64 (n := (i : Int) + 1) (by omega) (by omega), e1]
      and_intros <;> rfl
  · refine ifB_intro (fun h => by simp at h; omega) (fun h => ?_)
    rw [List.take_of_length_le (by omega)]
    exact ⟨rfl, rfl⟩
theorem t306 (a b x : Int) : C 306 [.int .i64 x, .ptr 0 none 0 0 0, .ptr 1 none 0 0 0] [(0, .var [.int .i64 a]), (1, .var [.int .i64 b])] 2 (fun v h' n' => v = .tup [] ∧ n' = 2 ∧ h' = [(0, .var [.int .i64 (mixS (a, b) x).1]), (1, .var [.int .i64 (mixS (a, b) x).2])]) := by
  refine Closed.rT hC Q306 ?_
  simp only [c306, push_cast, ↓J1, ↓J2, N1, N2, N3, reduceCtorEq, N4, N5, N6, reduceIte, N7, I1, I2, I3]
  refine ⟨_, t307 hC _ _ (by omega), ?_⟩
  simp only [push_cast, ↓J1, ↓J2, N1, N2, N3, reduceCtorEq, N4, N5, N6, reduceIte, N7, I1, I2, I3]
  refine ⟨by omega, _, t307 hC _ _ (by omega), ?_⟩
  simp only [push_cast, ↓J1, ↓J2, N1, N2, N3, reduceCtorEq, N4, N5, N6, reduceIte, N7, I1, I2, I3]
  exact ⟨by omega, rfl⟩
theorem t276 (l : List Int) (hl : l.length < 2^50) : Ev C 276 [.sl (ints l)] (.tup [.int .i64 (mixL l).1, .int .i64 (mixL l).2]) := by
  refine rT hC Q276 ?_
  simp only [c276, ints, List.length_map, push_cast, ↓J1, ↓J2, N1, N2, N3, reduceCtorEq, N4, N5, N6, reduceIte, N7, I1, I2, I3]
  refine RL_count (fun i => ⟨tb 30 .any [(4, .ptr 0 none 0 0 0), (5, .ptr 1 none 0 0 0), (6, .fn 306 [.ptr 0 none 0 0 0, .ptr 1 none 0 0 0]), (13, .sl (l.map fun n => [.int .i64 n])), (14, .int .i64 (l.length : Int)), (15, .int .i64 (i : Int))], [(0, .var [.int .i64 (mixF (l.take i) l.length).1]), (1, .var [.int .i64 (mixF (l.take i) l.length).2])], 2⟩) (fun _ => True) l.length 0 (hdA [(0, 0), (1, 1)]) (by omega) trivial fun i hi _ J hJ => ?_
  by_cases h1 : i < l.length
  · have e1 := mixF_succ (n := l.length) h1
    simp only [List.length_map, Int.toNat_natCast, List.getElem?_map, List.getElem?_eq_getElem h1, push_cast, ↓J1, ↓J2, N1, N2, N3, reduceCtorEq, N4, N5, N6, reduceIte, N7, I1, I2, I3]
    refine ifB_intro (fun _ => ⟨by omega, _, t306 hC _ _ _, ?_⟩) (fun h => by simp at h; omega)
    rintro v h' n' ⟨rfl, rfl, rfl⟩ _
    simp only [push_cast, ↓J1, ↓J2, N1, N2, N3, reduceCtorEq, N4, N5, N6, reduceIte, N7, I1, I2, I3]
    refine hJ h1 trivial _ (hdA [(0, 0), (1, 1)] (hh := ?_))
    rw [e1]
    rfl
  · simp only [List.length_map, Int.toNat_natCast, List.getElem?_map, push_cast, ↓J1, ↓J2, N1, N2, N3, reduceCtorEq, N4, N5, N6, reduceIte, N7, I1, I2, I3]
    refine ifB_intro (fun h => by simp at h; omega) (fun h => ?_)
    rw [List.take_of_length_le (by omega)]
    refine RL_count (fun k => ⟨tb 30 .any [(4, .ptr 0 none 0 0 0), (5, .ptr 1 none 0 0 0), (6, .fn 306 [.ptr 0 none 0 0 0, .ptr 1 none 0 0 0]), (23, .int .i64 (k : Int))], [(0, .var [.int .i64 ((List.replicate k 1).foldl mixS (mixF l l.length)).1]), (1, .var [.int .i64 ((List.replicate k 1).foldl mixS (mixF l l.length)).2])], 2⟩) (fun _ => True) 3 0 (hdA [(0, 0), (1, 1)]) (by omega) trivial fun k hk _ J' hJ' => ?_
    by_cases h6 : k < 3
    · simp only [push_cast, ↓J1, ↓J2, N1, N2, N3, reduceCtorEq, N4, N5, N6, reduceIte, N7, I1, I2, I3]
      refine ifB_intro (fun _ => ⟨_, t306 hC _ _ _, ?_⟩) (fun h => by simp at h; omega)
      rintro v h' n' ⟨rfl, rfl, rfl⟩ _
      simp only [push_cast, ↓J1, ↓J2, N1, N2, N3, reduceCtorEq, N4, N5, N6, reduceIte, N7, I1, I2, I3]
      refine hJ' h6 trivial _ (hdA [(0, 0), (1, 1)] (hh := ?_))
      rw [List.replicate_succ', List.foldl_append]
      rfl
    · obtain rfl : k = 3 := by omega
      simp only [push_cast, ↓J1, ↓J2, N1, N2, N3, reduceCtorEq, N4, N5, N6, reduceIte, N7, I1, I2, I3]
      refine ifB_intro (fun h => by simp at h) (fun h => ?_)
      have e3 : ([1, 1, 1] : List Int).foldl mixS (mixF l l.length) = mixL l := by
        simp only [mixL, mixF, List.foldl_append]
      rw [e3]
      exact ⟨rfl, rfl⟩
end
end Go.Proofs.YtjaccjeejeiphaaGreatDoor.X
set_option maxHeartbeats 4000000
set_option maxRecDepth 8000
set_option linter.unusedSimpArgs false
set_option linter.unusedVariables false
open Nat renaming reduceBEq → N1, reduceAdd → N2, reduceSub → N3, reduceMul → N4, reduceEqDiff → N5, reduceLeDiff → N6, reduceLT → N7
open Int renaming reduceLE → I1, reduceLT → I2, reduceToNat → I3
namespace Go.Proofs.YtjaccjeejeiphaaGreatDoor.X
open Go
attribute [local irreducible] Ev
def onSide (sd : Int) (u : Un) : Bool := decide (u.sd = sd) && decide (0 ≤ u.at_)
def gaOk (x : Se) (s : Sta) : Bool := seOk x && staOk x.b s
theorem se_brd {x : Se} (h : seOk x = true) : brdOk x.b = true := by
  simp only [seOk, Bool.and_eq_true] at h; exact h.1.1.1.1.1
theorem ga_eq {x : Se} {s : Sta} (h : seOk x = true) : gaOk x s = staOk0 x.b s := by
  simp only [gaOk, staOk, h, se_brd h, Bool.true_and]
def overOk (x : Se) (s : Sta) : Bool := decide (s.t = x.b.r.turns) || decide ((((fil (onSide 0) s.us s.us.length).length : Nat) : Int) = 0) || decide ((((fil (onSide 1) s.us s.us.length).length : Nat) : Int) = 0)
def ovRes (x : Se) (s : Sta) : Bool := gaOk x s && overOk x s
def leftRes (x : Se) (s : Sta) : Int := if gaOk x s then if overOk x s then 0 else x.b.r.turns - s.t else 0
theorem ga_turn {x : Se} {s : Sta} (h : gaOk x s = true) : 0 ≤ s.t ∧ s.t ≤ x.b.r.turns ∧ x.b.r.turns ≤ 30 ∧ s.us.length ≤ 12 := by
  simp only [gaOk, Bool.and_eq_true] at h
  have h1 := h.2
  have h2 := brd_ru (se_brd h.1)
  simp only [staOk, staOk0, rulOk, tailOk, inR, Bool.and_eq_true, decide_eq_true_eq] at h1 h2
  omega
section
variable {C : CT} (hC : Closed Tryz.prog G1 md0 C)
include hC
theorem t126 (s : Sta) (sd : Int) (hl : s.us.length < 2^40) : Ev C 126 [.agg (staF s), .int .i64 sd] (.ow 1 (ints (fil (onSide sd) s.us s.us.length))) := by
  simp only [staF]
  refine rT hC Q126 ?_ (own_ints _)
  simp only [c126, uns_length, push_cast, ↓J1, ↓J2, N1, N2, N3, reduceCtorEq, N4, N5, N6, reduceIte, N7, I1, I2, I3]
  refine RL_count (fun i => ⟨tb 32 .any [(5, .ref 0 none 1 0 (fil (onSide sd) s.us i).length), (1, .int .i64 sd), (10, .sl (uns s.us)), (11, .int .i64 (s.us.length : Int)), (12, .int .i64 (i : Int))], [(0, .slice 1 (ints (fil (onSide sd) s.us i)))], 1⟩) (fun _ => True) s.us.length 0 (hdA [(1, 0)]) (by omega) trivial fun i hi _ J hJ => ?_
  by_cases h1 : i < s.us.length
  · have e1 := uns_get h1
    have e2 := fil_succ (p := (onSide sd)) h1
    have hfl := fil_le (p := (onSide sd)) hi
    have tk : List.take (fil (onSide sd) s.us i).length (ints (fil (onSide sd) s.us i)) = ints (fil (onSide sd) s.us i) := List.take_of_length_le (by rw [ints_length]; omega)
    generalize s.us[i] = u at *
    simp only [Int.toNat_natCast, e1, unA, push_cast, ↓J1, ↓J2, N1, N2, N3, reduceCtorEq, N4, N5, N6, reduceIte, N7, I1, I2, I3]
    refine ifB_intro (fun _ => ?_) (fun h => by simp at h; omega)
    repeat (refine ⟨by omega, ?_⟩)
    cases g1 : decide (u.sd = sd)
    · have hp : (onSide sd) u = false := by simp only [onSide, g1, Bool.false_and, Bool.and_false]
      rw [hp, if_neg Bool.false_ne_true] at e2
      simp only [g1, push_cast, ↓J1, ↓J2, N1, N2, N3, reduceCtorEq, N4, N5, N6, reduceIte, N7, I1, I2, I3]
      exact hJ h1 trivial _ (by rw [e2]; exact (hdA [(0, 0)]))
    cases g2 : decide (0 ≤ u.at_)
    · have hp : (onSide sd) u = false := by simp only [onSide, g1, g2, Bool.false_and, Bool.and_false]
      rw [hp, if_neg Bool.false_ne_true] at e2
      simp only [g1, g2, push_cast, ↓J1, ↓J2, N1, N2, N3, reduceCtorEq, N4, N5, N6, reduceIte, N7, I1, I2, I3]
      exact hJ h1 trivial _ (by rw [e2]; exact (hdA [(0, 0)]))
    have hp : (onSide sd) u = true := by simp only [onSide, g1, g2, Bool.and_self]
    rw [hp, if_pos rfl] at e2
    simp only [g1, g2, tk, ints_length, allScs, apYR_sc, push_cast, ↓J1, ↓J2, N1, N2, N3, reduceCtorEq, N4, N5, N6, reduceIte, N7, I1, I2, I3]
    repeat (refine ⟨by omega, ?_⟩)
    refine hJ h1 trivial _ ?_
    rw [e2]
    refine (hdA [(3, 0)] (hh := ?_))
    simp only [canR, canB, renO, renL, ren, lkp, hget, N7, N5, Nat.not_lt_zero, if_false, if_true, reduceIte, List.append_nil, List.nil_append, ints_sn]
    all_goals rfl
  · simp only [uns_length, push_cast, ↓J1, ↓J2, N1, N2, N3, reduceCtorEq, N4, N5, N6, reduceIte, N7, I1, I2, I3]
    refine ifB_intro (fun h => by simp at h; omega) (fun h => ?_)
    obtain rfl : i = s.us.length := by omega
    exact RetTo_ow rfl (by rw [ints_length])
theorem t123 (s : Sta) (sd : Int) (hl : s.us.length < 2^40) : Ev C 123 [.agg (staF s), .int .i64 sd] (.ow 1 (ints (fil (onSide sd) s.us s.us.length))) := by
  simp only [staF]
  refine rT hC Q123 ?_ (own_ints _)
  simp only [c123, uns_length, push_cast, ↓J1, ↓J2, N1, N2, N3, reduceCtorEq, N4, N5, N6, reduceIte, N7, I1, I2, I3]
  refine RL_count (fun i => ⟨tb 31 .any [(5, .ref 0 none 1 0 (fil (onSide sd) s.us i).length), (1, .int .i64 sd), (9, .sl (uns s.us)), (10, .int .i64 (s.us.length : Int)), (11, .int .i64 (i : Int))], [(0, .slice 1 (ints (fil (onSide sd) s.us i)))], 1⟩) (fun _ => True) s.us.length 0 (hdO 5 0 1 []) (by omega) trivial fun i hi _ J hJ => ?_
  by_cases h1 : i < s.us.length
  · have e1 := uns_get h1
    have e2 := fil_succ (p := (onSide sd)) h1
    have hfl := fil_le (p := (onSide sd)) hi
    have tk : List.take (fil (onSide sd) s.us i).length (ints (fil (onSide sd) s.us i)) = ints (fil (onSide sd) s.us i) := List.take_of_length_le (by rw [ints_length]; omega)
    generalize s.us[i] = u at *
    simp only [Int.toNat_natCast, e1, unA, push_cast, ↓J1, ↓J2, N1, N2, N3, reduceCtorEq, N4, N5, N6, reduceIte, N7, I1, I2, I3]
    refine ifB_intro (fun _ => ?_) (fun h => by simp at h; omega)
    repeat (refine ⟨by omega, ?_⟩)
    cases g1 : decide (u.sd = sd)
    · have hp : (onSide sd) u = false := by simp only [onSide, g1, Bool.false_and, Bool.and_false]
      rw [hp, if_neg Bool.false_ne_true] at e2
      simp only [g1, push_cast, ↓J1, ↓J2, N1, N2, N3, reduceCtorEq, N4, N5, N6, reduceIte, N7, I1, I2, I3]
      exact hJ h1 trivial _ (by rw [e2]; exact (hdA [(0, 0)]))
    cases g2 : decide (0 ≤ u.at_)
    · have hp : (onSide sd) u = false := by simp only [onSide, g1, g2, Bool.false_and, Bool.and_false]
      rw [hp, if_neg Bool.false_ne_true] at e2
      simp only [g1, g2, push_cast, ↓J1, ↓J2, N1, N2, N3, reduceCtorEq, N4, N5, N6, reduceIte, N7, I1, I2, I3]
      exact hJ h1 trivial _ (by rw [e2]; exact (hdA [(0, 0)]))
    have hp : (onSide sd) u = true := by simp only [onSide, g1, g2, Bool.and_self]
    rw [hp, if_pos rfl] at e2
    simp only [g1, g2, tk, ints_length, allScs, apYR_sc, push_cast, ↓J1, ↓J2, N1, N2, N3, reduceCtorEq, N4, N5, N6, reduceIte, N7, I1, I2, I3]
    repeat (refine ⟨by omega, ?_⟩)
    refine hJ h1 trivial _ ?_
    rw [e2]
    refine (hdA [(3, 0)] (hh := ?_))
    simp only [canR, canB, renO, renL, ren, lkp, hget, N7, N5, Nat.not_lt_zero, if_false, if_true, reduceIte, List.append_nil, List.nil_append, ints_sn]
    all_goals rfl
  · simp only [uns_length, push_cast, ↓J1, ↓J2, N1, N2, N3, reduceCtorEq, N4, N5, N6, reduceIte, N7, I1, I2, I3]
    refine ifB_intro (fun h => by simp at h; omega) (fun h => ?_)
    obtain rfl : i = s.us.length := by omega
    exact RetTo_ow rfl (by rw [ints_length])
theorem t81 (x : Se) (s : Sta) (hb : SeB (2^50) x) (hl : s.us.length < 2^40) : Ev C 81 [seF x, .agg (staF s)] (.bool (gaOk x s)) := by
  have c1 := t160 hC x hb
  have c2 := fun g => t121 hC x.b s g hb.b hl
  simp only [seF, brdF, rulF, mpF, ctF, clA, List.cons_append, List.nil_append, staF] at *
  refine rT hC Q81 ?_
  simp only [c81, push_cast, ↓J1, ↓J2, N1, N2, N3, reduceCtorEq, N4, N5, N6, reduceIte, N7, I1, I2, I3]
  refine ⟨_, c1, ?_⟩
  cases g1 : seOk x
  · simp only [gaOk, g1, Bool.false_and, push_cast, ↓J1, ↓J2, N1, N2, N3, reduceCtorEq, N4, N5, N6, reduceIte, N7, I1, I2, I3]
  simp only [push_cast, ↓J1, ↓J2, N1, N2, N3, reduceCtorEq, N4, N5, N6, reduceIte, N7, I1, I2, I3]
  refine ⟨_, c2 (se_brd g1), ?_⟩
  simp only [ga_eq g1, push_cast, ↓J1, ↓J2, N1, N2, N3, reduceCtorEq, N4, N5, N6, reduceIte, N7, I1, I2, I3]
theorem t76 (x : Se) (s : Sta) (sd : Int) (hb : SeB (2^50) x) (hl : s.us.length < 2^40) : Ev C 76 [seF x, .agg (staF s), .int .i64 sd] (.bool (gaOk x s && inR 0 4611686016279904236 sd)) := by
  have c1 := t157 hC x hb
  have c2 := t119 hC x.b s hb.b hl
  have c3 := t158 hC sd
  simp only [seF, brdF, rulF, mpF, ctF, clA, List.cons_append, List.nil_append, staF] at *
  refine rT hC Q76 ?_
  simp only [c76, push_cast, ↓J1, ↓J2, N1, N2, N3, reduceCtorEq, N4, N5, N6, reduceIte, N7, I1, I2, I3]
  refine ⟨_, c1, ?_⟩
  cases g1 : seOk x
  · simp only [gaOk, g1, Bool.false_and, push_cast, ↓J1, ↓J2, N1, N2, N3, reduceCtorEq, N4, N5, N6, reduceIte, N7, I1, I2, I3]
  simp only [push_cast, ↓J1, ↓J2, N1, N2, N3, reduceCtorEq, N4, N5, N6, reduceIte, N7, I1, I2, I3]
  refine ⟨_, c2, ?_⟩
  cases g2 : staOk x.b s
  · simp only [gaOk, g1, g2, Bool.false_and, Bool.and_false, push_cast, ↓J1, ↓J2, N1, N2, N3, reduceCtorEq, N4, N5, N6, reduceIte, N7, I1, I2, I3]
  simp only [push_cast, ↓J1, ↓J2, N1, N2, N3, reduceCtorEq, N4, N5, N6, reduceIte, N7, I1, I2, I3]
  refine ⟨_, c3, ?_⟩
  simp only [gaOk, g1, g2, Bool.true_and, Bool.and_self, push_cast, ↓J1, ↓J2, N1, N2, N3, reduceCtorEq, N4, N5, N6, reduceIte, N7, I1, I2, I3]
theorem t82 (x : Se) (s : Sta) (hl : s.us.length < 2^40) : Ev C 82 [brdF x.b, .agg (staF s)] (.bool (overOk x s)) := by
  have c1 := fun sd => t126 hC s sd hl
  simp only [seF, brdF, rulF, mpF, ctF, clA, List.cons_append, List.nil_append, staF] at *
  refine rT hC Q82 ?_
  simp only [c82, push_cast, ↓J1, ↓J2, N1, N2, N3, reduceCtorEq, N4, N5, N6, reduceIte, N7, I1, I2, I3]
  cases g1 : decide (s.t = x.b.r.turns)
  · simp only [push_cast, ↓J1, ↓J2, N1, N2, N3, reduceCtorEq, N4, N5, N6, reduceIte, N7, I1, I2, I3]
    refine ⟨_, c1 0, ?_⟩
    simp only [ints_length, push_cast, ↓J1, ↓J2, N1, N2, N3, reduceCtorEq, N4, N5, N6, reduceIte, N7, I1, I2, I3]
    cases g2 : decide ((((fil (onSide 0) s.us s.us.length).length : Nat) : Int) = 0)
    · simp only [push_cast, ↓J1, ↓J2, N1, N2, N3, reduceCtorEq, N4, N5, N6, reduceIte, N7, I1, I2, I3]
      refine ⟨_, c1 1, ?_⟩
      simp only [overOk, g1, g2, Bool.false_or, ints_length, push_cast, ↓J1, ↓J2, N1, N2, N3, reduceCtorEq, N4, N5, N6, reduceIte, N7, I1, I2, I3]
    · simp only [overOk, g1, g2, Bool.or_true, Bool.true_or, push_cast, ↓J1, ↓J2, N1, N2, N3, reduceCtorEq, N4, N5, N6, reduceIte, N7, I1, I2, I3]
  · simp only [overOk, g1, Bool.true_or, push_cast, ↓J1, ↓J2, N1, N2, N3, reduceCtorEq, N4, N5, N6, reduceIte, N7, I1, I2, I3]
theorem t77 (x : Se) (s : Sta) (hl : s.us.length < 2^40) : Ev C 77 [seF x, .agg (staF s)] (.bool (overOk x s)) := by
  have c1 := fun sd => t123 hC s sd hl
  simp only [seF, brdF, rulF, mpF, ctF, clA, List.cons_append, List.nil_append, staF] at *
  refine rT hC Q77 ?_
  simp only [c77, push_cast, ↓J1, ↓J2, N1, N2, N3, reduceCtorEq, N4, N5, N6, reduceIte, N7, I1, I2, I3]
  cases g1 : decide (s.t = x.b.r.turns)
  · simp only [push_cast, ↓J1, ↓J2, N1, N2, N3, reduceCtorEq, N4, N5, N6, reduceIte, N7, I1, I2, I3]
    refine ⟨_, c1 0, ?_⟩
    simp only [ints_length, push_cast, ↓J1, ↓J2, N1, N2, N3, reduceCtorEq, N4, N5, N6, reduceIte, N7, I1, I2, I3]
    cases g2 : decide ((((fil (onSide 0) s.us s.us.length).length : Nat) : Int) = 0)
    · simp only [push_cast, ↓J1, ↓J2, N1, N2, N3, reduceCtorEq, N4, N5, N6, reduceIte, N7, I1, I2, I3]
      refine ⟨_, c1 1, ?_⟩
      simp only [overOk, g1, g2, Bool.false_or, ints_length, push_cast, ↓J1, ↓J2, N1, N2, N3, reduceCtorEq, N4, N5, N6, reduceIte, N7, I1, I2, I3]
    · simp only [overOk, g1, g2, Bool.or_true, Bool.true_or, push_cast, ↓J1, ↓J2, N1, N2, N3, reduceCtorEq, N4, N5, N6, reduceIte, N7, I1, I2, I3]
  · simp only [overOk, g1, Bool.true_or, push_cast, ↓J1, ↓J2, N1, N2, N3, reduceCtorEq, N4, N5, N6, reduceIte, N7, I1, I2, I3]
theorem t29 (x : Se) (s : Sta) (hb : SeB (2^50) x) (hl : s.us.length < 2^40) : Ev C 29 [seF x, .agg (staF s)] (.tup [.bool (ovRes x s), .bool (gaOk x s)]) := by
  have c1 := t81 hC x s hb hl
  have c2 := t82 hC x s hl
  simp only [seF, brdF, rulF, mpF, ctF, clA, List.cons_append, List.nil_append, staF] at *
  refine rT hC Q29 ?_
  simp only [c29, push_cast, ↓J1, ↓J2, N1, N2, N3, reduceCtorEq, N4, N5, N6, reduceIte, N7, I1, I2, I3]
  refine ⟨_, c1, ?_⟩
  cases g1 : gaOk x s
  · simp only [ovRes, g1, Bool.false_and, push_cast, ↓J1, ↓J2, N1, N2, N3, reduceCtorEq, N4, N5, N6, reduceIte, N7, I1, I2, I3]
    exact RetTo_sc rfl
  simp only [push_cast, ↓J1, ↓J2, N1, N2, N3, reduceCtorEq, N4, N5, N6, reduceIte, N7, I1, I2, I3]
  refine ⟨_, c2, ?_⟩
  simp only [ovRes, g1, Bool.true_and, push_cast, ↓J1, ↓J2, N1, N2, N3, reduceCtorEq, N4, N5, N6, reduceIte, N7, I1, I2, I3]
  exact RetTo_sc rfl
theorem t27 (x : Se) (s : Sta) (hb : SeB (2^50) x) (hl : s.us.length < 2^40) : Ev C 27 [seF x, .agg (staF s)] (.tup [.bool (ovRes x s), .bool (gaOk x s)]) := by
  have c1 := t76 hC x s 0 hb hl
  rw [show inR 0 4611686016279904236 0 = true from rfl, Bool.and_true] at c1
  have c2 := t77 hC x s hl
  simp only [seF, brdF, rulF, mpF, ctF, clA, List.cons_append, List.nil_append, staF] at *
  refine rT hC Q27 ?_
  simp only [c27, push_cast, ↓J1, ↓J2, N1, N2, N3, reduceCtorEq, N4, N5, N6, reduceIte, N7, I1, I2, I3]
  refine ⟨_, c1, ?_⟩
  cases g1 : gaOk x s
  · simp only [ovRes, g1, Bool.false_and, push_cast, ↓J1, ↓J2, N1, N2, N3, reduceCtorEq, N4, N5, N6, reduceIte, N7, I1, I2, I3]
    exact RetTo_sc rfl
  simp only [push_cast, ↓J1, ↓J2, N1, N2, N3, reduceCtorEq, N4, N5, N6, reduceIte, N7, I1, I2, I3]
  refine ⟨_, c2, ?_⟩
  simp only [ovRes, g1, Bool.true_and, push_cast, ↓J1, ↓J2, N1, N2, N3, reduceCtorEq, N4, N5, N6, reduceIte, N7, I1, I2, I3]
  exact RetTo_sc rfl
theorem t32 (x : Se) (s : Sta) (hb : SeB (2^50) x) (hl : s.us.length < 2^40) : Ev C 32 [seF x, .agg (staF s)] (.tup [.int .i64 (leftRes x s), .bool (gaOk x s)]) := by
  have c1 := t81 hC x s hb hl
  have c2 := t82 hC x s hl
  simp only [seF, brdF, rulF, mpF, ctF, clA, List.cons_append, List.nil_append, staF] at *
  refine rT hC Q32 ?_
  simp only [c32, push_cast, ↓J1, ↓J2, N1, N2, N3, reduceCtorEq, N4, N5, N6, reduceIte, N7, I1, I2, I3]
  refine ⟨_, c1, ?_⟩
  cases g1 : gaOk x s
  · simp only [leftRes, g1, push_cast, ↓J1, ↓J2, N1, N2, N3, reduceCtorEq, N4, N5, N6, reduceIte, N7, I1, I2, I3]
  have h1 := ga_turn g1
  simp only [push_cast, ↓J1, ↓J2, N1, N2, N3, reduceCtorEq, N4, N5, N6, reduceIte, N7, I1, I2, I3]
  refine ⟨_, c2, ?_⟩
  cases g2 : overOk x s
  · simp only [leftRes, g1, g2, wrap64 (n := x.b.r.turns - s.t) (by omega) (by omega), push_cast, ↓J1, ↓J2, N1, N2, N3, reduceCtorEq, N4, N5, N6, reduceIte, N7, I1, I2, I3]
  · simp only [leftRes, g1, g2, push_cast, ↓J1, ↓J2, N1, N2, N3, reduceCtorEq, N4, N5, N6, reduceIte, N7, I1, I2, I3]
theorem t31 (x : Se) (s : Sta) (hb : SeB (2^50) x) (hl : s.us.length < 2^40) : Ev C 31 [seF x, .agg (staF s)] (.tup [.int .i64 (leftRes x s), .bool (gaOk x s)]) := by
  have c1 := t76 hC x s 0 hb hl
  rw [show inR 0 4611686016279904236 0 = true from rfl, Bool.and_true] at c1
  have c2 := t77 hC x s hl
  simp only [seF, brdF, rulF, mpF, ctF, clA, List.cons_append, List.nil_append, staF] at *
  refine rT hC Q31 ?_
  simp only [c31, push_cast, ↓J1, ↓J2, N1, N2, N3, reduceCtorEq, N4, N5, N6, reduceIte, N7, I1, I2, I3]
  refine ⟨_, c1, ?_⟩
  cases g1 : gaOk x s
  · simp only [leftRes, g1, push_cast, ↓J1, ↓J2, N1, N2, N3, reduceCtorEq, N4, N5, N6, reduceIte, N7, I1, I2, I3]
  have h1 := ga_turn g1
  simp only [push_cast, ↓J1, ↓J2, N1, N2, N3, reduceCtorEq, N4, N5, N6, reduceIte, N7, I1, I2, I3]
  refine ⟨_, c2, ?_⟩
  cases g2 : overOk x s
  · simp only [leftRes, g1, g2, wrap64 (n := x.b.r.turns - s.t) (by omega) (by omega), push_cast, ↓J1, ↓J2, N1, N2, N3, reduceCtorEq, N4, N5, N6, reduceIte, N7, I1, I2, I3]
  · simp only [leftRes, g1, g2, push_cast, ↓J1, ↓J2, N1, N2, N3, reduceCtorEq, N4, N5, N6, reduceIte, N7, I1, I2, I3]
end
end Go.Proofs.YtjaccjeejeiphaaGreatDoor.X
set_option maxHeartbeats 1000000
set_option maxRecDepth 8000
set_option linter.unusedSimpArgs false
set_option linter.unusedVariables false
open Nat renaming reduceBEq → N1, reduceAdd → N2, reduceSub → N3, reduceMul → N4, reduceEqDiff → N5, reduceLeDiff → N6, reduceLT → N7
open Int renaming reduceLE → I1, reduceLT → I2, reduceToNat → I3
namespace Go.Proofs.YtjaccjeejeiphaaGreatDoor.X
open Go
def nbT (m : Mp) (c : Int) (j : Nat) : List Int := ((List.range j).map fun d => nextM m c (d : Nat)).filter fun k => decide (0 ≤ k)
def nbs (m : Mp) (c : Int) : List Int := nbT m c 6
theorem nbT_succ (m : Mp) (c : Int) (j : Nat) : nbT m c (j + 1) = if 0 ≤ nextM m c (j : Nat) then nbT m c j ++ [nextM m c (j : Nat)] else nbT m c j := by
  simp only [nbT, List.range_succ, List.map_append, List.filter_append, List.map_cons, List.map_nil]
  by_cases h : 0 ≤ nextM m c (j : Nat)
  · simp [h]
  · simp [h]
theorem nbT_le (m : Mp) (c : Int) (j : Nat) : (nbT m c j).length ≤ j := by
  simp only [nbT]; exact Nat.le_trans (List.length_filter_le _ _) (by simp)
def blk (b : Brd) (s : Sta) (sd i : Int) : Bool := decide (owner s i = 1 - sd) || decide (owner s i < 0) && inZon b s (1 - sd) i
def opnAt (b : Brd) (s : Sta) (sd k i : Int) : Bool := decide (0 < costAt b k i) && !blk b s sd i
def opnT (b : Brd) (s : Sta) (sd k : Int) (n : Nat) : List Bool := (List.range n).map fun i => opnAt b s sd k (i : Nat)
def opn (b : Brd) (s : Sta) (sd k : Int) : List Bool := opnT b s sd k b.m.t.length
theorem opn_length (b : Brd) (s : Sta) (sd k : Int) : (opn b s sd k).length = b.m.t.length := by simp [opn, opnT]
theorem brd_t {b : Brd} (g : brdOk b = true) : (b.m.t.length : Int) = b.m.w * b.m.h := by
  have := brd_mp g
  simp only [mpOk, Bool.and_eq_true, decide_eq_true_eq] at this
  exact this.1.1.1.2
theorem nbs_bnd {b : Brd} (g : brdOk b = true) (c : Int) : ∀ k ∈ nbs b.m c, 0 ≤ k ∧ k < (b.m.t.length : Int) := by
  intro k hk
  have hm := mp_wh (brd_mp g)
  simp only [nbs, nbT, List.mem_filter, List.mem_map, decide_eq_true_eq] at hk
  obtain ⟨⟨d, _, rfl⟩, h⟩ := hk
  rw [brd_t g]
  exact ⟨h, (nextM_bnd hm.1 hm.2).2⟩
theorem src_in {b : Brd} {l : List Int} (h : srcOk b l = true) : l.length ≤ 6 ∧ ∀ i ∈ l, 0 ≤ i ∧ i < b.m.w * b.m.h := by
  simp only [srcOk, Bool.and_eq_true, decide_eq_true_eq, upto_iff, risP, inR] at h
  refine ⟨by omega, fun i hi => ?_⟩
  obtain ⟨j, hj, rfl⟩ := List.getElem_of_mem hi
  have := (h.2 j hj).1
  simp only [List.getD, List.getElem?_eq_getElem hj, Option.getD_some] at this
  omega
def far (m : Mp) (op : List Bool) (l : List Int) : List Int := bFar (nbs m) op l
def farU (b : Brd) (s : Sta) (u : Un) (l : List Int) : List Int := far b.m (opn b s u.sd u.k) l
theorem far_inv {b : Brd} {op : List Bool} {l : List Int} (g : brdOk b = true) (ho : op.length = b.m.t.length) (hl : ∀ i ∈ l, 0 ≤ i ∧ i < b.m.w * b.m.h) (i : Nat) : BInv op.length (op.length + l.length) (bP (nbs b.m) op l i) :=
  bP_inv (by rw [ho, brd_t g]; exact hl) (fun c _ _ k hk => by rw [ho]; exact nbs_bnd g c k hk) i
theorem far_end {b : Brd} {op : List Bool} {l : List Int} (g : brdOk b = true) (ho : op.length = b.m.t.length) (hl : ∀ i ∈ l, 0 ≤ i ∧ i < b.m.w * b.m.h) : (bP (nbs b.m) op l (bN (nbs b.m) op l)).2.length ≤ bN (nbs b.m) op l :=
  bN_end (by rw [ho, brd_t g]; exact hl) (fun c _ _ k hk => by rw [ho]; exact nbs_bnd g c k hk)
theorem far_len {b : Brd} {op : List Bool} {l : List Int} (g : brdOk b = true) (ho : op.length = b.m.t.length) (hl : ∀ i ∈ l, 0 ≤ i ∧ i < b.m.w * b.m.h) : (far b.m op l).length = b.m.t.length := by
  rw [← ho]; exact (far_inv g ho hl _).len
theorem far_bnd {b : Brd} {op : List Bool} {l : List Int} (g : brdOk b = true) (ho : op.length = b.m.t.length) (hl : ∀ i ∈ l, 0 ≤ i ∧ i < b.m.w * b.m.h) {j : Nat} (hj : j < b.m.t.length) : -1 ≤ (far b.m op l).getD j 0 ∧ (far b.m op l).getD j 0 ≤ b.m.t.length + l.length := by
  have h1 := far_inv (i := bN (nbs b.m) op l) g ho hl
  have h2 := h1.bnd _ (getD_mem (l := (bP (nbs b.m) op l (bN (nbs b.m) op l)).1) (i := j) (by rw [h1.len, ho]; exact hj) 0)
  have h3 := h1.cn
  rw [ho] at h3
  simp only [far, bFar]
  omega
def supU (b : Brd) (s : Sta) (u : Un) (l : List Int) : Bool := decide (0 ≤ u.at_) && inR 0 b.r.supply ((farU b s u l).getD u.at_.toNat 0)
def forceU (b : Brd) (u : Un) : Int := (kindOf b u.k).st * u.st
def worthU (b : Brd) (s : Sta) (l : List Int) (u : Un) : Int := if u.at_ < 0 then 0 else if supU b s u l then 3 * forceU b u else forceU b u
theorem force_bnd {b : Brd} {u : Un} (g : brdOk b = true) (h : unOk b u = true) : 0 ≤ forceU b u ∧ forceU b u ≤ 36 := by
  simp only [unOk, inR, Bool.and_eq_true, decide_eq_true_eq] at h
  have hk := kin_bnd (un_kind (b := b) (u := u) g (by simp only [inR, Bool.and_eq_true, decide_eq_true_eq]; omega))
  simp only [forceU]
  constructor
  · exact Int.mul_nonneg (by omega) (by omega)
  · have h1 : (kindOf b u.k).st * u.st ≤ (kindOf b u.k).st * 4 := Int.mul_le_mul_of_nonneg_left (by omega) (by omega)
    omega
theorem worth_bnd {b : Brd} {s : Sta} {u : Un} {l : List Int} (g : brdOk b = true) (h : unOk b u = true) : 0 ≤ worthU b s l u ∧ worthU b s l u ≤ 108 := by
  have := force_bnd g h
  simp only [worthU]
  split
  · omega
  · split <;> omega
def sideT (b : Brd) (s : Sta) (l : List Int) (is : List Int) : Int := (is.map fun k => worthU b s l (unOf s k)).sum
def sideW (b : Brd) (s : Sta) (sd : Int) (l : List Int) : Int := sideT b s l (fil (onSide sd) s.us s.us.length)
theorem sideT_snoc (b : Brd) (s : Sta) (l is : List Int) (k : Int) : sideT b s l (is ++ [k]) = sideT b s l is + worthU b s l (unOf s k) := by
  simp [sideT, List.sum_append]
theorem sideT_bnd {b : Brd} {s : Sta} {l : List Int} (h : staOk b s = true) (is : List Int) (hi : ∀ k ∈ is, 0 ≤ k ∧ k < (s.us.length : Int)) : 0 ≤ sideT b s l is ∧ sideT b s l is ≤ 108 * is.length := by
  induction is with
  | nil => simp [sideT]
  | cons k is ih =>
    have h1 := ih fun x hx => hi x (by simp [hx])
    have h2 := hi k (by simp)
    obtain ⟨j, rfl⟩ : ∃ m : Nat, k = m := ⟨k.toNat, by omega⟩
    have h3 := worth_bnd (s := s) (l := l) (sta_brd h) (sta_un h (k := j) (by omega))
    simp only [sideT, List.map_cons, List.sum_cons, List.length_cons] at h1 ⊢
    omega
theorem fil_in {α : Type} {p : α → Bool} {l : List α} {n : Nat} : ∀ k ∈ fil p l n, 0 ≤ k ∧ k < (l.length : Int) := by
  intro k hk
  obtain ⟨j, hj, rfl, _⟩ := fil_mem hk
  omega
theorem sideW_bnd {b : Brd} {s : Sta} {sd : Int} {l : List Int} (h : staOk b s = true) : 0 ≤ sideW b s sd l ∧ sideW b s sd l ≤ 1296 := by
  have h1 := sideT_bnd (l := l) h (fil (onSide sd) s.us s.us.length) fil_in
  have h2 := fil_le (p := onSide sd) (l := s.us) (Nat.le_refl _)
  have h3 := sta_len h
  simp only [sideW]
  omega
def ctl (b : Brd) (s : Sta) (i : Int) : Int := if 0 ≤ owner s i then owner s i else if inZon b s 0 i then if inZon b s 1 i then 2 else 0 else if inZon b s 1 i then 1 else -1
def ctlT (b : Brd) (s : Sta) (n : Nat) : List Int := (List.range n).map fun i => ctl b s (i : Nat)
def grdT (b : Brd) (s : Sta) (sd : Int) (n : Nat) : List Int := ((List.range n).filter fun i => decide (ctl b s (i : Nat) = sd)).map fun i : Nat => (i : Int)
def grd (b : Brd) (s : Sta) (sd : Int) : Int := (grdT b s sd b.m.t.length).length
theorem grdT_succ (b : Brd) (s : Sta) (sd : Int) (n : Nat) : grdT b s sd (n + 1) = if decide (ctl b s (n : Nat) = sd) then grdT b s sd n ++ [(n : Int)] else grdT b s sd n := by
  simp only [grdT, List.range_succ, List.filter_append]
  cases h : decide (ctl b s (n : Nat) = sd)
  · simp [h]
  · simp [h]
theorem grdT_le (b : Brd) (s : Sta) (sd : Int) (n : Nat) : (grdT b s sd n).length ≤ n := by
  simp only [grdT, List.length_map]; exact Nat.le_trans (List.length_filter_le _ _) (by simp)
theorem grd_bnd {b : Brd} {s : Sta} {sd : Int} (g : brdOk b = true) : 0 ≤ grd b s sd ∧ grd b s sd ≤ 100 := by
  have h1 := grdT_le b s sd b.m.t.length
  have h2 := brd_t g
  have hm := mp_wh (brd_mp g)
  have hwh := wh_le hm.1 hm.2
  simp only [grd]
  omega
def valS (x : Se) (s : Sta) (sd : Int) : Int := 2 * (sideW x.b s sd (x.src.getD sd.toNat []) - sideW x.b s (1 - sd) (x.src.getD (1 - sd).toNat [])) + grd x.b s sd - grd x.b s (1 - sd)
def vaOk (x : Se) (s : Sta) (sd : Int) : Bool := gaOk x s && inR 0 1 sd
def vaRes (x : Se) (s : Sta) (sd : Int) : Int := if vaOk x s sd then valS x s sd else 0
theorem se_src {x : Se} (h : seOk x = true) : x.src.length = 2 ∧ srcOk x.b (x.src.getD 0 []) = true ∧ srcOk x.b (x.src.getD 1 []) = true := by
  simp only [seOk, Bool.and_eq_true, decide_eq_true_eq] at h
  exact ⟨by omega, h.1.2, h.2⟩
end Go.Proofs.YtjaccjeejeiphaaGreatDoor.X
set_option maxHeartbeats 1000000
set_option maxRecDepth 8000
set_option linter.unusedSimpArgs false
set_option linter.unusedVariables false
open Nat renaming reduceBEq → N1, reduceAdd → N2, reduceSub → N3, reduceMul → N4, reduceEqDiff → N5, reduceLeDiff → N6, reduceLT → N7
open Int renaming reduceLE → I1, reduceLT → I2, reduceToNat → I3
namespace Go.Proofs.YtjaccjeejeiphaaGreatDoor.X
open Go
def redU (u v : Un) : Prop := v.sd = u.sd ∧ v.k = u.k ∧ 0 ≤ v.st ∧ v.st ≤ u.st ∧ (v.at_ = -1 ∨ v.at_ = u.at_ ∧ 0 < v.st)
def lose1 (u : Un) (n : Int) : Un := ⟨u.sd, u.k, (if u.st - n ≤ 0 then -1 else u.at_), (if u.st - n ≤ 0 then 0 else u.st - n)⟩
def loseK (us : List Un) (k : Nat) (n : Int) : List Un := us.set k (lose1 (us.getD k un0) n)
def hungT (b : Brd) (s : Sta) (l : List Int) : List Int → List Un → List Un
  | [], us => us
  | k :: is, us => hungT b s l is (if supU b s (unOf s k) l then us else loseK us k.toNat 1)
theorem hungT_snoc (b : Brd) (s : Sta) (l : List Int) (k : Int) : ∀ (is : List Int) (us : List Un), hungT b s l (is ++ [k]) us = if supU b s (unOf s k) l then hungT b s l is us else loseK (hungT b s l is us) k.toNat 1
  | [], us => by simp only [List.nil_append, hungT]
  | j :: is, us => by simp only [List.cons_append, hungT]; exact hungT_snoc b s l k is _
theorem loseK_len (us : List Un) (k : Nat) (n : Int) : (loseK us k n).length = us.length := by simp [loseK]
theorem hungT_len (b : Brd) (s : Sta) (l : List Int) : ∀ (is : List Int) (us : List Un), (hungT b s l is us).length = us.length
  | [], us => rfl
  | k :: is, us => by
    simp only [hungT]; rw [hungT_len b s l is]; split
    · rfl
    · exact loseK_len _ _ _
def hungS (b : Brd) (s : Sta) (sd : Int) (l : List Int) : Sta := ⟨s.t, s.w, hungT b s l (fil (onSide sd) s.us s.us.length) s.us⟩
theorem redU_refl {b : Brd} {u : Un} (h : unOk b u = true) : redU u u := by
  simp only [unOk, placed, inR, Bool.and_eq_true, Bool.or_eq_true, decide_eq_true_eq] at h
  refine ⟨rfl, rfl, h.1.2.1, Int.le_refl _, ?_⟩
  rcases h.2 with h | h
  · exact .inl h
  · exact .inr ⟨rfl, h.1.1⟩
theorem redU_lose {u v : Un} (h : redU u v) : redU u (lose1 v 1) := by
  obtain ⟨h1, h2, h3, h4, h5⟩ := h
  refine ⟨h1, h2, ?_, ?_, ?_⟩
  · simp only [lose1]; split <;> omega
  · simp only [lose1]; split <;> omega
  · simp only [lose1]
    split
    · exact .inl rfl
    · rcases h5 with h5 | h5
      · exact .inl h5
      · exact .inr ⟨h5.1, by omega⟩
def RedL (us vs : List Un) : Prop := vs.length = us.length ∧ ∀ j (h : j < us.length) (h' : j < vs.length), redU us[j] vs[j]
theorem red_loseK {us vs : List Un} (h : RedL us vs) (k : Nat) : RedL us (loseK vs k 1) := by
  refine ⟨by rw [loseK_len]; exact h.1, fun j hj hj' => ?_⟩
  have hv : j < vs.length := by rw [h.1]; exact hj
  simp only [loseK, List.getElem_set]
  split
  · rename_i e
    subst e
    have := redU_lose (h.2 k hj hv)
    simpa only [List.getD, List.getElem?_eq_getElem hv, Option.getD_some] using this
  · exact h.2 j hj hv
theorem red_hung {b : Brd} {s : Sta} {l : List Int} {us : List Un} : ∀ {is : List Int} {vs : List Un}, RedL us vs → RedL us (hungT b s l is vs)
  | [], vs, h => h
  | k :: is, vs, h => by
    simp only [hungT]
    split
    · exact red_hung h
    · exact red_hung (red_loseK h _)
theorem red_cnt : ∀ {us vs : List Un}, RedL us vs → ∀ {a sd : Int}, 0 ≤ a → cnt vs a sd ≤ cnt us a sd
  | [], [], _, a, sd, _ => Nat.le_refl _
  | [], v :: vs, h, a, sd, _ => by have := h.1; simp at this
  | u :: us, [], h, a, sd, _ => by have := h.1; simp at this
  | u :: us, v :: vs, h, a, sd, ha => by
    have h0 : redU u v := h.2 0 (by simp) (by simp)
    have ih := red_cnt (us := us) (vs := vs) ⟨by have := h.1; simpa using this, fun j hj hj' => h.2 (j + 1) (by simpa using hj) (by simpa using hj')⟩ (a := a) (sd := sd) ha
    simp only [cnt, List.countP_cons] at ih ⊢
    have : (if isAt a sd v = true then 1 else 0) ≤ (if isAt a sd u = true then (1 : Nat) else 0) := by
      obtain ⟨h1, h2, h3, h4, h5⟩ := h0
      by_cases hv : isAt a sd v = true
      · have hu : isAt a sd u = true := by
          simp only [isAt, Bool.and_eq_true, decide_eq_true_eq] at hv ⊢
          rcases h5 with h5 | h5
          · omega
          · exact ⟨by omega, by omega⟩
        rw [if_pos hv, if_pos hu]; exact Nat.le_refl _
      · rw [if_neg hv]; exact Nat.zero_le _
    omega
theorem red_ok {b : Brd} {s : Sta} {vs : List Un} (h : staOk b s = true) (hr : RedL s.us vs) : staOk b ⟨s.t, s.w, vs⟩ = true := by
  have hun := sta_all h
  simp only [staOk, staOk0, Bool.and_eq_true, decide_eq_true_eq] at h ⊢
  refine ⟨h.1, ⟨⟨h.2.1.1.1, by rw [hr.1]; exact h.2.1.1.2⟩, ?_⟩, ?_⟩
  · refine List.all_eq_true.2 fun v hv => ?_
    obtain ⟨j, hj, rfl⟩ := List.getElem_of_mem hv
    have hj' : j < s.us.length := by rw [← hr.1]; exact hj
    have h0 := List.all_eq_true.1 hun _ (List.getElem_mem hj')
    obtain ⟨h1, h2, h3, h4, h5⟩ := hr.2 j hj' hj
    simp only [unOk, placed, inR, Bool.and_eq_true, Bool.or_eq_true, decide_eq_true_eq] at h0 ⊢
    rw [h1, h2]
    refine ⟨⟨⟨h0.1.1.1, h0.1.1.2⟩, h3, by omega⟩, ?_⟩
    rcases h5 with h5 | h5
    · exact .inl h5
    · rw [h5.1]
      rcases h0.2 with h6 | h6
      · exact .inl h6
      · exact .inr ⟨⟨h5.2, h6.1.2⟩, h6.2⟩
  · refine List.all_eq_true.2 fun v hv => ?_
    obtain ⟨j, hj, rfl⟩ := List.getElem_of_mem hv
    have hj' : j < s.us.length := by rw [← hr.1]; exact hj
    have h0 := List.all_eq_true.1 h.2.2 _ (List.getElem_mem hj')
    obtain ⟨h1, h2, h3, h4, h5⟩ := hr.2 j hj' hj
    simp only [stackOk, Bool.not_eq_true', Bool.and_eq_false_iff, Bool.or_eq_false_iff, decide_eq_false_iff_not] at h0 ⊢
    by_cases ha : 0 ≤ vs[j].at_
    · rcases h5 with h5 | h5
      · omega
      · rcases h0 with h0 | h0
        · omega
        · refine .inr ?_
          have r1 := red_cnt hr (a := vs[j].at_) (sd := 1 - vs[j].sd) ha
          have r2 := red_cnt hr (a := vs[j].at_) (sd := vs[j].sd) ha
          rw [← h5.1, ← h1] at h0
          omega
    · exact .inl ha
theorem hung_ok {b : Brd} {s : Sta} (h : staOk b s = true) (sd : Int) (l : List Int) : staOk b (hungS b s sd l) = true := by
  refine red_ok h (red_hung ⟨rfl, fun j hj hj' => redU_refl (List.all_eq_true.1 (sta_all h) _ (List.getElem_mem hj))⟩)
end Go.Proofs.YtjaccjeejeiphaaGreatDoor.X
