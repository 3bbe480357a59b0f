/- A part of the proof: lemmas on the machine or on the functions that the law reaches. No condition of its own. -/
import Derived.Test.YtehkpnfehfcphaaDoorXP4
import Derived.Test.YtehkpnfehfcphaaDoorXP3
set_option maxHeartbeats 4000000
set_option maxRecDepth 8000
set_option linter.unusedSimpArgs false
set_option linter.unusedVariables false
open Nat renaming reduceBEq → N1, reduceAdd → N2, reduceSub → N3, reduceMul → N4, reduceEqDiff → N5, reduceLeDiff → N6, reduceLT → N7
open Int renaming reduceLE → I1, reduceLT → I2, reduceToNat → I3
namespace Go.Proofs.YtehkpnfehfcphaaDoor.X
open Go
attribute [local irreducible] Ev
structure Se where
  b : Brd
  t : Ct
  c : List (List Int)
  src : List (List Int)
  deriving DecidableEq
def seF (s : Se) : AV := .agg (rulF s.b.r ++ mpF s.b.m ++ ctF s.t ++ [.sl (intss s.c), .sl (intss s.src)])
def seO (s : Se) : AV := .agg (rulO s.b.r ++ mpO s.b.m ++ ctO s.t ++ [.ow 1 (owss s.c), .ow 1 (owss s.src)])
structure SeB (B : Nat) (s : Se) : Prop where
  b : BrdB B s.b
  t : CtB B s.t
  c : SSB B s.c
  s : SSB B s.src
def szSe (s : Se) : Int → Int := andThen (andThen (andThen (szBrd s.b) (szCt s.t)) (szCl s.c)) (szSS s.src)
theorem andThen_nn {f g : Int → Int} {v : Int} (h : 0 ≤ andThen f g v) : 0 ≤ f v ∧ 0 ≤ g (f v) ∧ andThen f g v = g (f v) := by
  have e : andThen f g v = if f v < 0 then -1 else if g (f v) < 0 then -1 else g (f v) := rfl
  rw [e] at h ⊢
  split at h
  · omega
  split at h
  · omega
  rename_i h1 h2
  rw [if_neg h1, if_neg h2]
  exact ⟨by omega, by omega, rfl⟩
theorem szSe_pos {s : Se} (h : 0 ≤ szSe s 1048576) : SeB (2 ^ 21) s := by
  obtain ⟨h1, h2, _⟩ := andThen_nn h
  obtain ⟨h3, h4, e3⟩ := andThen_nn h1
  obtain ⟨h5, h6, e5⟩ := andThen_nn h3
  have u1 := szBrd_le (b := s.b) (v := 1048576) (by omega) (by omega)
  have u2 := szCt_rng (t := s.t) h5
  have u3 := szCl_rng (W := s.c) (v := szCt s.t (szBrd s.b 1048576)) h6
  rw [e5] at h4 e3
  rw [e3] at h2
  have p3 : 0 ≤ szSS s.c (szCt s.t (szBrd s.b 1048576)) := by
    simp only [szCl] at h4
    split at h4 <;> omega
  exact ⟨szBrd_pos h5, szCt_pos h5 (by omega) h6, szSS_pos h6 (by omega) p3, szSS_pos h4 (by omega) h2⟩
theorem SeB.mono {A B : Nat} {s : Se} (h : A ≤ B) (hb : SeB A s) : SeB B s := ⟨hb.b.mono h, hb.t.mono h, hb.c.mono h, hb.s.mono h⟩
def srcOk (b : Brd) (l : List Int) : Bool := decide ((l.length : Int) ≤ 6) && upto l.length (risP l 0 (b.m.w * b.m.h - 1))
def seOk (s : Se) : Bool := brdOk s.b && ctOk s.t && goodW s.c && decide ((s.src.length : Int) = 2) && srcOk s.b (s.src.getD 0 []) && srcOk s.b (s.src.getD 1 [])
theorem src_get {W : List (List Int)} {k : Nat} (h : k < W.length) : (intss W)[k]? = some [.sl (ints (W.getD k []))] := by simp [intss, List.getD, h]
theorem src_mem {W : List (List Int)} {k : Nat} (h : k < W.length) : W.getD k [] ∈ W := by
  simp only [List.getD, List.getElem?_eq_getElem h, Option.getD_some]; exact List.getElem_mem h
theorem ris_eq (cut : List Int) (hi : Int) : (upto (cut.length - 1) (incP cut) && cut.all (inR 0 hi)) = upto cut.length (risP cut 0 hi) := by
  rw [Bool.eq_iff_iff, Bool.and_eq_true, upto_iff, upto_iff]
  rw [List.all_eq_true]
  constructor
  · rintro ⟨h1, h2⟩ j hj
    have hm : cut.getD j 0 ∈ cut := by simp only [List.getD, List.getElem?_eq_getElem hj]; exact List.getElem_mem hj
    simp only [risP, h2 _ hm, Bool.true_and, Bool.or_eq_true, decide_eq_true_eq]
    by_cases h0 : j = 0
    · exact .inl h0
    · right
      have := h1 (j - 1) (by omega)
      simp only [incP, decide_eq_true_eq] at this
      rwa [show j - 1 + 1 = j by omega] at this
  · intro h
    refine ⟨fun j hj => ?_, fun x hx => ?_⟩
    · have := h (j + 1) (by omega)
      simp only [risP, Bool.and_eq_true, Bool.or_eq_true, decide_eq_true_eq] at this
      simp only [incP, decide_eq_true_eq]
      have := this.2
      simp only [Nat.add_sub_cancel] at this
      omega
    · obtain ⟨j, hj, rfl⟩ := List.getElem_of_mem hx
      have := h j hj
      simp only [risP, Bool.and_eq_true] at this
      simpa [List.getD, hj] using this.1
section
variable {C : CT} (hC : Closed Tryd.prog G1 md0 C)
include hC
end
end Go.Proofs.YtehkpnfehfcphaaDoor.X
set_option maxHeartbeats 1000000
set_option maxRecDepth 8000
set_option linter.unusedSimpArgs false
set_option linter.unusedVariables false
open Nat renaming reduceBEq → N1, reduceAdd → N2, reduceSub → N3, reduceMul → N4, reduceEqDiff → N5, reduceLeDiff → N6, reduceLT → N7
open Int renaming reduceLE → I1, reduceLT → I2, reduceToNat → I3
namespace Go.Proofs.YtehkpnfehfcphaaDoor.X
open Go
def w64 (n : Int) : Int := IntKind.i64.wrap n
theorem w64_id {n : Int} (h1 : -9223372036854775808 ≤ n) (h2 : n ≤ 9223372036854775807) : w64 n = n := wrap64 h1 h2
def dmod (x m : Int) : Int := (w64 (x.tmod m + m)).tmod m
def mixA (a b x : Int) : Int := (w64 (w64 (w64 (16807 * a) + dmod x 2147483647) + b)).tmod 2147483647
def mixB (a' b x : Int) : Int := (w64 (w64 (w64 (39373 * b) + dmod x 2147483629) + a')).tmod 2147483629
def mixS (ab : Int × Int) (x : Int) : Int × Int := (mixA ab.1 ab.2 x, mixB (mixA ab.1 ab.2 x) ab.2 x)
def mixF (l : List Int) (n : Int) : Int × Int := l.foldl mixS (7, w64 (n + 1))
def mixL (l : List Int) : Int × Int := mixF (l ++ [1, 1, 1]) l.length
theorem mixF_succ {l : List Int} {n : Int} {i : Nat} (h : i < l.length) : mixF (l.take (i + 1)) n = mixS (mixF (l.take i) n) l[i] := by
  simp only [mixF, List.take_succ_eq_append_getElem h, List.foldl_append, List.foldl_cons, List.foldl_nil]
section
variable {C : CT} (hC : Closed Tryd.prog G1 md0 C)
include hC
end
end Go.Proofs.YtehkpnfehfcphaaDoor.X
set_option maxHeartbeats 4000000
set_option maxRecDepth 8000
set_option linter.unusedSimpArgs false
set_option linter.unusedVariables false
open Nat renaming reduceBEq → N1, reduceAdd → N2, reduceSub → N3, reduceMul → N4, reduceEqDiff → N5, reduceLeDiff → N6, reduceLT → N7
open Int renaming reduceLE → I1, reduceLT → I2, reduceToNat → I3
namespace Go.Proofs.YtehkpnfehfcphaaDoor.X
open Go
attribute [local irreducible] Ev
def onSide (sd : Int) (u : Un) : Bool := decide (u.sd = sd) && decide (0 ≤ u.at_)
def gaOk (x : Se) (s : Sta) : Bool := seOk x && staOk x.b s
theorem se_brd {x : Se} (h : seOk x = true) : brdOk x.b = true := by
  simp only [seOk, Bool.and_eq_true] at h; exact h.1.1.1.1.1
theorem ga_eq {x : Se} {s : Sta} (h : seOk x = true) : gaOk x s = staOk0 x.b s := by
  simp only [gaOk, staOk, h, se_brd h, Bool.true_and]
def overOk (x : Se) (s : Sta) : Bool := decide (s.t = x.b.r.turns) || decide ((((fil (onSide 0) s.us s.us.length).length : Nat) : Int) = 0) || decide ((((fil (onSide 1) s.us s.us.length).length : Nat) : Int) = 0)
def ovRes (x : Se) (s : Sta) : Bool := gaOk x s && overOk x s
def leftRes (x : Se) (s : Sta) : Int := if gaOk x s then if overOk x s then 0 else x.b.r.turns - s.t else 0
theorem ga_turn {x : Se} {s : Sta} (h : gaOk x s = true) : 0 ≤ s.t ∧ s.t ≤ x.b.r.turns ∧ x.b.r.turns ≤ 30 ∧ s.us.length ≤ 12 := by
  simp only [gaOk, Bool.and_eq_true] at h
  have h1 := h.2
  have h2 := brd_ru (se_brd h.1)
  simp only [staOk, staOk0, rulOk, tailOk, inR, Bool.and_eq_true, decide_eq_true_eq] at h1 h2
  omega
section
variable {C : CT} (hC : Closed Tryd.prog G1 md0 C)
include hC
end
end Go.Proofs.YtehkpnfehfcphaaDoor.X
set_option maxHeartbeats 1000000
set_option maxRecDepth 8000
set_option linter.unusedSimpArgs false
set_option linter.unusedVariables false
open Nat renaming reduceBEq → N1, reduceAdd → N2, reduceSub → N3, reduceMul → N4, reduceEqDiff → N5, reduceLeDiff → N6, reduceLT → N7
open Int renaming reduceLE → I1, reduceLT → I2, reduceToNat → I3
namespace Go.Proofs.YtehkpnfehfcphaaDoor.X
open Go
attribute [local irreducible] Ev szSS szRows
def nextS : List Int → Int → Int → Int
  | [], _, _ => 0
  | y :: ys, x, k => if x < y then k else nextS ys (w64 (x - y)) (k + 1)
def nextI : List Int → Int → Int → Int → Int
  | [], _, _, _ => 2
  | y :: ys, s, x, k => if x < w64 (s + y) then k else nextI ys (w64 (s + y)) x (k + 1)
def belowOf (seed i n : Int) : Int := (mixL [seed, i, n]).1.tmod n
def rowAt (W : List (List Int)) (w : Int) : List Int := W.getD w.toNat []
theorem rowAt_some {W : List (List Int)} {w : Int} (hg : goodW W = true) (hw : inR 0 2 w = true) : w.toNat < W.length ∧ W[w.toNat]? = some (rowAt W w) ∧ ∃ a b c, rowAt W w = [a, b, c] ∧ inR 0 36 a = true ∧ inR 0 36 b = true ∧ inR 0 36 c = true ∧ a + b + c = 36 := by
  simp only [goodW, Bool.and_eq_true, decide_eq_true_eq] at hg
  simp only [inR, Bool.and_eq_true, decide_eq_true_eq] at hw
  have hl : w.toNat < W.length := by omega
  have e : rowAt W w = W[w.toNat] := by simp [rowAt, List.getD, hl]
  have hr := List.all_eq_true.1 hg.2 _ (List.getElem_mem hl)
  rw [← e] at hr
  refine ⟨hl, by rw [e]; exact List.getElem?_eq_getElem hl, ?_⟩
  generalize rowAt W w = r at hr
  simp only [rowOk, Bool.and_eq_true, decide_eq_true_eq] at hr
  obtain ⟨⟨h1, h2⟩, h3⟩ := hr
  match r, h1 with
  | [a, b, c], _ =>
    simp only [List.all_cons, List.all_nil, Bool.and_true, Bool.and_eq_true] at h2
    rw [sum3 h2.1 h2.2.1 h2.2.2] at h3
    exact ⟨a, b, c, rfl, h2.1, h2.2.1, h2.2.2, h3⟩
theorem next_eq {a b c x : Int} (ha : inR 0 36 a = true) (hb : inR 0 36 b = true) (hc : inR 0 36 c = true) (hs : a + b + c = 36) (hx : -36 < x ∧ x < 36) : nextS [a, b, c] x 0 = nextI [a, b, c] 0 x 0 := by
  simp only [inR, Bool.and_eq_true, decide_eq_true_eq] at ha hb hc
  simp only [nextS, nextI]
  rw [w64_id (n := x - a) (by omega) (by omega), w64_id (n := x - a - b) (by omega) (by omega), show (0 : Int) + a = a from Int.zero_add a, w64_id (n := a) (by omega) (by omega), w64_id (n := a + b) (by omega) (by omega), w64_id (n := a + b + c) (by omega) (by omega)]
  split
  · rfl
  · by_cases n2 : x - a < b
    · rw [if_pos n2, if_pos (by omega)]
    · rw [if_neg n2, if_pos (show x - a - b < c by omega), if_neg (by omega), if_pos (by omega)]
theorem below36 (a b : Int) : -36 < belowOf a b 36 ∧ belowOf a b 36 < 36 := by
  have h1 := Int.lt_tmod_of_pos (mixL [a, b, 36]).1 (show (0 : Int) < 36 by omega)
  have h2 := Int.tmod_lt_of_pos (mixL [a, b, 36]).1 (show (0 : Int) < 36 by omega)
  exact ⟨h1, h2⟩
section
variable {C : CT} (hC : Closed Tryd.prog G1 md0 C)
include hC
def askNext (W : List (List Int)) (w seed turn : Int) : Bool := goodW W && inR 0 2 w && inR 0 4611686016279904236 seed && inR 0 30 turn
def resNext (W : List (List Int)) (w seed turn : Int) : Int := if askNext W w seed turn then nextS (rowAt W w) (belowOf seed turn 36) 0 else 0
end
end Go.Proofs.YtehkpnfehfcphaaDoor.X
set_option maxHeartbeats 1000000
set_option maxRecDepth 8000
set_option linter.unusedSimpArgs false
set_option linter.unusedVariables false
open Nat renaming reduceBEq → N1, reduceAdd → N2, reduceSub → N3, reduceMul → N4, reduceEqDiff → N5, reduceLeDiff → N6, reduceLT → N7
open Int renaming reduceLE → I1, reduceLT → I2, reduceToNat → I3
namespace Go.Proofs.YtehkpnfehfcphaaDoor.X
open Go
attribute [local irreducible] Ev
theorem NilToL_nil : NilToL [] [] := by simp only [NilToL]
theorem NilToL_cons {x y : AV} {xs ys : List AV} (h : NilTo x y) (h' : NilToL xs ys) : NilToL (x :: xs) (y :: ys) := by
  simp only [NilToL]; exact ⟨y, ys, rfl, h, h'⟩
theorem NilTo_agg {xs ys : List AV} (h : NilToL xs ys) : NilTo (.agg xs) (.agg ys) := by
  simp only [NilTo]; exact ⟨ys, rfl, h⟩
theorem NilTo_tup {xs ys : List AV} (h : NilToL xs ys) : NilTo (.tup xs) (.tup ys) := by
  simp only [NilTo]; exact ⟨ys, rfl, h⟩
theorem NilTo_nl {sz : Nat} : NilTo .nil (.ow sz []) := by
  simp only [NilTo]; exact .inr ⟨sz, rfl⟩
def sta0 : Sta := ⟨0, 0, []⟩
theorem nil_sta : NilToL [.int .i64 0, .int .i64 0, .nil] (staO sta0) := NilToL_cons (NilTo.refl _) (NilToL_cons (NilTo.refl _) (NilToL_cons NilTo_nl NilToL_nil))
theorem RetTo_nil {h h2 : Heap} {v r0 r : AV} (hc : conR 8 h v = some (r0, h2)) (hn : NilTo r0 r) : RetTo h v r := ⟨r0, h2, hc, hn⟩
def absI (n : Int) : Int := if n < 0 then -n else n
def distI (q1 r1 q2 r2 : Int) : Int := (absI (q2 - q1) + absI (r2 - r1) + absI (q2 - q1 + (r2 - r1))).tdiv 2
theorem absI_bnd {n B : Int} (h : -B ≤ n ∧ n ≤ B) : 0 ≤ absI n ∧ absI n ≤ B := by
  simp only [absI]; split <;> omega
def wSta (x : Se) (s : Sta) (seed : Int) : Sta := ⟨s.t, nextS (rowAt x.c s.w) (belowOf seed s.t 36) 0, s.us⟩
section
variable {C : CT} (hC : Closed Tryd.prog G1 md0 C)
include hC
end
end Go.Proofs.YtehkpnfehfcphaaDoor.X
set_option maxHeartbeats 4000000
set_option maxRecDepth 8000
set_option linter.unusedSimpArgs false
set_option linter.unusedVariables false
open Nat renaming reduceBEq → N1, reduceAdd → N2, reduceSub → N3, reduceMul → N4, reduceEqDiff → N5, reduceLeDiff → N6, reduceLT → N7
open Int renaming reduceLE → I1, reduceLT → I2, reduceToNat → I3
namespace Go.Proofs.YtehkpnfehfcphaaDoor.X
open Go
attribute [local irreducible] Ev
section
variable {C : CT} (hC : Closed Tryd.prog G1 md0 C)
include hC
end
end Go.Proofs.YtehkpnfehfcphaaDoor.X
set_option maxHeartbeats 4000000
set_option maxRecDepth 8000
set_option linter.unusedSimpArgs false
set_option linter.unusedVariables false
open Nat renaming reduceBEq → N1, reduceAdd → N2, reduceSub → N3, reduceMul → N4, reduceEqDiff → N5, reduceLeDiff → N6, reduceLT → N7
open Int renaming reduceLE → I1, reduceLT → I2, reduceToNat → I3
namespace Go.Proofs.YtehkpnfehfcphaaDoor.X
open Go
attribute [local irreducible] Ev
def hasI (l : List Int) (n : Int) : Bool := l.any fun x => decide (x = n)
def edgeM (m : Mp) (i : Int) (d : Nat) : Int := if d < 3 then 3 * i + d else 3 * nextM m i d + d - 3
def freeE (m : Mp) (e : Int) : Bool := !hasI m.ri e || hasI m.ro e
def first6 (p : Nat → Bool) : Option Nat := (List.range 6).find? p
theorem first6_at {p : Nat → Bool} {i : Nat} (h : i < 6) (hp : p i = true) (hn : ∀ j, j < i → p j = false) : first6 p = some i := by
  simp only [first6, List.find?_range_eq_some]
  exact ⟨hp, by simp [h], fun j hj => by simp [hn j hj]⟩
theorem first6_no {p : Nat → Bool} (hn : ∀ j, j < 6 → p j = false) : first6 p = none := by
  simp only [first6, List.find?_range_eq_none]
  exact fun j hj => by simp [hn j hj]
def wayFree (b : Brd) (a i : Int) : Bool := match first6 (fun d => decide (nextM b.m a d = i)) with
  | some d => freeE b.m (edgeM b.m a d)
  | none => false
def zonOf (b : Brd) (u : Un) (i : Int) : Bool := decide (0 ≤ u.at_) && (kindOf b u.k).z && !decide (costAt b u.k i = 0) && wayFree b u.at_ i
def zonS (b : Brd) (sd i : Int) (u : Un) : Bool := decide (u.sd = sd) && zonOf b u i
def inZon (b : Brd) (s : Sta) (sd i : Int) : Bool := s.us.any (zonS b sd i)
theorem nextM_bnd {m : Mp} {i d : Int} (hw : 1 ≤ m.w ∧ m.w ≤ 10) (hh : 1 ≤ m.h ∧ m.h ≤ 10) : -1 ≤ nextM m i d ∧ nextM m i d < m.w * m.h := by
  have hwh := wh_le hw hh
  simp only [nextM]
  split
  · rename_i h
    simp only [inR, Bool.and_eq_true, decide_eq_true_eq] at h
    generalize i.tdiv m.w + dr d.toNat = r at *
    generalize i.tmod m.w + dq d.toNat = q at *
    have h1 : 0 ≤ r * m.w := Int.mul_nonneg (by omega) (by omega)
    have h2 : r * m.w ≤ (m.h - 1) * m.w := Int.mul_le_mul_of_nonneg_right (by omega) (by omega)
    have h3 : (m.h - 1) * m.w = m.w * m.h - m.w := by rw [Int.sub_mul, Int.one_mul, Int.mul_comm]
    omega
  · omega
theorem hasI_no {l : List Int} {n : Int} (h : ∀ j (h : j < l.length), decide (l[j] = n) = false) : hasI l n = false := by
  simp only [hasI, List.any_eq_false]
  intro x hx
  obtain ⟨j, hj, rfl⟩ := List.getElem_of_mem hx
  simpa using h j hj
theorem hasI_yes {l : List Int} {n : Int} {j : Nat} (hj : j < l.length) (h : decide (l[j] = n) = true) : hasI l n = true := by
  simp only [hasI, List.any_eq_true]
  exact ⟨_, List.getElem_mem hj, h⟩
def iidx (l : List Int) (n : Int) : Int := gidx (fun x => decide (n = x)) l
theorem iidx_has (l : List Int) (n : Int) : decide (0 ≤ iidx l n) = hasI l n := by
  have := fidx_any (fun x => decide (n = x)) l
  have e : iidx l n = fidx (fun x => decide (n = x)) l := rfl
  rw [e, this]
  simp only [hasI]
  congr 1; funext x; rw [Bool.eq_iff_iff]; simp; exact eq_comm
section
variable {C : CT} (hC : Closed Tryd.prog G1 md0 C)
include hC
end
end Go.Proofs.YtehkpnfehfcphaaDoor.X
set_option maxHeartbeats 4000000
set_option maxRecDepth 8000
set_option linter.unusedSimpArgs false
set_option linter.unusedVariables false
open Nat renaming reduceBEq → N1, reduceAdd → N2, reduceSub → N3, reduceMul → N4, reduceEqDiff → N5, reduceLeDiff → N6, reduceLT → N7
open Int renaming reduceLE → I1, reduceLT → I2, reduceToNat → I3
namespace Go.Proofs.YtehkpnfehfcphaaDoor.X
open Go
attribute [local irreducible] Ev
theorem zon_at {b : Brd} {u : Un} (hw : 1 ≤ b.m.w * b.m.h) (h : unOk b u = true) : u.at_ < b.m.w * b.m.h := by
  simp only [unOk, placed, inR, Bool.and_eq_true, Bool.or_eq_true, decide_eq_true_eq] at h
  omega
section
variable {C : CT} (hC : Closed Tryd.prog G1 md0 C)
include hC
end
end Go.Proofs.YtehkpnfehfcphaaDoor.X
set_option maxHeartbeats 4000000
set_option maxRecDepth 8000
set_option linter.unusedSimpArgs false
set_option linter.unusedVariables false
open Nat renaming reduceBEq → N1, reduceAdd → N2, reduceSub → N3, reduceMul → N4, reduceEqDiff → N5, reduceLeDiff → N6, reduceLT → N7
open Int renaming reduceLE → I1, reduceLT → I2, reduceToNat → I3
namespace Go.Proofs.YtehkpnfehfcphaaDoor.X
open Go
attribute [local irreducible] Ev
def inHex (i : Int) (u : Un) : Bool := decide (u.at_ = i)
def owner (s : Sta) (i : Int) : Int := match s.us.find? (inHex i) with
  | some u => u.sd
  | none => -1
theorem find_drop {α : Type} {p : α → Bool} : ∀ {l : List α} {k : Nat}, (∀ j (h : j < l.length), j < k → p l[j] = false) → l.find? p = (l.drop k).find? p
  | [], k, _ => by simp
  | x :: l, 0, _ => by simp
  | x :: l, k + 1, h => by
    have h0 := h 0 (by simp) (by omega)
    simp only [List.getElem_cons_zero] at h0
    rw [List.find?_cons_of_neg (by simp [h0]), List.drop_succ_cons]
    exact find_drop fun j hj hk => by
      have := h (j + 1) (by simp; omega) (by omega)
      rwa [List.getElem_cons_succ] at this
theorem owner_at {s : Sta} {i : Int} {k : Nat} (h : k < s.us.length) (hp : inHex i s.us[k] = true) (hn : ∀ j (h : j < s.us.length), j < k → inHex i s.us[j] = false) : owner s i = s.us[k].sd := by
  simp only [owner, find_drop hn, List.drop_eq_getElem_cons h, List.find?_cons_of_pos hp]
theorem owner_no {s : Sta} {i : Int} (hn : ∀ j (h : j < s.us.length), inHex i s.us[j] = false) : owner s i = -1 := by
  simp only [owner, find_drop (k := s.us.length) (fun j hj _ => hn j hj), List.drop_length, List.find?_nil]
theorem owner_sd {s : Sta} {b : Brd} (hu : s.us.all (unOk b) = true) (i : Int) : owner s i = -1 ∨ owner s i = 0 ∨ owner s i = 1 := by
  simp only [owner]
  split
  · rename_i u h
    have := un_sd (List.all_eq_true.1 hu _ (List.mem_of_find?_eq_some h))
    omega
  · simp
theorem inZon_fil {b : Brd} {s : Sta} {sd i : Int} : decide (0 < (((fil (zonS b sd i) s.us s.us.length).length : Nat) : Int)) = inZon b s sd i := by
  rw [fil_len (Nat.le_refl _), List.take_length, inZon, Bool.eq_iff_iff, decide_eq_true_eq, List.any_eq_true]
  have : (0 : Int) < ((s.us.countP (zonS b sd i) : Nat) : Int) ↔ 0 < s.us.countP (zonS b sd i) := by omega
  rw [this, List.countP_pos_iff]
theorem sta_all {b : Brd} {s : Sta} (h : staOk b s = true) : s.us.all (unOk b) = true := by
  simp only [staOk, staOk0, Bool.and_eq_true] at h; exact h.2.1.2
theorem own_cnt {b : Brd} {s : Sta} {sd i : Int} (h : staOk b s = true) (hs : sd = 0 ∨ sd = 1) (hi : 0 ≤ i) (ho : owner s i ≠ 1 - sd) : (fil (inHex i) s.us s.us.length).length = cnt s.us i sd := by
  rw [fil_len (Nat.le_refl _), List.take_length]
  refine List.countP_congr fun u hu => ?_
  have hst : s.us.all (stackOk b s.us) = true := by simp only [staOk, staOk0, Bool.and_eq_true] at h; exact h.2.2
  have hun := sta_all h
  have key : ∀ u ∈ s.us, u.at_ = i → u.sd = 1 - sd → False := by
    intro u hu ha hsd
    simp only [owner] at ho
    split at ho
    · rename_i v hv
      have hv1 := List.mem_of_find?_eq_some hv
      have hv2 := List.find?_some hv
      simp only [inHex, decide_eq_true_eq] at hv2
      have hvs := un_sd (List.all_eq_true.1 hun _ hv1)
      have := List.all_eq_true.1 hst _ hv1
      simp only [stackOk, Bool.not_eq_true', Bool.and_eq_false_iff, Bool.or_eq_false_iff, decide_eq_false_iff_not, hv2] at this
      rcases this with this | ⟨this, _⟩
      · omega
      · apply this
        exact List.countP_pos_iff.2 ⟨u, hu, by simp only [isAt, Bool.and_eq_true, decide_eq_true_eq]; omega⟩
    · rename_i hv
      have := List.find?_eq_none.1 hv u hu
      simp [inHex, ha] at this
  have hus := un_sd (List.all_eq_true.1 hun _ hu)
  simp only [inHex, isAt, Bool.and_eq_true, decide_eq_true_eq]
  constructor
  · intro ha
    refine ⟨ha, ?_⟩
    have := key u hu ha
    rcases hus with e | e <;> rcases hs with e2 | e2 <;> first | omega | (exfalso; exact this (by omega))
  · exact fun h => h.1
def badPl (b : Brd) (s : Sta) (x : Wk) : Bool := decide (costAt b (x.q.getD 0 0) x.at_ = 0) || decide (owner s x.at_ = 1 - x.sd) || decide ((cnt s.us x.at_ x.sd : Int) = b.r.stack) || inZon b s (1 - x.sd) x.at_
def pcode (b : Brd) (s : Sta) (x : Wk) : Int := if x.q.length = 0 then 1 else if x.pt < priceOf b (x.q.getD 0 0) then 2 else if s.us.length = 12 then 4 else if badPl b s x then 3 else 0
def prOk (b : Brd) (s : Sta) (x : Wk) : Bool := staOk b s && wkR b x
theorem wk_in {b : Brd} {x : Wk} (h : wkR b x = true) : (x.sd = 0 ∨ x.sd = 1) ∧ inR 0 (b.m.w * b.m.h - 1) x.at_ = true ∧ x.q.length ≤ 8 ∧ ∀ k ∈ x.q, inR 0 (b.r.ks.length - 1) k = true := by
  simp only [wkR, Bool.and_eq_true, decide_eq_true_eq, List.all_eq_true] at h
  have h1 := h.1.1.1.1
  simp only [inR, Bool.and_eq_true, decide_eq_true_eq] at h1
  exact ⟨by omega, h.1.1.1.2, by omega, h.2⟩
section
variable {C : CT} (hC : Closed Tryd.prog G1 md0 C)
include hC
end
end Go.Proofs.YtehkpnfehfcphaaDoor.X
set_option maxHeartbeats 4000000
set_option maxRecDepth 8000
set_option linter.unusedSimpArgs false
set_option linter.unusedVariables false
open Nat renaming reduceBEq → N1, reduceAdd → N2, reduceSub → N3, reduceMul → N4, reduceEqDiff → N5, reduceLeDiff → N6, reduceLT → N7
open Int renaming reduceLE → I1, reduceLT → I2, reduceToNat → I3
namespace Go.Proofs.YtehkpnfehfcphaaDoor.X
open Go
attribute [local irreducible] Ev
section
variable {C : CT} (hC : Closed Tryd.prog G1 md0 C)
include hC
end
end Go.Proofs.YtehkpnfehfcphaaDoor.X
set_option maxHeartbeats 1000000
set_option maxRecDepth 8000
set_option linter.unusedSimpArgs false
set_option linter.unusedVariables false
open Nat renaming reduceBEq → N1, reduceAdd → N2, reduceSub → N3, reduceMul → N4, reduceEqDiff → N5, reduceLeDiff → N6, reduceLT → N7
open Int renaming reduceLE → I1, reduceLT → I2, reduceToNat → I3
namespace Go.Proofs.YtehkpnfehfcphaaDoor.X
open Go
/-! a heap that lies below n -/
def below (n : Nat) (h : Heap) : Prop := canB n [] h = h
theorem canB_le (n : Nat) : ∀ h : Heap, (canB n [] h).length ≤ h.length
  | [] => by simp [canB]
  | (i, o) :: h => by
    simp only [canB]
    have := canB_le n h
    split <;> simp <;> omega
theorem below_cons {n i : Nat} {o : Ob} {h : Heap} (hb : below n ((i, o) :: h)) : i < n ∧ renO n [] o = o ∧ below n h := by
  unfold below at hb
  simp only [canB] at hb
  split at hb
  · rename_i hi
    simp only [List.cons.injEq, Prod.mk.injEq, true_and] at hb
    exact ⟨hi, hb.1, hb.2⟩
  · have := canB_le n h
    rw [hb] at this
    simp at this
    omega
theorem below_mk {n i : Nat} {o : Ob} {h : Heap} (hi : i < n) (ho : renO n [] o = o) (hb : below n h) : below n ((i, o) :: h) := by
  unfold below at hb ⊢
  simp only [canB, hi, if_true, ho, hb]
theorem below_set {n : Nat} {id sz : Nat} {es : List (List AV)} : ∀ {h : Heap}, below n h → below n (hset h id (.slice sz es))
  | [], _ => rfl
  | (i, o) :: h, hb => by
    obtain ⟨h1, h2, h3⟩ := below_cons hb
    simp only [hset]
    split
    · exact below_mk h1 rfl h3
    · exact below_mk h1 h2 (below_set h3)
theorem below_lt {n : Nat} {id : Nat} {o : Ob} : ∀ {h : Heap}, below n h → hget h id = some o → id < n
  | [], _, hg => by simp [hget] at hg
  | (i, o') :: h, hb, hg => by
    obtain ⟨h1, h2, h3⟩ := below_cons hb
    simp only [hget] at hg
    split at hg
    · rename_i e; omega
    · exact below_lt h3 hg
theorem hget_same {h : Heap} {id : Nat} {o u : Ob} (hg : hget h id = some o) : hget (hset h id u) id = some u := by
  rw [hget_set]; simp [hg]
theorem hset_hset {id : Nat} {u v : Ob} : ∀ {h : Heap}, hset (hset h id u) id v = hset h id v
  | [] => rfl
  | (i, o) :: h => by
    simp only [hset]
    split
    · rename_i e; simp [hset, e]
    · rename_i e; simp only [hset, if_neg e, hset_hset]
theorem hset_get {id : Nat} {u : Ob} : ∀ {h : Heap}, hget h id = some u → hset h id u = h
  | [], hg => rfl
  | (i, o) :: h, hg => by
    simp only [hget] at hg
    simp only [hset]
    split at hg
    · rename_i e
      simp only [Option.some.injEq] at hg
      subst hg; simp [e]
    · rename_i e; rw [if_neg e, hset_get hg]
theorem kill_set {id sz : Nat} {es : List (List AV)} : ∀ {h : Heap}, killH (hset h id (.slice sz es)) = hset (killH h) id (.slice sz es)
  | [] => rfl
  | (i, .var cs) :: h => by
    simp only [hset]
    split
    · rename_i e; simp [killH, hset, e]
    · rename_i e; simp only [killH, hset, if_neg e, kill_set]
  | (i, .slice a b) :: h => by
    simp only [hset]
    split
    · rename_i e; simp [killH, hset, e]
    · rename_i e; simp only [killH, hset, if_neg e, kill_set]
/-! what is a list of numbers -/
def mk (l : List Int) (k : Int) (i : Nat) : List Int := (List.range i).map (fun j : Nat => k + (j : Int)) ++ l.drop i
theorem mk_length {l : List Int} {k : Int} {i : Nat} (h : i ≤ l.length) : (mk l k i).length = l.length := by simp [mk]; omega
theorem mk_succ {l : List Int} {k : Int} {i : Nat} (h : i < l.length) : (mk l k i).set i (k + i) = mk l k (i + 1) := by
  have e : l.drop i = l[i] :: l.drop (i + 1) := List.drop_eq_getElem_cons h
  simp only [mk, e, List.range_succ, List.map_append, List.map_cons, List.map_nil, List.append_assoc, List.cons_append, List.nil_append]
  rw [mid_set (by simp)]
theorem mk_all {l : List Int} {k : Int} : mk l k l.length = (List.range l.length).map (fun j : Nat => k + (j : Int)) := by simp [mk]
theorem mk_zero {l : List Int} {k : Int} : mk l k 0 = l := by simp [mk]
section
variable {C : CT} (hC : Closed Tryd.prog G1 md0 C)
include hC
theorem t33 (l : List Int) (k : Int) (h : Heap) (id n : Nat) (hg : hget h id = some (.slice 1 (ints l))) (hb : below n h) (hk : 0 ≤ k ∧ k < 2^50) (hl : l.length < 2^50) : C 33 [.ref id none 1 0 l.length, .int .i64 k] h n (fun v h' n' => v = .int .i64 (k + l.length) ∧ n' = n ∧ h' = hset h id (.slice 1 (ints (mk l k l.length)))) := by
  have hid := below_lt hb hg
  refine Closed.rT hC Q33 ?_
  simp only [c33, push_cast, ↓J1, ↓J2, N1, N2, N3, reduceCtorEq, N4, N5, N6, reduceIte, N7, I1, I2, I3]
  refine RL_count (fun i => ⟨tb 19 .any [(0, .ref id none 1 0 l.length), (1, .int .i64 (k + i)), (5, .int .i64 (i : Int))], hset h id (.slice 1 (ints (mk l k i))), n⟩) (fun _ => True) l.length 0 (head_tb [] (by simp [rhoOk, objIds]) (by simp only [hid, keptV_cons, keptV_nil, tb_get, lk_same, lk_ne, lk_nil, ren, renL, lkp, N7, N1, N5, reduceIte, and_true, true_and, Nat.not_lt_zero, if_false, if_true, Nat.add_zero, Nat.zero_add]; simp) (by rw [mk_zero, hset_get hg]; exact hb)) (by omega) trivial fun i hi _ J hJ => ?_
  have hgi : hget (hset h id (.slice 1 (ints (mk l k i)))) id = some (.slice 1 (ints (mk l k i))) := hget_same hg
  by_cases h1 : i < l.length
  · have e1 : (ints (mk l k i))[i]? = some [.int .i64 ((mk l k i).getD i 0)] := ints_get (by rw [mk_length hi]; exact h1)
    simp only [Int.toNat_natCast, hgi, e1, push_cast, ↓J1, ↓J2, N1, N2, N3, reduceCtorEq, N4, N5, N6, reduceIte, N7, I1, I2, I3]
    refine ifB_intro (fun _ => ⟨by omega, by omega, ?_⟩) (fun h => by simp at h; omega)
    refine hJ h1 trivial _ (head_tb [] (by simp [rhoOk, objIds]) ?_ ?_)
    · simp only [hid, keptV_cons, keptV_nil, tb_get, lk_same, lk_ne, lk_nil, ren, renL, lkp, N7, N1, N5, reduceIte, and_true, true_and, Nat.not_lt_zero, if_false, if_true, Nat.add_zero, Nat.zero_add]
      rw [wrap64 (by omega) (by omega), wrap64 (by omega) (by omega)]
      simp; omega
    · rw [ints_set, mk_succ h1, hset_hset]
      exact below_set hb
  · obtain rfl : i = l.length := by omega
    simp only [push_cast, ↓J1, ↓J2, N1, N2, N3, reduceCtorEq, N4, N5, N6, reduceIte, N7, I1, I2, I3]
    refine ifB_intro (fun h => by simp at h) (fun h => ?_)
    trivial
theorem t33s (l : List Int) (k : Int) (h : Heap) (id n i0 : Nat) (es : List (List AV)) (hg : hget h id = some (.slice 1 es)) (he : es[i0]? = some [.ow 1 (ints l)]) (hb : below n h) (hk : 0 ≤ k ∧ k < 2^50) (hl : l.length < 2^50) : C 33 [.ref id (some (1, i0, 0)) 1 0 l.length, .int .i64 k] h n (fun v h' n' => v = .int .i64 (k + l.length) ∧ n' = n ∧ h' = hset h id (.slice 1 (es.set i0 [.ow 1 (ints (mk l k l.length))]))) := by
  have hid := below_lt hb hg
  have hi0 : i0 < es.length := by
    rcases Nat.lt_or_ge i0 es.length with h | h
    · exact h
    · rw [List.getElem?_eq_none_iff.2 h] at he; cases he
  refine Closed.rT hC Q33 ?_
  simp only [c33, push_cast, ↓J1, ↓J2, N1, N2, N3, reduceCtorEq, N4, N5, N6, reduceIte, N7, I1, I2, I3]
  refine RL_count (fun i => ⟨tb 19 .any [(0, .ref id (some (1, i0, 0)) 1 0 l.length), (1, .int .i64 (k + i)), (5, .int .i64 (i : Int))], hset h id (.slice 1 (es.set i0 [.ow 1 (ints (mk l k i))])), n⟩) (fun _ => True) l.length 0 (head_tb [] (by simp [rhoOk, objIds]) (by simp only [hid, keptV_cons, keptV_nil, tb_get, lk_same, lk_ne, lk_nil, ren, renL, lkp, N7, N1, N5, reduceIte, and_true, true_and, Nat.not_lt_zero, if_false, if_true, Nat.add_zero, Nat.zero_add]; simp) ?_) (by omega) trivial fun i hi _ J hJ => ?_
  · rw [mk_zero]
    have : es.set i0 [.ow 1 (ints l)] = es := by
      apply List.ext_getElem?
      intro j
      rw [List.getElem?_set]
      split
      · rename_i e; subst e; rw [he]
      · rfl
    rw [this, hset_get hg]; exact hb
  have hgi : hget (hset h id (.slice 1 (es.set i0 [.ow 1 (ints (mk l k i))]))) id = some (.slice 1 (es.set i0 [.ow 1 (ints (mk l k i))])) := hget_same hg
  have hei : (es.set i0 [.ow 1 (ints (mk l k i))])[i0]? = some [.ow 1 (ints (mk l k i))] := by simp [hi0]
  by_cases h1 : i < l.length
  · have e1 : (ints (mk l k i))[i]? = some [.int .i64 ((mk l k i).getD i 0)] := ints_get (by rw [mk_length hi]; exact h1)
    simp only [Int.toNat_natCast, hgi, hei, e1, push_cast, ↓J1, ↓J2, N1, N2, N3, reduceCtorEq, N4, N5, N6, reduceIte, N7, I1, I2, I3]
    refine ifB_intro (fun _ => ⟨by omega, by omega, ?_⟩) (fun h => by simp at h; omega)
    refine hJ h1 trivial _ (head_tb [] (by simp [rhoOk, objIds]) ?_ ?_)
    · simp only [hid, keptV_cons, keptV_nil, tb_get, lk_same, lk_ne, lk_nil, ren, renL, lkp, N7, N1, N5, reduceIte, and_true, true_and, Nat.not_lt_zero, if_false, if_true, Nat.add_zero, Nat.zero_add]
      rw [wrap64 (by omega) (by omega), wrap64 (by omega) (by omega)]
      simp; omega
    · rw [ints_set, mk_succ h1, List.set_set, hset_hset]
      exact below_set hb
  · obtain rfl : i = l.length := by omega
    simp only [push_cast, ↓J1, ↓J2, N1, N2, N3, reduceCtorEq, N4, N5, N6, reduceIte, N7, I1, I2, I3]
    refine ifB_intro (fun h => by simp at h) (fun h => ?_)
    trivial
end
end Go.Proofs.YtehkpnfehfcphaaDoor.X
set_option maxHeartbeats 1000000
set_option maxRecDepth 8000
set_option linter.unusedSimpArgs false
set_option linter.unusedVariables false
open Nat renaming reduceBEq → N1, reduceAdd → N2, reduceSub → N3, reduceMul → N4, reduceEqDiff → N5, reduceLeDiff → N6, reduceLT → N7
open Int renaming reduceLE → I1, reduceLT → I2, reduceToNat → I3
namespace Go.Proofs.YtehkpnfehfcphaaDoor.X
open Go
attribute [local irreducible] Ev
def mkR : List (List Int) → Int → List (List Int)
  | [], _ => []
  | r :: W, k => mk r k r.length :: mkR W (k + r.length)
def mkW (W : List (List Int)) (k : Int) (i : Nat) : List (List Int) := mkR (W.take i) k ++ W.drop i
theorem mkR_length : ∀ (W : List (List Int)) (k : Int), (mkR W k).length = W.length
  | [], k => rfl
  | r :: W, k => by simp [mkR, mkR_length W]
theorem mkR_append : ∀ (W V : List (List Int)) (k : Int), mkR (W ++ V) k = mkR W k ++ mkR V (k + lens W)
  | [], V, k => by simp [mkR, lens]
  | r :: W, V, k => by
    have e : k + (r.length : Int) + (lens W : Int) = k + (lens (r :: W) : Int) := by simp [lens]; omega
    simp only [List.cons_append, mkR, mkR_append W, e]
theorem mkW_length {W : List (List Int)} {k : Int} {i : Nat} (h : i ≤ W.length) : (mkW W k i).length = W.length := by simp [mkW, mkR_length]; omega
theorem mkW_succ {W : List (List Int)} {k : Int} {i : Nat} (h : i < W.length) : (owss (mkW W k i)).set i [.ow 1 (ints (mk W[i] (k + lens (W.take i)) W[i].length))] = owss (mkW W k (i + 1)) := by
  have e : W.drop i = W[i] :: W.drop (i + 1) := List.drop_eq_getElem_cons h
  have hl : (mkR (W.take i) k).length = i := by rw [mkR_length]; simp; omega
  simp only [mkW, e, List.take_succ_eq_append_getElem h, mkR_append, owss, List.map_append, List.map_cons, mkR, List.map_nil, List.append_assoc, List.cons_append, List.nil_append]
  rw [mid_set (by simp [hl])]
theorem mkW_get {W : List (List Int)} {k : Int} {i : Nat} (h : i < W.length) : (owss (mkW W k i))[i]? = some [.ow 1 (ints W[i])] := by
  have e : W.drop i = W[i] :: W.drop (i + 1) := List.drop_eq_getElem_cons h
  have hl : (mkR (W.take i) k).length = i := by rw [mkR_length]; simp; omega
  simp only [mkW, e, owss, List.map_append, List.map_cons]
  rw [mid_get (by simp [hl])]
theorem mkW_zero {W : List (List Int)} {k : Int} : mkW W k 0 = W := by simp [mkW, mkR]
mutual
theorem ren_mono {n : Nat} : ∀ x : AV, ren n [] x = x → ren (n + 1) [] x = x
  | .ref id sub sz off len, h => by
    simp only [ren, lkp] at h ⊢
    split at h
    · rw [if_pos (by omega)]
    · cases h
  | .ptr id sub sz i c, h => by
    simp only [ren, lkp] at h ⊢
    split at h
    · rw [if_pos (by omega)]
    · cases h
  | .fn f cs, h => by
    simp only [ren, AV.fn.injEq, true_and] at h ⊢
    exact renL_mono cs h
  | .agg cs, h => by
    simp only [ren, AV.agg.injEq] at h ⊢
    exact renL_mono cs h
  | .tup cs, h => by
    simp only [ren, AV.tup.injEq] at h ⊢
    exact renL_mono cs h
  | .any, h => by simp [ren]
  | .con _, h => by simp [ren]
  | .int _ _, h => by simp [ren]
  | .bool _, h => by simp [ren]
  | .str _, h => by simp [ren]
  | .nil, h => by simp [ren]
  | .sl _, h => by simp [ren]
  | .pf _, h => by simp [ren]
  | .ow _ _, h => by simp [ren]
  | .op _, h => by simp [ren]
theorem renL_mono {n : Nat} : ∀ xs : List AV, renL n [] xs = xs → renL (n + 1) [] xs = xs
  | [], _ => by simp [renL]
  | x :: xs, h => by
    simp only [renL, List.cons.injEq] at h ⊢
    exact ⟨ren_mono x h.1, renL_mono xs h.2⟩
end
theorem below_succ {n : Nat} : ∀ {h : Heap}, below n h → below (n + 1) h
  | [], _ => rfl
  | (i, o) :: h, hb => by
    obtain ⟨h1, h2, h3⟩ := below_cons hb
    refine below_mk (by omega) ?_ (below_succ h3)
    cases o with
    | slice sz es => rfl
    | var cs =>
      simp only [renO, Ob.var.injEq] at h2 ⊢
      exact renL_mono cs h2
def solid (h : Heap) : Prop := killH h = h
theorem solid_set {id sz : Nat} {es : List (List AV)} {h : Heap} (hs : solid h) : solid (hset h id (.slice sz es)) := by
  unfold solid at *
  rw [kill_set, hs]
theorem lens_le : ∀ (W : List (List Int)) (i : Nat), lens (W.take i) ≤ lens W
  | [], i => by simp
  | r :: W, 0 => by simp [lens]
  | r :: W, i + 1 => by
    have := lens_le W i
    simp [lens] at this ⊢
    omega
section
variable {C : CT} (hC : Closed Tryd.prog G1 md0 C)
include hC
end
end Go.Proofs.YtehkpnfehfcphaaDoor.X
set_option maxHeartbeats 2000000
set_option maxRecDepth 8000
set_option linter.unusedSimpArgs false
set_option linter.unusedVariables false
open Nat renaming reduceBEq → N1, reduceAdd → N2, reduceSub → N3, reduceMul → N4, reduceEqDiff → N5, reduceLeDiff → N6, reduceLT → N7
open Int renaming reduceLE → I1, reduceLT → I2, reduceToNat → I3
namespace Go.Proofs.YtehkpnfehfcphaaDoor.X
open Go
attribute [local irreducible] Ev
def inn (x : Int) (row v : List Int) : Nat → List Int
  | 0 => v
  | k + 1 => (inn x row v k).set k (w64 ((inn x row v k).getD k 0 + w64 (x * row.getD k 0)))
def outS (W : List (List Int)) (o v : List Int) : Nat → List Int
  | 0 => v
  | i + 1 => inn (o.getD i 0) (W.getD i []) (outS W o v i) 3
def chS (W : List (List Int)) (o : List Int) : Nat → List Int
  | 0 => o
  | m + 1 => outS W (chS W o m) [0, 0, 0] 3
theorem inn_length (x : Int) (row v : List Int) : ∀ k, (inn x row v k).length = v.length
  | 0 => rfl
  | k + 1 => by simp [inn, inn_length x row v k]
theorem outS_length (W : List (List Int)) (o : List Int) {v : List Int} (h : v.length = 3) : ∀ i, (outS W o v i).length = 3
  | 0 => h
  | i + 1 => by rw [outS, inn_length, outS_length W o h i]
theorem chS_length (W : List (List Int)) {o : List Int} (h : o.length = 3) : ∀ m, (chS W o m).length = 3
  | 0 => h
  | m + 1 => outS_length W _ rfl 3
theorem good_rows {W : List (List Int)} (hg : goodW W = true) : W.length = 3 ∧ ∀ i, i < 3 → W[i]? = some (W.getD i []) ∧ (W.getD i []).length = 3 := by
  simp only [goodW, Bool.and_eq_true, decide_eq_true_eq] at hg
  refine ⟨hg.1, fun i hi => ?_⟩
  have hl : i < W.length := by omega
  have e : W.getD i [] = W[i] := by simp [List.getD, hl]
  have hr := List.all_eq_true.1 hg.2 _ (List.getElem_mem hl)
  simp only [rowOk, Bool.and_eq_true, decide_eq_true_eq] at hr
  rw [e]
  exact ⟨List.getElem?_eq_getElem hl, hr.1.1⟩
section
variable {C : CT} (hC : Closed Tryd.prog G1 md0 C)
include hC
end
end Go.Proofs.YtehkpnfehfcphaaDoor.X
set_option maxHeartbeats 2000000
set_option maxRecDepth 8000
set_option linter.unusedSimpArgs false
set_option linter.unusedVariables false
open Nat renaming reduceBEq → N1, reduceAdd → N2, reduceSub → N3, reduceMul → N4, reduceEqDiff → N5, reduceLeDiff → N6, reduceLT → N7
open Int renaming reduceLE → I1, reduceLT → I2, reduceToNat → I3
namespace Go.Proofs.YtehkpnfehfcphaaDoor.X
open Go
attribute [local irreducible] Ev szSS szRows
theorem szRows_lens : ∀ (W : List (List Int)) (v : Int), 0 ≤ v → 0 ≤ szRows W v → (lens W : Int) ≤ v
  | [], v, h0, _ => by simp [lens]; exact h0
  | s :: W, v, h0, h => by
    rw [szRows] at h
    split at h
    · omega
    · rename_i hs
      have := szRows_lens W (v - s.length) (by omega) h
      have e : lens (s :: W) = s.length + lens W := by simp [lens]
      rw [e]; omega
theorem szSS_lens {W : List (List Int)} {v : Int} (h0 : 0 ≤ v) (h : 0 ≤ szSS W v) : (lens W : Int) ≤ v := by
  rw [szSS] at h
  split at h
  · omega
  · have := szRows_lens W (v - W.length) (by omega) h
    omega
def run (k : Int) (n : Nat) : List Int := (List.range n).map (fun j : Nat => k + (j : Int))
theorem run_length {k : Int} {n : Nat} : (run k n).length = n := by simp [run]
theorem run_get {k : Int} {n i : Nat} (h : i < n) : (run k n).getD i 0 = k + i := by simp [run, List.getD, h]
theorem mk_run {l : List Int} {k : Int} : mk l k l.length = run k l.length := mk_all
theorem RetTo_lb {h : Heap} {id : Nat} {es : List (List AV)} {len : Nat} {b : Bool} (hg : hget h id = some (.slice 1 es)) (hl : len = es.length) : RetTo h (.tup [.ref id none 1 0 len, .bool b]) (.tup [.ow 1 es, .bool b]) := by
  subst hl
  exact RetTo_of (h2 := hdel h id) (by simp [conR, conRL, isF, hg])
theorem RetTo_nb {h : Heap} {b : Bool} : RetTo h (.tup [.nil, .bool b]) (.tup [.ow 1 [], .bool b]) :=
  ⟨.tup [.nil, .bool b], h, by simp [conR, conRL, isF], by simp [NilTo, NilToL]⟩
section
variable {C : CT} (hC : Closed Tryd.prog G1 md0 C)
include hC
theorem t34 (k : Int) (n : Nat) (hk : 0 ≤ k ∧ k < 2^50) (hn : n < 2^50) : Ev C 34 [.sl (ints (run k n)), .int .i64 k] (.int .i64 (k + n)) := by
  refine rT hC Q34 ?_
  simp only [c34, push_cast, ↓J1, ↓J2, N1, N2, N3, reduceCtorEq, N4, N5, N6, reduceIte, N7, I1, I2, I3]
  refine RL_count (fun i => ⟨tb 21 .any [(0, .sl (ints (run k n))), (1, .int .i64 (k + i)), (5, .int .i64 (i : Int))], [], 0⟩) (fun _ => True) n 0 (hdA []) (by omega) trivial fun i hi _ J hJ => ?_
  by_cases h1 : i < n
  · have e1 : (ints (run k n))[i]? = some [.int .i64 ((run k n).getD i 0)] := ints_get (by rw [run_length]; exact h1)
    simp only [ints_length, run_length, Int.toNat_natCast, e1, run_get h1, push_cast, ↓J1, ↓J2, N1, N2, N3, reduceCtorEq, N4, N5, N6, reduceIte, N7, I1, I2, I3]
    refine ifB_intro (fun _ => ?_) (fun h => by simp at h; omega)
    repeat (refine ⟨by omega, ?_⟩)
    refine hJ h1 trivial _ (hdA [] (hV := ?_))
    simp only [keptV_cons, keptV_nil, tb_get, lk_same, lk_ne, lk_nil, ren, renL, lkp, N7, N1, N5, reduceIte, and_true, true_and, Nat.not_lt_zero, if_false, if_true, Nat.add_zero, Nat.zero_add]
    rw [wrap64 (by omega) (by omega), wrap64 (by omega) (by omega)]
    simp; omega
  · obtain rfl : i = n := by omega
    simp only [ints_length, run_length, push_cast, ↓J1, ↓J2, N1, N2, N3, reduceCtorEq, N4, N5, N6, reduceIte, N7, I1, I2, I3]
    refine ifB_intro (fun h => by simp at h) (fun h => trivial)
def askCh (W : List (List Int)) (w n : Int) : Bool := goodW W && inR 0 2 w && inR 0 6 n
def resCh (W : List (List Int)) (w n : Int) : List Int := if askCh W w n then chS W ([0, 0, 0].set w.toNat 1) n.toNat else []
omit hC in
theorem resCh_length (W : List (List Int)) (w n : Int) : (resCh W w n).length ≤ 3 := by
  unfold resCh
  split
  · rw [chS_length _ (by simp)]; omega
  · simp
omit hC in
theorem own_lb (l : List Int) (b : Bool) : ownR (.tup [.ow 1 (ints l), .bool b]) = true := by
  have e := own_ints l
  simp only [ownR] at e
  simp only [ownR, ownRL, e, Bool.and_true]
end
end Go.Proofs.YtehkpnfehfcphaaDoor.X
set_option maxHeartbeats 2000000
set_option maxRecDepth 8000
set_option linter.unusedSimpArgs false
set_option linter.unusedVariables false
open Nat renaming reduceBEq → N1, reduceAdd → N2, reduceSub → N3, reduceMul → N4, reduceEqDiff → N5, reduceLeDiff → N6, reduceLT → N7
open Int renaming reduceLE → I1, reduceLT → I2, reduceToNat → I3
namespace Go.Proofs.YtehkpnfehfcphaaDoor.X
open Go
attribute [local irreducible] Ev szSS szRows
theorem ints_snoc {l : List Int} {x : Int} : ints l ++ [[.int .i64 x]] = ints (l ++ [x]) := by simp [ints]
theorem allScs_ints (l : List Int) : allScs (ints l) = true := by
  unfold ints
  induction l with
  | nil => rfl
  | cons x l ih => simp only [List.map_cons, allScs, allSc, isSc, Bool.and_true, Bool.true_and]; exact ih
def wAt (W : List (List Int)) (w seed : Int) : Nat → Int
  | 0 => w
  | i + 1 => nextS (rowAt W (wAt W w seed i)) (belowOf seed i 36) 0
def wOut (W : List (List Int)) (w seed : Int) : Nat → List Int
  | 0 => []
  | i + 1 => wOut W w seed i ++ [wAt W w seed (i + 1)]
theorem wOut_length (W : List (List Int)) (w seed : Int) : ∀ i, (wOut W w seed i).length = i
  | 0 => rfl
  | i + 1 => by simp [wOut, wOut_length W w seed i]
theorem wAt_in {W : List (List Int)} {w seed : Int} (hg : goodW W = true) (hw : inR 0 2 w = true) : ∀ i, inR 0 2 (wAt W w seed i) = true
  | 0 => hw
  | i + 1 => by
    obtain ⟨_, _, a, b, c, hra, _⟩ := rowAt_some hg (wAt_in hg hw i)
    rw [wAt, hra]
    simp only [nextS]
    split
    · rfl
    · split
      · rfl
      · split <;> rfl
def askWF (W : List (List Int)) (w seed n : Int) : Bool := goodW W && inR 0 2 w && inR 0 4611686016279904236 seed && inR 0 30 n
def resWF (W : List (List Int)) (w seed n : Int) : List Int := if askWF W w seed n then wOut W w seed n.toNat else []
theorem resWF_length (W : List (List Int)) (w seed n : Int) : (resWF W w seed n).length ≤ 1000 := by
  unfold resWF
  split
  · rename_i h
    simp only [askWF, inR, Bool.and_eq_true, decide_eq_true_eq] at h
    rw [wOut_length]; omega
  · simp
section
variable {C : CT} (hC : Closed Tryd.prog G1 md0 C)
include hC
end
end Go.Proofs.YtehkpnfehfcphaaDoor.X
set_option maxHeartbeats 2000000
set_option maxRecDepth 8000
set_option linter.unusedSimpArgs false
set_option linter.unusedVariables false
open Nat renaming reduceBEq → N1, reduceAdd → N2, reduceSub → N3, reduceMul → N4, reduceEqDiff → N5, reduceLeDiff → N6, reduceLT → N7
open Int renaming reduceLE → I1, reduceLT → I2, reduceToNat → I3
namespace Go.Proofs.YtehkpnfehfcphaaDoor.X
open Go
attribute [local irreducible] Ev szSS szRows
def lkS (W : List (List Int)) (l : List Int) : Nat → Int
  | 0 => 1
  | i + 1 => w64 (lkS W l i * (W.getD (l.getD i 0).toNat []).getD (l.getD (i + 1) 0).toNat 0)
def digs (n : Nat) (code : Int) : Nat → List Int × Int
  | 0 => (List.replicate n 0, code)
  | j + 1 => ((digs n code j).1.set (n - 1 - j) ((digs n code j).2.tmod 3), (digs n code j).2.tdiv 3)
theorem digs_length (n : Nat) (code : Int) : ∀ j, (digs n code j).1.length = n
  | 0 => by simp [digs]
  | j + 1 => by simp [digs, digs_length n code j]
theorem digs_in (n : Nat) (code : Int) (h0 : 0 ≤ code ∧ code < 2^30) : ∀ j, (0 ≤ (digs n code j).2 ∧ (digs n code j).2 < 2^30) ∧ ∀ x ∈ (digs n code j).1, inR 0 2 x = true
  | 0 => ⟨h0, by intro x hx; simp [digs] at hx; rw [hx.2]; rfl⟩
  | j + 1 => by
    obtain ⟨h1, h2⟩ := digs_in n code h0 j
    have h3 := Int.tmod_lt_of_pos (digs n code j).2 (show (0 : Int) < 3 by omega)
    have h4 := Int.tmod_nonneg 3 h1.1
    have h5 := Int.tdiv_nonneg h1.1 (show (0 : Int) ≤ 3 by omega)
    have h6 := Int.tdiv_le_self (b := 3) h1.1
    refine ⟨⟨h5, by simp only [digs]; omega⟩, fun x hx => ?_⟩
    simp only [digs] at hx
    rcases List.mem_or_eq_of_mem_set hx with hx | rfl
    · exact h2 x hx
    · simp only [inR, Bool.and_eq_true, decide_eq_true_eq]; omega
def dg (n : Nat) (m : Nat) : List Int := (digs n (m : Int) n).1
def bst (W : List (List Int)) (w : Int) (n : Nat) : Nat → List Int × Int
  | 0 => ([], -1)
  | m + 1 => if (bst W w n m).2 < lkS W (w :: dg n m) n then (dg n m, lkS W (w :: dg n m) n) else bst W w n m
theorem bst_length (W : List (List Int)) (w : Int) (n : Nat) : ∀ m, (bst W w n m).1.length ≤ n
  | 0 => by simp [bst]
  | m + 1 => by
    rw [bst]
    split
    · simp only [dg, digs_length]; omega
    · exact bst_length W w n m
theorem ints_cons {w : Int} {l : List Int} : [AV.int .i64 w] :: ints l = ints (w :: l) := rfl
theorem ints_rep {n : Nat} : List.replicate n [AV.int .i64 0] = ints (List.replicate n 0) := by simp [ints]
theorem RetTo_no {h : Heap} : RetTo h .nil (.ow 1 []) := ⟨.nil, h, by simp [conR, isF], by simp [NilTo]⟩
def pw (i : Nat) : Nat := 3 ^ i
theorem pw_succ (i : Nat) : pw (i + 1) = pw i * 3 := Nat.pow_succ 3 i
theorem pow3 {i : Nat} (h : i ≤ 6) : pw i ≤ 729 := Nat.pow_le_pow_right (show 0 < 3 by omega) h
section
variable {C : CT} (hC : Closed Tryd.prog G1 md0 C)
include hC
theorem t45 (l : List Int) (hl : l.length < 2^30) : Ev C 45 [.sl (ints l)] (.ow 1 (ints l)) := by
  refine rT hC Q45 ?_ (own_ints l)
  simp only [c45, push_cast, ↓J1, ↓J2, N1, N2, N3, reduceCtorEq, N4, N5, N6, reduceIte, N7, I1, I2, I3]
  intro b hb
  refine ifB_intro (fun h => ?_) (fun h => ?_)
  · have := hb h
    rw [this]
    exact RetTo_no
  · have e : ((ints l).all fun e => e.length == 1) = true := by simp [ints]
    simp only [e, ints_length, Nat.zero_add, push_cast, ↓J1, ↓J2, N1, N2, N3, reduceCtorEq, N4, N5, N6, reduceIte, N7, I1, I2, I3]
    refine ⟨by omega, ?_⟩
    exact RetTo_ow (by simp [hget]) (by rw [ints_length])

omit hC in
theorem ppp : True := trivial
def askML (W : List (List Int)) (w n : Int) : Bool := goodW W && inR 0 2 w && inR 0 6 n
def resML (W : List (List Int)) (w n : Int) : List Int := if askML W w n then (bst W w n.toNat (pw n.toNat)).1 else []
omit hC in
theorem resML_length (W : List (List Int)) (w n : Int) : (resML W w n).length ≤ 6 := by
  unfold resML
  split
  · rename_i h
    simp only [askML, inR, Bool.and_eq_true, decide_eq_true_eq] at h
    have := bst_length W w n.toNat (pw n.toNat)
    omega
  · simp
end
end Go.Proofs.YtehkpnfehfcphaaDoor.X
set_option maxHeartbeats 1000000
set_option maxRecDepth 8000
set_option linter.unusedSimpArgs false
set_option linter.unusedVariables false
open Nat renaming reduceBEq → N1, reduceAdd → N2, reduceSub → N3, reduceMul → N4, reduceEqDiff → N5, reduceLeDiff → N6, reduceLT → N7
open Int renaming reduceLE → I1, reduceLT → I2, reduceToNat → I3
namespace Go.Proofs.YtehkpnfehfcphaaDoor.X
open Go
attribute [local irreducible] Ev
def wk0 : Wk := ⟨0, 0, 0, []⟩
theorem nil_wk : NilToL [.int .i64 0, .int .i64 0, .int .i64 0, .nil] (wkO wk0) := NilToL_cons (NilTo.refl _) (NilToL_cons (NilTo.refl _) (NilToL_cons (NilTo.refl _) (NilToL_cons NilTo_nl NilToL_nil)))
theorem own_uns' (l : List Un) : ownR (.ow 4 (uns l)) = true := by simp only [ownR, own_uns]
theorem own_ints' (l : List Int) : ownR (.ow 1 (ints l)) = true := by simp only [own_ints]
def dUX (b : Brd) (u : Un) (x : Wk) : Int := distI (u.at_.tmod b.m.w) (u.at_.tdiv b.m.w) (x.at_.tmod b.m.w) (x.at_.tdiv b.m.w)
def rsOk (b : Brd) (s : Sta) (x : Wk) (u : Int) : Bool := prOk b s x && hurt b s u && decide ((unOf s u).sd = x.sd) && !inZon b s (1 - x.sd) (unOf s u).at_ && !decide (x.pt < (kindOf b (unOf s u).k).st) && !decide (b.r.supply < dUX b (unOf s u) x)
def rsS (s : Sta) (k : Nat) : Sta := ⟨s.t, s.w, s.us.set k ⟨(unOf s k).sd, (unOf s k).k, (unOf s k).at_, (unOf s k).st + 1⟩⟩
def rsW (b : Brd) (s : Sta) (x : Wk) (u : Int) : Wk := ⟨x.sd, x.at_, x.pt - (kindOf b (unOf s u).k).st, x.q⟩
theorem uns_set {s : Sta} {k : Nat} {a b c d : Int} : (uns s.us).set k [.int .i64 a, .int .i64 b, .int .i64 c, .int .i64 d] = uns (s.us.set k ⟨a, b, c, d⟩) := by
  simp only [uns, List.map_set, unA]
theorem own_wk (x : Wk) : ownR (.agg (wkO x)) = true := by
  have h := own_ints x.q
  simp only [ownR] at h
  simp only [wkO, ownR, ownRL, h, Bool.and_true]
theorem pos_bnd {w h i : Int} (h1 : 1 ≤ w ∧ w ≤ 10) (h2 : 1 ≤ h ∧ h ≤ 10) (hi : 0 ≤ i ∧ i < 300) : (0 ≤ i.tmod w ∧ i.tmod w < 10) ∧ 0 ≤ i.tdiv w ∧ i.tdiv w ≤ 300 := by
  have a1 := Int.tmod_nonneg w hi.1
  have a2 := Int.tmod_lt_of_pos i (show 0 < w by omega)
  have a3 := Int.tdiv_nonneg hi.1 (show 0 ≤ w by omega)
  have a4 := Int.tdiv_le_self (a := i) (b := w) hi.1
  omega
section
variable {C : CT} (hC : Closed Tryd.prog G1 md0 C)
include hC
theorem t26 (x : Wk) (hq : x.q.length < 2^30) : Ev C 26 [.agg (wkF x)] (.agg (wkO x)) := by
  have c1 := t45 hC x.q hq
  simp only [wkF, wkO]
  refine rT hC Q26 ?_ (own_wk x)
  simp only [c26, push_cast, ↓J1, ↓J2, N1, N2, N3, reduceCtorEq, N4, N5, N6, reduceIte, N7, I1, I2, I3]
  refine ⟨_, c1, ?_⟩
  simp only [push_cast, ↓J1, ↓J2, N1, N2, N3, reduceCtorEq, N4, N5, N6, reduceIte, N7, I1, I2, I3]
  exact rtA
end
end Go.Proofs.YtehkpnfehfcphaaDoor.X
