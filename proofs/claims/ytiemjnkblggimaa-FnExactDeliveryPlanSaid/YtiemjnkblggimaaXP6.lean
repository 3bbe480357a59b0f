/- A part of the proof: lemmas on the machine or on the functions that the law reaches. No condition of its own. -/
import Derived.Test.YtiemjnkblggimaaXP3
import Derived.Test.YtiemjnkblggimaaXP5
set_option maxHeartbeats 2000000
set_option maxRecDepth 8000
set_option linter.unusedSimpArgs false
set_option linter.unusedVariables false
open Nat renaming reduceBEq → N1, reduceAdd → N2, reduceSub → N3, reduceMul → N4, reduceEqDiff → N5, reduceLeDiff → N6, reduceLT → N7
open Int renaming reduceLE → I1, reduceLT → I2, reduceToNat → I3
namespace Go.Proofs.Ytiemjnkblggimaa.X
open Go
theorem ints_get {v : List Int} {k : Nat} (h : k < v.length) : (ints v)[k]? = some [.int .i64 (v.getD k 0)] := by
  simp [ints, List.getD, h]
theorem ints_set {v : List Int} {k : Nat} {y : Int} : (ints v).set k [.int .i64 y] = ints (v.set k y) := by
  simp [ints, List.map_set]
/-! ### Sizes: what is left of a limit -/
def sub1 (v : Int) (n : Nat) : Int := if v < n then -1 else v - n
structure SzOk {α : Type} (f : α → Int → Int) (B : Int) (x : α) : Prop where
  le : ∀ v, 0 ≤ v → v ≤ B → -1 ≤ f x v ∧ f x v ≤ v
def szAll {α : Type} (f : α → Int → Int) : List α → Int → Int
  | [], v => v
  | x :: xs, v => if f x v < 0 then -1 else szAll f xs (f x v)
def leftAt {α : Type} (f : α → Int → Int) (l : List α) (v : Int) : Nat → Int
  | 0 => v
  | i + 1 => match l[i]? with | some x => f x (leftAt f l v i) | none => 0
theorem leftAt_succ {α : Type} {f : α → Int → Int} {l : List α} {v : Int} {i : Nat} (h : i < l.length) : leftAt f l v (i + 1) = f l[i] (leftAt f l v i) := by
  simp only [leftAt, List.getElem?_eq_getElem h]
theorem szAll_le {α : Type} {f : α → Int → Int} {B : Int} : ∀ {l : List α}, (∀ x ∈ l, SzOk f B x) → ∀ v, 0 ≤ v → v ≤ B → -1 ≤ szAll f l v ∧ szAll f l v ≤ v
  | [], _, v, h0, _ => ⟨by simp [szAll]; omega, by simp [szAll]⟩
  | x :: xs, h, v, h0, hB => by
    have hx := (h x (by simp)).le v h0 hB
    simp only [szAll]
    split
    · omega
    · have := szAll_le (l := xs) (fun y hy => h y (by simp [hy])) (f x v) (by omega) (by omega)
      omega
theorem szAll_each {α : Type} {f : α → Int → Int} {B : Int} : ∀ {l : List α}, (∀ x ∈ l, SzOk f B x) → ∀ v, 0 ≤ v → v ≤ B → 0 ≤ szAll f l v → ∀ x ∈ l, ∃ u, 0 ≤ u ∧ u ≤ v ∧ 0 ≤ f x u
  | [], _, v, _, _, _, x, hx => by simp at hx
  | y :: ys, h, v, h0, hB, hs, x, hx => by
    have hy := (h y (by simp)).le v h0 hB
    simp only [szAll] at hs
    split at hs
    · omega
    · rename_i hn
      rcases List.mem_cons.1 hx with rfl | hx
      · exact ⟨v, h0, by omega, by omega⟩
      · obtain ⟨u, h1, h2, h3⟩ := szAll_each (fun z hz => h z (by simp [hz])) (f y v) (by omega) (by omega) hs x hx
        exact ⟨u, h1, by omega, h3⟩
theorem sub1_le {v : Int} {n : Nat} (h : 0 ≤ v) : -1 ≤ sub1 v n ∧ sub1 v n ≤ v := by
  simp only [sub1]; split <;> omega
theorem sub1_pos {v : Int} {n : Nat} (h : 0 ≤ sub1 v n) : (n : Int) ≤ v := by
  simp only [sub1] at h; split at h <;> omega
/-! ### The parts of a board -/
structure Ter where
  n : ByteArray
  c : List Int
  s : Int
  h : Int
  b : Bool
  deriving DecidableEq
structure Kin where
  n : ByteArray
  st : Int
  mv : Int
  sp : Int
  z : Bool
  v : Int
  deriving DecidableEq
structure Rul where
  ts : List Ter
  ks : List Kin
  stack : Int
  river : Int
  road : Int
  supply : Int
  turns : Int
  deriving DecidableEq
structure Mp where
  w : Int
  h : Int
  t : List Int
  ri : List Int
  ro : List Int
  deriving DecidableEq
structure Brd where
  r : Rul
  m : Mp
  deriving DecidableEq
def terF (t : Ter) : List AV := [.str t.n, .sl (ints t.c), .int .i64 t.s, .int .i64 t.h, .bool t.b]
def terO (t : Ter) : List AV := [.str t.n, .ow 1 (ints t.c), .int .i64 t.s, .int .i64 t.h, .bool t.b]
def kinA (k : Kin) : List AV := [.str k.n, .int .i64 k.st, .int .i64 k.mv, .int .i64 k.sp, .bool k.z, .int .i64 k.v]
def tersF (l : List Ter) : List (List AV) := l.map terF
def tersO (l : List Ter) : List (List AV) := l.map terO
def kins (l : List Kin) : List (List AV) := l.map kinA
def rulF (r : Rul) : List AV := [.sl (tersF r.ts), .sl (kins r.ks), .int .i64 r.stack, .int .i64 r.river, .int .i64 r.road, .int .i64 r.supply, .int .i64 r.turns]
def rulO (r : Rul) : List AV := [.ow 5 (tersO r.ts), .ow 6 (kins r.ks), .int .i64 r.stack, .int .i64 r.river, .int .i64 r.road, .int .i64 r.supply, .int .i64 r.turns]
def mpF (m : Mp) : List AV := [.int .i64 m.w, .int .i64 m.h, .sl (ints m.t), .sl (ints m.ri), .sl (ints m.ro)]
def mpO (m : Mp) : List AV := [.int .i64 m.w, .int .i64 m.h, .ow 1 (ints m.t), .ow 1 (ints m.ri), .ow 1 (ints m.ro)]
theorem tersF_length (l : List Ter) : (tersF l).length = l.length := by simp [tersF]
theorem tersO_length (l : List Ter) : (tersO l).length = l.length := by simp [tersO]
theorem kins_length (l : List Kin) : (kins l).length = l.length := by simp [kins]
theorem frzLL_ters (l : List Ter) : frzLL (tersO l) = tersF l := by
  unfold tersO tersF
  induction l with
  | nil => rfl
  | cons x l ih => simp only [List.map_cons, frzLL, terO, terF, frzL, frzT, frzLL_ints, ih]
theorem frzLL_kins (l : List Kin) : frzLL (kins l) = kins l := by
  unfold kins
  induction l with
  | nil => rfl
  | cons x l ih => simp only [List.map_cons, frzLL, kinA, frzL, frzT, ih]
theorem own_ints1 (l : List Int) : ownRLL (ints l) = true := by have := own_ints l; simpa only [ownR] using this
theorem own_ters (l : List Ter) : ownRLL (tersO l) = true := by
  unfold tersO
  induction l with
  | nil => rfl
  | cons x l ih => simp only [List.map_cons, ownRLL, terO, ownRL, ownR, own_ints1, Bool.and_true, Bool.true_and]; exact ih
theorem own_kins (l : List Kin) : ownRLL (kins l) = true := by
  unfold kins
  induction l with
  | nil => rfl
  | cons x l ih => simp only [List.map_cons, ownRLL, kinA, ownRL, ownR, Bool.and_true, Bool.true_and]; exact ih
def szTer (t : Ter) (v : Int) : Int := if sub1 v t.n.size < 0 then -1 else sub1 (sub1 v t.n.size) t.c.length
def szTers (l : List Ter) (v : Int) : Int := if sub1 v l.length < 0 then -1 else szAll szTer l (sub1 v l.length)
def szKin (k : Kin) (v : Int) : Int := sub1 v k.n.size
def szKins (l : List Kin) (v : Int) : Int := if sub1 v l.length < 0 then -1 else szAll szKin l (sub1 v l.length)
theorem szTer_ok (B : Int) (t : Ter) : SzOk szTer B t := ⟨fun v h0 hB => by
  have h1 := sub1_le (n := t.n.size) h0
  simp only [szTer]
  split
  · omega
  · have h2 := sub1_le (v := sub1 v t.n.size) (n := t.c.length) (by omega); omega⟩
theorem szKin_ok (B : Int) (t : Kin) : SzOk szKin B t := ⟨fun v h0 hB => sub1_le h0⟩
theorem szTers_le {l : List Ter} {v : Int} (h0 : 0 ≤ v) (hB : v ≤ 2 ^ 50) : -1 ≤ szTers l v ∧ szTers l v ≤ v := by
  have h1 := sub1_le (n := l.length) h0
  simp only [szTers]
  split
  · omega
  · have := szAll_le (l := l) (fun x _ => szTer_ok (2 ^ 50) x) (sub1 v l.length) (by omega) (by omega); omega
theorem szKins_le {l : List Kin} {v : Int} (h0 : 0 ≤ v) (hB : v ≤ 2 ^ 50) : -1 ≤ szKins l v ∧ szKins l v ≤ v := by
  have h1 := sub1_le (n := l.length) h0
  simp only [szKins]
  split
  · omega
  · have := szAll_le (l := l) (fun x _ => szKin_ok (2 ^ 50) x) (sub1 v l.length) (by omega) (by omega); omega
theorem szTers_pos {l : List Ter} {v : Int} (h0 : 0 ≤ v) (hB : v ≤ 2 ^ 50) (h : 0 ≤ szTers l v) : (l.length : Int) ≤ v ∧ ∀ x ∈ l, (x.n.size : Int) ≤ v ∧ (x.c.length : Int) ≤ v := by
  have h1 := sub1_le (n := l.length) h0
  simp only [szTers] at h
  split at h
  · omega
  · have h2 := sub1_pos (v := v) (n := l.length) (by omega)
    refine ⟨h2, fun x hx => ?_⟩
    obtain ⟨u, u0, u1, u2⟩ := szAll_each (fun x _ => szTer_ok (2 ^ 50) x) (sub1 v l.length) (by omega) (by omega) h x hx
    have k1 := sub1_le (n := x.n.size) u0
    simp only [szTer] at u2
    split at u2
    · omega
    · have k2 := sub1_pos (v := u) (n := x.n.size) (by omega)
      have k3 := sub1_pos u2
      omega
theorem szKins_pos {l : List Kin} {v : Int} (h0 : 0 ≤ v) (hB : v ≤ 2 ^ 50) (h : 0 ≤ szKins l v) : (l.length : Int) ≤ v ∧ ∀ x ∈ l, (x.n.size : Int) ≤ v := by
  have h1 := sub1_le (n := l.length) h0
  simp only [szKins] at h
  split at h
  · omega
  · have h2 := sub1_pos (v := v) (n := l.length) (by omega)
    refine ⟨h2, fun x hx => ?_⟩
    obtain ⟨u, u0, u1, u2⟩ := szAll_each (fun x _ => szKin_ok (2 ^ 50) x) (sub1 v l.length) (by omega) (by omega) h x hx
    have k2 := sub1_pos u2
    omega
def andThen (f g : Int → Int) (v : Int) : Int := if f v < 0 then -1 else if g (f v) < 0 then -1 else g (f v)
def szRul (r : Rul) : Int → Int := andThen (szTers r.ts) (szKins r.ks)
def szMp (m : Mp) (v : Int) : Int := if sub1 v m.t.length < 0 then -1 else if sub1 (sub1 v m.t.length) m.ri.length < 0 then -1 else if sub1 (sub1 (sub1 v m.t.length) m.ri.length) m.ro.length < 0 then -1 else sub1 (sub1 (sub1 v m.t.length) m.ri.length) m.ro.length
def szBrd (b : Brd) : Int → Int := andThen (szRul b.r) (szMp b.m)
structure RulB (B : Nat) (r : Rul) : Prop where
  ts : r.ts.length < B
  ks : r.ks.length < B
  t : ∀ x ∈ r.ts, x.n.size < B ∧ x.c.length < B
  k : ∀ x ∈ r.ks, x.n.size < B
structure MpB (B : Nat) (m : Mp) : Prop where
  t : m.t.length < B
  ri : m.ri.length < B
  ro : m.ro.length < B
structure BrdB (B : Nat) (b : Brd) : Prop where
  r : RulB B b.r
  m : MpB B b.m
theorem szRul_le {r : Rul} {v : Int} (h0 : 0 ≤ v) (hB : v ≤ 2 ^ 50) : -1 ≤ szRul r v ∧ szRul r v ≤ v := by
  have h1 := szTers_le (l := r.ts) h0 hB
  simp only [szRul, andThen]
  split
  · omega
  · have h2 := szKins_le (l := r.ks) (v := szTers r.ts v) (by omega) (by omega)
    split <;> omega
theorem szMp_le {m : Mp} {v : Int} (h0 : 0 ≤ v) : -1 ≤ szMp m v ∧ szMp m v ≤ v := by
  have h1 := sub1_le (n := m.t.length) h0
  simp only [szMp]
  split
  · omega
  · have h2 := sub1_le (v := sub1 v m.t.length) (n := m.ri.length) (by omega)
    split
    · omega
    · have h3 := sub1_le (v := sub1 (sub1 v m.t.length) m.ri.length) (n := m.ro.length) (by omega)
      split <;> omega
theorem szBrd_pos {b : Brd} (h : 0 ≤ szBrd b 1048576) : BrdB (2 ^ 21) b := by
  have h1 := szRul_le (r := b.r) (v := 1048576) (by omega) (by omega)
  simp only [szBrd, andThen] at h
  split at h
  · omega
  rename_i n1
  split at h
  · omega
  have k1 := szTers_le (l := b.r.ts) (v := 1048576) (by omega) (by omega)
  have hr : 0 ≤ szTers b.r.ts 1048576 ∧ 0 ≤ szKins b.r.ks (szTers b.r.ts 1048576) := by
    simp only [szRul, andThen] at n1
    split at n1
    · omega
    · split at n1 <;> omega
  have p1 := szTers_pos (by omega) (by omega) hr.1
  have p2 := szKins_pos (by omega) (by omega) hr.2
  refine ⟨⟨by omega, by omega, fun x hx => ?_, fun x hx => ?_⟩, ?_⟩
  · have := p1.2 x hx; omega
  · have := p2.2 x hx; omega
  · generalize szRul b.r 1048576 = v at *
    have q1 := sub1_le (v := v) (n := b.m.t.length) (by omega)
    simp only [szMp] at h
    split at h
    · omega
    · have q2 := sub1_le (v := sub1 v b.m.t.length) (n := b.m.ri.length) (by omega)
      split at h
      · omega
      · split at h
        · omega
        · have r1 := sub1_pos (v := v) (n := b.m.t.length) (by omega)
          have r2 := sub1_pos (v := sub1 v b.m.t.length) (n := b.m.ri.length) (by omega)
          have r3 := sub1_pos h
          exact ⟨by omega, by omega, by omega⟩
def brdF (b : Brd) : AV := .agg (rulF b.r ++ mpF b.m)
def brdO (b : Brd) : AV := .agg (rulO b.r ++ mpO b.m)
end Go.Proofs.Ytiemjnkblggimaa.X
set_option maxHeartbeats 1000000
set_option maxRecDepth 8000
set_option linter.unusedSimpArgs false
set_option linter.unusedSectionVars false
set_option linter.unusedVariables false
open Nat renaming reduceBEq → N1, reduceAdd → N2, reduceSub → N3, reduceMul → N4, reduceEqDiff → N5, reduceLeDiff → N6, reduceLT → N7
open Int renaming reduceLE → I1, reduceLT → I2, reduceToNat → I3
namespace Go.Proofs.Ytiemjnkblggimaa.X
open Go
def intss (W : List (List Int)) : List (List AV) := W.map fun r => [.sl (ints r)]
def owss (W : List (List Int)) : List (List AV) := W.map fun r => [.ow 1 (ints r)]
theorem intss_length (W : List (List Int)) : (intss W).length = W.length := by simp [intss]
theorem owss_length (W : List (List Int)) : (owss W).length = W.length := by simp [owss]
theorem frzLL_owss (W : List (List Int)) : frzLL (owss W) = intss W := by
  unfold owss intss
  induction W with
  | nil => rfl
  | cons x l ih => simp only [List.map_cons, frzLL, frzL, frzT, frzLL_ints, ih]
theorem own_intss (W : List (List Int)) : ownR (.ow 1 (owss W)) = true := by
  simp only [ownR]
  unfold owss
  induction W with
  | nil => rfl
  | cons x l ih =>
    have e2 := own_ints x
    simp only [ownR] at e2
    simp only [List.map_cons, ownRLL, ownRL, ownR, e2, Bool.and_true, Bool.true_and]; exact ih
def lens (W : List (List Int)) : Nat := (W.map List.length).sum
def szRows : List (List Int) → Int → Int
  | [], v => v
  | r :: W, v => if v < r.length then -1 else szRows W (v - r.length)
def szSS (W : List (List Int)) (v : Int) : Int := if v < W.length then -1 else szRows W (v - W.length)
theorem szRows_le {B : Int} : ∀ (W : List (List Int)) (v : Int), 0 ≤ v → v ≤ B → 0 ≤ szRows W v → ∀ r ∈ W, (r.length : Int) ≤ B
  | [], v, _, _, _, r, hr => by simp at hr
  | s :: W, v, h0, hB, h, r, hr => by
    simp only [szRows] at h
    split at h
    · omega
    · rename_i hs
      rcases List.mem_cons.1 hr with rfl | hr
      · omega
      · exact szRows_le W (v - s.length) (by omega) (by omega) h r hr
theorem szSS_le {W : List (List Int)} {v : Int} (h0 : 0 ≤ v) (h : 0 ≤ szSS W v) : (W.length : Int) ≤ v ∧ ∀ r ∈ W, (r.length : Int) ≤ v := by
  simp only [szSS] at h
  split at h
  · omega
  · rename_i hs
    exact ⟨by omega, szRows_le W _ (by omega) (by omega) h⟩
theorem lens_succ {W : List (List Int)} {i : Nat} (h : i < W.length) : lens (W.take (i + 1)) = lens (W.take i) + W[i].length := by
  rw [lens, List.take_succ_eq_append_getElem h, List.map_append, List.sum_append]; simp only [lens, List.map_cons, List.map_nil, List.sum_cons, List.sum_nil, Nat.add_zero]
def sumW (r : List Int) : Int := r.foldl (fun a x => IntKind.i64.wrap (a + x)) 0
theorem sumW_succ {r : List Int} {i : Nat} (h : i < r.length) : sumW (r.take (i + 1)) = IntKind.i64.wrap (sumW (r.take i) + r[i]) := by
  rw [sumW, List.take_succ_eq_append_getElem h, List.foldl_append]; rfl
def rowOk (r : List Int) : Bool := decide (r.length = 3) && r.all (inR 0 36) && decide (sumW r = 36)
def goodW (W : List (List Int)) : Bool := decide (W.length = 3) && W.all rowOk
def clA (W : List (List Int)) : AV := .agg [.sl (intss W)]
def clO (W : List (List Int)) : AV := .agg [.ow 1 (owss W)]
theorem own_cl (W : List (List Int)) : ownR (clO W) = true := by
  have e1 := own_intss W
  simp only [ownR] at e1
  simp only [clO, ownR, ownRL, e1, Bool.and_true]
section
variable {C : CT} (hC : Closed Try.prog G0 md0 C)
include hC
end
end Go.Proofs.Ytiemjnkblggimaa.X
set_option maxHeartbeats 1000000
set_option maxRecDepth 8000
set_option linter.unusedSimpArgs false
set_option linter.unusedVariables false
open Nat renaming reduceBEq → N1, reduceAdd → N2, reduceSub → N3, reduceMul → N4, reduceEqDiff → N5, reduceLeDiff → N6, reduceLT → N7
open Int renaming reduceLE → I1, reduceLT → I2, reduceToNat → I3
namespace Go.Proofs.Ytiemjnkblggimaa.X
open Go
theorem sum3 {a b c : Int} (ha : inR 0 36 a = true) (hb : inR 0 36 b = true) (hc : inR 0 36 c = true) : sumW [a, b, c] = a + b + c := by
  simp only [inR, Bool.and_eq_true, decide_eq_true_eq] at ha hb hc
  simp only [sumW, List.foldl]
  rw [Int.zero_add, wrap64 (n := a) (by omega) (by omega), wrap64 (n := a + b) (by omega) (by omega), wrap64 (by omega) (by omega)]
section
variable {C : CT} (hC : Closed Try.prog G0 md0 C)
include hC
end
end Go.Proofs.Ytiemjnkblggimaa.X
set_option maxHeartbeats 1000000
set_option maxRecDepth 8000
set_option linter.unusedSimpArgs false
set_option linter.unusedVariables false
open Nat renaming reduceBEq → N1, reduceAdd → N2, reduceSub → N3, reduceMul → N4, reduceEqDiff → N5, reduceLeDiff → N6, reduceLT → N7
open Int renaming reduceLE → I1, reduceLT → I2, reduceToNat → I3
namespace Go.Proofs.Ytiemjnkblggimaa.X
open Go
def w64 (n : Int) : Int := IntKind.i64.wrap n
theorem w64_id {n : Int} (h1 : -9223372036854775808 ≤ n) (h2 : n ≤ 9223372036854775807) : w64 n = n := wrap64 h1 h2
def dmod (x m : Int) : Int := (w64 (x.tmod m + m)).tmod m
def mixA (a b x : Int) : Int := (w64 (w64 (w64 (16807 * a) + dmod x 2147483647) + b)).tmod 2147483647
def mixB (a' b x : Int) : Int := (w64 (w64 (w64 (39373 * b) + dmod x 2147483629) + a')).tmod 2147483629
def mixS (ab : Int × Int) (x : Int) : Int × Int := (mixA ab.1 ab.2 x, mixB (mixA ab.1 ab.2 x) ab.2 x)
def mixF (l : List Int) (n : Int) : Int × Int := l.foldl mixS (7, w64 (n + 1))
def mixL (l : List Int) : Int × Int := mixF (l ++ [1, 1, 1]) l.length
theorem mixF_succ {l : List Int} {n : Int} {i : Nat} (h : i < l.length) : mixF (l.take (i + 1)) n = mixS (mixF (l.take i) n) l[i] := by
  simp only [mixF, List.take_succ_eq_append_getElem h, List.foldl_append, List.foldl_cons, List.foldl_nil]
section
variable {C : CT} (hC : Closed Try.prog G0 md0 C)
include hC
end
end Go.Proofs.Ytiemjnkblggimaa.X
set_option maxHeartbeats 1000000
set_option maxRecDepth 8000
set_option linter.unusedSimpArgs false
set_option linter.unusedVariables false
open Nat renaming reduceBEq → N1, reduceAdd → N2, reduceSub → N3, reduceMul → N4, reduceEqDiff → N5, reduceLeDiff → N6, reduceLT → N7
open Int renaming reduceLE → I1, reduceLT → I2, reduceToNat → I3
namespace Go.Proofs.Ytiemjnkblggimaa.X
open Go
attribute [local irreducible] Ev szSS szRows
def nextS : List Int → Int → Int → Int
  | [], _, _ => 0
  | y :: ys, x, k => if x < y then k else nextS ys (w64 (x - y)) (k + 1)
def nextI : List Int → Int → Int → Int → Int
  | [], _, _, _ => 2
  | y :: ys, s, x, k => if x < w64 (s + y) then k else nextI ys (w64 (s + y)) x (k + 1)
def belowOf (seed i n : Int) : Int := (mixL [seed, i, n]).1.tmod n
def rowAt (W : List (List Int)) (w : Int) : List Int := W.getD w.toNat []
theorem rowAt_some {W : List (List Int)} {w : Int} (hg : goodW W = true) (hw : inR 0 2 w = true) : w.toNat < W.length ∧ W[w.toNat]? = some (rowAt W w) ∧ ∃ a b c, rowAt W w = [a, b, c] ∧ inR 0 36 a = true ∧ inR 0 36 b = true ∧ inR 0 36 c = true ∧ a + b + c = 36 := by
  simp only [goodW, Bool.and_eq_true, decide_eq_true_eq] at hg
  simp only [inR, Bool.and_eq_true, decide_eq_true_eq] at hw
  have hl : w.toNat < W.length := by omega
  have e : rowAt W w = W[w.toNat] := by simp [rowAt, List.getD, hl]
  have hr := List.all_eq_true.1 hg.2 _ (List.getElem_mem hl)
  rw [← e] at hr
  refine ⟨hl, by rw [e]; exact List.getElem?_eq_getElem hl, ?_⟩
  generalize rowAt W w = r at hr
  simp only [rowOk, Bool.and_eq_true, decide_eq_true_eq] at hr
  obtain ⟨⟨h1, h2⟩, h3⟩ := hr
  match r, h1 with
  | [a, b, c], _ =>
    simp only [List.all_cons, List.all_nil, Bool.and_true, Bool.and_eq_true] at h2
    rw [sum3 h2.1 h2.2.1 h2.2.2] at h3
    exact ⟨a, b, c, rfl, h2.1, h2.2.1, h2.2.2, h3⟩
theorem next_eq {a b c x : Int} (ha : inR 0 36 a = true) (hb : inR 0 36 b = true) (hc : inR 0 36 c = true) (hs : a + b + c = 36) (hx : -36 < x ∧ x < 36) : nextS [a, b, c] x 0 = nextI [a, b, c] 0 x 0 := by
  simp only [inR, Bool.and_eq_true, decide_eq_true_eq] at ha hb hc
  simp only [nextS, nextI]
  rw [w64_id (n := x - a) (by omega) (by omega), w64_id (n := x - a - b) (by omega) (by omega), show (0 : Int) + a = a from Int.zero_add a, w64_id (n := a) (by omega) (by omega), w64_id (n := a + b) (by omega) (by omega), w64_id (n := a + b + c) (by omega) (by omega)]
  split
  · rfl
  · by_cases n2 : x - a < b
    · rw [if_pos n2, if_pos (by omega)]
    · rw [if_neg n2, if_pos (show x - a - b < c by omega), if_neg (by omega), if_pos (by omega)]
theorem below36 (a b : Int) : -36 < belowOf a b 36 ∧ belowOf a b 36 < 36 := by
  have h1 := Int.lt_tmod_of_pos (mixL [a, b, 36]).1 (show (0 : Int) < 36 by omega)
  have h2 := Int.tmod_lt_of_pos (mixL [a, b, 36]).1 (show (0 : Int) < 36 by omega)
  exact ⟨h1, h2⟩
section
variable {C : CT} (hC : Closed Try.prog G0 md0 C)
include hC
def askNext (W : List (List Int)) (w seed turn : Int) : Bool := goodW W && inR 0 2 w && inR 0 4611686016279904236 seed && inR 0 30 turn
def resNext (W : List (List Int)) (w seed turn : Int) : Int := if askNext W w seed turn then nextS (rowAt W w) (belowOf seed turn 36) 0 else 0
end
end Go.Proofs.Ytiemjnkblggimaa.X
set_option maxHeartbeats 1000000
set_option maxRecDepth 8000
set_option linter.unusedSimpArgs false
set_option linter.unusedVariables false
open Nat renaming reduceBEq → N1, reduceAdd → N2, reduceSub → N3, reduceMul → N4, reduceEqDiff → N5, reduceLeDiff → N6, reduceLT → N7
open Int renaming reduceLE → I1, reduceLT → I2, reduceToNat → I3
namespace Go.Proofs.Ytiemjnkblggimaa.X
open Go
/-! a heap that lies below n -/
def below (n : Nat) (h : Heap) : Prop := canB n [] h = h
theorem canB_le (n : Nat) : ∀ h : Heap, (canB n [] h).length ≤ h.length
  | [] => by simp [canB]
  | (i, o) :: h => by
    simp only [canB]
    have := canB_le n h
    split <;> simp <;> omega
theorem below_cons {n i : Nat} {o : Ob} {h : Heap} (hb : below n ((i, o) :: h)) : i < n ∧ renO n [] o = o ∧ below n h := by
  unfold below at hb
  simp only [canB] at hb
  split at hb
  · rename_i hi
    simp only [List.cons.injEq, Prod.mk.injEq, true_and] at hb
    exact ⟨hi, hb.1, hb.2⟩
  · have := canB_le n h
    rw [hb] at this
    simp at this
    omega
theorem below_mk {n i : Nat} {o : Ob} {h : Heap} (hi : i < n) (ho : renO n [] o = o) (hb : below n h) : below n ((i, o) :: h) := by
  unfold below at hb ⊢
  simp only [canB, hi, if_true, ho, hb]
theorem below_set {n : Nat} {id sz : Nat} {es : List (List AV)} : ∀ {h : Heap}, below n h → below n (hset h id (.slice sz es))
  | [], _ => rfl
  | (i, o) :: h, hb => by
    obtain ⟨h1, h2, h3⟩ := below_cons hb
    simp only [hset]
    split
    · exact below_mk h1 rfl h3
    · exact below_mk h1 h2 (below_set h3)
theorem below_lt {n : Nat} {id : Nat} {o : Ob} : ∀ {h : Heap}, below n h → hget h id = some o → id < n
  | [], _, hg => by simp [hget] at hg
  | (i, o') :: h, hb, hg => by
    obtain ⟨h1, h2, h3⟩ := below_cons hb
    simp only [hget] at hg
    split at hg
    · rename_i e; omega
    · exact below_lt h3 hg
theorem hget_same {h : Heap} {id : Nat} {o u : Ob} (hg : hget h id = some o) : hget (hset h id u) id = some u := by
  rw [hget_set]; simp [hg]
theorem hset_hset {id : Nat} {u v : Ob} : ∀ {h : Heap}, hset (hset h id u) id v = hset h id v
  | [] => rfl
  | (i, o) :: h => by
    simp only [hset]
    split
    · rename_i e; simp [hset, e]
    · rename_i e; simp only [hset, if_neg e, hset_hset]
theorem hset_get {id : Nat} {u : Ob} : ∀ {h : Heap}, hget h id = some u → hset h id u = h
  | [], hg => rfl
  | (i, o) :: h, hg => by
    simp only [hget] at hg
    simp only [hset]
    split at hg
    · rename_i e
      simp only [Option.some.injEq] at hg
      subst hg; simp [e]
    · rename_i e; rw [if_neg e, hset_get hg]
theorem kill_set {id sz : Nat} {es : List (List AV)} : ∀ {h : Heap}, killH (hset h id (.slice sz es)) = hset (killH h) id (.slice sz es)
  | [] => rfl
  | (i, .var cs) :: h => by
    simp only [hset]
    split
    · rename_i e; simp [killH, hset, e]
    · rename_i e; simp only [killH, hset, if_neg e, kill_set]
  | (i, .slice a b) :: h => by
    simp only [hset]
    split
    · rename_i e; simp [killH, hset, e]
    · rename_i e; simp only [killH, hset, if_neg e, kill_set]
/-! what is a list of numbers -/
def mk (l : List Int) (k : Int) (i : Nat) : List Int := (List.range i).map (fun j : Nat => k + (j : Int)) ++ l.drop i
theorem mk_length {l : List Int} {k : Int} {i : Nat} (h : i ≤ l.length) : (mk l k i).length = l.length := by simp [mk]; omega
theorem mk_succ {l : List Int} {k : Int} {i : Nat} (h : i < l.length) : (mk l k i).set i (k + i) = mk l k (i + 1) := by
  have e : l.drop i = l[i] :: l.drop (i + 1) := List.drop_eq_getElem_cons h
  simp only [mk, e, List.range_succ, List.map_append, List.map_cons, List.map_nil, List.append_assoc, List.cons_append, List.nil_append]
  rw [mid_set (by simp)]
theorem mk_all {l : List Int} {k : Int} : mk l k l.length = (List.range l.length).map (fun j : Nat => k + (j : Int)) := by simp [mk]
theorem mk_zero {l : List Int} {k : Int} : mk l k 0 = l := by simp [mk]
section
variable {C : CT} (hC : Closed Try.prog G0 md0 C)
include hC
theorem t16 (l : List Int) (k : Int) (h : Heap) (id n : Nat) (hg : hget h id = some (.slice 1 (ints l))) (hb : below n h) (hk : 0 ≤ k ∧ k < 2^50) (hl : l.length < 2^50) : C 16 [.ref id none 1 0 l.length, .int .i64 k] h n (fun v h' n' => v = .int .i64 (k + l.length) ∧ n' = n ∧ h' = hset h id (.slice 1 (ints (mk l k l.length)))) := by
  have hid := below_lt hb hg
  refine Closed.rT hC Q16 ?_
  simp only [c16, push_cast, ↓J1, ↓J2, N1, N2, N3, reduceCtorEq, N4, N5, N6, reduceIte, N7, I1, I2, I3]
  refine RL_count (fun i => ⟨tb 19 .any [(0, .ref id none 1 0 l.length), (1, .int .i64 (k + i)), (5, .int .i64 (i : Int))], hset h id (.slice 1 (ints (mk l k i))), n⟩) (fun _ => True) l.length 0 (head_tb [] (by simp [rhoOk, objIds]) (by simp only [hid, keptV_cons, keptV_nil, tb_get, lk_same, lk_ne, lk_nil, ren, renL, lkp, N7, N1, N5, reduceIte, and_true, true_and, Nat.not_lt_zero, if_false, if_true, Nat.add_zero, Nat.zero_add]; simp) (by rw [mk_zero, hset_get hg]; exact hb)) (by omega) trivial fun i hi _ J hJ => ?_
  have hgi : hget (hset h id (.slice 1 (ints (mk l k i)))) id = some (.slice 1 (ints (mk l k i))) := hget_same hg
  by_cases h1 : i < l.length
  · have e1 : (ints (mk l k i))[i]? = some [.int .i64 ((mk l k i).getD i 0)] := ints_get (by rw [mk_length hi]; exact h1)
    simp only [Int.toNat_natCast, hgi, e1, push_cast, ↓J1, ↓J2, N1, N2, N3, reduceCtorEq, N4, N5, N6, reduceIte, N7, I1, I2, I3]
    refine ifB_intro (fun _ => ⟨by omega, by omega, ?_⟩) (fun h => by simp at h; omega)
    refine hJ h1 trivial _ (head_tb [] (by simp [rhoOk, objIds]) ?_ ?_)
    · simp only [hid, keptV_cons, keptV_nil, tb_get, lk_same, lk_ne, lk_nil, ren, renL, lkp, N7, N1, N5, reduceIte, and_true, true_and, Nat.not_lt_zero, if_false, if_true, Nat.add_zero, Nat.zero_add]
      rw [wrap64 (by omega) (by omega), wrap64 (by omega) (by omega)]
      simp; omega
    · rw [ints_set, mk_succ h1, hset_hset]
      exact below_set hb
  · obtain rfl : i = l.length := by omega
    simp only [push_cast, ↓J1, ↓J2, N1, N2, N3, reduceCtorEq, N4, N5, N6, reduceIte, N7, I1, I2, I3]
    refine ifB_intro (fun h => by simp at h) (fun h => ?_)
    trivial
theorem t16s (l : List Int) (k : Int) (h : Heap) (id n i0 : Nat) (es : List (List AV)) (hg : hget h id = some (.slice 1 es)) (he : es[i0]? = some [.ow 1 (ints l)]) (hb : below n h) (hk : 0 ≤ k ∧ k < 2^50) (hl : l.length < 2^50) : C 16 [.ref id (some (1, i0, 0)) 1 0 l.length, .int .i64 k] h n (fun v h' n' => v = .int .i64 (k + l.length) ∧ n' = n ∧ h' = hset h id (.slice 1 (es.set i0 [.ow 1 (ints (mk l k l.length))]))) := by
  have hid := below_lt hb hg
  have hi0 : i0 < es.length := by
    rcases Nat.lt_or_ge i0 es.length with h | h
    · exact h
    · rw [List.getElem?_eq_none_iff.2 h] at he; cases he
  refine Closed.rT hC Q16 ?_
  simp only [c16, push_cast, ↓J1, ↓J2, N1, N2, N3, reduceCtorEq, N4, N5, N6, reduceIte, N7, I1, I2, I3]
  refine RL_count (fun i => ⟨tb 19 .any [(0, .ref id (some (1, i0, 0)) 1 0 l.length), (1, .int .i64 (k + i)), (5, .int .i64 (i : Int))], hset h id (.slice 1 (es.set i0 [.ow 1 (ints (mk l k i))])), n⟩) (fun _ => True) l.length 0 (head_tb [] (by simp [rhoOk, objIds]) (by simp only [hid, keptV_cons, keptV_nil, tb_get, lk_same, lk_ne, lk_nil, ren, renL, lkp, N7, N1, N5, reduceIte, and_true, true_and, Nat.not_lt_zero, if_false, if_true, Nat.add_zero, Nat.zero_add]; simp) ?_) (by omega) trivial fun i hi _ J hJ => ?_
  · rw [mk_zero]
    have : es.set i0 [.ow 1 (ints l)] = es := by
      apply List.ext_getElem?
      intro j
      rw [List.getElem?_set]
      split
      · rename_i e; subst e; rw [he]
      · rfl
    rw [this, hset_get hg]; exact hb
  have hgi : hget (hset h id (.slice 1 (es.set i0 [.ow 1 (ints (mk l k i))]))) id = some (.slice 1 (es.set i0 [.ow 1 (ints (mk l k i))])) := hget_same hg
  have hei : (es.set i0 [.ow 1 (ints (mk l k i))])[i0]? = some [.ow 1 (ints (mk l k i))] := by simp [hi0]
  by_cases h1 : i < l.length
  · have e1 : (ints (mk l k i))[i]? = some [.int .i64 ((mk l k i).getD i 0)] := ints_get (by rw [mk_length hi]; exact h1)
    simp only [Int.toNat_natCast, hgi, hei, e1, push_cast, ↓J1, ↓J2, N1, N2, N3, reduceCtorEq, N4, N5, N6, reduceIte, N7, I1, I2, I3]
    refine ifB_intro (fun _ => ⟨by omega, by omega, ?_⟩) (fun h => by simp at h; omega)
    refine hJ h1 trivial _ (head_tb [] (by simp [rhoOk, objIds]) ?_ ?_)
    · simp only [hid, keptV_cons, keptV_nil, tb_get, lk_same, lk_ne, lk_nil, ren, renL, lkp, N7, N1, N5, reduceIte, and_true, true_and, Nat.not_lt_zero, if_false, if_true, Nat.add_zero, Nat.zero_add]
      rw [wrap64 (by omega) (by omega), wrap64 (by omega) (by omega)]
      simp; omega
    · rw [ints_set, mk_succ h1, List.set_set, hset_hset]
      exact below_set hb
  · obtain rfl : i = l.length := by omega
    simp only [push_cast, ↓J1, ↓J2, N1, N2, N3, reduceCtorEq, N4, N5, N6, reduceIte, N7, I1, I2, I3]
    refine ifB_intro (fun h => by simp at h) (fun h => ?_)
    trivial
end
end Go.Proofs.Ytiemjnkblggimaa.X
set_option maxHeartbeats 1000000
set_option maxRecDepth 8000
set_option linter.unusedSimpArgs false
set_option linter.unusedVariables false
open Nat renaming reduceBEq → N1, reduceAdd → N2, reduceSub → N3, reduceMul → N4, reduceEqDiff → N5, reduceLeDiff → N6, reduceLT → N7
open Int renaming reduceLE → I1, reduceLT → I2, reduceToNat → I3
namespace Go.Proofs.Ytiemjnkblggimaa.X
open Go
attribute [local irreducible] Ev
def mkR : List (List Int) → Int → List (List Int)
  | [], _ => []
  | r :: W, k => mk r k r.length :: mkR W (k + r.length)
def mkW (W : List (List Int)) (k : Int) (i : Nat) : List (List Int) := mkR (W.take i) k ++ W.drop i
theorem mkR_length : ∀ (W : List (List Int)) (k : Int), (mkR W k).length = W.length
  | [], k => rfl
  | r :: W, k => by simp [mkR, mkR_length W]
theorem mkR_append : ∀ (W V : List (List Int)) (k : Int), mkR (W ++ V) k = mkR W k ++ mkR V (k + lens W)
  | [], V, k => by simp [mkR, lens]
  | r :: W, V, k => by
    have e : k + (r.length : Int) + (lens W : Int) = k + (lens (r :: W) : Int) := by simp [lens]; omega
    simp only [List.cons_append, mkR, mkR_append W, e]
theorem mkW_length {W : List (List Int)} {k : Int} {i : Nat} (h : i ≤ W.length) : (mkW W k i).length = W.length := by simp [mkW, mkR_length]; omega
theorem mkW_succ {W : List (List Int)} {k : Int} {i : Nat} (h : i < W.length) : (owss (mkW W k i)).set i [.ow 1 (ints (mk W[i] (k + lens (W.take i)) W[i].length))] = owss (mkW W k (i + 1)) := by
  have e : W.drop i = W[i] :: W.drop (i + 1) := List.drop_eq_getElem_cons h
  have hl : (mkR (W.take i) k).length = i := by rw [mkR_length]; simp; omega
  simp only [mkW, e, List.take_succ_eq_append_getElem h, mkR_append, owss, List.map_append, List.map_cons, mkR, List.map_nil, List.append_assoc, List.cons_append, List.nil_append]
  rw [mid_set (by simp [hl])]
theorem mkW_get {W : List (List Int)} {k : Int} {i : Nat} (h : i < W.length) : (owss (mkW W k i))[i]? = some [.ow 1 (ints W[i])] := by
  have e : W.drop i = W[i] :: W.drop (i + 1) := List.drop_eq_getElem_cons h
  have hl : (mkR (W.take i) k).length = i := by rw [mkR_length]; simp; omega
  simp only [mkW, e, owss, List.map_append, List.map_cons]
  rw [mid_get (by simp [hl])]
theorem mkW_zero {W : List (List Int)} {k : Int} : mkW W k 0 = W := by simp [mkW, mkR]
mutual
theorem ren_mono {n : Nat} : ∀ x : AV, ren n [] x = x → ren (n + 1) [] x = x
  | .ref id sub sz off len, h => by
    simp only [ren, lkp] at h ⊢
    split at h
    · rw [if_pos (by omega)]
    · cases h
  | .ptr id sub sz i c, h => by
    simp only [ren, lkp] at h ⊢
    split at h
    · rw [if_pos (by omega)]
    · cases h
  | .fn f cs, h => by
    simp only [ren, AV.fn.injEq, true_and] at h ⊢
    exact renL_mono cs h
  | .agg cs, h => by
    simp only [ren, AV.agg.injEq] at h ⊢
    exact renL_mono cs h
  | .tup cs, h => by
    simp only [ren, AV.tup.injEq] at h ⊢
    exact renL_mono cs h
  | .any, h => by simp [ren]
  | .con _, h => by simp [ren]
  | .int _ _, h => by simp [ren]
  | .bool _, h => by simp [ren]
  | .str _, h => by simp [ren]
  | .nil, h => by simp [ren]
  | .sl _, h => by simp [ren]
  | .pf _, h => by simp [ren]
  | .ow _ _, h => by simp [ren]
  | .op _, h => by simp [ren]
theorem renL_mono {n : Nat} : ∀ xs : List AV, renL n [] xs = xs → renL (n + 1) [] xs = xs
  | [], _ => by simp [renL]
  | x :: xs, h => by
    simp only [renL, List.cons.injEq] at h ⊢
    exact ⟨ren_mono x h.1, renL_mono xs h.2⟩
end
theorem below_succ {n : Nat} : ∀ {h : Heap}, below n h → below (n + 1) h
  | [], _ => rfl
  | (i, o) :: h, hb => by
    obtain ⟨h1, h2, h3⟩ := below_cons hb
    refine below_mk (by omega) ?_ (below_succ h3)
    cases o with
    | slice sz es => rfl
    | var cs =>
      simp only [renO, Ob.var.injEq] at h2 ⊢
      exact renL_mono cs h2
def solid (h : Heap) : Prop := killH h = h
theorem solid_set {id sz : Nat} {es : List (List AV)} {h : Heap} (hs : solid h) : solid (hset h id (.slice sz es)) := by
  unfold solid at *
  rw [kill_set, hs]
theorem lens_le : ∀ (W : List (List Int)) (i : Nat), lens (W.take i) ≤ lens W
  | [], i => by simp
  | r :: W, 0 => by simp [lens]
  | r :: W, i + 1 => by
    have := lens_le W i
    simp [lens] at this ⊢
    omega
section
variable {C : CT} (hC : Closed Try.prog G0 md0 C)
include hC
end
end Go.Proofs.Ytiemjnkblggimaa.X
set_option maxHeartbeats 2000000
set_option maxRecDepth 8000
set_option linter.unusedSimpArgs false
set_option linter.unusedVariables false
open Nat renaming reduceBEq → N1, reduceAdd → N2, reduceSub → N3, reduceMul → N4, reduceEqDiff → N5, reduceLeDiff → N6, reduceLT → N7
open Int renaming reduceLE → I1, reduceLT → I2, reduceToNat → I3
namespace Go.Proofs.Ytiemjnkblggimaa.X
open Go
attribute [local irreducible] Ev
def inn (x : Int) (row v : List Int) : Nat → List Int
  | 0 => v
  | k + 1 => (inn x row v k).set k (w64 ((inn x row v k).getD k 0 + w64 (x * row.getD k 0)))
def outS (W : List (List Int)) (o v : List Int) : Nat → List Int
  | 0 => v
  | i + 1 => inn (o.getD i 0) (W.getD i []) (outS W o v i) 3
def chS (W : List (List Int)) (o : List Int) : Nat → List Int
  | 0 => o
  | m + 1 => outS W (chS W o m) [0, 0, 0] 3
theorem inn_length (x : Int) (row v : List Int) : ∀ k, (inn x row v k).length = v.length
  | 0 => rfl
  | k + 1 => by simp [inn, inn_length x row v k]
theorem outS_length (W : List (List Int)) (o : List Int) {v : List Int} (h : v.length = 3) : ∀ i, (outS W o v i).length = 3
  | 0 => h
  | i + 1 => by rw [outS, inn_length, outS_length W o h i]
theorem chS_length (W : List (List Int)) {o : List Int} (h : o.length = 3) : ∀ m, (chS W o m).length = 3
  | 0 => h
  | m + 1 => outS_length W _ rfl 3
theorem good_rows {W : List (List Int)} (hg : goodW W = true) : W.length = 3 ∧ ∀ i, i < 3 → W[i]? = some (W.getD i []) ∧ (W.getD i []).length = 3 := by
  simp only [goodW, Bool.and_eq_true, decide_eq_true_eq] at hg
  refine ⟨hg.1, fun i hi => ?_⟩
  have hl : i < W.length := by omega
  have e : W.getD i [] = W[i] := by simp [List.getD, hl]
  have hr := List.all_eq_true.1 hg.2 _ (List.getElem_mem hl)
  simp only [rowOk, Bool.and_eq_true, decide_eq_true_eq] at hr
  rw [e]
  exact ⟨List.getElem?_eq_getElem hl, hr.1.1⟩
section
variable {C : CT} (hC : Closed Try.prog G0 md0 C)
include hC
end
end Go.Proofs.Ytiemjnkblggimaa.X
set_option maxHeartbeats 2000000
set_option maxRecDepth 8000
set_option linter.unusedSimpArgs false
set_option linter.unusedVariables false
open Nat renaming reduceBEq → N1, reduceAdd → N2, reduceSub → N3, reduceMul → N4, reduceEqDiff → N5, reduceLeDiff → N6, reduceLT → N7
open Int renaming reduceLE → I1, reduceLT → I2, reduceToNat → I3
namespace Go.Proofs.Ytiemjnkblggimaa.X
open Go
attribute [local irreducible] Ev szSS szRows
theorem szRows_lens : ∀ (W : List (List Int)) (v : Int), 0 ≤ v → 0 ≤ szRows W v → (lens W : Int) ≤ v
  | [], v, h0, _ => by simp [lens]; exact h0
  | s :: W, v, h0, h => by
    rw [szRows] at h
    split at h
    · omega
    · rename_i hs
      have := szRows_lens W (v - s.length) (by omega) h
      have e : lens (s :: W) = s.length + lens W := by simp [lens]
      rw [e]; omega
theorem szSS_lens {W : List (List Int)} {v : Int} (h0 : 0 ≤ v) (h : 0 ≤ szSS W v) : (lens W : Int) ≤ v := by
  rw [szSS] at h
  split at h
  · omega
  · have := szRows_lens W (v - W.length) (by omega) h
    omega
def run (k : Int) (n : Nat) : List Int := (List.range n).map (fun j : Nat => k + (j : Int))
theorem run_length {k : Int} {n : Nat} : (run k n).length = n := by simp [run]
theorem run_get {k : Int} {n i : Nat} (h : i < n) : (run k n).getD i 0 = k + i := by simp [run, List.getD, h]
theorem mk_run {l : List Int} {k : Int} : mk l k l.length = run k l.length := mk_all
theorem RetTo_lb {h : Heap} {id : Nat} {es : List (List AV)} {len : Nat} {b : Bool} (hg : hget h id = some (.slice 1 es)) (hl : len = es.length) : RetTo h (.tup [.ref id none 1 0 len, .bool b]) (.tup [.ow 1 es, .bool b]) := by
  subst hl
  exact RetTo_of (h2 := hdel h id) (by simp [conR, conRL, isF, hg])
theorem RetTo_nb {h : Heap} {b : Bool} : RetTo h (.tup [.nil, .bool b]) (.tup [.ow 1 [], .bool b]) :=
  ⟨.tup [.nil, .bool b], h, by simp [conR, conRL, isF], by simp [NilTo, NilToL]⟩
section
variable {C : CT} (hC : Closed Try.prog G0 md0 C)
include hC
theorem t17 (k : Int) (n : Nat) (hk : 0 ≤ k ∧ k < 2^50) (hn : n < 2^50) : Ev C 17 [.sl (ints (run k n)), .int .i64 k] (.int .i64 (k + n)) := by
  refine rT hC Q17 ?_
  simp only [c17, push_cast, ↓J1, ↓J2, N1, N2, N3, reduceCtorEq, N4, N5, N6, reduceIte, N7, I1, I2, I3]
  refine RL_count (fun i => ⟨tb 21 .any [(0, .sl (ints (run k n))), (1, .int .i64 (k + i)), (5, .int .i64 (i : Int))], [], 0⟩) (fun _ => True) n 0 (hdA []) (by omega) trivial fun i hi _ J hJ => ?_
  by_cases h1 : i < n
  · have e1 : (ints (run k n))[i]? = some [.int .i64 ((run k n).getD i 0)] := ints_get (by rw [run_length]; exact h1)
    simp only [ints_length, run_length, Int.toNat_natCast, e1, run_get h1, push_cast, ↓J1, ↓J2, N1, N2, N3, reduceCtorEq, N4, N5, N6, reduceIte, N7, I1, I2, I3]
    refine ifB_intro (fun _ => ?_) (fun h => by simp at h; omega)
    repeat (refine ⟨by omega, ?_⟩)
    refine hJ h1 trivial _ (hdA [] (hV := ?_))
    simp only [keptV_cons, keptV_nil, tb_get, lk_same, lk_ne, lk_nil, ren, renL, lkp, N7, N1, N5, reduceIte, and_true, true_and, Nat.not_lt_zero, if_false, if_true, Nat.add_zero, Nat.zero_add]
    rw [wrap64 (by omega) (by omega), wrap64 (by omega) (by omega)]
    simp; omega
  · obtain rfl : i = n := by omega
    simp only [ints_length, run_length, push_cast, ↓J1, ↓J2, N1, N2, N3, reduceCtorEq, N4, N5, N6, reduceIte, N7, I1, I2, I3]
    refine ifB_intro (fun h => by simp at h) (fun h => trivial)
def askCh (W : List (List Int)) (w n : Int) : Bool := goodW W && inR 0 2 w && inR 0 6 n
def resCh (W : List (List Int)) (w n : Int) : List Int := if askCh W w n then chS W ([0, 0, 0].set w.toNat 1) n.toNat else []
omit hC in
theorem resCh_length (W : List (List Int)) (w n : Int) : (resCh W w n).length ≤ 3 := by
  unfold resCh
  split
  · rw [chS_length _ (by simp)]; omega
  · simp
omit hC in
theorem own_lb (l : List Int) (b : Bool) : ownR (.tup [.ow 1 (ints l), .bool b]) = true := by
  have e := own_ints l
  simp only [ownR] at e
  simp only [ownR, ownRL, e, Bool.and_true]
end
end Go.Proofs.Ytiemjnkblggimaa.X
set_option maxHeartbeats 4000000
set_option maxRecDepth 8000
set_option linter.unusedSimpArgs false
set_option linter.unusedVariables false
open Nat renaming reduceBEq → N1, reduceAdd → N2, reduceSub → N3, reduceMul → N4, reduceEqDiff → N5, reduceLeDiff → N6, reduceLT → N7
open Int renaming reduceLE → I1, reduceLT → I2, reduceToNat → I3
namespace Go.Proofs.Ytiemjnkblggimaa.X
open Go
attribute [local irreducible] Ev fE
def cuF (p : Nat → Bool) (k : Nat) : List Nat := (List.range k).filter p
theorem cuF_succ (p : Nat → Bool) (k : Nat) : cuF p (k + 1) = cuF p k ++ (if p k then [k] else []) := by
  simp only [cuF, List.range_succ, List.filter_append, List.filter_cons, List.filter_nil]
theorem cuF_le (p : Nat → Bool) (k : Nat) : (cuF p k).length ≤ k := by
  have := List.length_filter_le p (List.range k)
  simpa [cuF] using this
def cuN (lim : Int) (L : Lanes) (F T D : Nat) : List Int := ni (cuF (seen (fE (sN L F T D) (nN L D) F (eN L T D) lim).1 (nN L D) F) (nN L D))
def cuR (lim : Int) (L : Lanes) (F T D : Int) : List Int := if askT L F T D then cuN lim L F.toNat T.toNat D.toNat else []
theorem cuN_len {lim : Int} {L : Lanes} {F T D : Nat} (h : nN L D ≤ 42) : (cuN lim L F T D).length ≤ 42 := by
  rw [cuN, ni_length]; exact Nat.le_trans (cuF_le _ _) h
theorem cuN_I {lim lim' : Int} {L : Lanes} {F T D : Nat} (x : Deliv lim lim' L F T D) : cuN lim L F T D = ni (cuF (seen (fE (iN L F T D) (nN L D) F (eN L T D) lim').1 (nN L D) F) (nN L D)) := by
  rw [cuN, cuF, cuF]
  congr 1
  apply List.filter_congr
  intro w hw
  exact (x.sn w (by simpa using hw)).symm
section
variable {C : CT} (hC : Closed Try.prog G0 md0 C)
include hC
end
end Go.Proofs.Ytiemjnkblggimaa.X
set_option maxHeartbeats 1000000
set_option maxRecDepth 8000
set_option linter.unusedSimpArgs false
set_option linter.unusedSectionVars false
set_option linter.unusedVariables false
open Nat renaming reduceBEq → N1, reduceAdd → N2, reduceSub → N3, reduceMul → N4, reduceEqDiff → N5, reduceLeDiff → N6, reduceLT → N7
open Int renaming reduceLE → I1, reduceLT → I2, reduceToNat → I3
namespace Go.Proofs.Ytiemjnkblggimaa.X
open Go
theorem has_lane {k : Nat} {xs : List AV} (h : Has Try.prog (k + 6) 77 xs) : ∃ p : Ln, xs = lnA p := by
  have h := has_struct sty_77 h
  obtain ⟨x1, r, rfl, _, h1, h⟩ := hasE_cons h
  obtain ⟨x2, r, rfl, _, h2, h⟩ := hasE_cons h
  obtain ⟨x3, r, rfl, _, h3, h⟩ := hasE_cons h
  obtain rfl := hasE_nil h
  obtain ⟨a, rfl, _⟩ := has_int tk_3 h1
  obtain ⟨b, rfl, _⟩ := has_int tk_3 h2
  obtain ⟨c, rfl, _⟩ := has_int tk_3 h3
  exact ⟨⟨a, b, c⟩, rfl⟩
theorem has_ints {k : Nat} {xs : List AV} (h : Has Try.prog (k + 2) 23 xs) : ∃ l, xs = [.sl (ints l)] ∧ l.length < 2 ^ 50 := by
  obtain ⟨es, rfl, _, hb, he⟩ := has_slice tk_23 h
  rw [bo_3] at hb
  obtain ⟨l, rfl⟩ := all_map (f := fun n : Int => [AV.int .i64 n]) (es := es) fun e hx => by
    obtain ⟨n, hn, _⟩ := has_int tk_3 (he e hx).2
    exact ⟨n, hn⟩
  simp only [reachBytes, List.length_map] at hb
  exact ⟨l, rfl, by omega⟩
theorem has_lanes {k : Nat} {xs : List AV} (h : Has Try.prog (k + 7) 22 xs) : ∃ l, xs = [.sl (lns l)] ∧ l.length < 2 ^ 50 := by
  obtain ⟨es, rfl, _, hb, he⟩ := has_slice tk_22 h
  rw [bo_77] at hb
  obtain ⟨l, rfl⟩ := all_map (f := lnA) (es := es) fun e hx => has_lane (he e hx).2
  simp only [reachBytes, List.length_map] at hb
  exact ⟨l, rfl, by omega⟩
end Go.Proofs.Ytiemjnkblggimaa.X
set_option maxHeartbeats 4000000
set_option maxRecDepth 8000
set_option linter.unusedSimpArgs false
set_option linter.unusedSectionVars false
set_option linter.unusedVariables false
open Nat renaming reduceBEq → N1, reduceAdd → N2, reduceSub → N3, reduceMul → N4, reduceEqDiff → N5, reduceLeDiff → N6, reduceLT → N7
open Int renaming reduceLE → I1, reduceLT → I2, reduceToNat → I3
namespace Go.Proofs.Ytiemjnkblggimaa.X
open Go
attribute [local irreducible] Ev
def mkL (k : Int) (i : Nat) : List Ln := (List.range i).map fun j : Nat => ⟨k + 3 * (j : Int), k + 3 * (j : Int) + 1, k + 3 * (j : Int) + 2⟩
theorem mkL_length {k : Int} {i : Nat} : (mkL k i).length = i := by simp [mkL]
theorem mkL_succ {l : List Ln} {k : Int} {i : Nat} (h : i < l.length) : (lns (mkL k i ++ l.drop i)).set i [.int .i64 (k + 3 * (i : Int)), .int .i64 (k + 3 * (i : Int) + 1), .int .i64 (k + 3 * (i : Int) + 2)] = lns (mkL k (i + 1) ++ l.drop (i + 1)) := by
  have e : l.drop i = l[i] :: l.drop (i + 1) := List.drop_eq_getElem_cons h
  simp only [e, lns, List.map_append, List.map_cons]
  rw [mid_set (by simp [mkL])]
  simp only [mkL, List.range_succ, List.map_append, List.map_cons, List.map_nil, List.append_assoc, List.cons_append, List.nil_append, lnA]
theorem hset_cons_ne {h : Heap} {n id : Nat} {o u : Ob} (hn : n ≠ id) : hset ((n, o) :: h) id u = (n, o) :: hset h id u := by
  simp only [hset, if_neg hn]
section
variable {C : CT} (hC : Closed Try.prog G0 md0 C)
include hC
theorem t34 (l : List Ln) (k : Int) (h : Heap) (id n : Nat) (hg : hget h id = some (.slice 3 (lns l))) (hb : below n h) (hk : 0 ≤ k ∧ k ≤ 2^48) (hl : l.length < 2^40) : C 34 [.ref id none 3 0 l.length, .int .i64 k] h n (fun v h' n' => v = .int .i64 (k + 3 * (l.length : Int)) ∧ n' = n ∧ h' = hset h id (.slice 3 (lns (mkL k l.length)))) := by
  have hid := below_lt hb hg
  refine Closed.rT hC Q34 ?_
  simp only [c34, push_cast, ↓J1, ↓J2, N1, N2, N3, reduceCtorEq, N4, N5, N6, reduceIte, N7, I1, I2, I3]
  have hgi : ∀ es : List (List AV), hget (hset h id (.slice 3 es)) id = some (.slice 3 es) := fun es => hget_same hg
  refine RL_count (fun i => ⟨tb 34 .any [(0, .ref id none 3 0 l.length), (1, .int .i64 (k + 3 * (i : Int))), (5, .int .i64 (i : Int))], hset h id (.slice 3 (lns (mkL k i ++ l.drop i))), n⟩) (fun _ => True) l.length 0 (head_tb [] (by simp [rhoOk, objIds]) (by simp only [hid, keptV_cons, keptV_nil, tb_get, lk_same, lk_ne, lk_nil, ren, renL, lkp, N7, N1, N5, reduceIte, and_true, true_and, Nat.not_lt_zero, if_false, if_true, Nat.add_zero, Nat.zero_add]; all_goals simp) (by rw [show mkL k 0 ++ l.drop 0 = l from rfl, hset_get hg]; exact hb)) (by omega) trivial fun i hi _ J hJ => ?_
  by_cases h1 : i < l.length
  · have hlen : (lns (mkL k i ++ l.drop i)).length = l.length := by simp [lns, mkL]; omega
    have e1 : ∃ u : Ln, (lns (mkL k i ++ l.drop i))[i]? = some (lnA u) := ⟨_, by rw [lns, List.getElem?_map, List.getElem?_eq_getElem (by simp [mkL]; omega)]; rfl⟩
    obtain ⟨t, e1⟩ := e1
    have gs : ∀ e : List AV, ((lns (mkL k i ++ l.drop i)).set i e)[i]? = some e := by intro e; rw [List.getElem?_set, if_pos rfl, if_pos (by omega)]
    have ls := mkL_succ (l := l) (k := k) h1
    have w0 : IntKind.i64.wrap (k + 3 * (i : Int) + 1) = k + 3 * (i : Int) + 1 := wrap64 (by omega) (by omega)
    have w1 : IntKind.i64.wrap (k + 3 * (i : Int) + 1 + 1) = k + 3 * (i : Int) + 1 + 1 := wrap64 (by omega) (by omega)
    have w2 : IntKind.i64.wrap (k + 3 * (i : Int) + 1 + 1 + 1) = k + 3 * (i : Int) + 1 + 1 + 1 := wrap64 (by omega) (by omega)
    have ea : k + 3 * (i : Int) + 1 + 1 = k + 3 * (i : Int) + 2 := by omega
    simp only [Int.toNat_natCast, hgi, e1, lnA, push_cast, ↓J1, ↓J2, N1, N2, N3, reduceCtorEq, N4, N5, N6, reduceIte, N7, I1, I2, I3]
    refine ifB_intro (fun _ => ?_) (fun h => by simp at h; omega)
    repeat (refine ⟨by omega, ?_⟩)
    repeat' (first | refine ⟨by omega, ?_⟩ | simp only [Int.toNat_natCast, hgi, e1, gs, hset_hset, List.set_set, setsA, List.set_cons_zero, List.set_cons_succ, lnA, w0, w1, w2, push_cast, ↓J1, ↓J2, N1, N2, N3, reduceCtorEq, N4, N5, N6, reduceIte, N7, I1, I2, I3])
    refine hJ h1 trivial _ (head_tb [] (by simp [rhoOk, objIds]) ?_ ?_)
    · simp only [hid, keptV_cons, keptV_nil, tb_get, lk_same, lk_ne, lk_nil, ren, renL, lkp, N7, N1, N5, reduceIte, and_true, true_and, Nat.not_lt_zero, if_false, if_true, Nat.add_zero, Nat.zero_add]
      rw [wrap64 (n := (i : Int) + 1) (by omega) (by omega), show k + 3 * ((i + 1 : Nat) : Int) = k + 3 * (i : Int) + 1 + 1 + 1 by omega]
      and_intros <;> rfl
    · rw [← ls]
      simp only [lnA, ea]
      exact below_set hb
  · obtain rfl : i = l.length := by omega
    simp only [push_cast, ↓J1, ↓J2, N1, N2, N3, reduceCtorEq, N4, N5, N6, reduceIte, N7, I1, I2, I3]
    refine ifB_intro (fun h => by simp at h) (fun h => ?_)
    rw [List.drop_length, List.append_nil]
theorem t11 (d : Int) (l : List Ln) (q : List Int) (k : Int) (h : Heap) (i j n : Nat) (hg : hget h i = some (.slice 3 (lns l))) (hg2 : hget h j = some (.slice 1 (ints q))) (hij : i ≠ j) (hb : below n h) (hs : solid h) (hk : 0 ≤ k ∧ k ≤ 2^47) (hl : l.length < 2^40) (hq : q.length < 2^40) : C 11 [.agg [.int .i64 d, .ref i none 3 0 l.length, .ref j none 1 0 q.length], .int .i64 k] h n (fun v h' n' => v = .int .i64 (k + 3 * (l.length : Int) + q.length) ∧ n' = n + 1 ∧ h' = (n, .var [.int .i64 d, .ref i none 3 0 l.length, .ref j none 1 0 q.length]) :: hset (hset h i (.slice 3 (lns (mkL k l.length)))) j (.slice 1 (ints (mk q (k + 3 * (l.length : Int)) q.length)))) := by
  have qi := below_lt hb hg
  have qj := below_lt hb hg2
  refine Closed.rT hC Q11 ?_
  simp only [c11, push_cast, ↓J1, ↓J2, N1, N2, N3, reduceCtorEq, N4, N5, N6, reduceIte, N7, I1, I2, I3]
  have hni : ¬ n = i := by omega
  have hnj : ¬ n = j := by omega
  have B0 : below (n + 1) ((n, .var [.int .i64 d, .ref i none 3 0 l.length, .ref j none 1 0 q.length]) :: h) :=
    below_mk (by omega) (by simp only [renO, renL, ren, lkp, if_pos (show i < n + 1 by omega), if_pos (show j < n + 1 by omega)]) (below_succ hb)
  refine ⟨_, t34 hC l k _ i (n + 1) (by simp only [hget, if_neg hni]; exact hg) B0 (by omega) hl, ?_⟩
  rintro v h' n' ⟨rfl, rfl, rfl⟩ _
  have hs2 := solid_set (id := i) (sz := 3) (es := lns (mkL k l.length)) hs
  have hb2 := below_set (id := i) (sz := 3) (es := lns (mkL k l.length)) hb
  have hg3 : hget (hset h i (.slice 3 (lns (mkL k l.length)))) j = some (.slice 1 (ints q)) := by
    rw [hget_set, if_neg (by omega)]; exact hg2
  unfold solid at hs2
  simp only [hset, if_neg hni, hs2, push_cast, ↓J1, ↓J2, N1, N2, N3, reduceCtorEq, N4, N5, N6, reduceIte, N7, I1, I2, I3]
  generalize hset h i (.slice 3 (lns (mkL k l.length))) = h2 at *
  have B2 : below (n + 1) ((n, .var [.int .i64 d, .ref i none 3 0 l.length, .ref j none 1 0 q.length]) :: h2) :=
    below_mk (by omega) (by simp only [renO, renL, ren, lkp, if_pos (show i < n + 1 by omega), if_pos (show j < n + 1 by omega)]) (below_succ hb2)
  refine ⟨_, t16 hC q _ _ j (n + 1) (by simp only [hget, if_neg hnj]; exact hg3) B2 (by omega) (by omega), ?_⟩
  rintro v h' n' ⟨rfl, rfl, rfl⟩ _
  have hs3 := solid_set (id := j) (sz := 1) (es := ints (mk q (k + 3 * (l.length : Int)) q.length)) hs2
  unfold solid at hs3
  simp only [hset, if_neg hnj, hs3, push_cast, ↓J1, ↓J2, N1, N2, N3, reduceCtorEq, N4, N5, N6, reduceIte, N7, I1, I2, I3]
end
end Go.Proofs.Ytiemjnkblggimaa.X
