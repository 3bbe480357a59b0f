/- A part of the proof: lemmas on the functions that the law reaches. No condition of its own. -/
import Derived.Test.YtlddjlchgibdfaaDoorXCIsB
set_option maxHeartbeats 2000000
set_option maxRecDepth 8000
set_option linter.unusedSimpArgs false
set_option linter.unusedVariables false
namespace Go.Proofs.YtlddjlchgibdfaaDoor.X
open Go
theorem ints_length (l : List Int) : (ints l).length = l.length := by simp [ints]
theorem frzLL_ints (l : List Int) : frzLL (ints l) = ints l := by
  unfold ints
  induction l with
  | nil => rfl
  | cons x l ih => simp only [List.map_cons, frzLL, frzL, frzT, ih]
theorem ints_get {v : List Int} {k : Nat} (h : k < v.length) : (ints v)[k]? = some [.int .i64 (v.getD k 0)] := by
  simp [ints, List.getD, h]
theorem ints_set {v : List Int} {k : Nat} {y : Int} : (ints v).set k [.int .i64 y] = ints (v.set k y) := by
  simp [ints, List.map_set]
/-! ### Sizes: what is left of a limit -/
def sub1 (v : Int) (n : Nat) : Int := if v < n then -1 else v - n
/-- f x v: what x leaves of v, or -1. -/
structure SzOk {α : Type} (f : α → Int → Int) (B : Int) (x : α) : Prop where
  le : ∀ v, 0 ≤ v → v ≤ B → -1 ≤ f x v ∧ f x v ≤ v
def szAll {α : Type} (f : α → Int → Int) : List α → Int → Int
  | [], v => v
  | x :: xs, v => if f x v < 0 then -1 else szAll f xs (f x v)
def leftAt {α : Type} (f : α → Int → Int) (l : List α) (v : Int) : Nat → Int
  | 0 => v
  | i + 1 => match l[i]? with | some x => f x (leftAt f l v i) | none => 0
theorem leftAt_succ {α : Type} {f : α → Int → Int} {l : List α} {v : Int} {i : Nat} (h : i < l.length) : leftAt f l v (i + 1) = f l[i] (leftAt f l v i) := by
  simp only [leftAt, List.getElem?_eq_getElem h]
theorem szAll_le {α : Type} {f : α → Int → Int} {B : Int} : ∀ {l : List α}, (∀ x ∈ l, SzOk f B x) → ∀ v, 0 ≤ v → v ≤ B → -1 ≤ szAll f l v ∧ szAll f l v ≤ v
  | [], _, v, h0, _ => ⟨by simp [szAll]; omega, by simp [szAll]⟩
  | x :: xs, h, v, h0, hB => by
    have hx := (h x (by simp)).le v h0 hB
    simp only [szAll]
    split
    · omega
    · have := szAll_le (l := xs) (fun y hy => h y (by simp [hy])) (f x v) (by omega) (by omega)
      omega
/-- What was enough was enough for each. -/
theorem szAll_each {α : Type} {f : α → Int → Int} {B : Int} : ∀ {l : List α}, (∀ x ∈ l, SzOk f B x) → ∀ v, 0 ≤ v → v ≤ B → 0 ≤ szAll f l v → ∀ x ∈ l, ∃ u, 0 ≤ u ∧ u ≤ v ∧ 0 ≤ f x u
  | [], _, v, _, _, _, x, hx => by simp at hx
  | y :: ys, h, v, h0, hB, hs, x, hx => by
    have hy := (h y (by simp)).le v h0 hB
    simp only [szAll] at hs
    split at hs
    · omega
    · rename_i hn
      rcases List.mem_cons.1 hx with rfl | hx
      · exact ⟨v, h0, by omega, by omega⟩
      · obtain ⟨u, h1, h2, h3⟩ := szAll_each (fun z hz => h z (by simp [hz])) (f y v) (by omega) (by omega) hs x hx
        exact ⟨u, h1, by omega, h3⟩
theorem sub1_le {v : Int} {n : Nat} (h : 0 ≤ v) : -1 ≤ sub1 v n ∧ sub1 v n ≤ v := by
  simp only [sub1]; split <;> omega
theorem sub1_pos {v : Int} {n : Nat} (h : 0 ≤ sub1 v n) : (n : Int) ≤ v := by
  simp only [sub1] at h; split at h <;> omega
/-! ### The parts of a board -/
structure Ter where
  n : ByteArray
  c : List Int
  s : Int
  h : Int
  b : Bool
  deriving DecidableEq
structure Kin where
  n : ByteArray
  st : Int
  mv : Int
  sp : Int
  z : Bool
  v : Int
  deriving DecidableEq
structure Rul where
  ts : List Ter
  ks : List Kin
  stack : Int
  river : Int
  road : Int
  supply : Int
  turns : Int
  deriving DecidableEq
structure Mp where
  w : Int
  h : Int
  t : List Int
  ri : List Int
  ro : List Int
  deriving DecidableEq
structure Brd where
  r : Rul
  m : Mp
  deriving DecidableEq
def terF (t : Ter) : List AV := [.str t.n, .sl (ints t.c), .int .i64 t.s, .int .i64 t.h, .bool t.b]
def terO (t : Ter) : List AV := [.str t.n, .ow 1 (ints t.c), .int .i64 t.s, .int .i64 t.h, .bool t.b]
def kinA (k : Kin) : List AV := [.str k.n, .int .i64 k.st, .int .i64 k.mv, .int .i64 k.sp, .bool k.z, .int .i64 k.v]
def tersF (l : List Ter) : List (List AV) := l.map terF
def tersO (l : List Ter) : List (List AV) := l.map terO
def kins (l : List Kin) : List (List AV) := l.map kinA
def rulF (r : Rul) : List AV := [.sl (tersF r.ts), .sl (kins r.ks), .int .i64 r.stack, .int .i64 r.river, .int .i64 r.road, .int .i64 r.supply, .int .i64 r.turns]
def rulO (r : Rul) : List AV := [.ow 5 (tersO r.ts), .ow 6 (kins r.ks), .int .i64 r.stack, .int .i64 r.river, .int .i64 r.road, .int .i64 r.supply, .int .i64 r.turns]
def mpF (m : Mp) : List AV := [.int .i64 m.w, .int .i64 m.h, .sl (ints m.t), .sl (ints m.ri), .sl (ints m.ro)]
def mpO (m : Mp) : List AV := [.int .i64 m.w, .int .i64 m.h, .ow 1 (ints m.t), .ow 1 (ints m.ri), .ow 1 (ints m.ro)]
theorem tersF_length (l : List Ter) : (tersF l).length = l.length := by simp [tersF]
theorem tersO_length (l : List Ter) : (tersO l).length = l.length := by simp [tersO]
theorem kins_length (l : List Kin) : (kins l).length = l.length := by simp [kins]
theorem frzLL_ters (l : List Ter) : frzLL (tersO l) = tersF l := by
  unfold tersO tersF
  induction l with
  | nil => rfl
  | cons x l ih => simp only [List.map_cons, frzLL, terO, terF, frzL, frzT, frzLL_ints, ih]
theorem frzLL_kins (l : List Kin) : frzLL (kins l) = kins l := by
  unfold kins
  induction l with
  | nil => rfl
  | cons x l ih => simp only [List.map_cons, frzLL, kinA, frzL, frzT, ih]
theorem own_ints1 (l : List Int) : ownRLL (ints l) = true := by have := own_ints l; simpa only [ownR] using this
theorem own_ters (l : List Ter) : ownRLL (tersO l) = true := by
  unfold tersO
  induction l with
  | nil => rfl
  | cons x l ih => simp only [List.map_cons, ownRLL, terO, ownRL, ownR, own_ints1, Bool.and_true, Bool.true_and]; exact ih
theorem own_kins (l : List Kin) : ownRLL (kins l) = true := by
  unfold kins
  induction l with
  | nil => rfl
  | cons x l ih => simp only [List.map_cons, ownRLL, kinA, ownRL, ownR, Bool.and_true, Bool.true_and]; exact ih
def szTer (t : Ter) (v : Int) : Int := if sub1 v t.n.size < 0 then -1 else sub1 (sub1 v t.n.size) t.c.length
def szTers (l : List Ter) (v : Int) : Int := if sub1 v l.length < 0 then -1 else szAll szTer l (sub1 v l.length)
def szKin (k : Kin) (v : Int) : Int := sub1 v k.n.size
def szKins (l : List Kin) (v : Int) : Int := if sub1 v l.length < 0 then -1 else szAll szKin l (sub1 v l.length)
theorem szTer_ok (B : Int) (t : Ter) : SzOk szTer B t := ⟨fun v h0 hB => by
  have h1 := sub1_le (n := t.n.size) h0
  simp only [szTer]
  split
  · omega
  · have h2 := sub1_le (v := sub1 v t.n.size) (n := t.c.length) (by omega); omega⟩
theorem szKin_ok (B : Int) (t : Kin) : SzOk szKin B t := ⟨fun v h0 hB => sub1_le h0⟩
theorem szTers_le {l : List Ter} {v : Int} (h0 : 0 ≤ v) (hB : v ≤ 2 ^ 50) : -1 ≤ szTers l v ∧ szTers l v ≤ v := by
  have h1 := sub1_le (n := l.length) h0
  simp only [szTers]
  split
  · omega
  · have := szAll_le (l := l) (fun x _ => szTer_ok (2 ^ 50) x) (sub1 v l.length) (by omega) (by omega); omega
theorem szKins_le {l : List Kin} {v : Int} (h0 : 0 ≤ v) (hB : v ≤ 2 ^ 50) : -1 ≤ szKins l v ∧ szKins l v ≤ v := by
  have h1 := sub1_le (n := l.length) h0
  simp only [szKins]
  split
  · omega
  · have := szAll_le (l := l) (fun x _ => szKin_ok (2 ^ 50) x) (sub1 v l.length) (by omega) (by omega); omega
theorem szTers_pos {l : List Ter} {v : Int} (h0 : 0 ≤ v) (hB : v ≤ 2 ^ 50) (h : 0 ≤ szTers l v) : (l.length : Int) ≤ v ∧ ∀ x ∈ l, (x.n.size : Int) ≤ v ∧ (x.c.length : Int) ≤ v := by
  have h1 := sub1_le (n := l.length) h0
  simp only [szTers] at h
  split at h
  · omega
  · have h2 := sub1_pos (v := v) (n := l.length) (by omega)
    refine ⟨h2, fun x hx => ?_⟩
    obtain ⟨u, u0, u1, u2⟩ := szAll_each (fun x _ => szTer_ok (2 ^ 50) x) (sub1 v l.length) (by omega) (by omega) h x hx
    have k1 := sub1_le (n := x.n.size) u0
    simp only [szTer] at u2
    split at u2
    · omega
    · have k2 := sub1_pos (v := u) (n := x.n.size) (by omega)
      have k3 := sub1_pos u2
      omega
theorem szKins_pos {l : List Kin} {v : Int} (h0 : 0 ≤ v) (hB : v ≤ 2 ^ 50) (h : 0 ≤ szKins l v) : (l.length : Int) ≤ v ∧ ∀ x ∈ l, (x.n.size : Int) ≤ v := by
  have h1 := sub1_le (n := l.length) h0
  simp only [szKins] at h
  split at h
  · omega
  · have h2 := sub1_pos (v := v) (n := l.length) (by omega)
    refine ⟨h2, fun x hx => ?_⟩
    obtain ⟨u, u0, u1, u2⟩ := szAll_each (fun x _ => szKin_ok (2 ^ 50) x) (sub1 v l.length) (by omega) (by omega) h x hx
    have k2 := sub1_pos u2
    omega
/-- One after the other. -/
def andThen (f g : Int → Int) (v : Int) : Int := if f v < 0 then -1 else if g (f v) < 0 then -1 else g (f v)
def szRul (r : Rul) : Int → Int := andThen (szTers r.ts) (szKins r.ks)
def szMp (m : Mp) (v : Int) : Int := if sub1 v m.t.length < 0 then -1 else if sub1 (sub1 v m.t.length) m.ri.length < 0 then -1 else if sub1 (sub1 (sub1 v m.t.length) m.ri.length) m.ro.length < 0 then -1 else sub1 (sub1 (sub1 v m.t.length) m.ri.length) m.ro.length
def szBrd (b : Brd) : Int → Int := andThen (szRul b.r) (szMp b.m)
/-- All sizes below a bound. -/
structure RulB (B : Nat) (r : Rul) : Prop where
  ts : r.ts.length < B
  ks : r.ks.length < B
  t : ∀ x ∈ r.ts, x.n.size < B ∧ x.c.length < B
  k : ∀ x ∈ r.ks, x.n.size < B
structure MpB (B : Nat) (m : Mp) : Prop where
  t : m.t.length < B
  ri : m.ri.length < B
  ro : m.ro.length < B
structure BrdB (B : Nat) (b : Brd) : Prop where
  r : RulB B b.r
  m : MpB B b.m
theorem szRul_le {r : Rul} {v : Int} (h0 : 0 ≤ v) (hB : v ≤ 2 ^ 50) : -1 ≤ szRul r v ∧ szRul r v ≤ v := by
  have h1 := szTers_le (l := r.ts) h0 hB
  simp only [szRul, andThen]
  split
  · omega
  · have h2 := szKins_le (l := r.ks) (v := szTers r.ts v) (by omega) (by omega)
    split <;> omega
theorem szMp_le {m : Mp} {v : Int} (h0 : 0 ≤ v) : -1 ≤ szMp m v ∧ szMp m v ≤ v := by
  have h1 := sub1_le (n := m.t.length) h0
  simp only [szMp]
  split
  · omega
  · have h2 := sub1_le (v := sub1 v m.t.length) (n := m.ri.length) (by omega)
    split
    · omega
    · have h3 := sub1_le (v := sub1 (sub1 v m.t.length) m.ri.length) (n := m.ro.length) (by omega)
      split <;> omega
theorem szBrd_pos {b : Brd} (h : 0 ≤ szBrd b 1048576) : BrdB (2 ^ 21) b := by
  have h1 := szRul_le (r := b.r) (v := 1048576) (by omega) (by omega)
  simp only [szBrd, andThen] at h
  split at h
  · omega
  rename_i n1
  split at h
  · omega
  have k1 := szTers_le (l := b.r.ts) (v := 1048576) (by omega) (by omega)
  have hr : 0 ≤ szTers b.r.ts 1048576 ∧ 0 ≤ szKins b.r.ks (szTers b.r.ts 1048576) := by
    simp only [szRul, andThen] at n1
    split at n1
    · omega
    · split at n1 <;> omega
  have p1 := szTers_pos (by omega) (by omega) hr.1
  have p2 := szKins_pos (by omega) (by omega) hr.2
  refine ⟨⟨by omega, by omega, fun x hx => ?_, fun x hx => ?_⟩, ?_⟩
  · have := p1.2 x hx; omega
  · have := p2.2 x hx; omega
  · generalize szRul b.r 1048576 = v at *
    have q1 := sub1_le (v := v) (n := b.m.t.length) (by omega)
    simp only [szMp] at h
    split at h
    · omega
    · have q2 := sub1_le (v := sub1 v b.m.t.length) (n := b.m.ri.length) (by omega)
      split at h
      · omega
      · split at h
        · omega
        · have r1 := sub1_pos (v := v) (n := b.m.t.length) (by omega)
          have r2 := sub1_pos (v := sub1 v b.m.t.length) (n := b.m.ri.length) (by omega)
          have r3 := sub1_pos h
          exact ⟨by omega, by omega, by omega⟩
def brdF (b : Brd) : AV := .agg (rulF b.r ++ mpF b.m)
def brdO (b : Brd) : AV := .agg (rulO b.r ++ mpO b.m)
end Go.Proofs.YtlddjlchgibdfaaDoor.X
