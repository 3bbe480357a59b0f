/- A part of the proof: lemmas on the functions that the law reaches. No condition of its own. -/
import Derived.Test.YtlddjlchgibdfaaDoorXCBdD
set_option maxHeartbeats 2000000
set_option maxRecDepth 8000
set_option linter.unusedSimpArgs false
set_option linter.unusedVariables false
namespace Go.Proofs.YtlddjlchgibdfaaDoor.X
open Go
/-- All of a list, each with its place. -/
def allI {α : Type} (f : Nat → α → Bool) (l : List α) : Bool := (List.range l.length).all fun i => match l[i]? with | some x => f i x | none => true
theorem allI_no {α : Type} {f : Nat → α → Bool} {l : List α} {i : Nat} (h : i < l.length) (hf : f i l[i] = false) : allI f l = false := by
  simp only [allI, List.all_eq_false]
  exact ⟨i, by simp [h], by simp [h, hf]⟩
theorem allI_yes {α : Type} {f : Nat → α → Bool} {l : List α} (h : ∀ i (h : i < l.length), f i l[i] = true) : allI f l = true := by
  simp only [allI, List.all_eq_true]
  intro i hi
  have hi' : i < l.length := by simpa using hi
  simp [hi', h i hi']
theorem allI_get {α : Type} {f : Nat → α → Bool} {l : List α} (h : allI f l = true) (i : Nat) (hi : i < l.length) : f i l[i] = true := by
  simp only [allI, List.all_eq_true] at h
  have := h i (by simp [hi])
  simpa [hi] using this
def upto (n : Nat) (p : Nat → Bool) : Bool := (List.range n).all p
theorem upto_no {n i : Nat} {p : Nat → Bool} (h : i < n) (hp : p i = false) : upto n p = false := by
  simp only [upto, List.all_eq_false]
  exact ⟨i, by simp [h], by simp [hp]⟩
theorem upto_yes {n : Nat} {p : Nat → Bool} (h : ∀ j, j < n → p j = true) : upto n p = true := by
  simp only [upto, List.all_eq_true]
  exact fun x hx => h x (by simpa using hx)
theorem upto_iff {n : Nat} {p : Nat → Bool} : upto n p = true ↔ ∀ j, j < n → p j = true := by
  simp [upto, List.all_eq_true]
def risP (l : List Int) (lo hi : Int) (i : Nat) : Bool := inR lo hi (l.getD i 0) && (decide (i = 0) || decide (l.getD (i - 1) 0 < l.getD i 0))
def incP (l : List Int) (i : Nat) : Bool := decide (l.getD i 0 < l.getD (i + 1) 0)
theorem cut_ints_get {v : List Int} {k : Nat} (h : k < v.length) : (ints v)[k]? = some [.int .i64 (v.getD k 0)] := ints_get h
/-- The first place where p holds, or -1. -/
def gidx {α : Type} (p : α → Bool) (l : List α) : Int := if l.findIdx p < l.length then (l.findIdx p : Int) else -1
theorem gidx_at {α : Type} {p : α → Bool} {l : List α} {i : Nat} (h : i < l.length) (hp : p l[i] = true) (hn : ∀ j (h : j < l.length), j < i → p l[j] = false) : gidx p l = i := by
  have : l.findIdx p = i := (List.findIdx_eq h).2 ⟨hp, fun j hj => hn j (by omega) hj⟩
  simp [gidx, this, h]
theorem gidx_no {α : Type} {p : α → Bool} {l : List α} (hn : ∀ j (h : j < l.length), p l[j] = false) : gidx p l = -1 := by
  have : ¬ l.findIdx p < l.length := fun h => by
    have := hn _ h
    rw [List.findIdx_getElem (w := h)] at this
    cases this
  simp only [gidx, this, if_false]
def okName (s : ByteArray) : Bool := upto s.size (fun i => decide (97 ≤ bt s i) && decide (bt s i ≤ 122)) && inR 1 8 s.size
def terOk (r : Rul) (i : Nat) (t : Ter) : Bool := okName t.n && decide (gidx (fun x => decide (x.n = t.n)) r.ts = i) && decide ((t.c.length : Int) = (r.ks.length : Int)) && t.c.all (inR 0 9) && inR (-3) 3 t.s && inR 0 3 t.h
def kinOk (r : Rul) (i : Nat) (k : Kin) : Bool := okName k.n && decide (gidx (fun x => decide (x.n = k.n)) r.ks = i) && inR 1 9 k.st && inR 0 9 k.mv && inR 1 4 k.sp && inR 0 4 k.v
def tailOk (r : Rul) : Bool := inR 1 4 r.stack && inR 0 9 r.river && inR 1 9 r.road && inR 0 20 r.supply && inR 1 30 r.turns
def rulOk (r : Rul) : Bool := inR 1 6 r.ts.length && inR 1 4 r.ks.length && allI (terOk r) r.ts && allI (kinOk r) r.ks && tailOk r
def dq (d : Nat) : Int := [1, 1, 0, -1, -1, 0].getD d 0
def dr (d : Nat) : Int := [0, -1, -1, 0, 1, 1].getD d 0
def nextM (m : Mp) (i d : Int) : Int :=
  if inR 0 (m.w - 1) (i.tmod m.w + dq d.toNat) && inR 0 (m.h - 1) (i.tdiv m.w + dr d.toNat) then (i.tdiv m.w + dr d.toNat) * m.w + (i.tmod m.w + dq d.toNat) else -1
def edgeOk (m : Mp) (e : Int) : Bool := inR 0 (3 * (m.w * m.h) - 1) e && !decide (nextM m (e.tdiv 3) (e.tmod 3) < 0)
def edgesOk (m : Mp) (l : List Int) : Bool := l.all (edgeOk m) && upto l.length (risP l 0 (3 * (m.w * m.h) - 1))
def mpOk (m : Mp) : Bool := inR 1 10 m.w && inR 1 10 m.h && decide ((m.t.length : Int) = m.w * m.h) && m.t.all (inR 0 5) && edgesOk m m.ri && edgesOk m m.ro
def brdOk (b : Brd) : Bool := rulOk b.r && mpOk b.m && b.m.t.all (inR 0 (b.r.ts.length - 1))
end Go.Proofs.YtlddjlchgibdfaaDoor.X
