/- A part of the proof: lemmas on the machine or on the functions that the law reaches. No condition of its own. -/
import Derived.Test.YtedgfiikaedeoaaDoorXM4
import Derived.Laws.Strings
import Derived.KernelRfl
set_option linter.unusedVariables false
namespace Go.Proofs.YtedgfiikaedeoaaDoor.X
open Go
theorem str_eq (a b : ByteArray) : (a.toList == b.toList) = decide (a = b) := by
  rw [Bool.eq_iff_iff, beq_iff_eq, decide_eq_true_eq, ByteArray.toList_eq, ByteArray.toList_eq]
  constructor
  · intro h; exact ByteArray.ext (Array.toList_inj.mp h)
  · rintro rfl; rfl
theorem bs_eql {a b : ByteArray} {K : AV → Prop} : strK .eql a b K = K (.bool (decide (a = b))) := by
  rw [← str_eq]; rfl
theorem bs_neq {a b : ByteArray} {K : AV → Prop} : strK .neq a b K = K (.bool (!decide (a = b))) := by
  rw [← str_eq]; rfl
theorem bs_add {a b : ByteArray} {K : AV → Prop} : strK .add a b K = (((a.size + b.size : Nat) : Int) ≤ 9223372036854775807 ∧ K (.str (a ++ b))) := _root_.id rfl
theorem bt_lo (s : ByteArray) (i : Int) : 0 ≤ bt s i ∧ bt s i ≤ 255 := by
  unfold bt
  have := (s.data.toList.getD i.toNat 0).toNat_lt
  omega
attribute [push_cast] bs_eql bs_neq bs_add
end Go.Proofs.YtedgfiikaedeoaaDoor.X
set_option linter.unusedVariables false
set_option linter.unusedSimpArgs false
open Nat renaming reduceBEq → N1, reduceAdd → N2, reduceSub → N3, reduceMul → N4, reduceEqDiff → N5, reduceLeDiff → N6, reduceLT → N7
open Int renaming reduceLE → I1, reduceLT → I2, reduceToNat → I3
namespace Go.Proofs.YtedgfiikaedeoaaDoor.X
open Go
/-! Short words for code. -/
namespace K
def t (n : Nat) : Operand := .tmp n
def z (n : Int) : Operand := .const (.int .i64 n)
def b1 : Operand := .const (.bool true)
def b0 : Operand := .const (.bool false)
def o (d : Nat) (x : Op) (r : XC) : XC := .op (some d) x none r
def y (d g : Nat) (x : Op) (r : XC) : XC := .op (some d) x (some (g, true)) r
def w (d g : Nat) (x : Op) (r : XC) : XC := .op (some d) x (some (g, false)) r
def s (T a b : Nat) (r : XC) : XC := .op none (.store T (.tmp a) (.tmp b)) none r
def k (c : Nat) (a b r : XC) : XC := .cond (.tmp c) a b r
def m (s : Nat) : Op := .move (.tmp s)
def a (s : Nat) : Op := .assign (.tmp s)
def l (T s : Nat) : Op := .load T (.tmp s)
def f (T s j : Nat) : Op := .fieldAddr T (.tmp s) j
def i (T s j : Nat) : Op := .indexAddr T (.tmp s) (.tmp j)
def b (op : BinOp) (T x y : Nat) : Op := .binOp op T (.tmp x) (.tmp y) T
def c (op : BinOp) (T x : Nat) (n : Int) : Op := .binOp op T (.tmp x) (.const (.int .i64 n)) T
def n (s T : Nat) : Op := .call ⟨.builtin .len, ⟨[.tmp s]⟩, ⟨[T]⟩⟩
def g (F : Nat) (xs : List Operand) (ts : List Nat) : Op := .call ⟨.value (.func F), ⟨xs⟩, ⟨ts⟩⟩
def x (T s : Nat) : Op := .box T (.tmp s)
def q (T s : Nat) : Op := .unOp .not T (.tmp s)
def p (c : Nat) (a b : Operand) : Op := .pick (.tmp c) a b
section
variable {N F T S J C G : Nat} {n : Int} {u v : Operand} {O : Op} {A B R : XC} {us : List Operand} {ts : List Nat} {e : BinOp}
theorem e1 : t N = .tmp N := _root_.id rfl
theorem e2 : z n = .const (.int .i64 n) := _root_.id rfl
theorem e3 : b1 = .const (.bool true) := _root_.id rfl
theorem e4 : b0 = .const (.bool false) := _root_.id rfl
theorem e5 : o N O R = .op (some N) O none R := _root_.id rfl
theorem e6 : y N G O R = .op (some N) O (some (G, true)) R := _root_.id rfl
theorem e7 : w N G O R = .op (some N) O (some (G, false)) R := _root_.id rfl
theorem e8 : s T N S R = .op none (.store T (.tmp N) (.tmp S)) none R := _root_.id rfl
theorem e9 : k N A B R = .cond (.tmp N) A B R := _root_.id rfl
theorem f1 : m S = .move (.tmp S) := _root_.id rfl
theorem f2 : a S = .assign (.tmp S) := _root_.id rfl
theorem f3 : l T S = .load T (.tmp S) := _root_.id rfl
theorem f4 : f T S J = .fieldAddr T (.tmp S) J := _root_.id rfl
theorem f5 : i T S J = .indexAddr T (.tmp S) (.tmp J) := _root_.id rfl
theorem f6 : b e T S J = .binOp e T (.tmp S) (.tmp J) T := _root_.id rfl
theorem f7 : c e T S n = .binOp e T (.tmp S) (.const (.int .i64 n)) T := _root_.id rfl
theorem f8 : K.n S T = .call ⟨.builtin .len, ⟨[.tmp S]⟩, ⟨[T]⟩⟩ := _root_.id rfl
theorem f9 : g F us ts = .call ⟨.value (.func F), ⟨us⟩, ⟨ts⟩⟩ := _root_.id rfl
theorem g1 : x T S = .box T (.tmp S) := _root_.id rfl
theorem g2 : q T S = .unOp .not T (.tmp S) := _root_.id rfl
theorem g3 : p C u v = .pick (.tmp C) u v := _root_.id rfl
end
attribute [push_cast] e1 e2 e3 e4 e5 e6 e7 e8 e9 f1 f2 f3 f4 f5 f6 f7 f8 f9 g1 g2 g3
end K
def FnP (P : Program) (md : FuncId → Bool) (f : FuncId) (x : XC) (n : Nat) (rs : List ResultVar) : Prop :=
  ∃ fn, P.funcs[f]? = some fn ∧ compF md fn = x ∧ fn.ntmps = n ∧ fn.results.toList = rs ∧ fn.name ≠ "runtime.NumGoroutine"
theorem FnP.of {P : Program} {md : FuncId → Bool} {f : FuncId} {fn : Func} {x : XC} {n : Nat} {rs : List ResultVar} (h : P.funcs[f]? = some fn) (h1 : compF md fn = x := by kernel_rfl) (h2 : fn.ntmps = n := by kernel_rfl) (h3 : fn.results.toList = rs := by kernel_rfl) (h4 : fn.name ≠ "runtime.NumGoroutine" := by decide) : FnP P md f x n rs :=
  ⟨fn, h, h1, h2, h3, h4⟩
section
variable {P : Program} {G : Glo} {C : CT} {md : FuncId → Bool}
theorem rT (hC : Closed P G md C) {f : FuncId} {ts : List AV} {r : AV} {x : XC} {n : Nat} {rs : List ResultVar} (hq : FnP P md f x n rs)
    (hr : R P G C md 0 x ⟨tb n (.con undef) (argA 0 ts), [], 0⟩ (bodyQ P rs fun v h _ => RetTo h v r)) (ho : ownR r = true := by rfl) (hl : ts.length ≤ n := by exact Nat.le_of_ble_eq_true rfl) : Ev C f ts r := by
  obtain ⟨fn, h1, h2, h3, h4, h5⟩ := hq
  exact Ev.runT hC h1 h2 h3 h4 h5 hl ho hr
theorem Closed.rT (hC : Closed P G md C) {f : FuncId} {ts : List AV} {x : XC} {n m : Nat} {h : Heap} {K : AV → Heap → Nat → Prop} {rs : List ResultVar} (hq : FnP P md f x n rs)
    (hr : R P G C md m x ⟨tb n (.con undef) (argA 0 ts), h, m⟩ (bodyQ P rs K)) (hl : ts.length ≤ n := by exact Nat.le_of_ble_eq_true rfl) : C f ts h m K := by
  obtain ⟨fn, h1, h2, h3, h4, h5⟩ := hq
  exact Closed.runT hC h1 h2 h3 h4 h5 hl hr
end
attribute [push_cast] Bool.not_true Bool.not_false decide_true
theorem J1 {A B : Prop} : ifB true A B = A := ifB_true
theorem J2 {A B : Prop} : ifB false A B = B := ifB_false
theorem hdA {B n m nx : Nat} {u : AV} {l V : List (Nat × AV)} {h h' : Heap} (ρ : List (Nat × Nat)) (h1 : rhoOk B ρ [] nx = true := by rfl)
    (hV : keptV B ρ (tb n u l) V := by (simp only [keptV_cons, keptV_nil, tb_get, lk_same, lk_ne, lk_nil, ren, renL, lkp, N7, N1, N5, reduceIte, and_true, true_and, Nat.not_lt_zero, if_false, if_true, Nat.add_zero, Nat.zero_add]; (try rw [wrap64 (by omega) (by omega)]); (first | done | (simp; done) | (simp [*]; done) | (simp; omega) | (and_intros <;> rfl))))
    (hh : canR B ρ h ρ ++ canB B ρ h = h' := by (simp only [canR, canB, renO, renL, ren, lkp, hget, N7, N5, Nat.not_lt_zero, if_false, if_true, reduceIte, List.append_nil, List.nil_append]; (first | done | rfl))) : Head B ⟨tb n u l, h, m⟩ ⟨tb n .any V, h', nx⟩ := head_tb ρ h1 hV hh
theorem hdO {B n m nx : Nat} {u : AV} {l V : List (Nat × AV)} {h h' : Heap} (k id sz : Nat) (ρ : List (Nat × Nat)) (h1 : rhoOk B ρ [id] nx = true := by rfl) (hk : (tb n u l).getD k .any = .nil := by (simp only [keptV_cons, keptV_nil, tb_get, lk_same, lk_ne, lk_nil, ren, renL, lkp, N7, N1, N5, reduceIte, and_true, true_and])) (hkn : k < n := by decide)
    (hV : keptV B ρ (tb n u l) V := by (simp only [keptV_cons, keptV_nil, tb_get, lk_same, lk_ne, lk_nil, ren, renL, lkp, N7, N1, N5, reduceIte, and_true, true_and, Nat.not_lt_zero, if_false, if_true, Nat.add_zero, Nat.zero_add]; (first | done | (simp; done) | (and_intros <;> rfl)))) (hkV : k ∉ V.map (·.1) := by simp)
    (hh : (id, .slice sz []) :: (canR B ρ h ρ ++ canB B ρ h) = h' := by (simp only [canR, canB, renO, renL, ren, lkp, hget, N7, N5, Nat.not_lt_zero, if_false, if_true, reduceIte, List.append_nil, List.nil_append]; rfl)) : Head B ⟨tb n u l, h, m⟩ ⟨tb n .any ((k, .ref id none sz 0 0) :: V), h', nx⟩ := head_obj k id sz ρ h1 hk hkn hV hkV hh
theorem rtA {h h2 : Heap} {v r : AV} (hc : conR 8 h v = some (r, h2) := by (simp only [conR, conRL, isF, hget, hdel, List.drop_zero, List.take_length, if_true, if_false, reduceIte, N5, reduceCtorEq]; rfl)) : RetTo h v r := RetTo_of hc
end Go.Proofs.YtedgfiikaedeoaaDoor.X
set_option linter.unusedVariables false
set_option linter.unusedSimpArgs false
namespace Go.Proofs.YtedgfiikaedeoaaDoor.X
open Go Go.RowKit

/-! ### A library function of which it is known that it hands back a scalar and leaves all older blocks alone -/
theorem TV_of {hd : Nat → Value} {n : Nat} {w : World} {I : Nat → Prop} {J : Nat → Prop} (hI : ∀ b, I b → J b) : ∀ {ts : List AV} {vs : List Value}, ts.all isF = true → SV hd n w I ts vs → TV w J ts vs []
  | [], vs, _, h => by simp only [SV] at h; simp only [TV]; exact ⟨h, trivial⟩
  | x :: xs, vs, hf, h => by
    simp only [List.all_cons, Bool.and_eq_true] at hf
    simp only [SV] at h
    obtain ⟨v, vs', rfl, hx, hxs⟩ := h
    simp only [TV]
    exact ⟨v, vs', [], [], rfl, rfl, T.frame (fun b hb => ⟨hI b hb, rfl⟩) _ _ _ (isF_T hf.1 hx) (by simp), TV_of hI hf.2 hxs⟩
theorem ev_below {P : Program} {G : Glo} {f : FuncId} {ts : List AV} {s : ByteArray} (hE : Enters P f) (hF : ts.all isF = true)
    (hw : ∀ (w : World) (vals : List Value), TV w (fun b => b < w.heap.size) ts vals [] → Calls P f vals.toArray w fun e w' => e = .returned (.string s) ∧ Below w.heap.size w w') : Ev (CS P G) f ts (.str s) := by
  refine ⟨fun v h' n' => v = .str s, ⟨hE, fun M I hd Fp w vals hr hv => ?_⟩, rfl, ?_⟩
  · have hT := TV_of (fun b hb => (hr.imm b hb).1) hF hv
    refine (hw w vals hT).mono ?_
    rintro e w' ⟨rfl, hB⟩
    have hr' := hr.grown hB.size hB.block
    refine ⟨_, .str s, [], 0, I, hd, Fp, rfl, rfl, hr', by simp [S], ⟨⟨hB.os, hB.tape, hB.output, hB.size, fun b hb _ => hB.block b hb⟩, fun b hb => ⟨hb, hB.block b (hr.imm b hb).1⟩, fun _ _ => rfl⟩, Nat.le_refl _⟩
  · rintro v h' n' rfl
    exact ⟨.str s, h', by simp [conR, isF], NilTo.refl _⟩
def strs (l : List ByteArray) : List (List AV) := l.map fun s => [.str s]
theorem strs_cells {w : World} {I : Nat → Prop} : ∀ {l : List ByteArray} {vs : List Value} {F : List Nat}, TLL w I (strs l) vs F → vs = l.map .string
  | [], vs, F, h => by simp only [strs, List.map_nil, TLL] at h; simp [h.1]
  | x :: l, vs, F, h => by
    simp only [strs, List.map_cons, TLL, TL, T] at h
    obtain ⟨v1, v2, F1, F2, rfl, rfl, ⟨v, vs', G1, G2, rfl, rfl, _, ⟨rfl, rfl⟩, rfl, rfl⟩, hr⟩ := h
    rw [strs_cells hr]; rfl
theorem strs_at {w : World} {l : List ByteArray} {v : Value} {I : Nat → Prop} (h : T w I (.sl (strs l)) v []) (hne : l ≠ []) (hI : ∀ b, I b → b < w.heap.size) : ∃ b o c, v = .slice (some ⟨b, o, none⟩) l.length c ∧ l.length ≤ c ∧ b < w.heap.size ∧ ∀ (j : Nat) x, l[j]? = some x → w.cell? ⟨b, o + j, none⟩ = some (.string x) := by
  simp only [T] at h
  obtain ⟨_, A, c, rfl, hc, _, h⟩ := h
  rcases h with h | ⟨b, o, sz, vs, rfl, hb, hE, hat, ht⟩
  · exact absurd (by simpa [strs] using h) hne
  · have hv := strs_cells ht
    subst hv
    refine ⟨b, o, c, by simp [strs], by simpa [strs] using hc, hI b hb, fun j x hx => hat j _ (by simp [hx])⟩
end Go.Proofs.YtedgfiikaedeoaaDoor.X
