/- A part of the proof: lemmas on the machine or on the functions that the law reaches. No condition of its own. -/
import Derived.Test.YtiemjnkblggimaaXM4
import Derived.Laws.Strings
import Derived.KernelRfl
import Derived.Lib.SliceRun
set_option linter.unusedVariables false
namespace Go.Proofs.Ytiemjnkblggimaa.X
open Go
theorem str_eq (a b : ByteArray) : (a.toList == b.toList) = decide (a = b) := by
  rw [Bool.eq_iff_iff, beq_iff_eq, decide_eq_true_eq, ByteArray.toList_eq, ByteArray.toList_eq]
  constructor
  · intro h; exact ByteArray.ext (Array.toList_inj.mp h)
  · rintro rfl; rfl
theorem bs_eql {a b : ByteArray} {K : AV → Prop} : strK .eql a b K = K (.bool (decide (a = b))) := by
  rw [← str_eq]; rfl
theorem bs_neq {a b : ByteArray} {K : AV → Prop} : strK .neq a b K = K (.bool (!decide (a = b))) := by
  rw [← str_eq]; rfl
theorem bs_add {a b : ByteArray} {K : AV → Prop} : strK .add a b K = (((a.size + b.size : Nat) : Int) ≤ 9223372036854775807 ∧ K (.str (a ++ b))) := _root_.id rfl
theorem bt_lo (s : ByteArray) (i : Int) : 0 ≤ bt s i ∧ bt s i ≤ 255 := by
  unfold bt
  have := (s.data.toList.getD i.toNat 0).toNat_lt
  omega
attribute [push_cast] bs_eql bs_neq bs_add
end Go.Proofs.Ytiemjnkblggimaa.X
set_option linter.unusedVariables false
set_option linter.unusedSimpArgs false
open Nat renaming reduceBEq → N1, reduceAdd → N2, reduceSub → N3, reduceMul → N4, reduceEqDiff → N5, reduceLeDiff → N6, reduceLT → N7
open Int renaming reduceLE → I1, reduceLT → I2, reduceToNat → I3
namespace Go.Proofs.Ytiemjnkblggimaa.X
open Go
/-! Short words for code. -/
namespace K
def t (n : Nat) : Operand := .tmp n
def z (n : Int) : Operand := .const (.int .i64 n)
def b1 : Operand := .const (.bool true)
def b0 : Operand := .const (.bool false)
def o (d : Nat) (x : Op) (r : XC) : XC := .op (some d) x none r
def y (d g : Nat) (x : Op) (r : XC) : XC := .op (some d) x (some (g, true)) r
def w (d g : Nat) (x : Op) (r : XC) : XC := .op (some d) x (some (g, false)) r
def s (T a b : Nat) (r : XC) : XC := .op none (.store T (.tmp a) (.tmp b)) none r
def k (c : Nat) (a b r : XC) : XC := .cond (.tmp c) a b r
def m (s : Nat) : Op := .move (.tmp s)
def a (s : Nat) : Op := .assign (.tmp s)
def l (T s : Nat) : Op := .load T (.tmp s)
def f (T s j : Nat) : Op := .fieldAddr T (.tmp s) j
def i (T s j : Nat) : Op := .indexAddr T (.tmp s) (.tmp j)
def b (op : BinOp) (T x y : Nat) : Op := .binOp op T (.tmp x) (.tmp y) T
def c (op : BinOp) (T x : Nat) (n : Int) : Op := .binOp op T (.tmp x) (.const (.int .i64 n)) T
def n (s T : Nat) : Op := .call ⟨.builtin .len, ⟨[.tmp s]⟩, ⟨[T]⟩⟩
def g (F : Nat) (xs : List Operand) (ts : List Nat) : Op := .call ⟨.value (.func F), ⟨xs⟩, ⟨ts⟩⟩
def x (T s : Nat) : Op := .box T (.tmp s)
def q (T s : Nat) : Op := .unOp .not T (.tmp s)
def p (c : Nat) (a b : Operand) : Op := .pick (.tmp c) a b
section
variable {N F T S J C G : Nat} {n : Int} {u v : Operand} {O : Op} {A B R : XC} {us : List Operand} {ts : List Nat} {e : BinOp}
theorem e1 : t N = .tmp N := _root_.id rfl
theorem e2 : z n = .const (.int .i64 n) := _root_.id rfl
theorem e3 : b1 = .const (.bool true) := _root_.id rfl
theorem e4 : b0 = .const (.bool false) := _root_.id rfl
theorem e5 : o N O R = .op (some N) O none R := _root_.id rfl
theorem e6 : y N G O R = .op (some N) O (some (G, true)) R := _root_.id rfl
theorem e7 : w N G O R = .op (some N) O (some (G, false)) R := _root_.id rfl
theorem e8 : s T N S R = .op none (.store T (.tmp N) (.tmp S)) none R := _root_.id rfl
theorem e9 : k N A B R = .cond (.tmp N) A B R := _root_.id rfl
theorem f1 : m S = .move (.tmp S) := _root_.id rfl
theorem f2 : a S = .assign (.tmp S) := _root_.id rfl
theorem f3 : l T S = .load T (.tmp S) := _root_.id rfl
theorem f4 : f T S J = .fieldAddr T (.tmp S) J := _root_.id rfl
theorem f5 : i T S J = .indexAddr T (.tmp S) (.tmp J) := _root_.id rfl
theorem f6 : b e T S J = .binOp e T (.tmp S) (.tmp J) T := _root_.id rfl
theorem f7 : c e T S n = .binOp e T (.tmp S) (.const (.int .i64 n)) T := _root_.id rfl
theorem f8 : K.n S T = .call ⟨.builtin .len, ⟨[.tmp S]⟩, ⟨[T]⟩⟩ := _root_.id rfl
theorem f9 : g F us ts = .call ⟨.value (.func F), ⟨us⟩, ⟨ts⟩⟩ := _root_.id rfl
theorem g1 : x T S = .box T (.tmp S) := _root_.id rfl
theorem g2 : q T S = .unOp .not T (.tmp S) := _root_.id rfl
theorem g3 : p C u v = .pick (.tmp C) u v := _root_.id rfl
end
attribute [push_cast] e1 e2 e3 e4 e5 e6 e7 e8 e9 f1 f2 f3 f4 f5 f6 f7 f8 f9 g1 g2 g3
end K
def FnP (P : Program) (md : FuncId → Bool) (f : FuncId) (x : XC) (n : Nat) (rs : List ResultVar) : Prop :=
  ∃ fn, P.funcs[f]? = some fn ∧ compF md fn = x ∧ fn.ntmps = n ∧ fn.results.toList = rs ∧ fn.name ≠ "runtime.NumGoroutine"
theorem FnP.of {P : Program} {md : FuncId → Bool} {f : FuncId} {fn : Func} {x : XC} {n : Nat} {rs : List ResultVar} (h : P.funcs[f]? = some fn) (h1 : compF md fn = x := by kernel_rfl) (h2 : fn.ntmps = n := by kernel_rfl) (h3 : fn.results.toList = rs := by kernel_rfl) (h4 : fn.name ≠ "runtime.NumGoroutine" := by decide) : FnP P md f x n rs :=
  ⟨fn, h, h1, h2, h3, h4⟩
section
variable {P : Program} {G : Glo} {C : CT} {md : FuncId → Bool}
theorem rT (hC : Closed P G md C) {f : FuncId} {ts : List AV} {r : AV} {x : XC} {n : Nat} {rs : List ResultVar} (hq : FnP P md f x n rs)
    (hr : R P G C md 0 x ⟨tb n (.con undef) (argA 0 ts), [], 0⟩ (bodyQ P rs fun v h _ => RetTo h v r)) (ho : ownR r = true := by rfl) (hl : ts.length ≤ n := by exact Nat.le_of_ble_eq_true rfl) : Ev C f ts r := by
  obtain ⟨fn, h1, h2, h3, h4, h5⟩ := hq
  exact Ev.runT hC h1 h2 h3 h4 h5 hl ho hr
theorem Closed.rT (hC : Closed P G md C) {f : FuncId} {ts : List AV} {x : XC} {n m : Nat} {h : Heap} {K : AV → Heap → Nat → Prop} {rs : List ResultVar} (hq : FnP P md f x n rs)
    (hr : R P G C md m x ⟨tb n (.con undef) (argA 0 ts), h, m⟩ (bodyQ P rs K)) (hl : ts.length ≤ n := by exact Nat.le_of_ble_eq_true rfl) : C f ts h m K := by
  obtain ⟨fn, h1, h2, h3, h4, h5⟩ := hq
  exact Closed.runT hC h1 h2 h3 h4 h5 hl hr
end
attribute [push_cast] Bool.not_true Bool.not_false decide_true
theorem J1 {A B : Prop} : ifB true A B = A := ifB_true
theorem J2 {A B : Prop} : ifB false A B = B := ifB_false
theorem hdA {B n m nx : Nat} {u : AV} {l V : List (Nat × AV)} {h h' : Heap} (ρ : List (Nat × Nat)) (h1 : rhoOk B ρ [] nx = true := by rfl)
    (hV : keptV B ρ (tb n u l) V := by (simp only [keptV_cons, keptV_nil, tb_get, lk_same, lk_ne, lk_nil, ren, renL, lkp, N7, N1, N5, reduceIte, and_true, true_and, Nat.not_lt_zero, if_false, if_true, Nat.add_zero, Nat.zero_add]; (try rw [wrap64 (by omega) (by omega)]); (first | done | (simp; done) | (simp [*]; done) | (simp; omega) | (and_intros <;> rfl))))
    (hh : canR B ρ h ρ ++ canB B ρ h = h' := by (simp only [canR, canB, renO, renL, ren, lkp, hget, N7, N5, Nat.not_lt_zero, if_false, if_true, reduceIte, List.append_nil, List.nil_append]; (first | done | rfl))) : Head B ⟨tb n u l, h, m⟩ ⟨tb n .any V, h', nx⟩ := head_tb ρ h1 hV hh
theorem hdO {B n m nx : Nat} {u : AV} {l V : List (Nat × AV)} {h h' : Heap} (k id sz : Nat) (ρ : List (Nat × Nat)) (h1 : rhoOk B ρ [id] nx = true := by rfl) (hk : (tb n u l).getD k .any = .nil := by (simp only [keptV_cons, keptV_nil, tb_get, lk_same, lk_ne, lk_nil, ren, renL, lkp, N7, N1, N5, reduceIte, and_true, true_and])) (hkn : k < n := by decide)
    (hV : keptV B ρ (tb n u l) V := by (simp only [keptV_cons, keptV_nil, tb_get, lk_same, lk_ne, lk_nil, ren, renL, lkp, N7, N1, N5, reduceIte, and_true, true_and, Nat.not_lt_zero, if_false, if_true, Nat.add_zero, Nat.zero_add]; (first | done | (simp; done) | (and_intros <;> rfl)))) (hkV : k ∉ V.map (·.1) := by simp)
    (hh : (id, .slice sz []) :: (canR B ρ h ρ ++ canB B ρ h) = h' := by (simp only [canR, canB, renO, renL, ren, lkp, hget, N7, N5, Nat.not_lt_zero, if_false, if_true, reduceIte, List.append_nil, List.nil_append]; rfl)) : Head B ⟨tb n u l, h, m⟩ ⟨tb n .any ((k, .ref id none sz 0 0) :: V), h', nx⟩ := head_obj k id sz ρ h1 hk hkn hV hkV hh
theorem rtA {h h2 : Heap} {v r : AV} (hc : conR 8 h v = some (r, h2) := by (simp only [conR, conRL, isF, hget, hdel, List.drop_zero, List.take_length, if_true, if_false, reduceIte, N5, reduceCtorEq]; rfl)) : RetTo h v r := RetTo_of hc
end Go.Proofs.Ytiemjnkblggimaa.X
set_option linter.unusedVariables false
set_option linter.unusedSimpArgs false
namespace Go.Proofs.Ytiemjnkblggimaa.X
open Go

/-! ### slices.Delete -/
theorem setCells_row {P : Program} {w : World} {b o : Nat} {cur : Array Value} {ty : TypeId} {us : List Value} (hh : w.heap[b]? = some (.cells cur ty (0, 0))) (hfit : o + us.length ≤ cur.size) (h1 : ∀ u ∈ us, u.oneCell' = true) :
    w.setCells b o us = w.setRow b (setsA cur.toList o us).toArray := by
  have hc : ∀ j, j < us.length → (w.cell? ⟨b, o + 0 + j, none⟩).isSome = true := fun j hj => by
    simp [World.cell?, hh]; omega
  have hf : ∀ j, j < us.length → w.frozen? ⟨b, o + 0 + j, none⟩ = false := fun j hj => by simp [World.frozen?, hh]
  have e1 := run_storeCells_cells (P := P) b o us 0 w hc hf h1
  have e2 := run_storeCells_at (P := P) b o ty us 0 cur w hh (by simpa using hfit) h1
  rw [e1] at e2
  simp only [Nat.add_zero] at e2
  rw [setsA_eq us o cur.toList (by simpa using hfit)]
  exact (Result.ok.inj e2).2
def zeroE (sz : Nat) : List AV := List.replicate sz (.int .i64 0)
theorem TL.zeros {w : World} {I : Nat → Prop} : ∀ n, TL w I (List.replicate n (.int .i64 0)) (List.replicate n (.int .i64 0)) []
  | 0 => by simp [TL]
  | n + 1 => by
    simp only [List.replicate_succ, TL]
    exact ⟨_, _, [], [], rfl, rfl, rfl, by simp [T], TL.zeros n⟩
theorem TLL.zeros {w : World} {I : Nat → Prop} {sz : Nat} : ∀ n, TLL w I (List.replicate n (zeroE sz)) (List.replicate (n * sz) (.int .i64 0)) []
  | 0 => by simp [TLL]
  | n + 1 => by
    rw [List.replicate_succ]
    simp only [TLL]
    refine ⟨List.replicate sz (.int .i64 0), List.replicate (n * sz) (.int .i64 0), [], [], ?_, rfl, TL.zeros sz, TLL.zeros n⟩
    rw [List.replicate_append_replicate, Nat.add_mul]; congr 1; omega
theorem Each.of {sz : Nat} : ∀ {es : List (List AV)}, (∀ e ∈ es, e.length = sz) → Each sz es
  | [], _ => trivial
  | e :: es, h => ⟨h e (by simp), Each.of fun x hx => h x (by simp [hx])⟩
theorem allScs_take {n : Nat} : ∀ {es : List (List AV)}, allScs es = true → allScs (es.take n) = true := by
  intro es
  induction es generalizing n with
  | nil => simp [allScs]
  | cons e es ih =>
    intro h
    cases n with
    | zero => simp [allScs]
    | succ n => simp only [allScs, Bool.and_eq_true, List.take_succ_cons] at h ⊢; exact ⟨h.1, ih h.2⟩
theorem allScs_drop {n : Nat} : ∀ {es : List (List AV)}, allScs es = true → allScs (es.drop n) = true := by
  intro es
  induction es generalizing n with
  | nil => simp [allScs]
  | cons e es ih =>
    intro h
    cases n with
    | zero => simpa using h
    | succ n => simp only [allScs, Bool.and_eq_true, List.drop_succ_cons] at h ⊢; exact ih h.2
theorem TL.noSl {w : World} {I : Nat → Prop} : ∀ {xs : List AV} {vs : List Value} {F : List Nat}, allSc xs = true → TL w I xs vs F → ∀ v ∈ vs, X.noSl v
  | [], vs, F, _, h, v, hv => by simp only [TL] at h; simp [h.1] at hv
  | x :: xs, vs, F, hs, h, v, hv => by
    simp only [allSc, Bool.and_eq_true] at hs
    simp only [TL] at h
    obtain ⟨u, vs', F1, F2, rfl, rfl, h1, hx, hxs⟩ := h
    rcases List.mem_cons.1 hv with rfl | hv
    · exact (isSc_T hs.1 hx).2.1
    · exact TL.noSl hs.2 hxs v hv
theorem TLL.noSl {w : World} {I : Nat → Prop} : ∀ {xs : List (List AV)} {vs : List Value} {F : List Nat}, allScs xs = true → TLL w I xs vs F → ∀ v ∈ vs, X.noSl v
  | [], vs, F, _, h, v, hv => by simp only [TLL] at h; simp [h.1] at hv
  | x :: xs, vs, F, hs, h, v, hv => by
    simp only [allScs, Bool.and_eq_true] at hs
    simp only [TLL] at h
    obtain ⟨v1, v2, F1, F2, rfl, rfl, hx, hxs⟩ := h
    rcases List.mem_append.1 hv with hv | hv
    · exact hx.noSl hs.1 v hv
    · exact TLL.noSl hs.2 hxs v hv
theorem del_list {α : Type} {vs : List α} {A B N : Nat} {z : α} (h : vs.length = N) (hAB : A ≤ B) (hBN : B ≤ N) : setsA (setsA vs A (vs.drop B)) (A + (N - B)) (List.replicate (B - A) z) = vs.take A ++ vs.drop B ++ List.replicate (B - A) z := by
  have e1 := setsA_eq (vs.drop B) A vs (by rw [List.length_drop, h]; omega)
  have hl : (vs.take A ++ vs.drop B).length = A + (N - B) := by simp [h]; omega
  have e2 := setsA_eq (List.replicate (B - A) z) (A + (N - B)) (vs.take A ++ vs.drop B ++ vs.drop (A + (vs.drop B).length)) (by simp [h]; omega)
  rw [e1, e2, ← hl, List.take_left]
  have e3 : List.drop ((vs.take A ++ vs.drop B).length + (List.replicate (B - A) z).length) (vs.take A ++ vs.drop B ++ vs.drop (A + (vs.drop B).length)) = [] := List.drop_eq_nil_of_le (by simp [h]; omega)
  rw [e3, List.append_nil]
def DelW (P : Program) (f : FuncId) (sz : Nat) : Prop :=
  ∀ (b off cap i j n : Nat) (vs : List Value) (w : World), vs.length = n * sz → (∀ u ∈ vs, u.oneCell' = true) →
    (∀ t u, vs[t]? = some u → w.cell? ⟨b, off + t, none⟩ = some u) → (∀ t, t < vs.length → w.frozen? ⟨b, off + t, none⟩ = false) →
    n ≤ cap → cap ≤ 9223372036854775807 → i < j → j ≤ n →
    Calls P f #[.slice (some ⟨b, off, none⟩) n cap, .int .i64 i, .int .i64 j] w fun e w' => e = .returned (.slice (some ⟨b, off, none⟩) (i + (n - j)) cap) ∧
      w' = (w.drew.setCells b (off + i * sz) (vs.drop (j * sz))).setCells b (off + (i + (n - j)) * sz) (List.replicate ((j - i) * sz) (.int .i64 0))
theorem del_cs {P : Program} {G : Glo} {f : FuncId} {sz : Nat} (hE : Enters P f) (hW : DelW P f sz) {h : Heap} {id nx i j : Nat} {es : List (List AV)} (hg : hget h id = some (.slice sz es)) (hs : allScs es = true) (hij : i < j) (hj : j ≤ es.length) :
    CS P G f [.ref id none sz 0 es.length, .int .i64 i, .int .i64 j] h nx fun v h' n' => v = .ref id none sz 0 (i + (es.length - j)) ∧ h' = hset h id (.slice sz (es.take i ++ es.drop j ++ List.replicate (j - i) (zeroE sz))) ∧ n' = nx := by
  refine ⟨hE, fun M I hd Fp w vals hr hv => ?_⟩
  simp only [SV] at hv
  obtain ⟨v1, _, rfl, hS1, v2, _, rfl, rfl, v3, _, rfl, rfl, rfl⟩ := hv
  have hS := hS1
  simp only [S, HdOf] at hS1
  obtain ⟨hid, _, rfl, hwin⟩ := hS1
  have hO := hr.obj id _ hg
  simp only [ObjR, T] at hO
  have hO' := hO
  rcases hO with ⟨rfl, _, _⟩ | ⟨b, o, c, cur, ty, vs, Fs, hhd, hh, hc, hm, ho, hE', hvs, ht, hF⟩
  · simp at hj; omega
  have hwin' : ∃ c', v1 = .slice (some ⟨b, o, none⟩) es.length c' ∧ c' ≤ c ∧ es.length ≤ c' := by
    rcases hwin with ⟨b1, o1, n1, c1, c', e1, rfl, e2, e3, e4⟩ | ⟨e1, _⟩
    · rw [hhd] at e1
      simp only [Value.slice.injEq, Option.some.injEq, Addr.mk.injEq] at e1
      obtain ⟨⟨rfl, rfl, _⟩, rfl, rfl⟩ := e1
      exact ⟨c', by simp, by omega, e3⟩
    · omega
  obtain ⟨c', rfl, hc1, hc2⟩ := hwin'
  have hvl : vs.length = es.length * sz := ht.length hE'
  have hcell : ∀ t u, vs[t]? = some u → w.cell? ⟨b, o + t, none⟩ = some u := by
    intro t u hu
    rw [← hvs, List.getElem?_take] at hu
    split at hu
    · rw [List.getElem?_drop] at hu
      simp only [World.cell?, hh, Option.isSome_none, Bool.false_eq_true, if_false]
      simpa using hu
    · cases hu
  have hfr : ∀ t, t < vs.length → w.frozen? ⟨b, o + t, none⟩ = false := fun t _ => by simp [World.frozen?, hh]
  have hmc : c' ≤ 9223372036854775807 := Nat.le_trans (Nat.le_trans hc1 hm) (by decide)
  refine (hW b o c' i j es.length vs w hvl ht.ones hcell hfr hc2 hmc hij hj).mono ?_
  rintro e w' ⟨rfl, rfl⟩
  have hcs : es.length * sz ≤ c * sz := Nat.mul_le_mul_right _ hc
  have hjs : j * sz ≤ es.length * sz := Nat.mul_le_mul_right _ hj
  have his : i * sz ≤ j * sz := Nat.mul_le_mul_right _ (by omega)
  have hm1 : (i + (es.length - j)) * sz = i * sz + (es.length * sz - j * sz) := by rw [Nat.add_mul, Nat.sub_mul]
  have hm2 : (j - i) * sz = j * sz - i * sz := Nat.sub_mul _ _ _
  generalize hcur1 : setsA cur.toList (o + i * sz) (vs.drop (j * sz)) = cur1
  have hl1 : cur1.length = cur.size := by rw [← hcur1, setsA_length]; simp
  have ones1 : ∀ u ∈ vs.drop (j * sz), u.oneCell' = true := fun u hu => ht.ones u (List.mem_of_mem_drop hu)
  have onesz : ∀ u ∈ List.replicate ((j - i) * sz) (Value.int .i64 0), u.oneCell' = true := fun u hu => by rw [List.eq_of_mem_replicate hu]; rfl
  have ew1 : w.drew.setCells b (o + i * sz) (vs.drop (j * sz)) = w.drew.setRow b cur1.toArray := by
    rw [setCells_row (P := P) (w := w.drew) hh (by rw [List.length_drop, hvl]; omega) ones1, hcur1]
  have hh1 : (w.drew.setRow b cur1.toArray).heap[b]? = some (.cells cur1.toArray ty (0, 0)) := setRow_heap w.drew b cur _ ty (0, 0) hh
  generalize hcur2 : setsA cur1 (o + (i + (es.length - j)) * sz) (List.replicate ((j - i) * sz) (Value.int .i64 0)) = cur2
  have ew2 : (w.drew.setRow b cur1.toArray).setCells b (o + (i + (es.length - j)) * sz) (List.replicate ((j - i) * sz) (.int .i64 0)) = (w.drew.setRow b cur1.toArray).setRow b cur2.toArray := by
    rw [setCells_row (P := P) hh1 (by rw [List.length_replicate]; simp only [List.size_toArray, hl1]; omega) onesz, ← hcur2]
  rw [ew1, ew2]
  have hI : ¬ I b := hr.notI hg b (by rw [hF]; simp)
  have hM : M b := hr.mine id _ hg b (by rw [hF]; simp)
  have hns : ∀ p, p < es.length * sz → ∃ v, cur.toList[o + p]? = some v ∧ noSl v := by
    intro p hp
    have hp' : p < vs.length := by omega
    refine ⟨vs[p], ?_, ht.noSl hs _ (List.getElem_mem hp')⟩
    have := List.getElem?_eq_getElem hp'
    rw [← this, ← hvs, List.getElem?_take, if_pos hp, List.getElem?_drop]
  have hdr : HR G M I h nx hd Fp w.drew := hr.grown (Nat.le_refl _) (fun _ _ => rfl)
  have fr1 : Fr I I nx nx hd hd w.drew (w.drew.setRow b cur1.toArray) := by
    rw [← hcur1]
    refine fr_store (w := w.drew) hh hI (by rw [List.length_drop, hvl]; omega) fun p hp => ?_
    rw [List.length_drop, hvl] at hp
    rw [Nat.add_assoc]; exact hns _ (by omega)
  have e2 := setsA_eq (vs.drop (j * sz)) (o + i * sz) cur.toList (by rw [List.length_drop, hvl]; simp; omega)
  have hns1 : ∀ p, p < es.length * sz → ∃ v, cur1[o + p]? = some v ∧ noSl v := by
    intro p hp
    rw [← hcur1, e2]
    by_cases h1 : p < i * sz
    · rw [List.append_assoc, List.getElem?_append_left (by simp; omega), List.getElem?_take, if_pos (by omega)]
      exact hns p hp
    · by_cases h2 : p < i * sz + (vs.drop (j * sz)).length
      · rw [List.getElem?_append_left (by simp at h2 ⊢; omega), List.getElem?_append_right (by simp; omega)]
        have hlt : o + p - (cur.toList.take (o + i * sz)).length < (vs.drop (j * sz)).length := by simp at h2 ⊢; omega
        exact ⟨_, List.getElem?_eq_getElem hlt, ht.noSl hs _ (List.mem_of_mem_drop (List.getElem_mem hlt))⟩
      · rw [List.getElem?_append_right (by simp at h2 ⊢; omega), List.getElem?_drop]
        have : o + i * sz + (vs.drop (j * sz)).length + (o + p - (cur.toList.take (o + i * sz) ++ vs.drop (j * sz)).length) = o + p := by simp at h2 ⊢; omega
        rw [this]; exact hns p hp
  have fr2 : Fr I I nx nx hd hd (w.drew.setRow b cur1.toArray) ((w.drew.setRow b cur1.toArray).setRow b cur2.toArray) := by
    rw [← hcur2]
    refine fr_store (cur := cur1.toArray) hh1 hI (by rw [List.length_replicate]; simp only [List.size_toArray, hl1]; omega) fun p hp => ?_
    rw [List.length_replicate] at hp
    rw [Nat.add_assoc]
    exact hns1 _ (by omega)
  have hh2 : ((w.drew.setRow b cur1.toArray).setRow b cur2.toArray).heap[b]? = some (.cells cur2.toArray ty (0, 0)) := setRow_heap _ b _ _ ty (0, 0) hh1
  have hoth : ∀ b', b' ≠ b → ((w.drew.setRow b cur1.toArray).setRow b cur2.toArray).heap[b']? = w.drew.heap[b']? := fun b' hb' => (setRow_other _ b b' _ hb').trans (setRow_other w.drew b b' _ hb')
  have hlen' : (es.take i ++ es.drop j ++ List.replicate (j - i) (zeroE sz)).length = es.length := by simp; omega
  have hnew : ObjR hd nx ((w.drew.setRow b cur1.toArray).setRow b cur2.toArray) I (.slice sz (es.take i ++ es.drop j ++ List.replicate (j - i) (zeroE sz))) (hd id) (Fp id) := by
    have hFs : Fs = [] := by
      have h1 := ht.sc (w' := w) (I' := I) hs
      have key : ∀ {es : List (List AV)} {vs : List Value} {F : List Nat}, allScs es = true → TLL w I es vs F → F = [] := by
        intro es
        induction es with
        | nil => intro vs F _ h; simp only [TLL] at h; exact h.2
        | cons x xs ih =>
          intro vs F hs h
          simp only [allScs, Bool.and_eq_true] at hs
          simp only [TLL] at h
          obtain ⟨v1, v2, F1, F2, rfl, rfl, hx, hxs⟩ := h
          have k1 : ∀ {xs : List AV} {vs : List Value} {F : List Nat}, allSc xs = true → TL w I xs vs F → F = [] := by
            intro xs
            induction xs with
            | nil => intro vs F _ h; simp only [TL] at h; exact h.2
            | cons y ys ih =>
              intro vs F hs h
              simp only [allSc, Bool.and_eq_true] at hs
              simp only [TL] at h
              obtain ⟨u, vs', F1, F2, rfl, rfl, _, hy, hys⟩ := h
              rw [(isSc_T hs.1 hy).1, ih hs.2 hys]; rfl
          rw [k1 hs.1 hx, ih hs.2 hxs]; rfl
      exact key hs ht
    subst hFs
    simp only [ObjR, T]
    refine .inr ⟨b, o, c, cur2.toArray, ty, _, [], by rw [hlen']; exact hhd, hh2, by rw [hlen']; exact hc, hm, ?_, ?_, rfl, ?_, hF⟩
    · simp only [List.size_toArray, ← hcur2, setsA_length, hl1]; exact ho
    · refine Each.of fun e he => ?_
      rcases List.mem_append.1 he with he | he
      · rcases List.mem_append.1 he with he | he
        · exact hE'.mem e (List.mem_of_mem_take he)
        · exact hE'.mem e (List.mem_of_mem_drop he)
      · rw [List.eq_of_mem_replicate he, zeroE, List.length_replicate]
    · rw [hlen']
      obtain ⟨F1, t1, _⟩ := ht.take i hE'
      obtain ⟨F2, t2, _⟩ := ht.drop j hE'
      have t3 := ((t1.sc (w' := (w.drew.setRow b cur1.toArray).setRow b cur2.toArray) (I' := I) (allScs_take hs)).append (t2.sc (allScs_drop hs))).append (TLL.zeros (sz := sz) (j - i))
      have e3 : ((cur2.toArray.toList.drop o).take (es.length * sz)) = vs.take (i * sz) ++ vs.drop (j * sz) ++ List.replicate ((j - i) * sz) (.int .i64 0) := by
        have a1 : (cur1.drop o).take (es.length * sz) = setsA ((cur.toList.drop o).take (es.length * sz)) (i * sz) (vs.drop (j * sz)) := by
          rw [← hcur1, setsA_drop, setsA_take _ _ _ _ (by rw [List.length_drop, hvl]; omega)]
        have a2 : (cur2.drop o).take (es.length * sz) = setsA ((cur1.drop o).take (es.length * sz)) ((i + (es.length - j)) * sz) (List.replicate ((j - i) * sz) (Value.int .i64 0)) := by
          rw [← hcur2, setsA_drop, setsA_take _ _ _ _ (by rw [List.length_replicate]; omega)]
        show (cur2.drop o).take (es.length * sz) = _
        rw [a2, a1, hvs, hm1, hm2]
        exact del_list hvl his hjs
      rw [e3]
      simpa using t3
  have hsz : ((w.drew.setRow b cur1.toArray).setRow b cur2.toArray).heap.size = w.drew.heap.size := (setRow_size _ _ _).trans (setRow_size _ _ _)
  obtain ⟨Fp', hr'⟩ := hdr.setSame hg _ hsz (fun b' hb' => hoth b' (fun e => hb' (by rw [e, hF]; simp))) (fr1.trans fr2) hnew
  refine ⟨_, _, _, _, I, hd, Fp', rfl, ⟨rfl, rfl, rfl⟩, hr', ?_, ?_, Nat.le_refl _⟩
  · simp only [S, HdOf]
    refine ⟨hid, _, rfl, .inl ⟨b, o, es.length, c, c', hhd, by simp, by omega, by omega, by omega⟩⟩
  · refine ⟨?_, (fr1.trans fr2).im, fun _ _ => rfl⟩
    have k0 : Keep M w w.drew := ⟨rfl, rfl, rfl, Nat.le_refl _, fun _ _ _ => rfl⟩
    exact k0.trans ((keep_setRow hM).trans (keep_setRow hM))
end Go.Proofs.Ytiemjnkblggimaa.X
