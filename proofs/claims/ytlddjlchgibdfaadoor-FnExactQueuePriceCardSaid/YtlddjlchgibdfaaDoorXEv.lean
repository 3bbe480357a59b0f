import Derived.Test.YtlddjlchgibdfaaDoorXRow
set_option linter.unusedVariables false
set_option linter.unusedSimpArgs false
namespace Go.Proofs.YtlddjlchgibdfaaDoor.X
open Go

theorem RetTo_bool {h : Heap} {b c : Bool} : RetTo h (.bool b) (.bool c) = (b = c) := by
  simp [RetTo, conR, isF, NilTo]
theorem RetTo_int {h : Heap} {k k' : IntKind} {b c : Int} : RetTo h (.int k b) (.int k' c) = (k = k' ∧ b = c) := by
  simp [RetTo, conR, isF, NilTo]
theorem RetTo_str {h : Heap} {b c : ByteArray} : RetTo h (.str b) (.str c) = (b = c) := by
  simp [RetTo, conR, isF, NilTo]

theorem wrap64 {n : Int} (h1 : -9223372036854775808 ≤ n) (h2 : n ≤ 9223372036854775807) : IntKind.i64.wrap n = n := by
  simp only [IntKind.wrap, IntKind.bits, IntKind.signed, IntKind.max]
  simp
  omega

/-! ### The evaluation, a rule an operation: only at a state that is written out, and a slot only takes a value whose kind is known -/
def ifB (b : Bool) (A B : Prop) : Prop := (b = true → A) ∧ (b = false → B)
theorem ifB_true {A B : Prop} : ifB true A B = A := by simp [ifB]
theorem ifB_false {A B : Prop} : ifB false A B = B := by simp [ifB]
theorem ifB_not {b : Bool} {A B : Prop} : ifB (!b) A B = ifB b B A := by cases b <;> simp [ifB]
theorem ifB_intro {b : Bool} {A B : Prop} (h1 : b = true → A) (h2 : b = false → B) : ifB b A B := ⟨h1, h2⟩
def onB : AV → (Bool → Prop) → Prop
  | .bool b, K => K b
  | _, _ => False
theorem onB_bool {b : Bool} {K : Bool → Prop} : onB (.bool b) K = K b := _root_.id rfl
def gK : AV → Bool → Prop → Prop → Prop → Prop
  | .bool b, w, A, B, _ => ifB (b == w) A B
  | .con (.tuple a), _, _, _, B => a = #[] ∧ B
  | _, _, _, _, _ => False
section
variable {P : Program} {G : Glo} {C : CT} {md : FuncId → Bool} {B : Nat} {t : List AV} {h : Heap} {n : Nat} {Q : XE → St → Prop} {d d' : Nat} {r x y : XC} {K : AV → St → Prop} {s : St} {dst : Option Nat} {o : Op}
theorem R_done : R P G C md B .done ⟨t, h, n⟩ Q = Q .normal ⟨t, h, n⟩ := _root_.id rfl
theorem R_exit {id : Nat} : R P G C md B (.exit id) ⟨t, h, n⟩ Q = Q (.exit id) ⟨t, h, n⟩ := _root_.id rfl
theorem R_ret : R P G C md B .ret ⟨t, h, n⟩ Q = Q .ret ⟨t, h, n⟩ := _root_.id rfl
theorem R_block {id : Nat} : R P G C md B (.block id x r) ⟨t, h, n⟩ Q = R P G C md B x ⟨t, h, n⟩ (inBlockX id (thenX (fun s' => R P G C md B r s' Q) Q)) := _root_.id rfl
theorem R_fork : R P G C md B (.fork x y r) ⟨t, h, n⟩ Q = (R P G C md B x ⟨t, h, n⟩ (thenX (fun s' => R P G C md B r s' Q) Q) ∧ R P G C md B y ⟨t, h, n⟩ (thenX (fun s' => R P G C md B r s' Q) Q)) := _root_.id rfl
def cK (P : Program) (G : Glo) (C : CT) (md : FuncId → Bool) (B : Nat) (c : Operand) (x y r : XC) (s : St) (Q : XE → St → Prop) : AV → Prop
  | .bool b => ifB b (R P G C md B x (know s c true) (thenX (fun s' => R P G C md B r s' Q) Q)) (R P G C md B y (know s c false) (thenX (fun s' => R P G C md B r s' Q) Q))
  | _ => False
theorem R_cond {c : Operand} : R P G C md B (.cond c x y r) ⟨t, h, n⟩ Q = cK P G C md B c x y r ⟨t, h, n⟩ Q (ev G ⟨t, h, n⟩ c) := by
  simp only [R]
  cases ev G ⟨t, h, n⟩ c <;> rfl
theorem cK_true {c : Operand} : cK P G C md B c x y r s Q (.bool true) = R P G C md B x (know s c true) (thenX (fun s' => R P G C md B r s' Q) Q) := ifB_true
theorem cK_false {c : Operand} : cK P G C md B c x y r s Q (.bool false) = R P G C md B y (know s c false) (thenX (fun s' => R P G C md B r s' Q) Q) := ifB_false
theorem cK_bool {c : Operand} {b : Bool} : cK P G C md B c x y r s Q (.bool b) = ifB b (R P G C md B x (know s c true) (thenX (fun s' => R P G C md B r s' Q) Q)) (R P G C md B y (know s c false) (thenX (fun s' => R P G C md B r s' Q) Q)) := _root_.id rfl
theorem R_op : R P G C md B (.op dst o none r) ⟨t, h, n⟩ Q = opK P G C md o ⟨t, h, n⟩ fun v s' => R P G C md B r (s'.put dst v) Q := _root_.id rfl
/-- A guarded operation at the guard's value. -/
def gX (P : Program) (G : Glo) (C : CT) (md : FuncId → Bool) (B : Nat) (dst : Option Nat) (o : Op) (d : Nat) (w : Bool) (r : XC) (s : St) (Q : XE → St → Prop) : AV → Prop
  | .bool b => (b = w → opK P G C md o (s.put (some d) (.bool w)) fun v s' => R P G C md B r (s'.put dst v) Q) ∧ (b = !w → R P G C md B r ((s.put (some d) (.bool !w)).put dst (.con undef)) Q)
  | .con (.tuple a) => a = #[] ∧ R P G C md B r (s.put dst (.con undef)) Q
  | _ => False
theorem R_guard {w : Bool} : R P G C md B (.op dst o (some (d, w)) r) ⟨t, h, n⟩ Q = gX P G C md B dst o d w r ⟨t, h, n⟩ Q (t.getD d .any) := by
  simp only [R, guardG]
  generalize t.getD d .any = z
  cases z <;> rfl
theorem gX_tt : gX P G C md B dst o d true r s Q (.bool true) = opK P G C md o (s.put (some d) (.bool true)) fun v s' => R P G C md B r (s'.put dst v) Q := by simp [gX]
theorem gX_ft : gX P G C md B dst o d true r s Q (.bool false) = R P G C md B r ((s.put (some d) (.bool false)).put dst (.con undef)) Q := by simp [gX]
theorem gX_tf : gX P G C md B dst o d false r s Q (.bool true) = R P G C md B r ((s.put (some d) (.bool true)).put dst (.con undef)) Q := by simp [gX]
theorem gX_ff : gX P G C md B dst o d false r s Q (.bool false) = opK P G C md o (s.put (some d) (.bool false)) fun v s' => R P G C md B r (s'.put dst v) Q := by simp [gX]
theorem gX_t {b : Bool} : gX P G C md B dst o d true r s Q (.bool b) = ifB b (opK P G C md o (s.put (some d) (.bool true)) fun v s' => R P G C md B r (s'.put dst v) Q) (R P G C md B r ((s.put (some d) (.bool false)).put dst (.con undef)) Q) := by cases b <;> simp [gX, ifB]
theorem gX_f {b : Bool} : gX P G C md B dst o d false r s Q (.bool b) = ifB b (R P G C md B r ((s.put (some d) (.bool true)).put dst (.con undef)) Q) (opK P G C md o (s.put (some d) (.bool false)) fun v s' => R P G C md B r (s'.put dst v) Q) := by cases b <;> simp [gX, ifB]
theorem gX_u {w : Bool} : gX P G C md B dst o d w r s Q (.con undef) = R P G C md B r (s.put dst (.con undef)) Q := by simp [gX, undef]
-- slots
theorem put_none {v : AV} : St.put ⟨t, h, n⟩ none v = ⟨t, h, n⟩ := _root_.id rfl
theorem put_int {k : IntKind} {m : Int} : St.put ⟨t, h, n⟩ (some d) (.int k m) = ⟨t.set d (.int k m), h, n⟩ := _root_.id rfl
theorem put_bool {b : Bool} : St.put ⟨t, h, n⟩ (some d) (.bool b) = ⟨t.set d (.bool b), h, n⟩ := _root_.id rfl
theorem put_str {b : ByteArray} : St.put ⟨t, h, n⟩ (some d) (.str b) = ⟨t.set d (.str b), h, n⟩ := _root_.id rfl
theorem put_nil : St.put ⟨t, h, n⟩ (some d) .nil = ⟨t.set d .nil, h, n⟩ := _root_.id rfl
theorem put_any : St.put ⟨t, h, n⟩ (some d) .any = ⟨t.set d .any, h, n⟩ := _root_.id rfl
theorem put_con {v : Value} : St.put ⟨t, h, n⟩ (some d) (.con v) = ⟨t.set d (.con v), h, n⟩ := _root_.id rfl
theorem put_sl {es : List (List AV)} : St.put ⟨t, h, n⟩ (some d) (.sl es) = ⟨t.set d (.sl es), h, n⟩ := _root_.id rfl
theorem put_pf {es : List AV} : St.put ⟨t, h, n⟩ (some d) (.pf es) = ⟨t.set d (.pf es), h, n⟩ := _root_.id rfl
theorem put_agg {es : List AV} : St.put ⟨t, h, n⟩ (some d) (.agg es) = ⟨t.set d (.agg es), h, n⟩ := _root_.id rfl
theorem put_tup {es : List AV} : St.put ⟨t, h, n⟩ (some d) (.tup es) = ⟨t.set d (.tup es), h, n⟩ := _root_.id rfl
theorem put_fn {f : FuncId} {es : List AV} : St.put ⟨t, h, n⟩ (some d) (.fn f es) = ⟨t.set d (.fn f es), h, n⟩ := _root_.id rfl
theorem put_ref {i : Nat} {sub : Option (Nat × Nat × Nat)} {a b c : Nat} : St.put ⟨t, h, n⟩ (some d) (.ref i sub a b c) = ⟨t.set d (.ref i sub a b c), h, n⟩ := _root_.id rfl
theorem put_ptr {i : Nat} {sub : Option (Nat × Nat × Nat)} {a b c : Nat} : St.put ⟨t, h, n⟩ (some d) (.ptr i sub a b c) = ⟨t.set d (.ptr i sub a b c), h, n⟩ := _root_.id rfl
theorem know_tmp {b : Bool} : know ⟨t, h, n⟩ (.tmp d) b = ⟨t.set d (.bool b), h, n⟩ := _root_.id rfl
-- operands
theorem ev_tmp : ev G ⟨t, h, n⟩ (.tmp d) = t.getD d .any := _root_.id rfl
theorem ev_int {k : IntKind} {m : Int} : ev G s (.const (.int k m)) = .int k m := _root_.id rfl
theorem ev_bool {b : Bool} : ev G s (.const (.bool b)) = .bool b := _root_.id rfl
theorem ev_str {b : ByteArray} : ev G s (.const (.string b)) = .str b := _root_.id rfl
theorem ev_nil : ev G s (.const (.slice none 0 0)) = .nil := _root_.id rfl
theorem ev_func {f : FuncId} : ev G s (.func f) = .fn f [] := _root_.id rfl
-- operations
theorem o_move {x : Operand} : opK P G C md (.move x) s K = K (ev G s x) s := _root_.id rfl
theorem o_assign {x : Operand} : opK P G C md (.assign x) s K = K (ev G s x) s := _root_.id rfl
def pickK (a b : AV) (K : AV → Prop) : AV → Prop
  | .bool true => K a
  | .bool false => K b
  | _ => False
theorem o_pick {c x y : Operand} : opK P G C md (.pick c x y) s K = pickK (ev G s x) (ev G s y) (fun v => K v s) (ev G s c) := by
  simp only [opK]
  cases ev G s c <;> rfl
theorem pick_true {a b : AV} {K : AV → Prop} : pickK a b K (.bool true) = K a := _root_.id rfl
theorem pick_false {a b : AV} {K : AV → Prop} : pickK a b K (.bool false) = K b := _root_.id rfl
theorem o_bin {op : BinOp} {ty ty' : TypeId} {x y : Operand} : opK P G C md (.binOp op ty x y ty') s K = binK P op ty (ev G s x) (ev G s y) (fun v => K v s) := _root_.id rfl
theorem o_un {op : UnOp} {ty : TypeId} {x : Operand} : opK P G C md (.unOp op ty x) s K = unK op (ev G s x) (fun v => K v s) := _root_.id rfl
theorem o_conv {a b : TypeId} {x : Operand} : opK P G C md (.convert a b x) s K = convK P a b (ev G s x) (fun v => K v s) := _root_.id rfl
def extrK (i : Nat) (K : AV → Prop) : AV → Prop
  | .tup vs => match vs[i]? with
    | some v => K v
    | none => False
  | _ => False
theorem o_extr {x : Operand} {i : Nat} : opK P G C md (.extract x i) s K = extrK i (fun v => K v s) (ev G s x) := by
  simp only [opK]
  cases ev G s x <;> rfl
theorem o_faddr {ty : TypeId} {x : Operand} {j : Nat} : opK P G C md (.fieldAddr ty x j) s K = faddrK P ty (ev G s x) j (fun v => K v s) := _root_.id rfl
theorem o_iaddr {ty : TypeId} {x i : Operand} : opK P G C md (.indexAddr ty x i) s K = iaddrK P ty (ev G s x) (ev G s i) (fun v => K v s) := _root_.id rfl
theorem o_idx {ty : TypeId} {x i : Operand} : opK P G C md (.index ty x i) s K = idxK P ty (ev G s x) (ev G s i) (fun v => K v s) := _root_.id rfl
theorem o_slice {ty : TypeId} {x : Operand} {lo hi : Option Operand} : opK P G C md (.slice ty x lo hi none) s K = sliceK P ty (ev G s x) (lo.map (ev G s)) (hi.map (ev G s)) (fun v => K v s) := _root_.id rfl
theorem o_load {ty : TypeId} {x : Operand} : opK P G C md (.load ty x) s K = loadK P s.heap ty (ev G s x) (fun v => K v s) := _root_.id rfl
theorem o_store {ty : TypeId} {x v : Operand} : opK P G C md (.store ty x v) s K = storeK P s ty (ev G s x) (ev G s v) (fun s' => K .any s') := _root_.id rfl
theorem o_alloc {ty : TypeId} : opK P G C md (.alloc ty) s K = allocK P s ty K := _root_.id rfl
theorem o_box {ty : TypeId} {x : Operand} : opK P G C md (.box ty x) s K = boxK s (ev G s x) K := _root_.id rfl
theorem o_build {ty : TypeId} {ps : Array (Nat × Operand)} : opK P G C md (.build ty ps) s K = buildK P ty (ps.toList.map fun p => (p.1, ev G s p.2)) (fun v => K v s) := _root_.id rfl
theorem o_buildS {ty : TypeId} {m : Nat} {ps : Array (Nat × Operand)} : opK P G C md (.buildSlice ty m ps) s K = ((m = 0 → ps.toList = []) ∧ buildSliceK P s ty m (ps.toList.map fun p => (p.1, ev G s p.2)) K) := _root_.id rfl
theorem o_make {ty : TypeId} {l c : Operand} : opK P G C md (.makeSlice ty l c) s K = makeSliceK P s ty (ev G s l) (ev G s c) K := _root_.id rfl
theorem o_len {x : Operand} {ty : TypeId} : opK P G C md (.call ⟨.builtin .len, ⟨[x]⟩, ⟨[ty]⟩⟩) s K = lenK P ty (ev G s x) (fun v => K v s) := _root_.id rfl
theorem o_append {x y : Operand} {ty ty' : TypeId} : opK P G C md (.call ⟨.builtin .append, ⟨[x, y]⟩, ⟨[ty, ty']⟩⟩) s K = appendK P s ty ty' (ev G s x) (ev G s y) K := _root_.id rfl
theorem o_min {x y : Operand} {ty ty' : TypeId} : opK P G C md (.call ⟨.builtin .min, ⟨[x, y]⟩, ⟨[ty, ty']⟩⟩) s K = minK (ev G s x) (ev G s y) (fun v => K v s) := _root_.id rfl
theorem o_max {x y : Operand} {ty ty' : TypeId} : opK P G C md (.call ⟨.builtin .max, ⟨[x, y]⟩, ⟨[ty, ty']⟩⟩) s K = maxK (ev G s x) (ev G s y) (fun v => K v s) := _root_.id rfl
theorem o_call {f : Operand} {xs : List Operand} {tys : Array TypeId} : opK P G C md (.call ⟨.value f, ⟨xs⟩, tys⟩) s K = callK C md s (ev G s f) (xs.map (ev G s)) K := _root_.id rfl
theorem o_mkfn {f : FuncId} {caps : Array Operand} : opK P G C md (.makeFunc (.func f) ⟨[]⟩ caps) s K = (K (.fn f (evL G s caps)) s ∧ opK.allCells (evL G s caps) = true) := by
  simp [opK]
end
-- comparisons
theorem b_int {P : Program} {op : BinOp} {ty : TypeId} {k : IntKind} {a b : Int} {K : AV → Prop} (h : op ≠ .shl ∧ op ≠ .shr) : binK P op ty (.int k a) (.int k b) K = intK op k a b K := by
  unfold binK
  cases op <;> simp_all
theorem mid_get {α : Type} {A B : List α} {x : α} {i : Nat} (h : A.length = i) : (A ++ x :: B)[i]? = some x := by
  subst h; simp
theorem mid_set {α : Type} {A B : List α} {x y : α} {i : Nat} (h : A.length = i) : (A ++ x :: B).set i y = A ++ y :: B := by
  subst h; simp
mutual
theorem NilTo.refl : ∀ x : AV, NilTo x x
  | .nil => by simp [NilTo]
  | .ow sz es => by simp only [NilTo]; exact ⟨es, rfl, NilToLL.refl es⟩
  | .agg xs => by simp only [NilTo]; exact ⟨xs, rfl, NilToL.refl xs⟩
  | .tup xs => by simp only [NilTo]; exact ⟨xs, rfl, NilToL.refl xs⟩
  | .op xs => by simp only [NilTo]; exact ⟨xs, rfl, NilToL.refl xs⟩
  | .any => by simp [NilTo]
  | .con _ => by simp [NilTo]
  | .int _ _ => by simp [NilTo]
  | .bool _ => by simp [NilTo]
  | .str _ => by simp [NilTo]
  | .sl _ => by simp [NilTo]
  | .pf _ => by simp [NilTo]
  | .ref _ _ _ _ _ => by simp [NilTo]
  | .ptr _ _ _ _ _ => by simp [NilTo]
  | .fn _ _ => by simp [NilTo]
theorem NilToL.refl : ∀ xs : List AV, NilToL xs xs
  | [] => by simp [NilToL]
  | x :: xs => by simp only [NilToL]; exact ⟨x, xs, rfl, NilTo.refl x, NilToL.refl xs⟩
theorem NilToLL.refl : ∀ xs : List (List AV), NilToLL xs xs
  | [] => by simp [NilToLL]
  | x :: xs => by simp only [NilToLL]; exact ⟨x, xs, rfl, NilToL.refl x, NilToLL.refl xs⟩
end
/-- A result that is a slice of one's own. -/
theorem RetTo_ow {h : Heap} {id sz len : Nat} {es : List (List AV)} (hg : hget h id = some (.slice sz es)) (hl : len = es.length) : RetTo h (.ref id none sz 0 len) (.ow sz es) := by
  refine ⟨.ow sz es, hdel h id, ?_, NilTo.refl _⟩
  simp [conR, hg, hl]
/-- What is read back as itself. -/
theorem RetTo_of {h h2 : Heap} {v r : AV} (hc : conR 8 h v = some (r, h2)) : RetTo h v r := ⟨r, h2, hc, NilTo.refl r⟩
end Go.Proofs.YtlddjlchgibdfaaDoor.X
