import Derived.Test.YtlddjlchgibdfaaDoorXHeap
set_option linter.unusedVariables false
set_option linter.unusedSimpArgs false
namespace Go.Proofs.YtlddjlchgibdfaaDoor.X
open Go

/-! ### Constants, layouts -/
def ofC : Value → AV
  | .int k n => .int k n
  | .bool b => .bool b
  | .string s => .str s
  | .slice none 0 0 => .nil
  | v => .con v
def ofV : Value → AV
  | .agg cs => if cs.toList.all (·.oneCell') then .agg (cs.toList.map ofC) else .any
  | .tuple _ => .any
  | v => ofC v
theorem ofC_S (hd : Nat → Value) (n : Nat) (w : World) (I : Nat → Prop) (v : Value) : S hd n w I (ofC v) v := by
  unfold ofC
  split <;> simp [S]
theorem ofC_SL (hd : Nat → Value) (n : Nat) (w : World) (I : Nat → Prop) : ∀ vs : List Value, (∀ v ∈ vs, v.oneCell' = true) → SL hd n w I (vs.map ofC) vs
  | [], _ => by simp [SL]
  | v :: vs, h => by
    simp only [List.map_cons, SL]
    exact ⟨v, vs, rfl, h v (by simp), ofC_S hd n w I v, ofC_SL hd n w I vs (fun u hu => h u (by simp [hu]))⟩
theorem ofV_S (hd : Nat → Value) (n : Nat) (w : World) (I : Nat → Prop) (v : Value) : S hd n w I (ofV v) v := by
  unfold ofV
  split
  · split
    · rename_i cs h
      simp only [S]
      exact ⟨cs, rfl, ofC_SL hd n w I _ (List.all_eq_true.1 h)⟩
    · simp [S]
  · simp [S]
  · exact ofC_S hd n w I v

inductive TK where
  | slice (e : TypeId)
  | array (n : Nat) (e : TypeId)
  | struct (fs : List (Nat × Nat))
  | str
  | bool
  | int (k : IntKind)
  | ptr (e : TypeId)
  | other
def szOf (P : Program) (t : TypeId) : Nat := (P.info? t).elim 0 (·.size)
def byOf (P : Program) (t : TypeId) : Nat := (P.info? t).elim 0 (·.bytes)
def zeroOf (P : Program) (t : TypeId) : AV := ((P.info? t).bind (·.zero)).elim .any ofV
def tk (P : Program) (t : TypeId) : TK :=
  match P.underlying t with
  | some (.slice e) => .slice e
  | some (.array n e) => .array n e
  | some (.struct fs) => .struct (fs.toList.map fun f => (f.offset, szOf P f.type))
  | some .string => .str
  | some .bool => .bool
  | some (.int k) => .int k
  | some (.pointer e) => .ptr e
  | _ => .other

section
variable {P : Program} {t e : TypeId}
theorem tk_slice (h : tk P t = .slice e) : P.underlying t = some (.slice e) := by
  unfold tk at h; split at h <;> simp_all
theorem tk_array {n : Nat} (h : tk P t = .array n e) : P.underlying t = some (.array n e) := by
  unfold tk at h; split at h <;> simp_all
theorem tk_struct {fs : List (Nat × Nat)} (h : tk P t = .struct fs) : ∃ f, P.underlying t = some (.struct f) ∧ fs = f.toList.map fun f => (f.offset, szOf P f.type) := by
  unfold tk at h; split at h <;> simp_all
theorem tk_str (h : tk P t = .str) : P.underlying t = some .string := by
  unfold tk at h; split at h <;> simp_all
theorem tk_bool (h : tk P t = .bool) : P.underlying t = some .bool := by
  unfold tk at h; split at h <;> simp_all
theorem tk_int {k : IntKind} (h : tk P t = .int k) : P.underlying t = some (.int k) := by
  unfold tk at h; split at h <;> simp_all
theorem szOf_pos (h : szOf P t ≠ 0) : ∃ i, P.info? t = some i ∧ i.size = szOf P t := by
  unfold szOf at h ⊢
  cases hi : P.info? t with
  | none => simp [hi] at h
  | some i => exact ⟨i, rfl, by simp⟩
end

/-! ### Operands -/
def ev (G : Glo) (s : St) : Operand → AV
  | .tmp t => s.tmps.getD t .any
  | .const v => ofV v
  | .global g => match G g with | some cs => .pf cs | none => .any
  | .func f => .fn f []

theorem ev_sound {G : Glo} {M I : Nat → Prop} {s : St} {hd : Nat → Value} {Fp : Nat → List Nat} {a : Act} {w : World} (h : SR G M I s hd Fp a w) (x : Operand) : S hd s.next w I (ev G s x) (a.eval x) := by
  cases x with
  | tmp t => exact h.slots t
  | const v => exact ofV_S hd _ w I v
  | global g =>
    simp only [ev, Act.eval]
    cases hg : G g with
    | none => simp [S]
    | some cs => simp only [S]; exact h.heap.glo g cs hg
  | func f => simp [ev, Act.eval, S, SL]

/-- Guaranteed over steps. -/
structure Ext (M I I' : Nat → Prop) (B : Nat) (hd hd' : Nat → Value) (w w' : World) : Prop where
  keep : Keep M w w'
  im : ∀ b, I b → I' b ∧ w'.heap[b]? = w.heap[b]?
  hds : ∀ id, id < B → hd' id = hd id
theorem Ext.refl (M I : Nat → Prop) (B : Nat) (hd : Nat → Value) (w : World) : Ext M I I B hd hd w w := ⟨Keep.refl _ _, fun _ h => ⟨h, rfl⟩, fun _ _ => rfl⟩
theorem Ext.trans {M I I' I2 : Nat → Prop} {B : Nat} {hd hd' hd2 : Nat → Value} {w w' w2 : World} (h : Ext M I I' B hd hd' w w') (k : Ext M I' I2 B hd' hd2 w' w2) : Ext M I I2 B hd hd2 w w2 :=
  ⟨h.keep.trans k.keep, fun b hb => ⟨(k.im b (h.im b hb).1).1, (k.im b (h.im b hb).1).2.trans (h.im b hb).2⟩, fun id hid => (k.hds id hid).trans (h.hds id hid)⟩
theorem Ext.less {M I I' : Nat → Prop} {B B' : Nat} {hd hd' : Nat → Value} {w w' : World} (h : Ext M I I' B hd hd' w w') (hB : B' ≤ B) : Ext M I I' B' hd hd' w w' := ⟨h.keep, h.im, fun id hid => h.hds id (Nat.lt_of_lt_of_le hid hB)⟩

/-- What an operation's run comes to. -/
def OpRes (G : Glo) (M I : Nat → Prop) (s : St) (hd : Nat → Value) (a : Act) (w : World) (K : AV → St → Prop) (r : Next) (w' : World) : Prop :=
  ∃ v av s' I' hd' Fp', (r = .value v ∨ (r = .skip ∧ v = undef)) ∧ K av s' ∧ S hd' s'.next w' I' av v ∧ SR G M I' s' hd' Fp' a w' ∧ Ext M I I' s.next hd hd' w w' ∧ s.next ≤ s'.next
def OpOk (P : Program) (G : Glo) (M I : Nat → Prop) (s : St) (hd : Nat → Value) (a : Act) (w : World) (K : AV → St → Prop) (m : Sem Next) : Prop :=
  ∃ r w', m.run P w = .ok r w' ∧ OpRes G M I s hd a w K r w'

section
variable {P : Program} {G : Glo} {M I : Nat → Prop} {s : St} {hd : Nat → Value} {Fp : Nat → List Nat} {a : Act} {w : World} {K : AV → St → Prop}
theorem OpOk.pure (h : SR G M I s hd Fp a w) {m : Sem Next} {v : Value} {av : AV} (hm : m.run P w = .ok (.value v) w) (hv : S hd s.next w I av v) (hK : K av s) : OpOk P G M I s hd a w K m :=
  ⟨_, w, hm, v, av, s, I, hd, Fp, .inl rfl, hK, hv, h, Ext.refl _ _ _ _ _, Nat.le_refl _⟩
end

/-- The older blocks are as they were. -/
def SameB (w w' : World) : Prop := w.heap.size ≤ w'.heap.size ∧ ∀ b, b < w.heap.size → w'.heap[b]? = w.heap[b]?
theorem SameB.refl (w : World) : SameB w w := ⟨Nat.le_refl _, fun _ _ => rfl⟩
theorem SameB.trans {w w1 w2 : World} (h : SameB w w1) (k : SameB w1 w2) : SameB w w2 := ⟨Nat.le_trans h.1 k.1, fun b hb => (k.2 b (Nat.lt_of_lt_of_le hb h.1)).trans (h.2 b hb)⟩
theorem SameB.cell {w w' : World} (h : SameB w w') {b o : Nat} {v : Value} (hc : w.cell? ⟨b, o, none⟩ = some v) : w'.cell? ⟨b, o, none⟩ = some v := by
  have hb : b < w.heap.size := by
    rcases Nat.lt_or_ge b w.heap.size with g | g
    · exact g
    · simp [World.cell?, Array.getElem?_eq_none g] at hc
  unfold World.cell? at hc ⊢
  simp only at hc ⊢
  rw [h.2 b hb]; exact hc

/-! ### Operators -/
def intK (op : BinOp) (k : IntKind) (a b : Int) (K : AV → Prop) : Prop :=
  match op with
  | .add => K (.int k (k.wrap (a + b)))
  | .sub => K (.int k (k.wrap (a - b)))
  | .mul => K (.int k (k.wrap (a * b)))
  | .quo => b ≠ 0 ∧ K (.int k (k.wrap (a.tdiv b)))
  | .rem => b ≠ 0 ∧ K (.int k (a.tmod b))
  | .eql => K (.bool (a == b))
  | .neq => K (.bool (a != b))
  | .lss => K (.bool (decide (a < b)))
  | .leq => K (.bool (decide (a ≤ b)))
  | .gtr => K (.bool (decide (a > b)))
  | .geq => K (.bool (decide (a ≥ b)))
  | _ => False
def strK (op : BinOp) (a b : ByteArray) (K : AV → Prop) : Prop :=
  match op with
  | .add => ((a.size + b.size : Nat) : Int) ≤ 9223372036854775807 ∧ K (.str (a ++ b))
  | .eql => K (.bool (a.toList == b.toList))
  | .neq => K (.bool (!(a.toList == b.toList)))
  | .lss => K (.bool (Op.bytesLess a.toList b.toList))
  | .leq => K (.bool (Op.bytesLess a.toList b.toList || a.toList == b.toList))
  | .gtr => K (.bool (!(Op.bytesLess a.toList b.toList || a.toList == b.toList)))
  | .geq => K (.bool (!Op.bytesLess a.toList b.toList))
  | _ => False
def isInts : List AV → List AV → Bool
  | [], [] => true
  | .int k a :: xs, .int k' b :: ys => k = k' && isInts xs ys
  | _, _ => false
def eqInts : List AV → List AV → Bool
  | .int _ a :: xs, .int _ b :: ys => a == b && eqInts xs ys
  | _, _ => true
def binK (P : Program) (op : BinOp) (t : TypeId) (x y : AV) (K : AV → Prop) : Prop :=
  match x, y with
  | .int k a, .int k' b => match op with
    | .shl => 0 ≤ b ∧ K (.int k (k.wrap (a * 2 ^ (min b.toNat k.bits))))
    | .shr => 0 ≤ b ∧ K (.int k (a.fdiv (2 ^ (min b.toNat k.bits))))
    | _ => k = k' ∧ intK op k a b K
  | .str a, .str b => strK op a b K
  | .bool a, .bool b => match tk P t, op with
    | .bool, .eql => K (.bool (a == b))
    | .bool, .neq => K (.bool (!(a == b)))
    | _, _ => False
  | .sl es, .nil => match tk P t, op with
    | .slice _, .eql => ∀ b : Bool, (b = true → es = []) → K (.bool b)
    | .slice _, .neq => ∀ b : Bool, (b = false → es = []) → K (.bool b)
    | _, _ => False
  | .nil, .nil => match tk P t, op with
    | .slice _, .eql => K (.bool true)
    | .slice _, .neq => K (.bool false)
    | _, _ => False
  | .ref _ none _ _ len, .nil => match tk P t, op with
    | .slice _, .eql => ∀ b : Bool, (b = true → len = 0) → K (.bool b)
    | .slice _, .neq => ∀ b : Bool, (b = false → len = 0) → K (.bool b)
    | _, _ => False
  | _, _ => False
def unK (op : UnOp) (x : AV) (K : AV → Prop) : Prop :=
  match op, x with
  | .neg, .int k n => K (.int k (k.wrap (0 - n)))
  | .not, .bool b => K (.bool !b)
  | _, _ => False

theorem ne_agg {v : Value} {k : IntKind} {n : Int} (h : v = .int k n) : ∀ x, v ≠ .agg x := by rintro x rfl; cases h

section
variable {P : Program} {G : Glo} {M I : Nat → Prop} {s : St} {hd : Nat → Value} {Fp : Nat → List Nat} {a : Act} {w : World}
theorem S_int {n : Nat} {k : IntKind} {m : Int} : S hd n w I (.int k m) (.int k m) := by simp [S]
theorem S_bool {n : Nat} {b : Bool} : S hd n w I (.bool b) (.bool b) := by simp [S]
theorem S_str {n : Nat} {b : ByteArray} : S hd n w I (.str b) (.string b) := by simp [S]
theorem intK_sound {op : BinOp} {k : IntKind} {x y : Int} {K : AV → Prop} (h : intK op k x y K) (hs : op ≠ .shl ∧ op ≠ .shr) (t : TypeId) (n : Nat) :
    ∃ v av, (∀ w : World, (binOp op t (.int k x) (.int k y)).run P w = .ok v w) ∧ K av ∧ S hd n w I av v := by
  unfold intK at h
  split at h
  all_goals first | exact h.elim | skip
  case h_1 => refine ⟨_, _, fun w => ?_, h, S_int⟩; simp [binOp, Op.intArith]
  case h_2 => refine ⟨_, _, fun w => ?_, h, S_int⟩; simp [binOp, Op.intArith]
  case h_3 => refine ⟨_, _, fun w => ?_, h, S_int⟩; simp [binOp, Op.intArith]
  case h_4 => refine ⟨_, _, fun w => ?_, h.2, S_int⟩; simp [binOp, Op.intDiv, h.1]
  case h_5 => refine ⟨_, _, fun w => ?_, h.2, S_int⟩; simp [binOp, Op.intDiv, h.1]
  all_goals refine ⟨_, _, fun w => ?_, h, S_bool⟩; simp [binOp, Op.intCmp]
theorem strK_sound {op : BinOp} {x y : ByteArray} {K : AV → Prop} (h : strK op x y K) (t : TypeId) (n : Nat) :
    ∃ v av, (∀ w : World, (binOp op t (.string x) (.string y)).run P w = .ok v w) ∧ K av ∧ S hd n w I av v := by
  unfold strK at h
  split at h
  all_goals first | exact h.elim | skip
  case h_1 =>
    have h1 := h.1
    have hm : IntKind.i64.max = 9223372036854775807 := rfl
    refine ⟨_, _, fun w => ?_, h.2, S_str⟩
    simp only [binOp, Op.stringOp, hm]
    rw [if_neg (by omega)]
    rfl
  all_goals refine ⟨_, _, fun w => ?_, h, S_bool⟩; simp [binOp, Op.stringOp]

theorem equal_bool {t : TypeId} (ht : P.underlying t = some .bool) (x y : Bool) : (Op.equal t (.bool x) (.bool y)).run P w = .ok (x == y) w := by
  show (Op.equalIn (9999 + 1) t _ _).run P w = _
  rw [Op.equalIn]
  simp [run_underlying ht]
theorem equal_slice_nil {t e : TypeId} (ht : P.underlying t = some (.slice e)) (A : Option Addr) (n c : Nat) : (Op.equal t (.slice A n c) (.slice none 0 0)).run P w = .ok A.isNone w := by
  show (Op.equalIn (9999 + 1) t _ _).run P w = _
  rw [Op.equalIn]
  cases A <;> simp [run_underlying ht]

theorem binK_sound {op : BinOp} {t : TypeId} {x y : AV} {K : AV → Prop} (h : binK P op t x y K) {n : Nat} {u v : Value} (hx : S hd n w I x u) (hy : S hd n w I y v) :
    ∃ r av, (∀ w : World, (binOp op t u v).run P w = .ok r w) ∧ K av ∧ S hd n w I av r := by
  unfold binK at h
  split at h
  · simp only [S] at hx hy
    subst hx; subst hy
    split at h
    · refine ⟨_, _, fun w => ?_, h.2, S_int⟩
      simp [binOp, Op.shift, Int.not_lt.2 h.1]
    · refine ⟨_, _, fun w => ?_, h.2, S_int⟩
      simp [binOp, Op.shift, Int.not_lt.2 h.1]
    · obtain ⟨rfl, h⟩ := h
      exact intK_sound h ⟨by assumption, by assumption⟩ t n
  · simp only [S] at hx hy
    subst hx; subst hy
    exact strK_sound h t n
  · simp only [S] at hx hy
    subst hx; subst hy
    split at h
    · rename_i ht
      refine ⟨_, _, fun w => ?_, h, S_bool⟩
      simp [binOp, equal_bool (tk_bool ht)]
    · rename_i ht
      refine ⟨_, _, fun w => ?_, h, S_bool⟩
      simp [binOp, equal_bool (tk_bool ht)]
    · exact h.elim
  · simp only [S] at hx hy
    subst hy
    simp only [T] at hx
    obtain ⟨_, A, c, rfl, hc, hm, hA⟩ := hx
    split at h
    · rename_i ht
      refine ⟨_, _, fun w => ?_, h A.isNone (fun e => ?_), S_bool⟩
      · simp [binOp, equal_slice_nil (tk_slice ht)]
      · rcases hA with hA | ⟨b, o, sz, vs, rfl, _⟩
        · exact hA
        · simp at e
    · rename_i ht
      refine ⟨_, _, fun w => ?_, h (!A.isNone) (fun e => ?_), S_bool⟩
      · simp [binOp, equal_slice_nil (tk_slice ht)]
      · rcases hA with hA | ⟨b, o, sz, vs, rfl, _⟩
        · exact hA
        · simp at e
    · exact h.elim
  · simp only [S] at hx hy
    subst hx; subst hy
    split at h
    · rename_i ht
      refine ⟨_, _, fun w => ?_, h, S_bool⟩
      simp [binOp, equal_slice_nil (tk_slice ht)]
    · rename_i ht
      refine ⟨_, _, fun w => ?_, h, S_bool⟩
      simp [binOp, equal_slice_nil (tk_slice ht)]
    · exact h.elim
  · simp only [S] at hx hy
    subst hy
    obtain ⟨hlt0, h0, hh0, hw⟩ := hx
    rename_i len
    have hA : ∃ A c, u = .slice A len c ∧ (A.isNone = true → len = 0) := by
      rcases hw with ⟨b, o, n, c, c', _, rfl, _⟩ | ⟨h1, A, rfl⟩
      · exact ⟨_, _, rfl, by simp⟩
      · exact ⟨A, 0, by rw [h1], fun _ => h1⟩
    obtain ⟨A, c, rfl, hA⟩ := hA
    split at h
    · rename_i ht
      refine ⟨_, _, fun w => ?_, h A.isNone hA, S_bool⟩
      simp [binOp, equal_slice_nil (tk_slice ht)]
    · rename_i ht
      refine ⟨_, _, fun w => ?_, h (!A.isNone) (fun e => hA (by simpa using e)), S_bool⟩
      simp [binOp, equal_slice_nil (tk_slice ht)]
    · exact h.elim
  · exact h.elim
theorem unK_sound {op : UnOp} {x : AV} {K : AV → Prop} (h : unK op x K) {n : Nat} {u : Value} (hx : S hd n w I x u) :
    ∃ r av, (∀ w : World, (Op.unary op u).run P w = .ok r w) ∧ K av ∧ S hd n w I av r := by
  unfold unK at h
  split at h
  · simp only [S] at hx; subst hx
    refine ⟨_, _, fun w => ?_, h, S_int⟩
    simp [Op.unary, Op.intArith]
  · simp only [S] at hx; subst hx
    refine ⟨_, _, fun w => ?_, h, S_bool⟩
    simp [Op.unary]
  · exact h.elim
/-- The guard of an equality is idle at what we compare. -/
theorem eqGuard_idle {op : BinOp} {t : TypeId} {x y : Operand} {u v : Value} (hu : u ≠ .nilIface) (ha : ∀ cs, u ≠ .agg cs) : (eqGuard op t x y u v).run P w = .ok () w := by
  cases op <;> first
    | rfl
    | (cases u <;> first | exact absurd rfl hu | exact absurd rfl (ha _) | (cases v <;> rfl))
end
theorem eqs_ofC : True := by
  have := @ofC.eq_1
  trivial
theorem eqs_ofV : True := by
  have := @ofV.eq_1
  trivial
theorem eqs_intK : True := by
  have := @intK.eq_1
  trivial
theorem eqs_strK : True := by
  have := @strK.eq_1
  trivial
theorem eqs_binK : True := by
  have := @binK.eq_1
  trivial
theorem eqs_unK : True := by
  have := @unK.eq_1
  trivial
end Go.Proofs.YtlddjlchgibdfaaDoor.X
