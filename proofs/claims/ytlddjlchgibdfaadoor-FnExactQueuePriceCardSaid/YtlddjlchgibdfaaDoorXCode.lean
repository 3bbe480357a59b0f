import Derived.Test.YtlddjlchgibdfaaDoorXCall
set_option linter.unusedVariables false
set_option linter.unusedSimpArgs false
namespace Go.Proofs.YtlddjlchgibdfaaDoor.X
open Go

/-! ### The loop's head: what is kept, by new names -/
inductive Keepd where
  | drop
  | keep
  | obj (id sz : Nat)
def lkp (ρ : List (Nat × Nat)) (id : Nat) : Option Nat :=
  match ρ with
  | [] => none
  | (o, n) :: r => if o = id then some n else lkp r id
mutual
def ren (B : Nat) (ρ : List (Nat × Nat)) : AV → AV
  | .ref id sub sz off len => if id < B then .ref id sub sz off len else match lkp ρ id with | some j => .ref j sub sz off len | none => .any
  | .ptr id sub sz i c => if id < B then .ptr id sub sz i c else match lkp ρ id with | some j => .ptr j sub sz i c | none => .any
  | .fn f caps => .fn f (renL B ρ caps)
  | .agg cs => .agg (renL B ρ cs)
  | .tup cs => .tup (renL B ρ cs)
  | x => x
def renL (B : Nat) (ρ : List (Nat × Nat)) : List AV → List AV
  | [] => []
  | x :: xs => ren B ρ x :: renL B ρ xs
end

/-! ### Operations -/
def minK (x y : AV) (K : AV → Prop) : Prop :=
  match x, y with
  | .int k a, .int _ b => K (.int k (if b < a then b else a))
  | _, _ => False
def maxK (x y : AV) (K : AV → Prop) : Prop :=
  match x, y with
  | .int k a, .int _ b => K (.int k (if b > a then b else a))
  | _, _ => False
def lenK (P : Program) (t : TypeId) (x : AV) (K : AV → Prop) : Prop :=
  match tk P t, x with
  | .slice _, .ref _ _ _ _ len => K (.int .i64 len)
  | .slice _, .sl es => K (.int .i64 es.length)
  | .slice _, .nil => K (.int .i64 0)
  | .str, .str s => K (.int .i64 s.size)
  | _, _ => False
def convK (P : Program) (src dst : TypeId) (x : AV) (K : AV → Prop) : Prop :=
  match tk P src, tk P dst, x with
  | .int _, .int k, .int _ n => K (.int k (k.wrap n))
  | _, _, _ => False
def evL (G : Glo) (s : St) (xs : Array Operand) : List AV := xs.toList.map (ev G s)

mutual
def frzOk : AV → Bool
  | .any | .con _ | .int .. | .bool _ | .str _ | .nil | .sl _ | .pf _ => true
  | .fn _ caps => frzOkL caps
  | .agg cs => frzOkL cs
  | _ => false
def frzOkL : List AV → Bool
  | [] => true
  | x :: xs => frzOk x && frzOkL xs
end
/-- What a call in a heap of its own comes to: a result that is all its own. -/
def Ev (C : CT) (f : FuncId) (ts : List AV) (r : AV) : Prop :=
  ∃ K0 : AV → Heap → Nat → Prop, C f ts [] 0 K0 ∧ ownR r = true ∧ ∀ v h' n', K0 v h' n' → ∃ r0 h2, conR 8 h' v = some (r0, h2) ∧ NilTo r0 r
def callK (C : CT) (md : FuncId → Bool) (s : St) (f : AV) (args : List AV) (K : AV → St → Prop) : Prop :=
  match f with
  | .fn g caps => if md g then (∃ K0 : AV → Heap → Nat → Prop, C g (args ++ caps) s.heap s.next K0 ∧ ∀ v h' n', K0 v h' n' → s.next ≤ n' → K v (killSt ⟨s.tmps, h', n'⟩))
    else match frzAL s.heap 8 (args ++ caps) with
      | some ts => frzOkL ts = true ∧ ∃ r, Ev C g ts r ∧ K (imp s.next r).1 ⟨s.tmps, (imp s.next r).2.1 ++ s.heap, (imp s.next r).2.2⟩
      | none => False
  | _ => False

def opK (P : Program) (G : Glo) (C : CT) (md : FuncId → Bool) (op : Op) (s : St) (K : AV → St → Prop) : Prop :=
  match op with
  | .move x => K (ev G s x) s
  | .assign x => K (ev G s x) s
  | .pick c a b => match ev G s c with
    | .bool true => K (ev G s a) s
    | .bool false => K (ev G s b) s
    | _ => False
  | .binOp op t x y _ => binK P op t (ev G s x) (ev G s y) (fun v => K v s)
  | .unOp op _ x => unK op (ev G s x) (fun v => K v s)
  | .convert src dst x => convK P src dst (ev G s x) (fun v => K v s)
  | .extract x i => match ev G s x with
    | .tup vs => match vs[i]? with
      | some v => K v s
      | none => False
    | _ => False
  | .nilCheck x => match ev G s x with
    | .ptr id sub sz i c => K (.ptr id sub sz i c) s
    | .pf cs => K (.pf cs) s
    | _ => False
  | .makeFunc (.func f) first caps => first.size = 0 ∧ K (.fn f (evL G s caps)) s ∧ allCells (evL G s caps) = true
  | .fieldAddr t x j => faddrK P t (ev G s x) j (fun v => K v s)
  | .indexAddr t x i => iaddrK P t (ev G s x) (ev G s i) (fun v => K v s)
  | .index t x i => idxK P t (ev G s x) (ev G s i) (fun v => K v s)
  | .slice t x lo hi none => sliceK P t (ev G s x) (lo.map (ev G s)) (hi.map (ev G s)) (fun v => K v s)
  | .load t x => loadK P s.heap t (ev G s x) (fun v => K v s)
  | .store t x v => storeK P s t (ev G s x) (ev G s v) (fun s' => K .any s')
  | .alloc t => allocK P s t K
  | .box t x => boxK s (ev G s x) K
  | .build t ps => buildK P t (ps.toList.map fun p => (p.1, ev G s p.2)) (fun v => K v s)
  | .buildSlice t n ps => (n = 0 → ps.toList = []) ∧ buildSliceK P s t n (ps.toList.map fun p => (p.1, ev G s p.2)) K
  | .makeSlice t l c => makeSliceK P s t (ev G s l) (ev G s c) K
  | .call c => match c.callee, c.args.toList, c.argTypes.toList with
    | .builtin .len, [x], t :: _ => lenK P t (ev G s x) (fun v => K v s)
    | .builtin .append, [x, y], [t, tx] => appendK P s t tx (ev G s x) (ev G s y) K
    | .builtin .min, [x, y], _ => minK (ev G s x) (ev G s y) (fun v => K v s)
    | .builtin .max, [x, y], _ => maxK (ev G s x) (ev G s y) (fun v => K v s)
    | .value f, xs, _ => callK C md s (ev G s f) (xs.map (ev G s)) K
    | _, _, _ => False
  | _ => False
where
  allCells : List AV → Bool
  | [] => true
  | x :: xs => isCell x && allCells xs

/-- A function that can be entered. -/
def Enters (P : Program) (f : FuncId) : Prop := ∃ fn, P.funcs[f]? = some fn ∧ fn.body ≠ none ∧ fn.name ≠ "runtime.NumGoroutine"
/-- The contracts' truth. -/
def Sound (P : Program) (G : Glo) (C : CT) : Prop :=
  ∀ f args h n K, C f args h n K → Enters P f ∧ ∀ (M I : Nat → Prop) (hd : Nat → Value) (Fp : Nat → List Nat) (w : World) (vals : List Value), HR G M I h n hd Fp w → SV hd n w I args vals →
    Calls P f vals.toArray w fun e w' => ∃ v av h' n' I' hd' Fp', e = .returned v ∧ K av h' n' ∧ HR G M I' h' n' hd' Fp' w' ∧ S hd' n' w' I' av v ∧ Ext M I I' n hd hd' w w' ∧ n ≤ n'

theorem run_callFunc {P : Program} {f : FuncId} {args : Array Value} {w : World} (h : Enters P f) : (callFunc f args).run P w = .ok (.enter f args) w := by
  obtain ⟨fn, hf, hb, hn⟩ := h
  simp [callFunc, program, Sem.run, hf, hn, hb]

section
variable {P : Program} {G : Glo} {C : CT} {md : FuncId → Bool} {M I : Nat → Prop} {s : St} {hd : Nat → Value} {Fp : Nat → List Nat} {a : Act} {w : World}
theorem run_min {w : World} {k j : IntKind} {x y : Int} {ts : Array TypeId} {ty : TypeId} : (Builtin.min_ ts ty #[.int k x, .int j y]).run P w = .ok (.int k (if y < x then y else x)) w := by
  simp [Builtin.min_, Builtin.min2]
theorem run_max {w : World} {k j : IntKind} {x y : Int} {ts : Array TypeId} {ty : TypeId} : (Builtin.max_ ts ty #[.int k x, .int j y]).run P w = .ok (.int k (if y > x then y else x)) w := by
  simp [Builtin.max_, Builtin.max2]
theorem lenK_sound {t : TypeId} {x : AV} {u : Value} {K : AV → Prop} {n : Nat} {ts : Array TypeId} {ty : TypeId} (ht : ts[0]? = some t) (hk : lenK P t x K) (hx : S hd n w I x u) : ∃ r av, (∀ w : World, (Builtin.len_ ts ty #[u]).run P w = .ok r w) ∧ K av ∧ S hd n w I av r := by
  unfold lenK at hk
  split at hk
  · rename_i e id sub sz off len h
    simp only [S] at hx
    obtain ⟨_, h0, _, hw⟩ := hx
    have hu : ∃ A c, u = .slice A len c := by
      rcases hw with ⟨b, o, m, c, c', _, rfl, _⟩ | ⟨rfl, A, rfl⟩
      · exact ⟨_, _, rfl⟩
      · exact ⟨_, _, rfl⟩
    obtain ⟨A, c, rfl⟩ := hu
    refine ⟨_, _, fun w => ?_, hk, S_int⟩
    simp [Builtin.len_, ht, run_underlying (tk_slice h), goInt]
  · rename_i e es h
    simp only [S, T] at hx
    obtain ⟨_, A, c, rfl, _⟩ := hx
    refine ⟨_, _, fun w => ?_, hk, S_int⟩
    simp [Builtin.len_, ht, run_underlying (tk_slice h), goInt]
  · rename_i e h
    simp only [S] at hx
    subst hx
    refine ⟨_, _, fun w => ?_, hk, S_int⟩
    simp [Builtin.len_, ht, run_underlying (tk_slice h), goInt]
  · rename_i s h
    simp only [S] at hx
    subst hx
    refine ⟨_, _, fun w => ?_, hk, S_int⟩
    simp [Builtin.len_, ht, run_underlying (tk_str h), goInt]
  · exact hk.elim
theorem convK_sound {t t' : TypeId} {x : AV} {u : Value} {K : AV → Prop} {n : Nat} (hk : convK P t t' x K) (hx : S hd n w I x u) : ∃ r av, (∀ w : World, (convert t t' u).run P w = .ok r w) ∧ K av ∧ S hd n w I av r := by
  unfold convK at hk
  split at hk
  · rename_i k1 k2 k3 m h1 h2
    simp only [S] at hx
    subst hx
    refine ⟨_, _, fun w => ?_, hk, S_int⟩
    simp [convert, run_underlying (tk_int h1), run_underlying (tk_int h2), Conv.intToInt]
  · exact hk.elim

theorem evL_SV (h : SR G M I s hd Fp a w) : ∀ (xs : List Operand), SV hd s.next w I (xs.map (ev G s)) (xs.map a.eval)
  | [] => by simp [SV]
  | x :: xs => by
    simp only [List.map_cons, SV]
    exact ⟨_, _, rfl, ev_sound h x, evL_SV h xs⟩
theorem SV.append {n : Nat} : ∀ {xs ys : List AV} {us vs : List Value}, SV hd n w I xs us → SV hd n w I ys vs → SV hd n w I (xs ++ ys) (us ++ vs)
  | [], ys, us, vs, h, h' => by simp only [SV] at h; subst h; simpa using h'
  | x :: xs, ys, us, vs, h, h' => by
    simp only [SV] at h
    obtain ⟨v, us', rfl, hx, hxs⟩ := h
    simp only [List.cons_append, SV]
    exact ⟨v, us' ++ vs, rfl, hx, hxs.append h'⟩
theorem SL.SV {n : Nat} : ∀ {xs : List AV} {us : List Value}, SL hd n w I xs us → X.SV hd n w I xs us
  | [], us, h => by simpa only [SL, X.SV] using h
  | x :: xs, us, h => by
    simp only [SL] at h
    obtain ⟨v, us', rfl, h1, hx, hxs⟩ := h
    simp only [X.SV]
    exact ⟨v, us', rfl, hx, hxs.SV⟩
theorem SV.SL {n : Nat} : ∀ {xs : List AV} {us : List Value}, opK.allCells xs = true → X.SV hd n w I xs us → X.SL hd n w I xs us
  | [], us, _, h => by simpa only [X.SL, X.SV] using h
  | x :: xs, us, hc, h => by
    simp only [opK.allCells, Bool.and_eq_true] at hc
    simp only [X.SV] at h
    obtain ⟨v, us', rfl, hx, hxs⟩ := h
    simp only [X.SL]
    exact ⟨v, us', rfl, (isCell_one hc.1 hx).1, hx, SV.SL hc.2 hxs⟩
/-- Values of a list of trees. -/
theorem frzV_sound {h : Heap} {n : Nat} (hr : HR G M I h n hd Fp w) (k : Nat) : ∀ {xs ys : List AV} {vs : List Value}, X.SV hd n w I xs vs → frzAL h k xs = some ys → TV w (fun b => b < w.heap.size) ys vs []
  | [], ys, vs, hx, hy => by
    simp only [frzAL, Option.some.injEq] at hy
    subst hy
    simp only [X.SV] at hx
    simp only [TV]; exact ⟨hx, trivial⟩
  | x :: xs, ys, vs, hx, hy => by
    simp only [X.SV] at hx
    obtain ⟨v, vs', rfl, hxv, hxs⟩ := hx
    simp only [frzAL] at hy
    split at hy
    · rename_i y ys' e1 e2
      simp only [Option.some.injEq] at hy
      subst hy
      simp only [TV]
      exact ⟨v, vs', [], [], rfl, rfl, (frz_sound hr k).1 x y v hxv e1, frzV_sound hr k hxs e2⟩
    · cases hy

mutual
/-- A frozen tree in a slot. -/
theorem T.toS {n : Nat} : ∀ (x : AV) (v : Value), frzOk x = true → T w I x v [] → S hd n w I x v
  | .any, v, _, h => by simp only [S]
  | .con u, v, _, h => by simp only [T, S] at h ⊢; exact h.1
  | .int k m, v, _, h => by simp only [T, S] at h ⊢; exact h.1
  | .bool b, v, _, h => by simp only [T, S] at h ⊢; exact h.1
  | .str s, v, _, h => by simp only [T, S] at h ⊢; exact h.1
  | .nil, v, _, h => by simp only [T, S] at h ⊢; exact h.1
  | .sl es, v, _, h => by simp only [S]; exact h
  | .pf cs, v, _, h => by simp only [S]; exact h
  | .fn f caps, v, hf, h => by
    simp only [frzOk] at hf
    simp only [T, S] at h ⊢
    obtain ⟨vs, rfl, ht⟩ := h
    exact ⟨vs, rfl, TL.toS caps _ hf ht⟩
  | .agg cs, v, hf, h => by
    simp only [frzOk] at hf
    simp only [T, S] at h ⊢
    obtain ⟨vs, rfl, ht⟩ := h
    exact ⟨vs, rfl, TL.toS cs _ hf ht⟩
  | .tup _, v, hf, h => by simp [frzOk] at hf
  | .ow _ _, v, hf, h => by simp [frzOk] at hf
  | .op _, v, hf, h => by simp [frzOk] at hf
  | .ref _ _ _ _ _, v, hf, h => by simp [frzOk] at hf
  | .ptr _ _ _ _ _, v, hf, h => by simp [frzOk] at hf
theorem TL.toS {n : Nat} : ∀ (xs : List AV) (vs : List Value), frzOkL xs = true → TL w I xs vs [] → SL hd n w I xs vs
  | [], vs, _, h => by simp only [TL, SL] at h ⊢; exact h.1
  | x :: xs, vs, hf, h => by
    simp only [frzOkL, Bool.and_eq_true] at hf
    simp only [TL] at h
    obtain ⟨v, vs', F1, F2, rfl, hF, h1, hx, hxs⟩ := h
    obtain ⟨rfl, rfl⟩ := List.append_eq_nil_iff.1 hF.symm
    simp only [SL]
    exact ⟨v, vs', rfl, h1, T.toS x v hf.1 hx, TL.toS xs vs' hf.2 hxs⟩
end
end
theorem eqs_minK : True := by
  have := @minK.eq_1
  trivial
theorem eqs_maxK : True := by
  have := @maxK.eq_1
  trivial
theorem eqs_lenK : True := by
  have := @lenK.eq_1
  trivial
theorem eqs_convK : True := by
  have := @convK.eq_1
  trivial
theorem eqs_frzOk : True := by
  have := @frzOk.eq_1
  trivial
theorem eqs_frzOkL : True := by
  have := @frzOkL.eq_1
  trivial
theorem eqs_callK : True := by
  have := @callK.eq_1
  trivial
theorem eqs_evL : True := by
  have := @evL.eq_1
  trivial
end Go.Proofs.YtlddjlchgibdfaaDoor.X
