import Derived.Test.YtlddjlchgibdfaaDoorXX
set_option linter.unusedVariables false
set_option linter.unusedSimpArgs false
namespace Go.Proofs.YtlddjlchgibdfaaDoor.X
open Go

/-! ### Code in a handier form -/
inductive XC where
  | done
  | op (dst : Option Nat) (o : Op) (g : Option (Nat × Bool)) (r : XC)
  | fork (p q r : XC)
  | cond (c : Operand) (a b r : XC)
  | block (id : Nat) (a r : XC)
  | loop (a : XC)
  | exit (id : Nat)
  | ret
  | fail
def guardG (s : St) (o : Op) (dst : Option Nat) (P : Program) (G : Glo) (C : CT) (md : FuncId → Bool) (K : St → Prop) : Option (Nat × Bool) → Prop
  | none => opK P G C md o s fun v s' => K (s'.put dst v)
  | some (d, want) => match s.tmps.getD d .any with
    | .bool b => (b = want → opK P G C md o (s.put (some d) (.bool want)) fun v s' => K (s'.put dst v)) ∧ (b = !want → K ((s.put (some d) (.bool !want)).put dst (.con undef)))
    | .con (.tuple a) => a = #[] ∧ K (s.put dst (.con undef))
    | _ => False
def R (P : Program) (G : Glo) (C : CT) (md : FuncId → Bool) (B : Nat) : XC → St → (XE → St → Prop) → Prop
  | .done, s, Q => Q .normal s
  | .op dst o g r, s, Q => guardG s o dst P G C md (fun s' => R P G C md B r s' Q) g
  | .fork p q r, s, Q => R P G C md B p s (thenX (fun s' => R P G C md B r s' Q) Q) ∧ R P G C md B q s (thenX (fun s' => R P G C md B r s' Q) Q)
  | .cond c x y r, s, Q => match ev G s c with
    | .bool b => (b = true → R P G C md B x (know s c true) (thenX (fun s' => R P G C md B r s' Q) Q)) ∧ (b = false → R P G C md B y (know s c false) (thenX (fun s' => R P G C md B r s' Q) Q))
    | _ => False
  | .block id c r, s, Q => R P G C md B c s (inBlockX id (thenX (fun s' => R P G C md B r s' Q) Q))
  | .loop c, s, Q => ∀ J : St → Prop, (∀ s, (∃ acts ρ nx, rhoOk B ρ (objIds acts) nx = true ∧ R P G C md B c (canon B acts ρ nx s) (thenX J Q)) → J s) → J s
  | .exit id, s, Q => Q (.exit id) s
  | .ret, s, Q => Q .ret s
  | .fail, _, _ => False

/-- A plan without a fork goes straight on; behind a fork the rest waits. -/
def compPlan (ops : Array Oper) : Plan → XC → XC
  | .done, r => r
  | .fail, _ => .fail
  | .op i p, r => match ops[i]? with
    | none => .fail
    | some o => match o.guard with
      | none => .op o.dst o.op none (compPlan ops p r)
      | some (j, want) => match (ops[j]?).bind (·.dst) with
        | none => .fail
        | some d => .op o.dst o.op (some (d, want)) (compPlan ops p r)
  | .both p q, r => .fork (compPlan ops p .done) (compPlan ops q .done) r
def comp (md : FuncId → Bool) : Code → XC → XC
  | .skip, r => r
  | .label _, r => r
  | .region _ ops draw, r => compPlan ops (planOf md ops draw) r
  | .seq x y, r => comp md x (comp md y r)
  | .cond c x y, r => .cond c (comp md x .done) (comp md y .done) r
  | .block id c, r => .block id (comp md c .done) r
  | .loop c, _ => .loop (comp md c .done)
  | .exit id, _ => .exit id
  | .ret, _ => .ret
  | _, _ => .fail
def compF (md : FuncId → Bool) (fn : Func) : XC := match fn.body with
  | some c => comp md c .done
  | none => .fail

section
variable {P : Program} {G : Glo} {C : CT} {md : FuncId → Bool} {B : Nat} {ops : Array Oper}
theorem thenX_thenX (K K' : St → Prop) (Q : XE → St → Prop) : thenX K (thenX K' Q) = thenX K Q := by
  funext e; cases e <;> rfl
theorem guardG_opX {o : Oper} {s : St} {K : St → Prop} : opX P G C md ops o s K = (match o.guard with
    | none => guardG s o.op o.dst P G C md K none
    | some (j, want) => match (ops[j]?).bind (·.dst) with
      | none => False
      | some d => guardG s o.op o.dst P G C md K (some (d, want))) := by
  unfold opX
  cases o.guard with
  | none => rfl
  | some g =>
    obtain ⟨j, want⟩ := g
    simp only
    cases (ops[j]?).bind (·.dst) <;> rfl
theorem compPlan_run : ∀ (p : Plan) (r : XC) (s : St) (Q : XE → St → Prop), R P G C md B (compPlan ops p r) s Q = runPlan P G C md ops p s (fun s' => R P G C md B r s' Q)
  | .done, r, s, Q => rfl
  | .fail, r, s, Q => rfl
  | .op i p, r, s, Q => by
    simp only [compPlan, runPlan]
    cases hi : ops[i]? with
    | none => rfl
    | some o =>
      simp only
      rw [guardG_opX]
      cases hg : o.guard with
      | none =>
        simp only [R]
        congr 1
        funext s'
        exact compPlan_run p r s' Q
      | some g =>
        obtain ⟨j, want⟩ := g
        simp only
        cases hd : (ops[j]?).bind (·.dst) with
        | none => rfl
        | some d =>
          simp only [R]
          congr 1
          funext s'
          exact compPlan_run p r s' Q
  | .both p q, r, s, Q => by
    simp only [compPlan, runPlan, R]
    rw [compPlan_run p, compPlan_run q]
    rfl
theorem comp_run : ∀ (c : Code) (r : XC) (s : St) (Q : XE → St → Prop), R P G C md B (comp md c r) s Q = X P G C md B c s (thenX (fun s' => R P G C md B r s' Q) Q) := by
  intro c
  induction c with
  | skip => intros; rfl
  | label l => intros; rfl
  | exit id => intros; rfl
  | ret => intros; rfl
  | region id ops draw => intro r s Q; simp only [comp, X]; exact compPlan_run _ r s Q
  | seq x y ihx ihy =>
    intro r s Q
    simp only [comp, X]
    rw [ihx, thenX_thenX]
    congr 2
    funext s'
    exact ihy r s' Q
  | cond c x y ihx ihy =>
    intro r s Q
    have ex : ∀ s, R P G C md B (comp md x .done) s (thenX (fun s' => R P G C md B r s' Q) Q) = X P G C md B x s (thenX (fun s' => R P G C md B r s' Q) Q) := by
      intro s
      rw [ihx]
      congr 1
      funext e; cases e <;> rfl
    have ey : ∀ s, R P G C md B (comp md y .done) s (thenX (fun s' => R P G C md B r s' Q) Q) = X P G C md B y s (thenX (fun s' => R P G C md B r s' Q) Q) := by
      intro s
      rw [ihy]
      congr 1
      funext e; cases e <;> rfl
    simp only [comp, X, R, ex, ey]
    cases ev G s c <;> rfl
  | block id c ih =>
    intro r s Q
    simp only [comp, X, R]
    rw [ih]
    congr 1
    funext e; cases e <;> rfl
  | loop c ih =>
    intro r s Q
    simp only [comp, X, R]
    apply propext
    refine forall_congr' fun J => ?_
    have e : ∀ s, R P G C md B (comp md c .done) s (thenX J Q) = X P G C md B c s (thenX J (thenX (fun s' => R P G C md B r s' Q) Q)) := by
      intro s
      rw [ih]
      congr 1
      funext e; cases e <;> rfl
    simp only [e]
  | _ => intros; rfl
end
end Go.Proofs.YtlddjlchgibdfaaDoor.X
