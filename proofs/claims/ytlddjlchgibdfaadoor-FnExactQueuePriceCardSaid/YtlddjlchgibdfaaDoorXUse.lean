import Derived.Test.YtlddjlchgibdfaaDoorXR
set_option linter.unusedVariables false
namespace Go.Proofs.YtlddjlchgibdfaaDoor.X
open Go

/-- What is returned, read as a tree. -/
def RetTo (h : Heap) (v r : AV) : Prop := ∃ r0 h2, conR 8 h v = some (r0, h2) ∧ NilTo r0 r
theorem Closed.run {P : Program} {G : Glo} {C : CT} {md : FuncId → Bool} (hC : Closed P G md C) {f : FuncId} {fn : Func} {args : List AV} {h : Heap} {n : Nat} {K : AV → Heap → Nat → Prop} {x : XC} (hf : P.funcs[f]? = some fn) (hx : compF md fn = x) (hne : fn.name ≠ "runtime.NumGoroutine")
    (hr : R P G C md n x ⟨args ++ List.replicate (fn.ntmps - args.length) (.con undef), h, n⟩ (bodyQ P fn.results.toList K)) : C f args h n K := by
  cases hb : fn.body with
  | none =>
    simp only [compF, hb] at hx
    subst hx
    exact hr.elim
  | some c =>
    simp only [compF, hb] at hx
    subst hx
    rw [comp_run] at hr
    refine hC f args h n K ⟨fn, c, hf, hb, hne, ?_⟩
    have e : (thenX (fun s' => R P G C md n .done s' (bodyQ P fn.results.toList K)) (bodyQ P fn.results.toList K)) = bodyQ P fn.results.toList K := by funext e; cases e <;> rfl
    rwa [e] at hr
theorem Ev.run {P : Program} {G : Glo} {C : CT} {md : FuncId → Bool} (hC : Closed P G md C) {f : FuncId} {fn : Func} {ts : List AV} {r : AV} {x : XC} (hf : P.funcs[f]? = some fn) (hx : compF md fn = x) (hne : fn.name ≠ "runtime.NumGoroutine") (ho : ownR r = true)
    (hr : R P G C md 0 x ⟨ts ++ List.replicate (fn.ntmps - ts.length) (.con undef), [], 0⟩ (bodyQ P fn.results.toList fun v h _ => RetTo h v r)) : Ev C f ts r :=
  ⟨_, hC.run hf hx hne hr, ho, fun v h n hk => hk⟩

/-- At a loop's head. -/
def HeadAt (B : Nat) (acts : List Keepd) (s s' : St) : Prop := ∃ ρ nx, rhoOk B ρ (objIds acts) nx = true ∧ canon B acts ρ nx s = s'
theorem R_loop {P : Program} {G : Glo} {C : CT} {md : FuncId → Bool} {B : Nat} {c : XC} {s : St} {Q : XE → St → Prop} (acts : List Keepd)
    (h : ∀ J : St → Prop, (∀ s s', HeadAt B acts s s' → R P G C md B c s' (thenX J Q) → J s) → J s) : R P G C md B (.loop c) s Q := by
  simp only [R]
  intro J hJ
  refine h J fun s s' ⟨ρ, nx, h1, h2⟩ hr => hJ s ⟨acts, ρ, nx, h1, ?_⟩
  rw [h2]; exact hr
end Go.Proofs.YtlddjlchgibdfaaDoor.X
