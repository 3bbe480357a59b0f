/- A part of the proof: lemmas on the machine or on the functions that the law reaches. No condition of its own. -/
import Derived.Test.YtedgfiikaedeoaaDoorXM3
import Derived.Laws.Sem
import Derived.DataReads
import Derived.ChangeArms
import GoSem.ClaimJoined
import Derived.ChangeShapes
import Derived.ChangeOld
import Derived.Carry
import Derived.Below
set_option linter.unusedVariables false
set_option linter.unusedSimpArgs false
namespace Go.Proofs.YtedgfiikaedeoaaDoor.X
open Go

/-! ### Code -/
inductive XE where
  | normal
  | exit (id : Nat)
  | ret
def thenX (K : St → Prop) (Q : XE → St → Prop) : XE → St → Prop
  | .normal, s => K s
  | e, s => Q e s
def inBlockX (id : Nat) (Q : XE → St → Prop) : XE → St → Prop
  | .exit i, s => if i = id then Q .normal s else Q (.exit i) s
  | e, s => Q e s
def know (s : St) (c : Operand) (b : Bool) : St :=
  match c with
  | .tmp d => s.put (some d) (.bool b)
  | _ => s
def X (P : Program) (G : Glo) (C : CT) (md : FuncId → Bool) (B : Nat) : Code → St → (XE → St → Prop) → Prop
  | .skip, s, Q => Q .normal s
  | .label _, s, Q => Q .normal s
  | .region _ ops draw, s, Q => runPlan P G C md ops (planOf md ops draw) s (Q .normal)
  | .seq x y, s, Q => X P G C md B x s (thenX (fun s' => X P G C md B y s' Q) Q)
  | .cond c x y, s, Q => match ev G s c with
    | .bool b => (b = true → X P G C md B x (know s c true) Q) ∧ (b = false → X P G C md B y (know s c false) Q)
    | _ => False
  | .block id c, s, Q => X P G C md B c s (inBlockX id Q)
  | .loop c, s, Q => ∀ J : St → Prop, (∀ s, (∃ acts ρ nx, rhoOk B ρ (objIds acts) nx = true ∧ X P G C md B c (canon B acts ρ nx s) (thenX J Q)) → J s) → J s
  | .exit id, s, Q => Q (.exit id) s
  | .ret, s, Q => Q .ret s
  | _, _, _ => False

def resK (P : Program) (s : St) : List ResultVar → (List AV → Prop) → Prop
  | [], K => K []
  | .tmp t :: r, K => resK P s r fun vs => K (s.tmps.getD t .any :: vs)
  | .cell a t :: r, K => loadK P s.heap t (s.tmps.getD a .any) fun v => resK P s r fun vs => K (v :: vs)
def oneOr (K : AV → Prop) : List AV → Prop
  | [x] => K x
  | xs => K (.tup xs)
def bodyQ (P : Program) (rs : List ResultVar) (K : AV → Heap → Nat → Prop) : XE → St → Prop
  | .exit _, _ => False
  | _, s => resK P s rs (oneOr fun v => K v s.heap s.next)
def BodyX (P : Program) (G : Glo) (C : CT) (md : FuncId → Bool) (f : FuncId) (args : List AV) (h : Heap) (n : Nat) (K : AV → Heap → Nat → Prop) : Prop :=
  ∃ fn c, P.funcs[f]? = some fn ∧ fn.body = some c ∧ fn.name ≠ "runtime.NumGoroutine" ∧ X P G C md n c ⟨args ++ List.replicate (fn.ntmps - args.length) (.con undef), h, n⟩ (bodyQ P fn.results.toList K)
def Closed (P : Program) (G : Glo) (md : FuncId → Bool) (C : CT) : Prop := ∀ f args h n K, BodyX P G C md f args h n K → C f args h n K

def codeQ (G : Glo) (M I : Nat → Prop) (n : Nat) (hd : Nat → Value) (w : World) (Q : XE → St → Prop) : Exit → Act → World → Prop
  | .normal, a, w' => Post G M I n hd w (Q .normal) a w'
  | .exit id, a, w' => Post G M I n hd w (Q (.exit id)) a w'
  | .ret, a, w' => Post G M I n hd w (Q .ret) a w'
  | _, _, _ => False

section
variable {P : Program} {G : Glo} {C : CT} {md : FuncId → Bool} {M I I0 : Nat → Prop} {s : St} {hd hd0 : Nat → Value} {Fp : Nat → List Nat} {a : Act} {w w0 : World} {n0 : Nat}

def loopWp (P : Program) (c : Code) (Q : Exit → Act → World → Prop) (a : Act) (w : World) : Prop :=
  ∀ (b : Frame) (k : List Item) (cs : List Frame), ∃ e a' w', Q e a' w' ∧ Arrives P (lone (b.at a (.code c :: .inLoop c :: k)) cs w) b k cs e a' w'
theorem loopWp_unroll {c : Code} {Q : Exit → Act → World → Prop} (h : c.wp P (Exit.then (loopWp P c Q) Q) a w) : loopWp P c Q a w := by
  intro b k cs
  obtain ⟨e, a₁, w₁, hq, harr⟩ := h b (.inLoop c :: k) cs
  cases e with
  | normal =>
    obtain ⟨e₂, a₂, w₂, hq₂, harr₂⟩ := hq b k cs
    exact ⟨e₂, a₂, w₂, hq₂, .of_steps (Steps.trans harr (.one step_inLoop)) harr₂⟩
  | exit id => exact ⟨_, a₁, w₁, hq, .pass (x := .inLoop c) rfl (fun _ _ => .inl (by simp)) harr⟩
  | goto l => exact ⟨_, a₁, w₁, hq, .pass (x := .inLoop c) rfl (fun _ _ => .inl (by simp)) harr⟩
  | ret => exact ⟨_, a₁, w₁, hq, .pass (x := .inLoop c) rfl (fun _ _ => .inl (by simp)) harr⟩
  | panic ch => exact ⟨_, a₁, w₁, hq, .pass (x := .inLoop c) rfl (fun _ _ => .inl (by simp)) harr⟩
  | outgrown => exact ⟨_, a₁, w₁, hq, .pass (x := .inLoop c) rfl (fun _ _ => .inl (by simp)) harr⟩
theorem loopWp_wp {c : Code} {Q : Exit → Act → World → Prop} (h : loopWp P c Q a w) : (Code.loop c).wp P Q a w := by
  intro b k cs
  obtain ⟨e, a', w', hq, harr⟩ := h b k cs
  exact ⟨e, a', w', hq, .of_steps (.one step_loop) harr⟩

theorem know_SR (h : SR G M I s hd Fp a w) {c : Operand} {b : Bool} (hb : a.eval c = .bool b) : SR G M I (know s c b) hd Fp a w := by
  cases c with
  | tmp d => exact h.know hb
  | _ => exact h
theorem know_next (s : St) (c : Operand) (b : Bool) : (know s c b).next = s.next := by cases c <;> rfl

theorem X_sound (hm : P.follows .mixedOrders = true) (hC : Sound P G C) : ∀ (c : Code) (s : St) (Q : XE → St → Prop) (I : Nat → Prop) (hd : Nat → Value) (Fp : Nat → List Nat) (a : Act) (w : World), SR G M I s hd Fp a w → Ext M I0 I n0 hd0 hd w0 w → n0 ≤ s.next →
    X P G C md n0 c s Q → c.wp P (codeQ G M I0 n0 hd0 w0 Q) a w := by
  intro c
  induction c with
  | skip => intro s Q I hd Fp a w h hE hn hx; exact wp_skip ⟨s, I, hd, Fp, hx, h, hE, hn⟩
  | label l => intro s Q I hd Fp a w h hE hn hx; exact wp_label ⟨s, I, hd, Fp, hx, h, hE, hn⟩
  | exit id => intro s Q I hd Fp a w h hE hn hx; exact wp_exit ⟨s, I, hd, Fp, hx, h, hE, hn⟩
  | ret => intro s Q I hd Fp a w h hE hn hx; exact wp_ret ⟨s, I, hd, Fp, hx, h, hE, hn⟩
  | region id ops draw =>
    intro s Q I hd Fp a w h hE hn hx
    simp only [X, planOf] at hx
    cases draw with
    | false =>
      simp only [Bool.false_eq_true, if_false] at hx
      exact wp_region (plan_text (K := Q .normal) hC (fun _ _ h => h) _ s I hd Fp a w h hE hn hx)
    | true =>
      simp only [if_true] at hx
      have hE' : Ext M I0 I n0 hd0 hd w0 { w with drawn := w.drawn + 1 } :=
        hE.trans ⟨⟨rfl, rfl, rfl, Nat.le_refl _, fun _ _ _ => rfl⟩, fun b hb => ⟨hb, rfl⟩, fun _ _ => rfl⟩
      refine wp_region_any hm (wpAny_of_R (md := md) _ _ _ _ ?_)
      exact plan_any (K := Q .normal) hC (fun _ _ _ h => h) (fun _ _ h => h) _ _ s I hd Fp a _ (h.drew rfl) hE' hn hx
  | seq x y ihx ihy =>
    intro s Q I hd Fp a w h hE hn hx
    simp only [X] at hx
    refine wp_seq (wp_mono (ihx s _ I hd Fp a w h hE hn hx) ?_)
    intro e a' w' hq
    cases e with
    | normal =>
      obtain ⟨s', I', hd', Fp', h1, h2, h3, h4⟩ := hq
      exact ihy s' Q I' hd' Fp' a' w' h2 h3 h4 h1
    | exit id => exact hq
    | ret => exact hq
    | goto l => exact hq
    | panic ch => exact hq
    | outgrown => exact hq
  | cond c x y ihx ihy =>
    intro s Q I hd Fp a w h hE hn hx
    simp only [X] at hx
    have hc := ev_sound h c
    split at hx
    · rename_i b e
      rw [e] at hc
      have hb := S_bool_inv hc
      refine wp_cond hb ?_
      cases b with
      | true => exact ihx _ Q I hd Fp a w (know_SR h hb) hE (by rw [know_next]; exact hn) (hx.1 rfl)
      | false => exact ihy _ Q I hd Fp a w (know_SR h hb) hE (by rw [know_next]; exact hn) (hx.2 rfl)
    · exact hx.elim
  | block id c ih =>
    intro s Q I hd Fp a w h hE hn hx
    simp only [X] at hx
    refine wp_block (wp_mono (ih s _ I hd Fp a w h hE hn hx) ?_)
    intro e a' w' hq
    cases e with
    | normal => exact hq
    | exit i =>
      obtain ⟨s', I', hd', Fp', h1, h2⟩ := hq
      simp only [inBlockX] at h1
      simp only [Exit.inBlock]
      split at h1
      · rename_i hi; rw [if_pos hi]; exact ⟨s', I', hd', Fp', h1, h2⟩
      · rename_i hi; rw [if_neg hi]; exact ⟨s', I', hd', Fp', h1, h2⟩
    | ret => exact hq
    | goto l => exact hq
    | panic ch => exact hq
    | outgrown => exact hq
  | loop c ih =>
    intro s Q I hd Fp a w h hE hn hx
    simp only [X] at hx
    refine loopWp_wp (hx (fun s => ∀ (I : Nat → Prop) (hd : Nat → Value) (Fp : Nat → List Nat) (a : Act) (w : World), SR G M I s hd Fp a w → Ext M I0 I n0 hd0 hd w0 w → n0 ≤ s.next → loopWp P c (codeQ G M I0 n0 hd0 w0 Q) a w) ?_ I hd Fp a w h hE hn)
    rintro s ⟨acts, ρ, nx, hok, hx⟩ I hd Fp a w h hE hn
    obtain ⟨hd', Fp', h', hB⟩ := h.canon hok
    have hE' : Ext M I0 I n0 hd0 hd' w0 w := ⟨hE.keep, hE.im, fun id hid => (hB id hid).trans (hE.hds id hid)⟩
    refine loopWp_unroll (wp_mono (ih _ _ I hd' Fp' a w h' hE' (rho_spec hok).1 hx) ?_)
    intro e a' w' hq
    cases e with
    | normal =>
      obtain ⟨s', I', hd', Fp', h1, h2, h3, h4⟩ := hq
      exact h1 I' hd' Fp' a' w' h2 h3 h4
    | exit id => exact hq
    | ret => exact hq
    | goto l => exact hq
    | panic ch => exact hq
    | outgrown => exact hq
  | _ => intro s Q I hd Fp a w h hE hn hx; simp only [X] at hx

def resF (tmps : Array Value) : ResultVar → Sem Value
  | .tmp t => pure (tmps.getD t undef)
  | .cell x t => do loadVar t (← asAddr (tmps.getD x undef))
theorem run_resF_tmp {tmps : Array Value} {t : Tmp} : (resF tmps (.tmp t)).run P w = .ok (tmps.getD t undef) w := rfl
theorem run_resF_cell {tmps : Array Value} {x t : Nat} {v : Value} (h1 : (Instr.loadAt t (tmps.getD x undef)).run P w = .ok v w) : (resF tmps (.cell x t)).run P w = .ok v w := by
  show (do loadVar t (← asAddr (tmps.getD x undef)) : Sem Value).run P w = _
  generalize tmps.getD x undef = u at h1 ⊢
  unfold Instr.loadAt at h1
  cases u with
  | pointer p => cases p with
    | some ad => simpa [Instr.sureAddr, asAddr] using h1
    | none => simp [Instr.sureAddr, stuck] at h1
  | _ => simp [Instr.sureAddr, stuck] at h1
theorem run_mapM_cons {α : Type} {f : α → Sem Value} {x : α} {xs : List α} {v : Value} {vs : List Value} (h1 : (f x).run P w = .ok v w) (h2 : (xs.mapM f).run P w = .ok vs w) : ((x :: xs).mapM f).run P w = .ok (v :: vs) w := by
  rw [List.mapM_cons]
  simp [h1, h2]
theorem resK_sound (h : SR G M I s hd Fp a w) : ∀ (rs : List ResultVar) (K : List AV → Prop), resK P s rs K → ∃ vs avs, (rs.mapM (resF a.tmps)).run P w = .ok vs w ∧ K avs ∧ SV hd s.next w I avs vs
  | [], K, hk => ⟨[], [], by simp, hk, by simp [SV]⟩
  | .tmp t :: r, K, hk => by
    obtain ⟨vs, avs, h1, h2, h3⟩ := resK_sound h r _ hk
    refine ⟨a.tmps.getD t undef :: vs, _, run_mapM_cons run_resF_tmp h1, h2, ?_⟩
    simp only [SV]; exact ⟨_, _, rfl, h.slots t, h3⟩
  | .cell x t :: r, K, hk => by
    simp only [resK] at hk
    obtain ⟨v, av, h1, h2, h3⟩ := loadK_sound h hk (h.slots x)
    obtain ⟨vs, avs, g1, g2, g3⟩ := resK_sound h r _ h2
    refine ⟨v :: vs, _, run_mapM_cons (run_resF_cell (h1 w (.refl w))) g1, g2, ?_⟩
    simp only [SV]; exact ⟨_, _, rfl, h3, g3⟩

theorem SV_single {n : Nat} {av : AV} {vs : List Value} (h : SV hd n w I [av] vs) : ∃ v, vs = [v] ∧ S hd n w I av v := by
  simp only [SV] at h
  obtain ⟨v, vs', rfl, h1, rfl⟩ := h
  exact ⟨v, rfl, h1⟩
theorem SV_length {n : Nat} : ∀ {avs : List AV} {vs : List Value}, SV hd n w I avs vs → vs.length = avs.length
  | [], vs, h => by simp only [SV] at h; rw [h]; rfl
  | _ :: _, vs, h => by
    simp only [SV] at h
    obtain ⟨v, vs', rfl, _, h2⟩ := h
    simp [SV_length h2]

theorem results_sound (h : SR G M I s hd Fp a w) {fn : Func} {K : AV → Prop} (hk : resK P s fn.results.toList (oneOr K)) : ∃ v av, (results fn a.tmps).run P w = .ok v w ∧ K av ∧ S hd s.next w I av v := by
  obtain ⟨vs, avs, h1, h2, h3⟩ := resK_sound h _ _ hk
  have hr : (results fn a.tmps).run P w = .ok (if h : vs.toArray.size = 1 then vs.toArray[0] else .tuple vs.toArray) w := by
    have e : results fn a.tmps = (do let vs ← fn.results.mapM (resF a.tmps); pure (if h : vs.size = 1 then vs[0] else .tuple vs)) := rfl
    rw [e, Array.mapM_eq_mapM_toList]
    simp only [Sem.run_bind, Sem.run_map, h1]
    rfl
  match avs, h3, h2 with
  | [x], h3, h2 =>
    obtain ⟨v, rfl, hv⟩ := SV_single h3
    exact ⟨v, x, by rw [hr]; rfl, h2, hv⟩
  | [], h3, h2 =>
    simp only [SV] at h3
    subst h3
    exact ⟨.tuple #[], .tup [], by rw [hr]; rfl, h2, by simp [S, SV]⟩
  | x :: y :: r, h3, h2 =>
    have hl := SV_length h3
    refine ⟨.tuple vs.toArray, .tup (x :: y :: r), ?_, h2, ?_⟩
    · rw [hr, dif_neg (by simp [hl])]
    · simp only [S]; exact ⟨_, rfl, h3⟩

def CS (P : Program) (G : Glo) : CT := fun f args h n K => Enters P f ∧ ∀ (M I : Nat → Prop) (hd : Nat → Value) (Fp : Nat → List Nat) (w : World) (vals : List Value), HR G M I h n hd Fp w → SV hd n w I args vals →
    Calls P f vals.toArray w fun e w' => ∃ v av h' n' I' hd' Fp', e = .returned v ∧ K av h' n' ∧ HR G M I' h' n' hd' Fp' w' ∧ S hd' n' w' I' av v ∧ Ext M I I' n hd hd' w w' ∧ n ≤ n'
theorem CS_sound : Sound P G (CS P G) := fun f args h n K hc => hc

theorem SV_getD {n : Nat} : ∀ {avs : List AV} {vs : List Value}, SV hd n w I avs vs → ∀ t, S hd n w I (avs.getD t .any) (vs.getD t undef)
  | [], vs, h, t => by simp only [SV] at h; subst h; simp [S]
  | x :: xs, vs, h, t => by
    simp only [SV] at h
    obtain ⟨v, vs', rfl, h1, h2⟩ := h
    cases t with
    | zero => exact h1
    | succ t => simpa using SV_getD h2 t

theorem CS_closed (hm : P.follows .mixedOrders = true) : Closed P G md (CS P G) := by
  rintro f args h n K ⟨fn, c, hf, hb, hne, hx⟩
  refine ⟨⟨fn, hf, by rw [hb]; simp, hne⟩, ?_⟩
  intro M I hd Fp w vals hr hargs
  refine calls_of_wp hf hb ?_
  have hl := SV_length hargs
  have hsr : SR G M I ⟨args ++ List.replicate (fn.ntmps - args.length) (.con undef), h, n⟩ hd Fp ⟨vals.toArray ++ Array.replicate (fn.ntmps - vals.toArray.size) undef, []⟩ w := by
    refine ⟨hr, by simp [hl], fun t => ?_, rfl⟩
    have e : (vals.toArray ++ Array.replicate (fn.ntmps - vals.toArray.size) undef).getD t undef = (vals ++ List.replicate (fn.ntmps - vals.length) undef).getD t undef := by
      rw [Array.getD_eq_getD_getElem?, List.getD_eq_getElem?_getD, ← Array.getElem?_toList]
      simp
    rw [e]
    have hrep : ∀ k, SV hd n w I (List.replicate k (.con undef)) (List.replicate k undef) := by
      intro k
      induction k with
      | zero => simp [SV]
      | succ k ih => simp only [List.replicate_succ, SV]; exact ⟨_, _, rfl, by simp [S], ih⟩
    rw [hl]
    exact SV_getD (hargs.append (hrep _)) t
  refine wp_mono (X_sound (I0 := I) (hd0 := hd) (w0 := w) hm CS_sound c _ _ I hd Fp _ w hsr (Ext.refl _ _ _ _ _) (Nat.le_refl _) hx) ?_
  have fin : ∀ (e : XE) a' w', (∀ id, e ≠ .exit id) → Post G M I n hd w (bodyQ P fn.results.toList K e) a' w' → a'.defers = [] ∧ ∃ v, (results fn a'.tmps).run P w' = .ok v w' ∧ ∃ v' av h' n' I' hd' Fp', Ending.returned v = .returned v' ∧ K av h' n' ∧ HR G M I' h' n' hd' Fp' w' ∧ S hd' n' w' I' av v' ∧ Ext M I I' n hd hd' w w' ∧ n ≤ n' := by
    rintro e a' w' hne ⟨s', I', hd', Fp', h1, h2, h3, h4⟩
    have hk : resK P s' fn.results.toList (oneOr fun v => K v s'.heap s'.next) := by
      cases e with
      | normal => exact h1
      | ret => exact h1
      | exit id => exact absurd rfl (hne id)
    obtain ⟨v, av, g1, g2, g3⟩ := results_sound h2 hk
    exact ⟨h2.defers, v, g1, v, av, s'.heap, s'.next, I', hd', Fp', rfl, g2, h2.heap, g3, h3, h4⟩
  intro e a' w' hq
  cases e with
  | normal => exact fin .normal a' w' (by simp) hq
  | ret => exact fin .ret a' w' (by simp) hq
  | exit id =>
    obtain ⟨s', I', hd', Fp', h1, _⟩ := hq
    exact h1.elim
  | goto l => exact hq.elim
  | panic ch => exact hq.elim
  | outgrown => exact hq.elim
end
theorem eqs_thenX : True := by
  have := @thenX.eq_1
  trivial
theorem eqs_inBlockX : True := by
  have := @inBlockX.eq_1
  trivial
theorem eqs_resK : True := by
  have := @resK.eq_1
  trivial
theorem eqs_oneOr : True := by
  have := @oneOr.eq_1
  trivial
theorem eqs_bodyQ : True := by
  have := @bodyQ.eq_1
  trivial
end Go.Proofs.YtedgfiikaedeoaaDoor.X
set_option linter.unusedVariables false
set_option linter.unusedSimpArgs false
namespace Go.Proofs.YtedgfiikaedeoaaDoor.X
open Go

/-! ### Code in a handier form -/
inductive XC where
  | done
  | op (dst : Option Nat) (o : Op) (g : Option (Nat × Bool)) (r : XC)
  | fork (p q r : XC)
  | cond (c : Operand) (a b r : XC)
  | block (id : Nat) (a r : XC)
  | loop (a : XC)
  | exit (id : Nat)
  | ret
  | fail
def guardG (s : St) (o : Op) (dst : Option Nat) (P : Program) (G : Glo) (C : CT) (md : FuncId → Bool) (K : St → Prop) : Option (Nat × Bool) → Prop
  | none => opK P G C md o s fun v s' => K (s'.put dst v)
  | some (d, want) => match s.tmps.getD d .any with
    | .bool b => (b = want → opK P G C md o (s.put (some d) (.bool want)) fun v s' => K (s'.put dst v)) ∧ (b = !want → K ((s.put (some d) (.bool !want)).put dst (.con undef)))
    | .con (.tuple a) => a = #[] ∧ K (s.put dst (.con undef))
    | _ => False
def R (P : Program) (G : Glo) (C : CT) (md : FuncId → Bool) (B : Nat) : XC → St → (XE → St → Prop) → Prop
  | .done, s, Q => Q .normal s
  | .op dst o g r, s, Q => guardG s o dst P G C md (fun s' => R P G C md B r s' Q) g
  | .fork p q r, s, Q => R P G C md B p s (thenX (fun s' => R P G C md B r s' Q) Q) ∧ R P G C md B q s (thenX (fun s' => R P G C md B r s' Q) Q)
  | .cond c x y r, s, Q => match ev G s c with
    | .bool b => (b = true → R P G C md B x (know s c true) (thenX (fun s' => R P G C md B r s' Q) Q)) ∧ (b = false → R P G C md B y (know s c false) (thenX (fun s' => R P G C md B r s' Q) Q))
    | _ => False
  | .block id c r, s, Q => R P G C md B c s (inBlockX id (thenX (fun s' => R P G C md B r s' Q) Q))
  | .loop c, s, Q => ∀ J : St → Prop, (∀ s, (∃ acts ρ nx, rhoOk B ρ (objIds acts) nx = true ∧ R P G C md B c (canon B acts ρ nx s) (thenX J Q)) → J s) → J s
  | .exit id, s, Q => Q (.exit id) s
  | .ret, s, Q => Q .ret s
  | .fail, _, _ => False

def compPlan (ops : Array Oper) : Plan → XC → XC
  | .done, r => r
  | .fail, _ => .fail
  | .op i p, r => match ops[i]? with
    | none => .fail
    | some o => match o.guard with
      | none => .op o.dst o.op none (compPlan ops p r)
      | some (j, want) => match (ops[j]?).bind (·.dst) with
        | none => .fail
        | some d => .op o.dst o.op (some (d, want)) (compPlan ops p r)
  | .both p q, r => .fork (compPlan ops p .done) (compPlan ops q .done) r
def comp (md : FuncId → Bool) : Code → XC → XC
  | .skip, r => r
  | .label _, r => r
  | .region _ ops draw, r => compPlan ops (planOf md ops draw) r
  | .seq x y, r => comp md x (comp md y r)
  | .cond c x y, r => .cond c (comp md x .done) (comp md y .done) r
  | .block id c, r => .block id (comp md c .done) r
  | .loop c, _ => .loop (comp md c .done)
  | .exit id, _ => .exit id
  | .ret, _ => .ret
  | _, _ => .fail
def compF (md : FuncId → Bool) (fn : Func) : XC := match fn.body with
  | some c => comp md c .done
  | none => .fail

section
variable {P : Program} {G : Glo} {C : CT} {md : FuncId → Bool} {B : Nat} {ops : Array Oper}
theorem thenX_thenX (K K' : St → Prop) (Q : XE → St → Prop) : thenX K (thenX K' Q) = thenX K Q := by
  funext e; cases e <;> rfl
theorem guardG_opX {o : Oper} {s : St} {K : St → Prop} : opX P G C md ops o s K = (match o.guard with
    | none => guardG s o.op o.dst P G C md K none
    | some (j, want) => match (ops[j]?).bind (·.dst) with
      | none => False
      | some d => guardG s o.op o.dst P G C md K (some (d, want))) := by
  unfold opX
  cases o.guard with
  | none => rfl
  | some g =>
    obtain ⟨j, want⟩ := g
    simp only
    cases (ops[j]?).bind (·.dst) <;> rfl
theorem compPlan_run : ∀ (p : Plan) (r : XC) (s : St) (Q : XE → St → Prop), R P G C md B (compPlan ops p r) s Q = runPlan P G C md ops p s (fun s' => R P G C md B r s' Q)
  | .done, r, s, Q => rfl
  | .fail, r, s, Q => rfl
  | .op i p, r, s, Q => by
    simp only [compPlan, runPlan]
    cases hi : ops[i]? with
    | none => rfl
    | some o =>
      simp only
      rw [guardG_opX]
      cases hg : o.guard with
      | none =>
        simp only [R]
        congr 1
        funext s'
        exact compPlan_run p r s' Q
      | some g =>
        obtain ⟨j, want⟩ := g
        simp only
        cases hd : (ops[j]?).bind (·.dst) with
        | none => rfl
        | some d =>
          simp only [R]
          congr 1
          funext s'
          exact compPlan_run p r s' Q
  | .both p q, r, s, Q => by
    simp only [compPlan, runPlan, R]
    rw [compPlan_run p, compPlan_run q]
    rfl
theorem comp_run : ∀ (c : Code) (r : XC) (s : St) (Q : XE → St → Prop), R P G C md B (comp md c r) s Q = X P G C md B c s (thenX (fun s' => R P G C md B r s' Q) Q) := by
  intro c
  induction c with
  | skip => intros; rfl
  | label l => intros; rfl
  | exit id => intros; rfl
  | ret => intros; rfl
  | region id ops draw => intro r s Q; simp only [comp, X]; exact compPlan_run _ r s Q
  | seq x y ihx ihy =>
    intro r s Q
    simp only [comp, X]
    rw [ihx, thenX_thenX]
    congr 2 <;> (funext s'; exact ihy r s' Q)
  | cond c x y ihx ihy =>
    intro r s Q
    have ex : ∀ s, R P G C md B (comp md x .done) s (thenX (fun s' => R P G C md B r s' Q) Q) = X P G C md B x s (thenX (fun s' => R P G C md B r s' Q) Q) := by
      intro s
      rw [ihx]
      congr 1 <;> (funext e; cases e <;> rfl)
    have ey : ∀ s, R P G C md B (comp md y .done) s (thenX (fun s' => R P G C md B r s' Q) Q) = X P G C md B y s (thenX (fun s' => R P G C md B r s' Q) Q) := by
      intro s
      rw [ihy]
      congr 1 <;> (funext e; cases e <;> rfl)
    simp only [comp, X, R, ex, ey]
    all_goals (cases ev G s c <;> rfl)
  | block id c ih =>
    intro r s Q
    simp only [comp, X, R]
    rw [ih]
    congr 1 <;> (funext e; cases e <;> rfl)
  | loop c ih =>
    intro r s Q
    simp only [comp, X, R]
    apply propext
    refine forall_congr' fun J => ?_
    have e : ∀ s, R P G C md B (comp md c .done) s (thenX J Q) = X P G C md B c s (thenX J (thenX (fun s' => R P G C md B r s' Q) Q)) := by
      intro s
      rw [ih]
      congr 1 <;> (funext e; cases e <;> rfl)
    simp only [e]
  | _ => intros; rfl
end
end Go.Proofs.YtedgfiikaedeoaaDoor.X
set_option linter.unusedVariables false
namespace Go.Proofs.YtedgfiikaedeoaaDoor.X
open Go

def RetTo (h : Heap) (v r : AV) : Prop := ∃ r0 h2, conR 8 h v = some (r0, h2) ∧ NilTo r0 r
theorem Closed.run {P : Program} {G : Glo} {C : CT} {md : FuncId → Bool} (hC : Closed P G md C) {f : FuncId} {fn : Func} {args : List AV} {h : Heap} {n : Nat} {K : AV → Heap → Nat → Prop} {x : XC} (hf : P.funcs[f]? = some fn) (hx : compF md fn = x) (hne : fn.name ≠ "runtime.NumGoroutine")
    (hr : R P G C md n x ⟨args ++ List.replicate (fn.ntmps - args.length) (.con undef), h, n⟩ (bodyQ P fn.results.toList K)) : C f args h n K := by
  cases hb : fn.body with
  | none =>
    simp only [compF, hb] at hx
    subst hx
    exact hr.elim
  | some c =>
    simp only [compF, hb] at hx
    subst hx
    rw [comp_run] at hr
    refine hC f args h n K ⟨fn, c, hf, hb, hne, ?_⟩
    have e : (thenX (fun s' => R P G C md n .done s' (bodyQ P fn.results.toList K)) (bodyQ P fn.results.toList K)) = bodyQ P fn.results.toList K := by funext e; cases e <;> rfl
    rwa [e] at hr
theorem Ev.run {P : Program} {G : Glo} {C : CT} {md : FuncId → Bool} (hC : Closed P G md C) {f : FuncId} {fn : Func} {ts : List AV} {r : AV} {x : XC} (hf : P.funcs[f]? = some fn) (hx : compF md fn = x) (hne : fn.name ≠ "runtime.NumGoroutine") (ho : ownR r = true)
    (hr : R P G C md 0 x ⟨ts ++ List.replicate (fn.ntmps - ts.length) (.con undef), [], 0⟩ (bodyQ P fn.results.toList fun v h _ => RetTo h v r)) : Ev C f ts r :=
  ⟨_, hC.run hf hx hne hr, ho, fun v h n hk => hk⟩

def HeadAt (B : Nat) (acts : List Keepd) (s s' : St) : Prop := ∃ ρ nx, rhoOk B ρ (objIds acts) nx = true ∧ canon B acts ρ nx s = s'
theorem R_loop {P : Program} {G : Glo} {C : CT} {md : FuncId → Bool} {B : Nat} {c : XC} {s : St} {Q : XE → St → Prop} (acts : List Keepd)
    (h : ∀ J : St → Prop, (∀ s s', HeadAt B acts s s' → R P G C md B c s' (thenX J Q) → J s) → J s) : R P G C md B (.loop c) s Q := by
  simp only [R]
  intro J hJ
  refine h J fun s s' ⟨ρ, nx, h1, h2⟩ hr => hJ s ⟨acts, ρ, nx, h1, ?_⟩
  rw [h2]; exact hr
end Go.Proofs.YtedgfiikaedeoaaDoor.X
set_option linter.unusedVariables false
set_option linter.unusedSimpArgs false
namespace Go.Proofs.YtedgfiikaedeoaaDoor.X
open Go

/-! ### What an argument can be -/
mutual
def Has (P : Program) : Nat → TypeId → List AV → Prop
  | 0, _, _ => False
  | k + 1, t, xs => match P.underlying t with
    | some .bool => ∃ b, xs = [.bool b]
    | some (.int kd) => ∃ n, xs = [.int kd n] ∧ (Lit.int kd n).wf = true
    | some .string => ∃ s, xs = [.str s] ∧ s.size ≤ reachBytes
    | some (.slice e) => ∃ es, xs = [.sl es] ∧ es.length ≤ maxLen ∧ es.length * P.bytesOf e ≤ reachBytes ∧ ∀ el ∈ es, el.length = P.cellsOf e ∧ Has P k e el
    | some (.struct fs) => HasE P k (fs.toList.map (·.type)) xs
    | _ => False
def HasE (P : Program) : Nat → List TypeId → List AV → Prop
  | 0, _, _ => False
  | _, [], xs => xs = []
  | k + 1, t :: ts, xs => ∃ x1 x2, xs = x1 ++ x2 ∧ x1.length = P.cellsOf t ∧ Has P k t x1 ∧ HasE P k ts x2
end
mutual
def okT (P : Program) : Nat → TypeId → Bool
  | 0, _ => false
  | k + 1, t => match P.underlying t with
    | some .bool | some (.int _) | some .string => P.cellsOf t == 1
    | some (.slice e) => P.cellsOf t == 1 && decide (0 < P.cellsOf e) && okT P k e
    | some (.struct fs) => okE P k 0 (P.cellsOf t) fs.toList
    | _ => false
def okE (P : Program) : Nat → Nat → Nat → List Field → Bool
  | 0, _, _, _ => false
  | _, off, total, [] => off == total
  | k + 1, off, total, f :: fs => f.offset == off && okT P k f.type && okE P k (off + P.cellsOf f.type) total fs
end

theorem At.append {w : World} {b o : Nat} {v1 v2 : List Value} (h1 : At w b o v1) (h2 : At w b (o + v1.length) v2) : At w b o (v1 ++ v2) := by
  intro j u hu
  rcases Nat.lt_or_ge j v1.length with hj | hj
  · rw [List.getElem?_append_left hj] at hu; exact h1 j u hu
  · rw [List.getElem?_append_right hj] at hu
    have := h2 _ u hu
    rwa [show o + v1.length + (j - v1.length) = o + j by omega] at this

section
variable {H : Type} {enc : TypeId × Value → H} {P : Program} {w : World} {base : Nat} {spare : Nat → Bool} {held : Bool}
abbrev Old (w : World) : Nat → Prop := fun b => b < w.heap.size

theorem row_open {k : Nat} {e : TypeId} (hA : ∀ (fuel : Nat) (cs : List Value) (d : DataW H × List MemPlace), DataW.trod enc P w base spare held fuel e cs = some d → (DataW.weights P e d.1).all (· ≤ reachBytes) = true → ∃ xs, TL w (Old w) xs cs [] ∧ Has P k e xs ∧ xs.length = P.cellsOf e)
    {fuel : Nat} {a : Addr} (hsz : 0 < P.cellsOf e) : ∀ (s : Nat) (r : List (DataW H × List MemPlace)),
    (∀ i, i < r.length → (w.cells? base (a.add ((s + i) * P.cellsOf e)) (P.cellsOf e)).bind (DataW.trod enc P w base spare held fuel e) = r[i]?) → (DataW.weightsAll P e (r.map (·.1))).all (· ≤ reachBytes) = true → (a.spot = none ∨ s = 0) →
    ∃ es vs, TLL w (Old w) es vs [] ∧ Each (P.cellsOf e) es ∧ (∀ el ∈ es, el.length = P.cellsOf e ∧ Has P k e el) ∧ es.length = r.length ∧ At w a.block (a.off + s * P.cellsOf e) vs ∧ (r ≠ [] → a.block < w.heap.size ∧ a.spot = none)
  | s, [], h, hw, _ => ⟨[], [], by simp [TLL], trivial, by simp, rfl, by simp [At], by simp⟩
  | s, (d, ps) :: r, h, hw, hsp => by
    simp only [List.map_cons, DataW.weightsAll, List.all_append, Bool.and_eq_true] at hw
    have h0 := h 0 (by simp)
    simp only [Nat.add_zero, List.getElem?_cons_zero] at h0
    obtain ⟨cs, hc1, hc2⟩ := Option.bind_eq_some_iff.1 h0
    obtain ⟨hb, hl, hcell⟩ := World.cells?_some hc1
    have hspot : a.spot = none ∧ a.block < w.heap.size := by
      have := hcell 0 hsz
      have hne : cs[0]? ≠ none := by rw [Ne, List.getElem?_eq_none_iff]; omega
      rw [← this] at hne
      have hbl : ((a.add (s * P.cellsOf e)).add 0).block = a.block := by unfold Addr.add; split <;> split <;> rfl
      refine ⟨?_, ?_⟩
      · rcases hsp with hsp | rfl
        · exact hsp
        · cases hs : a.spot with
          | none => rfl
          | some q =>
            exfalso; apply hne
            simp only [Nat.zero_mul, Addr.add, if_true]
            unfold World.cell?
            split
            · simp [hs]
            · rfl
      · rcases Nat.lt_or_ge a.block w.heap.size with g | g
        · exact g
        · exfalso; apply hne
          unfold World.cell?
          rw [hbl, Array.getElem?_eq_none g]
    obtain ⟨hspn, hlt⟩ := hspot
    obtain ⟨el, g1, g2, g3⟩ := hA fuel cs (d, ps) hc2 hw.1
    obtain ⟨es, vs, k1, k2, k3, k4, k5, _⟩ := row_open hA (fuel := fuel) (a := a) hsz (s + 1) r (fun i hi => by
      have := h (i + 1) (by simpa using hi)
      rw [List.getElem?_cons_succ] at this
      rw [← this, show s + 1 + i = s + (i + 1) by omega]) hw.2 (.inl hspn)
    have hadd : ∀ j, (a.add (s * P.cellsOf e)).add j = ⟨a.block, a.off + s * P.cellsOf e + j, none⟩ := by
      intro j
      obtain ⟨ab, ao, as⟩ := a
      simp only at hspn
      subst hspn
      rw [addr_add, addr_add]
    have hat : At w a.block (a.off + s * P.cellsOf e) cs := by
      intro j u hu
      have hj : j < P.cellsOf e := by rw [← hl]; exact (List.getElem?_eq_some_iff.1 hu).1
      have := hcell j hj
      rw [hadd] at this
      rw [this, hu]
    refine ⟨el :: es, cs ++ vs, ?_, ⟨g3, k2⟩, ?_, by simp [k4], hat.append ?_, fun _ => ⟨hlt, hspn⟩⟩
    · simp only [TLL]; exact ⟨cs, vs, [], [], rfl, rfl, g1, k1⟩
    · intro x hx
      rcases List.mem_cons.1 hx with rfl | hx
      · exact ⟨g3, g2⟩
      · exact k3 x hx
    · rw [hl, show a.off + s * P.cellsOf e + P.cellsOf e = a.off + (s + 1) * P.cellsOf e by rw [Nat.add_mul]; omega]; exact k5

theorem TL_one {w : World} {I : Nat → Prop} {x : AV} {v : Value} (h1 : v.oneCell' = true) (h : T w I x v []) : TL w I [x] [v] [] := by
  simp only [TL]; exact ⟨v, [], [], [], rfl, rfl, h1, h, rfl, rfl⟩

theorem open_both : ∀ (K : Nat), (∀ (t : TypeId) (fuel : Nat) (cs : List Value) (d : DataW H × List MemPlace), okT P K t = true → DataW.trod enc P w base spare held fuel t cs = some d → (DataW.weights P t d.1).all (· ≤ reachBytes) = true → ∃ xs, TL w (Old w) xs cs [] ∧ Has P K t xs ∧ xs.length = P.cellsOf t) ∧
    (∀ (fs : List Field) (off total fuel : Nat) (cs : List Value) (r : List (DataW H × List MemPlace)), okE P K off total fs = true → cs.length = total → r.length = fs.length → (∀ (i : Nat) (f : Field), fs[i]? = some f → DataW.trod enc P w base spare held fuel f.type ((cs.drop f.offset).take (P.cellsOf f.type)) = r[i]?) → (DataW.weightsEach P (fs.map (·.type)) (r.map (·.1))).all (· ≤ reachBytes) = true →
      ∃ xs, TL w (Old w) xs (cs.drop off) [] ∧ HasE P K (fs.map (·.type)) xs ∧ off + xs.length = total) := by
  intro K
  induction K with
  | zero => exact ⟨fun t fuel cs d h => by simp [okT] at h, fun fs off total fuel cs r h => by simp [okE] at h⟩
  | succ K ih =>
    obtain ⟨ihA, ihB⟩ := ih
    refine ⟨fun t fuel cs d hok h hw => ?_, fun fs off total fuel cs r hok hl hrl h hw => ?_⟩
    · simp only [okT] at hok
      simp only [Has]
      cases ht : P.underlying t with
      | none => simp [ht] at hok
      | some u =>
        rw [ht] at hok
        cases u <;> simp only [Bool.false_eq_true] at hok
        case bool =>
          obtain ⟨b, rfl, rfl⟩ := DataW.trod_bool ht h
          exact ⟨[.bool b], TL_one rfl (by simp [T]), ⟨b, rfl⟩, by simpa using (beq_iff_eq.1 hok).symm⟩
        case int kd =>
          obtain ⟨n, rfl, rfl, hwf⟩ := DataW.trod_int ht h
          exact ⟨[.int kd n], TL_one rfl (by simp [T]), ⟨n, rfl, hwf⟩, by simpa using (beq_iff_eq.1 hok).symm⟩
        case string =>
          obtain ⟨s, rfl, rfl, hs⟩ := DataW.trod_string ht h
          refine ⟨[.str s], TL_one rfl (by simp [T]), ⟨s, rfl, ?_⟩, by simpa using (beq_iff_eq.1 hok).symm⟩
          simpa [DataW.weights] using hw
        case slice e =>
          simp only [Bool.and_eq_true, beq_iff_eq, decide_eq_true_eq] at hok
          obtain ⟨⟨h1, h2⟩, h3⟩ := hok
          rcases DataW.trod_slice ht h with ⟨rfl, rfl⟩ | ⟨a, len, cap, elems, rest, n, rfl, rfl, rfl, hba, hlc, hcm, hel, hread, _, _⟩
          · exact ⟨[.sl []], TL_one rfl (by simp [T]), ⟨[], rfl, by simp, by simp, by simp⟩, by simpa using h1.symm⟩
          · simp only [DataW.weights, ht, List.all_cons, List.all_append, Bool.and_eq_true, decide_eq_true_eq, List.length_map] at hw
            obtain ⟨es, vs, k1, k2, k3, k4, k5, k6⟩ := row_open (k := K) (e := e) (fun fuel cs d hd hwd => ihA e fuel cs d h3 hd hwd) (fuel := n) (a := a) h2 0 elems (fun i hi => by rw [Nat.zero_add]; exact hread i (by omega)) hw.2.1 (.inr rfl)
            refine ⟨[.sl es], TL_one rfl ?_, ⟨es, rfl, by omega, ?_, k3⟩, by simpa using h1.symm⟩
            · simp only [T]
              refine ⟨trivial, some a, cap, by rw [k4, hel], by omega, by omega, ?_⟩
              cases elems with
              | nil => exact .inl (List.eq_nil_of_length_eq_zero (by simpa using k4))
              | cons x xs =>
                right
                obtain ⟨hlt, hsp⟩ := k6 (by simp)
                obtain ⟨ab, ao, as⟩ := a
                simp only at hsp hlt k5
                subst hsp
                exact ⟨ab, ao, _, vs, rfl, hlt, k2, by simpa using k5, k1⟩
            · rw [k4]
              exact Nat.le_trans (Nat.mul_le_mul_right _ (Nat.le_add_right _ _)) hw.1
        case struct fs =>
          obtain ⟨xs, n, rfl, rfl, hl, hxl, hread⟩ := DataW.trod_struct ht h
          simp only [DataW.weights, ht] at hw
          obtain ⟨ys, g1, g2, g3⟩ := ihB fs.toList 0 (P.cellsOf t) n cs xs hok hl (by simpa using hxl) (fun i f hf => hread i f (by simpa using hf)) hw
          exact ⟨ys, by simpa using g1, g2, by simpa using g3⟩
    · cases fs with
      | nil =>
        simp only [okE, beq_iff_eq] at hok
        subst hok
        refine ⟨[], ?_, rfl, rfl⟩
        rw [List.drop_eq_nil_of_le (by omega)]
        simp [TL]
      | cons f fs =>
        cases r with
        | nil => simp at hrl
        | cons x r =>
          simp only [okE, Bool.and_eq_true, beq_iff_eq] at hok
          obtain ⟨⟨h1, h2⟩, h3⟩ := hok
          simp only [List.map_cons, DataW.weightsEach, List.all_append, Bool.and_eq_true] at hw
          have hx := h 0 f rfl
          simp only [List.getElem?_cons_zero] at hx
          rw [h1] at hx
          obtain ⟨y1, g1, g2, g3⟩ := ihA f.type fuel _ x h2 hx hw.1
          obtain ⟨y2, k1, k2, k3⟩ := ihB fs (off + P.cellsOf f.type) total fuel cs r h3 hl (by simpa using hrl) (fun i f' hf' => by
            have := h (i + 1) f' (by simpa using hf')
            simpa using this) hw.2
          refine ⟨y1 ++ y2, ?_, ?_, ?_⟩
          · have e : cs.drop off = (cs.drop off).take (P.cellsOf f.type) ++ cs.drop (off + P.cellsOf f.type) := by
              rw [← List.drop_drop, List.take_append_drop]
            rw [e]
            exact TL.append g1 k1
          · simp only [List.map_cons, HasE]
            exact ⟨y1, y2, rfl, g3, g2, k2⟩
          · simp only [List.length_append]; omega
end
end Go.Proofs.YtedgfiikaedeoaaDoor.X
set_option linter.unusedVariables false
set_option linter.unusedSimpArgs false
namespace Go.Proofs.YtedgfiikaedeoaaDoor.X
open Go Go.RowKit

def HasV (P : Program) (K : Nat) (t : TypeId) (x : AV) : Prop := match P.underlying t with
  | some (.struct _) => ∃ xs, x = .agg xs ∧ Has P K t xs
  | _ => Has P K t [x]
def HasVs (P : Program) (K : Nat) : List TypeId → List AV → Prop
  | [], xs => xs = []
  | t :: ts, xs => ∃ x r, xs = x :: r ∧ HasV P K t x ∧ HasVs P K ts r

theorem has_frz {P : Program} : ∀ (K : Nat), (∀ t xs, Has P K t xs → frzOkL xs = true) ∧ (∀ ts xs, HasE P K ts xs → frzOkL xs = true) := by
  have happ : ∀ xs ys : List AV, frzOkL xs = true → frzOkL ys = true → frzOkL (xs ++ ys) = true := by
    intro xs
    induction xs with
    | nil => intro ys _ h; exact h
    | cons x xs ih => intro ys h1 h2; simp only [frzOkL, Bool.and_eq_true, List.cons_append] at h1 ⊢; exact ⟨h1.1, ih ys h1.2 h2⟩
  intro K
  induction K with
  | zero => exact ⟨fun t xs h => by simp [Has] at h, fun ts xs h => by simp [HasE] at h⟩
  | succ K ih =>
    refine ⟨fun t xs h => ?_, fun ts xs h => ?_⟩
    · simp only [Has] at h
      split at h
      · obtain ⟨b, rfl⟩ := h; rfl
      · obtain ⟨n, rfl, _⟩ := h; rfl
      · obtain ⟨s, rfl, _⟩ := h; rfl
      · obtain ⟨es, rfl, _⟩ := h; rfl
      · exact ih.2 _ _ h
      · exact h.elim
    · cases ts with
      | nil => simp only [HasE] at h; subst h; rfl
      | cons t ts =>
        simp only [HasE] at h
        obtain ⟨x1, x2, rfl, _, h1, h2⟩ := h
        exact happ _ _ (ih.1 _ _ h1) (ih.2 _ _ h2)

section
variable {H : Type} {enc : TypeId × Value → H} {P : Program} {W W' : World} {base : Nat} {spare : Nat → Bool} {held : Bool}
theorem open_arg {K b0 : Nat} {t : TypeId} {v : Value} {d : DataW H} {p : List MemPlace} (hval : Value.okWide P W .any b0 t v) (h : DataW.Trod enc P W base spare held t v d p) (hok : okT P K t = true) (hw : (DataW.weights P t d).all (· ≤ reachBytes) = true) :
    ∃ x, T W (Old W) x v [] ∧ HasV P K t x ∧ frzOk x = true := by
  obtain ⟨fuel, hf⟩ := h
  obtain ⟨xs, h1, h2, h3⟩ := (open_both K).1 t fuel _ (d, p) hok hf hw
  have hz := (has_frz K).1 t xs h2
  have single : v.cells.toList = [v] → (∀ fs, P.underlying t ≠ some (.struct fs)) → ∃ x, T W (Old W) x v [] ∧ HasV P K t x ∧ frzOk x = true := by
    intro hc hs
    rw [hc] at h1
    cases xs with
    | nil => simp [TL] at h1
    | cons x xs =>
      simp only [TL] at h1
      obtain ⟨v', vs', F1, F2, e1, e2, _, hT, hr⟩ := h1
      simp only [List.cons.injEq] at e1
      obtain ⟨rfl, rfl⟩ := e1
      obtain ⟨rfl, rfl⟩ := List.append_eq_nil_iff.1 e2.symm
      cases xs with
      | cons y ys => simp [TL] at hr
      | nil =>
        refine ⟨x, hT, ?_, by simpa [frzOkL] using hz⟩
        unfold HasV
        split
        · rename_i fs e; exact absurd e (hs fs)
        · exact h2
  cases K with
  | zero => simp [okT] at hok
  | succ K =>
    simp only [okT] at hok
    cases ht : P.underlying t with
    | none => simp [ht] at hok
    | some u =>
      rw [ht] at hok
      cases u <;> simp only [Bool.false_eq_true] at hok
      case struct fs =>
        simp only [Value.okWide, ht] at hval
        obtain ⟨cs, rfl, _⟩ := hval
        refine ⟨.agg xs, ?_, ?_, by simpa [frzOk] using hz⟩
        · simp only [T]; exact ⟨cs, rfl, by simpa [Value.cells] using h1⟩
        · unfold HasV; rw [ht]; exact ⟨xs, rfl, h2⟩
      all_goals
        refine single ?_ (by simp [ht])
        simp only [Value.okWide, ht, Cell.okWide] at hval
        cases v <;> simp_all [Cell.ok, Value.cells]

theorem args_open {K b0 : Nat} : ∀ {ts : List TypeId} {vs : List Value} {ds : List (DataW H)} {p : List MemPlace}, DataW.TrodAll enc P W base spare held ts vs ds p → (∀ (j : Nat) t v, ts[j]? = some t → vs[j]? = some v → Value.okWide P W .any b0 t v) →
    ts.all (okT P K) = true → (DataW.weightsEach P ts ds).all (· ≤ reachBytes) = true → ∃ xs, TV W (Old W) xs vs [] ∧ HasVs P K ts xs ∧ frzOkL xs = true
  | [], [], [], p, h, hv, hok, hw => ⟨[], by simp [TV], rfl, rfl⟩
  | t :: ts, v :: vs, d :: ds, p, h, hv, hok, hw => by
    obtain ⟨p1, p2, h1, h2, rfl⟩ := h
    simp only [List.all_cons, Bool.and_eq_true] at hok
    simp only [DataW.weightsEach, List.all_append, Bool.and_eq_true] at hw
    obtain ⟨x, g1, g2, g3⟩ := open_arg (hv 0 t v rfl rfl) h1 hok.1 hw.1
    obtain ⟨xs, k1, k2, k3⟩ := args_open h2 (fun j t v ht hv' => hv (j + 1) t v (by simpa using ht) (by simpa using hv')) hok.2 hw.2
    refine ⟨x :: xs, ?_, ⟨x, xs, rfl, g2, k2⟩, by simp [frzOkL, g3, k3]⟩
    simp only [TV]; exact ⟨v, vs, [], [], rfl, rfl, g1, k1⟩
  | [], _ :: _, _, _, h, _, _, _ => by cases h
  | [], [], _ :: _, _, h, _, _, _ => by cases h
  | _ :: _, [], _, _, h, _, _, _ => by cases h
  | _ :: _, _ :: _, [], _, h, _, _, _ => by cases h

theorem args_back (hl : laidOutB P = true) : ∀ {ts : List TypeId} {vs : List Value} {ds : List (DataW H)} {p : List MemPlace}, (ts.all fun t => P.readableRec t && decide (t < P.types.size)) = true → DataW.TrodAll enc P W 0 (fun _ => true) true ts vs ds p → Below W.heap.size W W' →
    DataW.TrodAll enc P W' 0 (fun b => decide (b < W.heap.size)) true ts vs ds p
  | [], [], [], p, hr, h, hb => h
  | t :: ts, v :: vs, d :: ds, p, hr, h, hb => by
    obtain ⟨p1, p2, h1, h2, rfl⟩ := h
    simp only [List.all_cons, Bool.and_eq_true, decide_eq_true_eq] at hr
    refine ⟨p1, p2, Below.trod hl hr.1.1 hr.1.2 h1 hb ?_, args_back hl (by simpa using hr.2) h2 hb, rfl⟩
    obtain ⟨m, hm⟩ := h1
    exact DataW.trod_lt m _ _ _ hm
  | [], _ :: _, _, _, _, h, _ => by cases h
  | [], [], _ :: _, _, _, h, _ => by cases h
  | _ :: _, [], _, _, _, h, _ => by cases h
  | _ :: _, _ :: _, [], _, _, h, _ => by cases h
end

abbrev G0 : Glo := fun _ => none
theorem TV_SV {P : Program} {W : World} {hd : Nat → Value} {n : Nat} : ∀ (ts : List AV) (vs : List Value), frzOkL ts = true → TV W (Old W) ts vs [] → SV hd n W (Old W) ts vs := by
  intro ts
  induction ts with
  | nil => intro vs _ h; simp only [TV, SV] at h ⊢; exact h.1
  | cons x ts ih =>
    intro vs hf h
    simp only [frzOkL, Bool.and_eq_true] at hf
    simp only [TV] at h
    obtain ⟨v, vs', F1, F2, rfl, hF, hx, hxs⟩ := h
    obtain ⟨rfl, rfl⟩ := List.append_eq_nil_iff.1 hF.symm
    simp only [SV]
    exact ⟨v, vs', rfl, T.toS x v hf.1 hx, ih vs' hf.2 hxs⟩
theorem law_run {P : Program} {f : FuncId} {ts : List AV} {vals : List Value} {W : World} (hEv : Ev (CS P G0) f ts (.bool true)) (hargs : TV W (Old W) ts vals []) (hok : frzOkL ts = true) :
    Calls P f vals.toArray W fun e W' => e = .returned (.bool true) ∧ Below W.heap.size W W' := by
  obtain ⟨K0, ⟨_, hcall⟩, _, hres⟩ := hEv
  have hr0 : HR G0 (fun b => W.heap.size ≤ b) (Old W) [] 0 (fun _ => undef) (fun _ => []) W :=
    ⟨fun id o ho => by simp [hget] at ho, fun b hb => ⟨hb, fun id o ho => by simp [hget] at ho⟩, fun id o ho => by simp [hget] at ho, fun id o id' o' ho => by simp [hget] at ho, fun id o ho => by simp [hget] at ho, fun id o ho => by simp [hget] at ho, fun b hb => hb, fun g cs hg => by cases hg⟩
  refine (hcall _ _ _ _ W vals hr0 (TV_SV (P := P) ts vals hok hargs)).mono ?_
  rintro e W' ⟨v, av, h', n', I', hd', Fp', rfl, hK0, hr', hv, hE, hn⟩
  obtain ⟨r0, h2, hcon, hnil⟩ := hres av h' n' hK0
  obtain ⟨F, hT, _⟩ := (conR_sound 8).1 h' hr' av r0 h2 v hv hcon
  have hT2 := T.nilTo r0 _ v F hT hnil
  simp only [T] at hT2
  refine ⟨by rw [hT2.1], hE.keep.os, hE.keep.tape, hE.keep.output, hE.keep.size, fun b hb => (hE.im b hb).2⟩
end Go.Proofs.YtedgfiikaedeoaaDoor.X
set_option linter.unusedVariables false
set_option linter.unusedSimpArgs false
namespace Go.Proofs.YtedgfiikaedeoaaDoor.X
open Go Go.RowKit
theorem law_runG {P : Program} {G : Glo} {f : FuncId} {ts : List AV} {vals : List Value} {W : World} (hEv : Ev (CS P G) f ts (.bool true)) (hargs : TV W (Old W) ts vals []) (hok : frzOkL ts = true)
    (hG : ∀ g cs, G g = some cs → GloT W (Old W) g cs) :
    Calls P f vals.toArray W fun e W' => e = .returned (.bool true) ∧ Below W.heap.size W W' := by
  obtain ⟨K0, ⟨_, hcall⟩, _, hres⟩ := hEv
  have hr0 : HR G (fun b => W.heap.size ≤ b) (Old W) [] 0 (fun _ => undef) (fun _ => []) W :=
    ⟨fun id o ho => by simp [hget] at ho, fun b hb => ⟨hb, fun id o ho => by simp [hget] at ho⟩, fun id o ho => by simp [hget] at ho, fun id o id' o' ho => by simp [hget] at ho, fun id o ho => by simp [hget] at ho, fun id o ho => by simp [hget] at ho, fun b hb => hb, hG⟩
  refine (hcall _ _ _ _ W vals hr0 (TV_SV (P := P) ts vals hok hargs)).mono ?_
  rintro e W' ⟨v, av, h', n', I', hd', Fp', rfl, hK0, hr', hv, hE, hn⟩
  obtain ⟨r0, h2, hcon, hnil⟩ := hres av h' n' hK0
  obtain ⟨F, hT, _⟩ := (conR_sound 8).1 h' hr' av r0 h2 v hv hcon
  have hT2 := T.nilTo r0 _ v F hT hnil
  simp only [T] at hT2
  refine ⟨by rw [hT2.1], hE.keep.os, hE.keep.tape, hE.keep.output, hE.keep.size, fun b hb => (hE.im b hb).2⟩
def scCells : List AV → List Value
  | [] => []
  | .int k n :: r => .int k n :: scCells r
  | _ :: r => scCells r
def allInt : List AV → Bool
  | [] => true
  | .int _ _ :: r => allInt r
  | _ :: _ => false
theorem scCells_int : ∀ {cs : List AV} {v : Value}, v ∈ scCells cs → ∃ k n, v = .int k n
  | [], v, h => by simp [scCells] at h
  | x :: r, v, h => by
    cases x <;> simp only [scCells, List.mem_cons] at h
    case int k n =>
      rcases h with rfl | h
      · exact ⟨k, n, rfl⟩
      · exact scCells_int h
    all_goals exact scCells_int h
theorem cell_row {w : World} {b off : Nat} {cs : Array Value} {t : TypeId} {fr : Nat × Nat} (h : w.heap[b]? = some (.cells cs t fr)) : w.cell? ⟨b, off, none⟩ = cs[off]? := by
  simp only [World.cell?, h]
  rfl
theorem no_iface {w : World} {b off : Nat} {cs : List AV} {t : TypeId} {fr : Nat × Nat} {u : TypeId} {v : Value} (h : w.heap[b]? = some (.cells (scCells cs).toArray t fr)) (hc : w.cell? ⟨b, off, none⟩ = some (.iface u v)) : False := by
  rw [cell_row h, List.getElem?_toArray] at hc
  obtain ⟨k, n, e⟩ := scCells_int (List.mem_of_getElem? hc)
  cases e
theorem TL_ints {w : World} {I : Nat → Prop} : ∀ (cs : List AV), allInt cs = true → TL w I cs (scCells cs) []
  | [], _ => by simp [TL, scCells]
  | .int k n :: r, h => by
    simp only [TL, scCells]
    exact ⟨.int k n, scCells r, [], [], rfl, rfl, rfl, by simp [T], TL_ints r h⟩
theorem scCells_len : ∀ {cs : List AV}, allInt cs = true → (scCells cs).length = cs.length
  | [], _ => rfl
  | .int k n :: r, h => by
    simp only [scCells, List.length_cons]
    rw [scCells_len (cs := r) h]
theorem glo_of_var {P : Program} {W : World} {n : String} {g : Nat} {cs : List AV} (hg : P.globalNamed n = some g) (hi : allInt cs = true) (h : W.var? P n = some (scCells cs).toArray) : GloT W (Old W) g cs := by
  have hlt : g < W.heap.size := by
    simp only [World.var?, hg, Option.bind_some] at h
    rcases Nat.lt_or_ge g W.heap.size with hl | hl
    · exact hl
    · rw [Array.getElem?_eq_none hl] at h; cases h
  refine ⟨?_, ?_⟩
  · simp only [T]
    refine ⟨trivial, g, 0, scCells cs, rfl, hlt, fun j u hu => ?_, TL_ints cs hi⟩
    have := World.var?_cell hg h j
    rw [Nat.zero_add, this]
    simpa using hu
  · simp only [World.var?, hg, Option.bind_some] at h
    split at h
    · rename_i vs t fr e
      cases h
      exact ⟨_, t, fr, e, by simp [scCells_len hi]⟩
    · cases h
theorem int_of_trod {H : Type} {enc : TypeId × Value → H} {P : Program} {w : World} {base : Nat} {sp : Nat → Bool} {held : Bool} {fuel : Nat} {t : TypeId} {k : IntKind} {c : Value} {y : DataW H × List MemPlace}
    (ht : P.underlying t = some (.int k)) (h : DataW.trod enc P w base sp held fuel t [c] = some y) : ∃ n, c = .int k n ∧ y = (.lit (.int k n), []) := by
  cases fuel with
  | zero => simp [DataW.trod] at h
  | succ fuel =>
    cases c <;> simp [DataW.trod, ht] at h
    rename_i k' n
    obtain ⟨⟨rfl, _⟩, rfl⟩ := h
    exact ⟨n, rfl, rfl⟩
theorem weights_args {H : Type} {enc : TypeId × Value → H} {P : Program} {W : World} {base : Nat} {spare : Nat → Bool} {held : Bool} {us : List TypeId} {es : List (DataW H)} {f : Nat → Bool} : ∀ {ts : List TypeId} {vs : List Value} {ds : List (DataW H)} {p : List MemPlace}, DataW.TrodAll enc P W base spare held ts vs ds p →
    (DataW.weightsEach P (ts ++ us) (ds ++ es)).all f = true → (DataW.weightsEach P ts ds).all f = true
  | [], [], [], _, _, _ => by simp [DataW.weightsEach]
  | t :: ts, v :: vs, d :: ds, p, h, hw => by
    obtain ⟨p1, p2, h1, h2, rfl⟩ := h
    simp only [List.cons_append, DataW.weightsEach, List.all_append, Bool.and_eq_true] at hw ⊢
    exact ⟨hw.1, weights_args h2 hw.2⟩
  | [], _ :: _, _, _, h, _ => by cases h
  | [], [], _ :: _, _, h, _ => by cases h
  | _ :: _, [], _, _, h, _ => by cases h
  | _ :: _, _ :: _, [], _, h, _ => by cases h
end Go.Proofs.YtedgfiikaedeoaaDoor.X
set_option linter.unusedVariables false
set_option linter.unusedSimpArgs false
namespace Go.Proofs.YtedgfiikaedeoaaDoor.X
open Go

theorem RetTo_bool {h : Heap} {b c : Bool} : RetTo h (.bool b) (.bool c) = (b = c) := by
  simp [RetTo, conR, isF, NilTo]
theorem RetTo_int {h : Heap} {k k' : IntKind} {b c : Int} : RetTo h (.int k b) (.int k' c) = (k = k' ∧ b = c) := by
  simp [RetTo, conR, isF, NilTo]
theorem RetTo_str {h : Heap} {b c : ByteArray} : RetTo h (.str b) (.str c) = (b = c) := by
  simp [RetTo, conR, isF, NilTo]

theorem wrap64 {n : Int} (h1 : -9223372036854775808 ≤ n) (h2 : n ≤ 9223372036854775807) : IntKind.i64.wrap n = n := by
  simp only [IntKind.wrap, IntKind.bits, IntKind.signed, IntKind.max]
  simp
  omega

/-! ### The evaluation, a rule an operation: only at a state that is written out, and a slot only takes a value whose kind is known -/
def ifB (b : Bool) (A B : Prop) : Prop := (b = true → A) ∧ (b = false → B)
theorem ifB_true {A B : Prop} : ifB true A B = A := by simp [ifB]
theorem ifB_false {A B : Prop} : ifB false A B = B := by simp [ifB]
theorem ifB_not {b : Bool} {A B : Prop} : ifB (!b) A B = ifB b B A := by cases b <;> simp [ifB]
theorem ifB_intro {b : Bool} {A B : Prop} (h1 : b = true → A) (h2 : b = false → B) : ifB b A B := ⟨h1, h2⟩
def onB : AV → (Bool → Prop) → Prop
  | .bool b, K => K b
  | _, _ => False
theorem onB_bool {b : Bool} {K : Bool → Prop} : onB (.bool b) K = K b := _root_.id rfl
def gK : AV → Bool → Prop → Prop → Prop → Prop
  | .bool b, w, A, B, _ => ifB (b == w) A B
  | .con (.tuple a), _, _, _, B => a = #[] ∧ B
  | _, _, _, _, _ => False
section
variable {P : Program} {G : Glo} {C : CT} {md : FuncId → Bool} {B : Nat} {t : List AV} {h : Heap} {n : Nat} {Q : XE → St → Prop} {d d' : Nat} {r x y : XC} {K : AV → St → Prop} {s : St} {dst : Option Nat} {o : Op}
theorem R_done : R P G C md B .done ⟨t, h, n⟩ Q = Q .normal ⟨t, h, n⟩ := _root_.id rfl
theorem R_exit {id : Nat} : R P G C md B (.exit id) ⟨t, h, n⟩ Q = Q (.exit id) ⟨t, h, n⟩ := _root_.id rfl
theorem R_ret : R P G C md B .ret ⟨t, h, n⟩ Q = Q .ret ⟨t, h, n⟩ := _root_.id rfl
theorem R_block {id : Nat} : R P G C md B (.block id x r) ⟨t, h, n⟩ Q = R P G C md B x ⟨t, h, n⟩ (inBlockX id (thenX (fun s' => R P G C md B r s' Q) Q)) := _root_.id rfl
theorem R_fork : R P G C md B (.fork x y r) ⟨t, h, n⟩ Q = (R P G C md B x ⟨t, h, n⟩ (thenX (fun s' => R P G C md B r s' Q) Q) ∧ R P G C md B y ⟨t, h, n⟩ (thenX (fun s' => R P G C md B r s' Q) Q)) := _root_.id rfl
def cK (P : Program) (G : Glo) (C : CT) (md : FuncId → Bool) (B : Nat) (c : Operand) (x y r : XC) (s : St) (Q : XE → St → Prop) : AV → Prop
  | .bool b => ifB b (R P G C md B x (know s c true) (thenX (fun s' => R P G C md B r s' Q) Q)) (R P G C md B y (know s c false) (thenX (fun s' => R P G C md B r s' Q) Q))
  | _ => False
theorem R_cond {c : Operand} : R P G C md B (.cond c x y r) ⟨t, h, n⟩ Q = cK P G C md B c x y r ⟨t, h, n⟩ Q (ev G ⟨t, h, n⟩ c) := by
  simp only [R]
  cases ev G ⟨t, h, n⟩ c <;> rfl
theorem cK_true {c : Operand} : cK P G C md B c x y r s Q (.bool true) = R P G C md B x (know s c true) (thenX (fun s' => R P G C md B r s' Q) Q) := ifB_true
theorem cK_false {c : Operand} : cK P G C md B c x y r s Q (.bool false) = R P G C md B y (know s c false) (thenX (fun s' => R P G C md B r s' Q) Q) := ifB_false
theorem cK_bool {c : Operand} {b : Bool} : cK P G C md B c x y r s Q (.bool b) = ifB b (R P G C md B x (know s c true) (thenX (fun s' => R P G C md B r s' Q) Q)) (R P G C md B y (know s c false) (thenX (fun s' => R P G C md B r s' Q) Q)) := _root_.id rfl
theorem R_op : R P G C md B (.op dst o none r) ⟨t, h, n⟩ Q = opK P G C md o ⟨t, h, n⟩ fun v s' => R P G C md B r (s'.put dst v) Q := _root_.id rfl
def gX (P : Program) (G : Glo) (C : CT) (md : FuncId → Bool) (B : Nat) (dst : Option Nat) (o : Op) (d : Nat) (w : Bool) (r : XC) (s : St) (Q : XE → St → Prop) : AV → Prop
  | .bool b => (b = w → opK P G C md o (s.put (some d) (.bool w)) fun v s' => R P G C md B r (s'.put dst v) Q) ∧ (b = !w → R P G C md B r ((s.put (some d) (.bool !w)).put dst (.con undef)) Q)
  | .con (.tuple a) => a = #[] ∧ R P G C md B r (s.put dst (.con undef)) Q
  | _ => False
theorem R_guard {w : Bool} : R P G C md B (.op dst o (some (d, w)) r) ⟨t, h, n⟩ Q = gX P G C md B dst o d w r ⟨t, h, n⟩ Q (t.getD d .any) := by
  simp only [R, guardG]
  generalize t.getD d .any = z
  cases z <;> rfl
theorem gX_tt : gX P G C md B dst o d true r s Q (.bool true) = opK P G C md o (s.put (some d) (.bool true)) fun v s' => R P G C md B r (s'.put dst v) Q := by simp [gX]
theorem gX_ft : gX P G C md B dst o d true r s Q (.bool false) = R P G C md B r ((s.put (some d) (.bool false)).put dst (.con undef)) Q := by simp [gX]
theorem gX_tf : gX P G C md B dst o d false r s Q (.bool true) = R P G C md B r ((s.put (some d) (.bool true)).put dst (.con undef)) Q := by simp [gX]
theorem gX_ff : gX P G C md B dst o d false r s Q (.bool false) = opK P G C md o (s.put (some d) (.bool false)) fun v s' => R P G C md B r (s'.put dst v) Q := by simp [gX]
theorem gX_t {b : Bool} : gX P G C md B dst o d true r s Q (.bool b) = ifB b (opK P G C md o (s.put (some d) (.bool true)) fun v s' => R P G C md B r (s'.put dst v) Q) (R P G C md B r ((s.put (some d) (.bool false)).put dst (.con undef)) Q) := by cases b <;> simp [gX, ifB]
theorem gX_f {b : Bool} : gX P G C md B dst o d false r s Q (.bool b) = ifB b (R P G C md B r ((s.put (some d) (.bool true)).put dst (.con undef)) Q) (opK P G C md o (s.put (some d) (.bool false)) fun v s' => R P G C md B r (s'.put dst v) Q) := by cases b <;> simp [gX, ifB]
theorem gX_u {w : Bool} : gX P G C md B dst o d w r s Q (.con undef) = R P G C md B r (s.put dst (.con undef)) Q := by simp [gX, undef]
-- slots
theorem put_none {v : AV} : St.put ⟨t, h, n⟩ none v = ⟨t, h, n⟩ := _root_.id rfl
theorem put_int {k : IntKind} {m : Int} : St.put ⟨t, h, n⟩ (some d) (.int k m) = ⟨t.set d (.int k m), h, n⟩ := _root_.id rfl
theorem put_bool {b : Bool} : St.put ⟨t, h, n⟩ (some d) (.bool b) = ⟨t.set d (.bool b), h, n⟩ := _root_.id rfl
theorem put_str {b : ByteArray} : St.put ⟨t, h, n⟩ (some d) (.str b) = ⟨t.set d (.str b), h, n⟩ := _root_.id rfl
theorem put_nil : St.put ⟨t, h, n⟩ (some d) .nil = ⟨t.set d .nil, h, n⟩ := _root_.id rfl
theorem put_any : St.put ⟨t, h, n⟩ (some d) .any = ⟨t.set d .any, h, n⟩ := _root_.id rfl
theorem put_con {v : Value} : St.put ⟨t, h, n⟩ (some d) (.con v) = ⟨t.set d (.con v), h, n⟩ := _root_.id rfl
theorem put_sl {es : List (List AV)} : St.put ⟨t, h, n⟩ (some d) (.sl es) = ⟨t.set d (.sl es), h, n⟩ := _root_.id rfl
theorem put_pf {es : List AV} : St.put ⟨t, h, n⟩ (some d) (.pf es) = ⟨t.set d (.pf es), h, n⟩ := _root_.id rfl
theorem put_agg {es : List AV} : St.put ⟨t, h, n⟩ (some d) (.agg es) = ⟨t.set d (.agg es), h, n⟩ := _root_.id rfl
theorem put_tup {es : List AV} : St.put ⟨t, h, n⟩ (some d) (.tup es) = ⟨t.set d (.tup es), h, n⟩ := _root_.id rfl
theorem put_fn {f : FuncId} {es : List AV} : St.put ⟨t, h, n⟩ (some d) (.fn f es) = ⟨t.set d (.fn f es), h, n⟩ := _root_.id rfl
theorem put_ref {i : Nat} {sub : Option (Nat × Nat × Nat)} {a b c : Nat} : St.put ⟨t, h, n⟩ (some d) (.ref i sub a b c) = ⟨t.set d (.ref i sub a b c), h, n⟩ := _root_.id rfl
theorem put_ptr {i : Nat} {sub : Option (Nat × Nat × Nat)} {a b c : Nat} : St.put ⟨t, h, n⟩ (some d) (.ptr i sub a b c) = ⟨t.set d (.ptr i sub a b c), h, n⟩ := _root_.id rfl
theorem know_tmp {b : Bool} : know ⟨t, h, n⟩ (.tmp d) b = ⟨t.set d (.bool b), h, n⟩ := _root_.id rfl
-- operands
theorem ev_tmp : ev G ⟨t, h, n⟩ (.tmp d) = t.getD d .any := _root_.id rfl
theorem ev_int {k : IntKind} {m : Int} : ev G s (.const (.int k m)) = .int k m := _root_.id rfl
theorem ev_bool {b : Bool} : ev G s (.const (.bool b)) = .bool b := _root_.id rfl
theorem ev_str {b : ByteArray} : ev G s (.const (.string b)) = .str b := _root_.id rfl
theorem ev_nil : ev G s (.const (.slice none 0 0)) = .nil := _root_.id rfl
theorem ev_func {f : FuncId} : ev G s (.func f) = .fn f [] := _root_.id rfl
-- operations
theorem o_move {x : Operand} : opK P G C md (.move x) s K = K (ev G s x) s := _root_.id rfl
theorem o_assign {x : Operand} : opK P G C md (.assign x) s K = K (ev G s x) s := _root_.id rfl
def pickK (a b : AV) (K : AV → Prop) : AV → Prop
  | .bool true => K a
  | .bool false => K b
  | _ => False
theorem o_pick {c x y : Operand} : opK P G C md (.pick c x y) s K = pickK (ev G s x) (ev G s y) (fun v => K v s) (ev G s c) := by
  simp only [opK]
  cases ev G s c <;> rfl
theorem pick_true {a b : AV} {K : AV → Prop} : pickK a b K (.bool true) = K a := _root_.id rfl
theorem pick_false {a b : AV} {K : AV → Prop} : pickK a b K (.bool false) = K b := _root_.id rfl
theorem o_bin {op : BinOp} {ty ty' : TypeId} {x y : Operand} : opK P G C md (.binOp op ty x y ty') s K = binK P op ty (ev G s x) (ev G s y) (fun v => K v s) := _root_.id rfl
theorem o_un {op : UnOp} {ty : TypeId} {x : Operand} : opK P G C md (.unOp op ty x) s K = unK op (ev G s x) (fun v => K v s) := _root_.id rfl
theorem o_conv {a b : TypeId} {x : Operand} : opK P G C md (.convert a b x) s K = convH P s.heap a b (ev G s x) (fun v => K v s) := _root_.id rfl
theorem o_field {ty : TypeId} {x : Operand} {j : Nat} : opK P G C md (.field ty x j) s K = fldO P (fldP P ty j) (ev G s x) (fun v => K v s) := _root_.id rfl
def extrK (i : Nat) (K : AV → Prop) : AV → Prop
  | .tup vs => match vs[i]? with
    | some v => K v
    | none => False
  | _ => False
theorem o_extr {x : Operand} {i : Nat} : opK P G C md (.extract x i) s K = extrK i (fun v => K v s) (ev G s x) := by
  simp only [opK]
  cases ev G s x <;> rfl
theorem o_faddr {ty : TypeId} {x : Operand} {j : Nat} : opK P G C md (.fieldAddr ty x j) s K = faddrK P ty (ev G s x) j (fun v => K v s) := _root_.id rfl
theorem o_iaddr {ty : TypeId} {x i : Operand} : opK P G C md (.indexAddr ty x i) s K = iaddrK P ty (ev G s x) (ev G s i) (fun v => K v s) := _root_.id rfl
theorem o_idx {ty : TypeId} {x i : Operand} : opK P G C md (.index ty x i) s K = idxK P ty (ev G s x) (ev G s i) (fun v => K v s) := _root_.id rfl
theorem o_slice {ty : TypeId} {x : Operand} {lo hi : Option Operand} : opK P G C md (.slice ty x lo hi none) s K = sliceK P ty (ev G s x) (lo.map (ev G s)) (hi.map (ev G s)) (fun v => K v s) := _root_.id rfl
theorem o_load {ty : TypeId} {x : Operand} : opK P G C md (.load ty x) s K = loadK P s.heap ty (ev G s x) (fun v => K v s) := _root_.id rfl
theorem o_store {ty : TypeId} {x v : Operand} : opK P G C md (.store ty x v) s K = storeK P s ty (ev G s x) (ev G s v) (fun s' => K .any s') := _root_.id rfl
theorem o_alloc {ty : TypeId} : opK P G C md (.alloc ty) s K = allocK P s ty K := _root_.id rfl
theorem o_box {ty : TypeId} {x : Operand} : opK P G C md (.box ty x) s K = boxK s (ev G s x) K := _root_.id rfl
theorem o_build {ty : TypeId} {ps : Array (Nat × Operand)} : opK P G C md (.build ty ps) s K = buildK P ty (ps.toList.map fun p => (p.1, ev G s p.2)) (fun v => K v s) := _root_.id rfl
theorem o_buildS {ty : TypeId} {m : Nat} {ps : Array (Nat × Operand)} : opK P G C md (.buildSlice ty m ps) s K = ((m = 0 → ps.toList = []) ∧ buildSliceK P s ty m (ps.toList.map fun p => (p.1, ev G s p.2)) K) := _root_.id rfl
theorem o_make {ty : TypeId} {l c : Operand} : opK P G C md (.makeSlice ty l c) s K = makeSliceK P s ty (ev G s l) (ev G s c) K := _root_.id rfl
theorem o_len {x : Operand} {ty : TypeId} : opK P G C md (.call ⟨.builtin .len, ⟨[x]⟩, ⟨[ty]⟩⟩) s K = lenK P ty (ev G s x) (fun v => K v s) := _root_.id rfl
theorem o_append {x y : Operand} {ty ty' : TypeId} : opK P G C md (.call ⟨.builtin .append, ⟨[x, y]⟩, ⟨[ty, ty']⟩⟩) s K = appendK P s ty ty' (ev G s x) (ev G s y) K := _root_.id rfl
theorem o_min {x y : Operand} {ty ty' : TypeId} : opK P G C md (.call ⟨.builtin .min, ⟨[x, y]⟩, ⟨[ty, ty']⟩⟩) s K = minK (ev G s x) (ev G s y) (fun v => K v s) := _root_.id rfl
theorem o_max {x y : Operand} {ty ty' : TypeId} : opK P G C md (.call ⟨.builtin .max, ⟨[x, y]⟩, ⟨[ty, ty']⟩⟩) s K = maxK (ev G s x) (ev G s y) (fun v => K v s) := _root_.id rfl
theorem o_call {f : Operand} {xs : List Operand} {tys : Array TypeId} : opK P G C md (.call ⟨.value f, ⟨xs⟩, tys⟩) s K = callK C md s (ev G s f) (xs.map (ev G s)) K := _root_.id rfl
theorem o_mkfn {f : FuncId} {caps : Array Operand} : opK P G C md (.makeFunc (.func f) ⟨[]⟩ caps) s K = (K (.fn f (evL G s caps)) s ∧ opK.allCells (evL G s caps) = true) := by
  simp [opK]
end
-- comparisons
theorem b_int {P : Program} {op : BinOp} {ty : TypeId} {k : IntKind} {a b : Int} {K : AV → Prop} (h : op ≠ .shl ∧ op ≠ .shr) : binK P op ty (.int k a) (.int k b) K = intK op k a b K := by
  unfold binK
  cases op <;> simp_all
theorem mid_get {α : Type} {A B : List α} {x : α} {i : Nat} (h : A.length = i) : (A ++ x :: B)[i]? = some x := by
  subst h; simp
theorem mid_set {α : Type} {A B : List α} {x y : α} {i : Nat} (h : A.length = i) : (A ++ x :: B).set i y = A ++ y :: B := by
  subst h; simp
mutual
theorem NilTo.refl : ∀ x : AV, NilTo x x
  | .nil => by simp [NilTo]
  | .ow sz es => by simp only [NilTo]; exact ⟨es, rfl, NilToLL.refl es⟩
  | .agg xs => by simp only [NilTo]; exact ⟨xs, rfl, NilToL.refl xs⟩
  | .tup xs => by simp only [NilTo]; exact ⟨xs, rfl, NilToL.refl xs⟩
  | .op xs => by simp only [NilTo]; exact ⟨xs, rfl, NilToL.refl xs⟩
  | .any => by simp [NilTo]
  | .con _ => by simp [NilTo]
  | .int _ _ => by simp [NilTo]
  | .bool _ => by simp [NilTo]
  | .str _ => by simp [NilTo]
  | .sl _ => by simp [NilTo]
  | .pf _ => by simp [NilTo]
  | .ref _ _ _ _ _ => by simp [NilTo]
  | .ptr _ _ _ _ _ => by simp [NilTo]
  | .fn _ _ => by simp [NilTo]
theorem NilToL.refl : ∀ xs : List AV, NilToL xs xs
  | [] => by simp [NilToL]
  | x :: xs => by simp only [NilToL]; exact ⟨x, xs, rfl, NilTo.refl x, NilToL.refl xs⟩
theorem NilToLL.refl : ∀ xs : List (List AV), NilToLL xs xs
  | [] => by simp [NilToLL]
  | x :: xs => by simp only [NilToLL]; exact ⟨x, xs, rfl, NilToL.refl x, NilToLL.refl xs⟩
end
theorem RetTo_ow {h : Heap} {id sz len : Nat} {es : List (List AV)} (hg : hget h id = some (.slice sz es)) (hl : len = es.length) : RetTo h (.ref id none sz 0 len) (.ow sz es) := by
  refine ⟨.ow sz es, hdel h id, ?_, NilTo.refl _⟩
  simp [conR, hg, hl]
theorem RetTo_of {h h2 : Heap} {v r : AV} (hc : conR 8 h v = some (r, h2)) : RetTo h v r := ⟨r, h2, hc, NilTo.refl r⟩
end Go.Proofs.YtedgfiikaedeoaaDoor.X
set_option linter.unusedVariables false
set_option linter.unusedSimpArgs false
namespace Go.Proofs.YtedgfiikaedeoaaDoor.X
open Go

/-! ### Operations, the layout an argument: rules that fire at what is written out -/
def fieldK : Option (Nat × Nat) → (Nat → Prop) → Prop
  | some (off, _ + 1), K => K off
  | _, _ => False
theorem field_some {off n : Nat} {K : Nat → Prop} : fieldK (some (off, n + 1)) K = K off := _root_.id rfl
def faddrT (k : TK) (x : AV) (j : Nat) (K : AV → Prop) : Prop :=
  match k with
  | .struct fs => match fs[j]? with
    | some (off, sz') => sz' ≠ 0 ∧ match x with
      | .ptr id sub sz i c => K (.ptr id sub sz i (c + off))
      | .pf cs => K (.pf (cs.drop off))
      | _ => False
    | none => False
  | _ => False
theorem fa_ptr {fs : List (Nat × Nat)} {id : Nat} {sub : Option (Nat × Nat × Nat)} {sz i c j : Nat} {K : AV → Prop} : faddrT (.struct fs) (.ptr id sub sz i c) j K = fieldK fs[j]? fun off => K (.ptr id sub sz i (c + off)) := by
  simp only [faddrT]
  rcases fs[j]? with _ | ⟨off, _ | n⟩ <;> simp [fieldK]
theorem fa_pf {fs : List (Nat × Nat)} {cs : List AV} {j : Nat} {K : AV → Prop} : faddrT (.struct fs) (.pf cs) j K = fieldK fs[j]? fun off => K (.pf (cs.drop off)) := by
  simp only [faddrT]
  rcases fs[j]? with _ | ⟨off, _ | n⟩ <;> simp [fieldK]
def elK (z : Nat) (K : AV → Prop) : Option (List AV) → Prop
  | some el => el.length = z ∧ K (.pf el)
  | none => False
theorem el_some {z : Nat} {K : AV → Prop} {el : List AV} : elK z K (some el) = (el.length = z ∧ K (.pf el)) := _root_.id rfl
def iaddrT (P : Program) (k : TK) (x ix : AV) (K : AV → Prop) : Prop :=
  match k, x, ix with
  | .slice e, .ref id sub sz off len, .int _ i => sz = szOf P e ∧ szOf P e ≠ 0 ∧ 0 ≤ i ∧ i < len ∧ K (.ptr id sub sz (off + i.toNat) 0)
  | .slice e, .sl es, .int _ i => szOf P e ≠ 0 ∧ 0 ≤ i ∧ match es[i.toNat]? with
    | some el => el.length = szOf P e ∧ K (.pf el)
    | none => False
  | .array m e, .ptr id sub sz i0 c, .int _ i => szOf P e ≠ 0 ∧ 0 ≤ i ∧ i < m ∧ K (.ptr id sub sz i0 (c + i.toNat * szOf P e))
  | .array m e, .pf cs, .int _ i => szOf P e ≠ 0 ∧ 0 ≤ i ∧ i < m ∧ K (.pf (cs.drop (i.toNat * szOf P e)))
  | _, _, _ => False
section
variable {P : Program} {G : Glo} {C : CT} {md : FuncId → Bool} {t : List AV} {h : Heap} {n m : Nat} {K : AV → Prop} {KS : AV → St → Prop} {s : St} {e ty ty' : TypeId} {k k' : IntKind} {i a b : Int} {es : List (List AV)} {cs : List AV} {id sz off len c i0 : Nat} {sub : Option (Nat × Nat × Nat)}
theorem ia_ref : iaddrT P (.slice e) (.ref id sub sz off len) (.int k i) K = (sz = szOf P e ∧ szOf P e ≠ 0 ∧ 0 ≤ i ∧ i < len ∧ K (.ptr id sub sz (off + i.toNat) 0)) := _root_.id rfl
theorem ia_sl : iaddrT P (.slice e) (.sl es) (.int k i) K = (szOf P e ≠ 0 ∧ 0 ≤ i ∧ elK (szOf P e) K es[i.toNat]?) := by
  simp only [iaddrT]
  cases es[i.toNat]? <;> rfl
theorem ia_aptr : iaddrT P (.array m e) (.ptr id sub sz i0 c) (.int k i) K = (szOf P e ≠ 0 ∧ 0 ≤ i ∧ i < m ∧ K (.ptr id sub sz i0 (c + i.toNat * szOf P e))) := _root_.id rfl
theorem ia_apf : iaddrT P (.array m e) (.pf cs) (.int k i) K = (szOf P e ≠ 0 ∧ 0 ≤ i ∧ i < m ∧ K (.pf (cs.drop (i.toNat * szOf P e)))) := _root_.id rfl
end
def idxT (k : TK) (x ix : AV) (K : AV → Prop) : Prop :=
  match k, x, ix with
  | .str, .str s, .int _ i => 0 ≤ i ∧ i < s.size ∧ K (.int .u8 (bt s i))
  | _, _, _ => False
theorem ix_str {s : ByteArray} {k : IntKind} {i : Int} {K : AV → Prop} : idxT .str (.str s) (.int k i) K = (0 ≤ i ∧ i < s.size ∧ K (.int .u8 (bt s i))) := _root_.id rfl
def slR (P : Program) (e : TypeId) (id : Nat) (sub : Option (Nat × Nat × Nat)) (sz off len : Nat) (K : AV → Prop) : AV → AV → Prop
  | .int _ l, .int _ r => sz = szOf P e ∧ szOf P e ≠ 0 ∧ 0 ≤ l ∧ l ≤ r ∧ r ≤ len ∧ K (.ref id sub sz (off + l.toNat) (r - l).toNat)
  | _, _ => False
def slF (P : Program) (e : TypeId) (es : List (List AV)) (K : AV → Prop) : AV → AV → Prop
  | .int _ l, .int _ r => szOf P e ≠ 0 ∧ (∀ el ∈ es, el.length = szOf P e) ∧ 0 ≤ l ∧ l ≤ r ∧ r ≤ es.length ∧ K (.sl ((es.drop l.toNat).take (r - l).toNat))
  | _, _ => False
def slN (P : Program) (e : TypeId) (K : AV → Prop) : AV → AV → Prop
  | .int _ l, .int _ r => szOf P e ≠ 0 ∧ l = 0 ∧ r = 0 ∧ K .nil
  | _, _ => False
def slS (s : ByteArray) (K : AV → Prop) : AV → AV → Prop
  | .int _ l, .int _ r => 0 ≤ l ∧ l ≤ r ∧ r ≤ s.size ∧ K (.str (s.extract l.toNat r.toNat))
  | _, _ => False
def sliceT (P : Program) (k : TK) (x : AV) (lo hi : Option AV) (K : AV → Prop) : Prop :=
  match k, x with
  | .slice e, .ref id sub sz off len => slR P e id sub sz off len K (lo.getD (.int .i64 0)) (hi.getD (.int .i64 len))
  | .slice e, .sl es => slF P e es K (lo.getD (.int .i64 0)) (hi.getD (.int .i64 es.length))
  | .slice e, .nil => slN P e K (lo.getD (.int .i64 0)) (hi.getD (.int .i64 0))
  | .str, .str s => slS s K (lo.getD (.int .i64 0)) (hi.getD (.int .i64 s.size))
  | _, _ => False
section
variable {P : Program} {K : AV → Prop} {e : TypeId} {k k' : IntKind} {l r : Int} {es : List (List AV)} {id sz off len : Nat} {sub : Option (Nat × Nat × Nat)} {lo hi : Option AV} {b : ByteArray}
theorem sl_ref : sliceT P (.slice e) (.ref id sub sz off len) lo hi K = slR P e id sub sz off len K (lo.getD (.int .i64 0)) (hi.getD (.int .i64 len)) := _root_.id rfl
theorem sl_sl : sliceT P (.slice e) (.sl es) lo hi K = slF P e es K (lo.getD (.int .i64 0)) (hi.getD (.int .i64 es.length)) := _root_.id rfl
theorem sl_nil : sliceT P (.slice e) .nil lo hi K = slN P e K (lo.getD (.int .i64 0)) (hi.getD (.int .i64 0)) := _root_.id rfl
theorem sl_str : sliceT P .str (.str b) lo hi K = slS b K (lo.getD (.int .i64 0)) (hi.getD (.int .i64 b.size)) := _root_.id rfl
theorem slR_int : slR P e id sub sz off len K (.int k l) (.int k' r) = (sz = szOf P e ∧ szOf P e ≠ 0 ∧ 0 ≤ l ∧ l ≤ r ∧ r ≤ len ∧ K (.ref id sub sz (off + l.toNat) (r - l).toNat)) := _root_.id rfl
theorem slF_int : slF P e es K (.int k l) (.int k' r) = (szOf P e ≠ 0 ∧ (∀ el ∈ es, el.length = szOf P e) ∧ 0 ≤ l ∧ l ≤ r ∧ r ≤ es.length ∧ K (.sl ((es.drop l.toNat).take (r - l).toNat))) := _root_.id rfl
theorem slN_int : slN P e K (.int k l) (.int k' r) = (szOf P e ≠ 0 ∧ l = 0 ∧ r = 0 ∧ K .nil) := _root_.id rfl
theorem slS_int : slS b K (.int k l) (.int k' r) = (0 ≤ l ∧ l ≤ r ∧ r ≤ b.size ∧ K (.str (b.extract l.toNat r.toNat))) := _root_.id rfl
end
def ldC (ag : Option Nat) (cs : List AV) (c : Nat) (K : AV → Prop) : Prop :=
  match ag with
  | some n => c + n ≤ cs.length ∧ K (.agg ((cs.drop c).take n))
  | none => match cs[c]? with
    | some y => K y
    | none => False
def okV (K : AV → Prop) : Option AV → Prop
  | some y => K y
  | none => False
theorem okV_some {K : AV → Prop} {y : AV} : okV K (some y) = K y := _root_.id rfl
def okL (K : List AV → Prop) : Option (List AV) → Prop
  | some y => K y
  | none => False
theorem okL_some {K : List AV → Prop} {y : List AV} : okL K (some y) = K y := _root_.id rfl
def ldE (id : Nat) (sub : Option (Nat × Nat × Nat)) (sz i c : Nat) (K : AV → Prop) : Option Nat → Option (List AV) → Prop
  | some n, some e => c + n ≤ e.length ∧ okL (fun ys => K (.agg ys)) (cellsS id sub sz i c ((e.drop c).take n))
  | none, some e => okV K ((e[c]?).bind (cellS id sub sz i c))
  | _, none => False
def ldS (id : Nat) (sub : Option (Nat × Nat × Nat)) (sz i c : Nat) (K : AV → Prop) (ag : Option Nat) : Option (Nat × List (List AV)) → Prop
  | some (sz', es) => sz' = sz ∧ ldE id sub sz i c K ag es[i]?
  | none => False
def ldV (h : Heap) (id sz i c : Nat) (K : AV → Prop) (ag : Option Nat) : Option Ob → Prop
  | some (.var cs) => i = 0 ∧ ldC ag cs c K
  | some (.slice sz' es) => sz' = sz ∧ ldE id none sz i c K ag es[i]?
  | none => False
def loadT (ag : Option (Option Nat)) (h : Heap) (x : AV) (K : AV → Prop) : Prop :=
  match x, ag with
  | .pf cs, some (some n) => n ≤ cs.length ∧ allF (cs.take n) = true ∧ K (.agg (cs.take n))
  | .pf cs, some none => match cs with
    | y :: _ => isF y = true ∧ K y
    | [] => False
  | .ptr id none sz i c, some ag => ldV h id sz i c K ag (hget h id)
  | .ptr id (some u) sz i c, some ag => ldS id (some u) sz i c K ag (getS h id (some u))
  | _, _ => False
theorem load_eq {P : Program} {h : Heap} {ty : TypeId} {x : AV} {K : AV → Prop} : loadK P h ty x K = loadT (agT P ty) h x K := by
  unfold loadK loadT
  cases x <;> try rfl
  case pf cs => rcases agT P ty with _ | _ | n <;> rfl
  case ptr id sub sz i c =>
    rcases agT P ty with _ | ag
    · cases sub <;> rfl
    cases sub with
    | none =>
      simp only [getS, ldV]
      rcases hget h id with _ | ⟨sz', es⟩ | cs
      · rfl
      · simp only
        rcases es[i]? with _ | e
        · simp [ldE]
        rcases ag with _ | n
        · simp only [ldE]
          rcases e[c]? with _ | y
          · rfl
          · simp only [Option.bind_some]
            rcases cellS id none sz i c y with _ | z <;> rfl
        · simp only [ldE]
          rcases cellsS id none sz i c _ with _ | z <;> rfl
      · simp only [ldC]
        cases ag <;> rfl
    | some u =>
      simp only [ldS]
      rcases hq : getS h id (some u) with _ | ⟨sz', es⟩
      · simp
      · simp only
        rcases es[i]? with _ | e
        · simp [ldE]
        rcases ag with _ | n
        · simp only [ldE]
          rcases e[c]? with _ | y
          · rfl
          · simp only [Option.bind_some]
            rcases cellS id (some u) sz i c y with _ | z <;> rfl
        · simp only [ldE]
          rcases cellsS id (some u) sz i c _ with _ | z <;> rfl
section
variable {h : Heap} {id sz sz' i c n : Nat} {sub : Option (Nat × Nat × Nat)} {u : Nat × Nat × Nat} {K : AV → Prop} {ag : Option Nat} {cs e : List AV} {es : List (List AV)} {y : AV}
theorem ld_pfa : loadT (some (some n)) h (.pf cs) K = (n ≤ cs.length ∧ allF (cs.take n) = true ∧ K (.agg (cs.take n))) := _root_.id rfl
theorem ld_pf : loadT (some none) h (.pf (y :: cs)) K = (isF y = true ∧ K y) := _root_.id rfl
theorem ld_ptr : loadT (some ag) h (.ptr id none sz i c) K = ldV h id sz i c K ag (hget h id) := _root_.id rfl
theorem ld_sub : loadT (some ag) h (.ptr id (some u) sz i c) K = ldS id (some u) sz i c K ag (getS h id (some u)) := _root_.id rfl
theorem ldV_var : ldV h id sz i c K ag (some (.var cs)) = (i = 0 ∧ ldC ag cs c K) := _root_.id rfl
theorem ldV_slice : ldV h id sz i c K ag (some (.slice sz' es)) = (sz' = sz ∧ ldE id none sz i c K ag es[i]?) := _root_.id rfl
theorem ldS_some : ldS id sub sz i c K ag (some (sz', es)) = (sz' = sz ∧ ldE id sub sz i c K ag es[i]?) := _root_.id rfl
theorem ldE_agg : ldE id sub sz i c K (some n) (some e) = (c + n ≤ e.length ∧ okL (fun ys => K (.agg ys)) (cellsS id sub sz i c ((e.drop c).take n))) := _root_.id rfl
theorem ldE_one : ldE id sub sz i c K none (some e) = okV K ((e[c]?).bind (cellS id sub sz i c)) := _root_.id rfl
theorem ldC_agg : ldC (some n) cs c K = (c + n ≤ cs.length ∧ K (.agg ((cs.drop c).take n))) := _root_.id rfl
theorem ldC_one : ldC none cs c K = okV K cs[c]? := by simp only [ldC]; cases cs[c]? <;> rfl
end
/-! storing -/
def stIf (b : Bool) (K : St → Prop) (s : St) : Prop := if b = true then K s else K (killSt s)
theorem stIf_true {K : St → Prop} {s : St} : stIf true K s = K s := _root_.id rfl
theorem stIf_false {K : St → Prop} {s : St} : stIf false K s = K (killSt s) := _root_.id rfl
def stC (s : St) (id sz i : Nat) (es : List (List AV)) (K : St → Prop) (f : List AV → List AV) : Option (List AV × Heap) → Prop
  | some (ys, h') => match hget h' id with
    | some (.slice _ _) => K (killSt ⟨s.tmps, hset h' id (.slice sz (es.set i (f ys))), s.next⟩)
    | _ => False
  | none => False
def stE (s : St) (id : Nat) (sub : Option (Nat × Nat × Nat)) (sz i c : Nat) (cs : List AV) (es : List (List AV)) (K : St → Prop) : Option (List AV) → Prop
  | some e => c + cs.length ≤ e.length ∧ ifB (allSc cs && allSc ((e.drop c).take cs.length)) (K ⟨s.tmps, setS s.heap id sub (es.set i (setsA e c cs)), s.next⟩)
      (sub = none ∧ stC s id sz i es K (setsA e c) (conL s.heap cs))
  | none => False
def stG (s : St) (id : Nat) (sub : Option (Nat × Nat × Nat)) (sz i c : Nat) (cs : List AV) (K : St → Prop) : Option (Nat × List (List AV)) → Prop
  | some (sz', es) => sz' = sz ∧ stE s id sub sz i c cs es K es[i]?
  | none => False
def stV (s : St) (id sz i c : Nat) (cs : List AV) (K : St → Prop) : Option Ob → Prop
  | some (.var old) => i = 0 ∧ c + cs.length ≤ old.length ∧ stIf (allSc ((old.drop c).take cs.length)) K ⟨s.tmps, hset s.heap id (.var (setsA old c cs)), s.next⟩
  | some (.slice sz' es) => sz' = sz ∧ stE s id none sz i c cs es K es[i]?
  | none => False
def storeT (z : Nat) (s : St) (x : AV) (K : St → Prop) : Option (List AV) → Prop
  | some cs => z ≠ 0 ∧ cs.length = z ∧ match x with
    | .ptr id none sz i c => stV s id sz i c cs K (hget s.heap id)
    | .ptr id (some u) sz i c => stG s id (some u) sz i c cs K (getS s.heap id (some u))
    | _ => False
  | none => False
theorem stE_eq {s : St} {id : Nat} {sub : Option (Nat × Nat × Nat)} {sz i c : Nat} {cs : List AV} {es : List (List AV)} {K : St → Prop} : stE s id sub sz i c cs es K es[i]? = match es[i]? with
        | some e => c + cs.length ≤ e.length ∧
          (if allSc cs = true ∧ allSc ((e.drop c).take cs.length) = true then K ⟨s.tmps, setS s.heap id sub (es.set i (setsA e c cs)), s.next⟩
           else sub = none ∧ match conL s.heap cs with
             | some (ys, h') => match hget h' id with
               | some (.slice _ _) => K (killSt ⟨s.tmps, hset h' id (.slice sz (es.set i (setsA e c ys))), s.next⟩)
               | _ => False
             | none => False)
        | none => False := by
  rcases es[i]? with _ | e
  · rfl
  simp only [stE, stC]
  cases h1 : allSc cs <;> cases h2 : allSc ((e.drop c).take cs.length) <;> simp [ifB] <;>
    (rcases conL s.heap cs with _ | ⟨ys, h'⟩ <;> simp)
theorem store_eq {P : Program} {s : St} {ty : TypeId} {x v : AV} {K : St → Prop} : storeK P s ty x v K = storeT (szOf P ty) s x K (cellsV v) := by
  unfold storeK storeT
  cases x <;> (try (rcases cellsV v with _ | cs <;> simp; done))
  case ptr id sub sz i c =>
    rcases cellsV v with _ | cs
    · rfl
    cases sub with
    | none =>
      simp only [getS, stV]
      rcases hget s.heap id with _ | ⟨sz', es⟩ | old
      · rfl
      · simp only [stE_eq]; rfl
      · simp only [stIf]
    | some u =>
      simp only [stG]
      rcases getS s.heap id (some u) with _ | ⟨sz', es⟩
      · rfl
      · simp only [stE_eq]; rfl
section
variable {s : St} {h' : Heap} {id z sz sz' i c : Nat} {sub : Option (Nat × Nat × Nat)} {u : Nat × Nat × Nat} {K : St → Prop} {cs e old ys : List AV} {es : List (List AV)} {f : List AV → List AV}
theorem st_ptr : storeT z s (.ptr id none sz i c) K (some cs) = (z ≠ 0 ∧ cs.length = z ∧ stV s id sz i c cs K (hget s.heap id)) := _root_.id rfl
theorem st_sub : storeT z s (.ptr id (some u) sz i c) K (some cs) = (z ≠ 0 ∧ cs.length = z ∧ stG s id (some u) sz i c cs K (getS s.heap id (some u))) := _root_.id rfl
theorem stV_var : stV s id sz i c cs K (some (.var old)) = (i = 0 ∧ c + cs.length ≤ old.length ∧ stIf (allSc ((old.drop c).take cs.length)) K ⟨s.tmps, hset s.heap id (.var (setsA old c cs)), s.next⟩) := _root_.id rfl
theorem stV_slice : stV s id sz i c cs K (some (.slice sz' es)) = (sz' = sz ∧ stE s id none sz i c cs es K es[i]?) := _root_.id rfl
theorem stG_some : stG s id sub sz i c cs K (some (sz', es)) = (sz' = sz ∧ stE s id sub sz i c cs es K es[i]?) := _root_.id rfl
theorem stE_some : stE s id sub sz i c cs es K (some e) = (c + cs.length ≤ e.length ∧ ifB (allSc cs && allSc ((e.drop c).take cs.length)) (K ⟨s.tmps, setS s.heap id sub (es.set i (setsA e c cs)), s.next⟩)
      (sub = none ∧ stC s id sz i es K (setsA e c) (conL s.heap cs))) := _root_.id rfl
def stD (s : St) (id sz i : Nat) (es : List (List AV)) (K : St → Prop) (ys' : List AV) (h' : Heap) : Option Ob → Prop
  | some (.slice _ _) => K (killSt ⟨s.tmps, hset h' id (.slice sz (es.set i ys')), s.next⟩)
  | _ => False
theorem stC_some : stC s id sz i es K f (some (ys, h')) = stD s id sz i es K (f ys) h' (hget h' id) := by
  simp only [stC, stD]

theorem stD_some {es' : List (List AV)} : stD s id sz i es K ys h' (some (.slice sz' es')) = K (killSt ⟨s.tmps, hset h' id (.slice sz (es.set i ys)), s.next⟩) := _root_.id rfl
end
/-! variables and slices that are made -/
def allocT (z : Option (List AV)) (s : St) (K : AV → St → Prop) : Prop :=
  match z with
  | some cs => K (.ptr s.next none 0 0 0) ⟨s.tmps, (s.next, .var cs) :: s.heap, s.next + 1⟩
  | none => False
theorem al_some {cs : List AV} {t : List AV} {h : Heap} {n : Nat} {K : AV → St → Prop} : allocT (some cs) ⟨t, h, n⟩ K = K (.ptr n none 0 0 0) ⟨t, (n, .var cs) :: h, n + 1⟩ := _root_.id rfl
theorem box_eq {s : St} {v : AV} {K : AV → St → Prop} : boxK s v K = allocT (cellsV v) s K := by
  unfold boxK allocT; cases cellsV v <;> rfl
theorem cv_agg {cs : List AV} : cellsV (.agg cs) = some cs := _root_.id rfl
theorem cv_int {k : IntKind} {i : Int} : cellsV (.int k i) = some [.int k i] := _root_.id rfl
theorem cv_bool {b : Bool} : cellsV (.bool b) = some [.bool b] := _root_.id rfl
theorem cv_str {b : ByteArray} : cellsV (.str b) = some [.str b] := _root_.id rfl
theorem cv_nil : cellsV .nil = some [.nil] := _root_.id rfl
theorem cv_sl {es : List (List AV)} : cellsV (.sl es) = some [.sl es] := _root_.id rfl
theorem cv_pf {es : List AV} : cellsV (.pf es) = some [.pf es] := _root_.id rfl
theorem cv_ref {id : Nat} {sub : Option (Nat × Nat × Nat)} {a b c : Nat} : cellsV (.ref id sub a b c) = some [.ref id sub a b c] := _root_.id rfl
theorem cv_ptr {id : Nat} {sub : Option (Nat × Nat × Nat)} {a b c : Nat} : cellsV (.ptr id sub a b c) = some [.ptr id sub a b c] := _root_.id rfl
theorem cv_fn {f : FuncId} {cs : List AV} : cellsV (.fn f cs) = some [.fn f cs] := _root_.id rfl
def okAgg (K : AV → Prop) : Option (List AV) → Prop
  | some cs => K (.agg cs)
  | none => False
theorem okAgg_some {K : AV → Prop} {cs : List AV} : okAgg K (some cs) = K (.agg cs) := _root_.id rfl
def buildT (pl : Option (List (Nat × Nat))) (z : Option (List AV)) (parts : List (Nat × AV)) (K : AV → Prop) : Prop :=
  match pl, z with
  | some pl, some zs => okAgg K (fillA (pl[·]?) zs parts)
  | _, _ => False
theorem build_eq {P : Program} {ty : TypeId} {parts : List (Nat × AV)} {K : AV → Prop} : buildK P ty parts K = buildT (places P ty) (zeroCells P ty) parts K := by
  unfold buildK buildT
  rcases places P ty with _ | pl <;> rcases zeroCells P ty with _ | zs <;> try rfl


theorem bu_some {pl : List (Nat × Nat)} {zs : List AV} {parts : List (Nat × AV)} {K : AV → Prop} : buildT (some pl) (some zs) parts K = okAgg K (fillA (pl[·]?) zs parts) := _root_.id rfl
theorem fill_nil {p : Nat → Option (Nat × Nat)} {cs : List AV} : fillA p cs [] = some cs := _root_.id rfl
def fill1 (p : Nat → Option (Nat × Nat)) (cells : List AV) (rest : List (Nat × AV)) : Option (Nat × Nat) → Option (List AV) → Option (List AV)
  | some (off, size), some cs => if cs.length = size ∧ off + cs.length ≤ cells.length then fillA p (setsA cells off cs) rest else none
  | _, _ => none
theorem fill_cons {p : Nat → Option (Nat × Nat)} {cs : List AV} {i : Nat} {v : AV} {rest : List (Nat × AV)} : fillA p cs ((i, v) :: rest) = fill1 p cs rest (p i) (cellsV v) := by
  simp only [fillA]
  rcases p i with _ | ⟨_, _⟩ <;> rcases cellsV v with _ | _ <;> rfl
theorem fill1_some {p : Nat → Option (Nat × Nat)} {cells cs : List AV} {rest : List (Nat × AV)} {off size : Nat} : fill1 p cells rest (some (off, size)) (some cs) = if cs.length = size ∧ off + cs.length ≤ cells.length then fillA p (setsA cells off cs) rest else none := _root_.id rfl
def mkE (s : St) (z : Nat) (l : Int) (K : AV → St → Prop) : Option (List AV) → Prop
  | some zs => zs.length = z ∧ allF zs = true ∧ K (.ref s.next none z 0 l.toNat) ⟨s.tmps, (s.next, .slice z (List.replicate l.toNat zs)) :: s.heap, s.next + 1⟩
  | none => False
theorem mkE_some {t : List AV} {h : Heap} {n z : Nat} {l : Int} {K : AV → St → Prop} {zs : List AV} : mkE ⟨t, h, n⟩ z l K (some zs) = (zs.length = z ∧ allF zs = true ∧ K (.ref n none z 0 l.toNat) ⟨t, (n, .slice z (List.replicate l.toNat zs)) :: h, n + 1⟩) := _root_.id rfl
def makeT (P : Program) (k : TK) (s : St) (l c : AV) (K : AV → St → Prop) : Prop :=
  match k, l, c with
  | .slice e, .int _ l, .int _ c => szOf P e ≠ 0 ∧ 0 ≤ l ∧ l ≤ c ∧ (byOf P e : Int) * c ≤ 140737488355328 ∧ c ≤ 9223372036854775807 ∧ mkE s (szOf P e) l K (zeroCells P e)
  | _, _, _ => False
theorem make_eq {P : Program} {s : St} {ty : TypeId} {l c : AV} {K : AV → St → Prop} : makeSliceK P s ty l c K = makeT P (tk P ty) s l c K := by
  unfold makeSliceK makeT
  rcases tk P ty with _ | _ | _ | _ | _ | _ | _ | _ <;> cases l <;> cases c <;> try rfl



theorem mk_slice {P : Program} {e : TypeId} {s : St} {k k' : IntKind} {l c : Int} {K : AV → St → Prop} : makeT P (.slice e) s (.int k l) (.int k' c) K = (szOf P e ≠ 0 ∧ 0 ≤ l ∧ l ≤ c ∧ (byOf P e : Int) * c ≤ 140737488355328 ∧ c ≤ 9223372036854775807 ∧ mkE s (szOf P e) l K (zeroCells P e)) := _root_.id rfl
def bsC (s : St) (z len : Nat) (K : AV → St → Prop) : Option (List AV × Heap) → Prop
  | some (ts, h') => K (.ref s.next none z 0 len) ⟨s.tmps, (s.next, .slice z (chunk z len ts)) :: h', s.next + 1⟩
  | none => False
def bsF (s : St) (z len : Nat) (K : AV → St → Prop) : Option (List AV) → Prop
  | some cs => bsC s z len K (conL s.heap cs)
  | none => False
def bsZ (s : St) (z len : Nat) (parts : List (Nat × AV)) (K : AV → St → Prop) : Option (List AV) → Prop
  | some zs => zs.length = z ∧ bsF s z len K (fillA (fun i => some (i * z, z)) ((List.replicate len zs).flatten) parts)
  | none => False
def buildST (P : Program) (k : TK) (s : St) (len : Nat) (parts : List (Nat × AV)) (K : AV → St → Prop) : Prop :=
  match k with
  | .slice e => szOf P e ≠ 0 ∧ len * szOf P e ≤ 16777216 ∧ if len = 0 then K (.ref s.next none (szOf P e) 0 0) ⟨s.tmps, (s.next, .slice (szOf P e) []) :: s.heap, s.next + 1⟩ else bsZ s (szOf P e) len parts K (zeroCells P e)
  | _ => False
theorem buildS_eq {P : Program} {s : St} {ty : TypeId} {len : Nat} {parts : List (Nat × AV)} {K : AV → St → Prop} : buildSliceK P s ty len parts K = buildST P (tk P ty) s len parts K := by
  unfold buildSliceK buildST
  rcases tk P ty with e | _ | _ | _ | _ | _ | _ | _ <;> try rfl




theorem bs_slice {P : Program} {e : TypeId} {s : St} {len : Nat} {parts : List (Nat × AV)} {K : AV → St → Prop} : buildST P (.slice e) s len parts K = (szOf P e ≠ 0 ∧ len * szOf P e ≤ 16777216 ∧ if len = 0 then K (.ref s.next none (szOf P e) 0 0) ⟨s.tmps, (s.next, .slice (szOf P e) []) :: s.heap, s.next + 1⟩ else bsZ s (szOf P e) len parts K (zeroCells P e)) := _root_.id rfl
theorem bsZ_some {s : St} {z len : Nat} {parts : List (Nat × AV)} {K : AV → St → Prop} {zs : List AV} : bsZ s z len parts K (some zs) = (zs.length = z ∧ bsF s z len K (fillA (fun i => some (i * z, z)) ((List.replicate len zs).flatten) parts)) := _root_.id rfl
theorem bsF_some {s : St} {z len : Nat} {K : AV → St → Prop} {cs : List AV} : bsF s z len K (some cs) = bsC s z len K (conL s.heap cs) := _root_.id rfl
theorem bsC_some {t : List AV} {h h' : Heap} {n : Nat} {z len : Nat} {K : AV → St → Prop} {ts : List AV} : bsC ⟨t, h, n⟩ z len K (some (ts, h')) = K (.ref n none z 0 len) ⟨t, (n, .slice z (chunk z len ts)) :: h', n + 1⟩ := _root_.id rfl
def lenT (k : TK) (x : AV) (K : AV → Prop) : Prop :=
  match k, x with
  | .slice _, .ref _ _ _ _ len => K (.int .i64 len)
  | .slice _, .sl es => K (.int .i64 es.length)
  | .slice _, .nil => K (.int .i64 0)
  | .str, .str s => K (.int .i64 s.size)
  | _, _ => False
theorem len_eq {P : Program} {ty : TypeId} {x : AV} {K : AV → Prop} : lenK P ty x K = lenT (tk P ty) x K := _root_.id rfl
theorem len_ref {e : TypeId} {id sz off len : Nat} {sub : Option (Nat × Nat × Nat)} {K : AV → Prop} : lenT (.slice e) (.ref id sub sz off len) K = K (.int .i64 len) := _root_.id rfl
theorem len_sl {e : TypeId} {es : List (List AV)} {K : AV → Prop} : lenT (.slice e) (.sl es) K = K (.int .i64 es.length) := _root_.id rfl
theorem len_nil {e : TypeId} {K : AV → Prop} : lenT (.slice e) .nil K = K (.int .i64 0) := _root_.id rfl
theorem len_str {b : ByteArray} {K : AV → Prop} : lenT .str (.str b) K = K (.int .i64 b.size) := _root_.id rfl
theorem conv_int {k k' k2 : IntKind} {n : Int} {P : Program} {h : Heap} {K : AV → Prop} : convHT (.int k) (.int k') P h (.int k2 n) K = K (.int k' (k'.wrap n)) := _root_.id rfl
theorem conv_bytes {e id sz off len : Nat} {P : Program} {h : Heap} {K : AV → Prop} : convHT (.slice e) .str P h (.ref id none sz off len) K = convB (tk P e) (hget h id) sz off len K := _root_.id rfl
theorem convB_some {sz sz2 off len : Nat} {es : List (List AV)} {K : AV → Prop} : convB (.int .u8) (some (.slice sz2 es)) sz off len K = (sz = sz2 ∧ sz = 1 ∧ bytesV ((es.drop off).take len) K) := _root_.id rfl
theorem bytesV_one {n : Int} {K : AV → Prop} : bytesV [[.int .u8 n]] K = K (.str ⟨#[UInt8.ofNat n.toNat]⟩) := _root_.id rfl
def fldC (K : AV → Prop) : Option AV → Prop
  | some y => K y
  | none => False
theorem fldC_some {y : AV} {K : AV → Prop} : fldC K (some y) = K y := _root_.id rfl
theorem fldO_some {P : Program} {ft off : Nat} {x : AV} {K : AV → Prop} : fldO P (some (ft, off)) x K = fldV (agT P ft) off x K := _root_.id rfl
theorem fldV_one {off : Nat} {cs : List AV} {K : AV → Prop} : fldV (some none) off (.agg cs) K = fldC K cs[off]? := by
  show (match cs[off]? with | some y => K y | none => False) = fldC K cs[off]?
  cases cs[off]? <;> rfl
theorem fldV_agg {n off : Nat} {cs : List AV} {K : AV → Prop} : fldV (some (some n)) off (.agg cs) K = (off + n ≤ cs.length ∧ K (.agg ((cs.drop off).take n))) := _root_.id rfl
/-! appending -/
def apY (s : St) (z by' : Nat) (es1 : List (List AV)) (K : AV → St → Prop) : Option (List (List AV) × Heap) → Prop
  | some (es2, h2) => (es1.length + es2.length) * by' ≤ 140737488355328 ∧ K (.ref s.next none z 0 (es1.length + es2.length)) (killSt ⟨s.tmps, (s.next, .slice z (es1 ++ es2)) :: h2, s.next + 1⟩)
  | none => False
def apX (P : Program) (s : St) (tx : TypeId) (z by' : Nat) (y : AV) (K : AV → St → Prop) : Option (List (List AV) × Heap) → Prop
  | some (es1, h1) => apY s z by' es1 K (appY P h1 z tx y)
  | none => False
def appendT (P : Program) (k : TK) (s : St) (tx : TypeId) (x y : AV) (K : AV → St → Prop) : Prop :=
  match k with
  | .slice e => szOf P e ≠ 0 ∧ byOf P e ≠ 0 ∧ (zeroCells P e).map (·.length) = some (szOf P e) ∧ apX P s tx (szOf P e) (byOf P e) y K (appX P s.heap (szOf P e) x)
  | _ => False
theorem append_eq {P : Program} {s : St} {ty tx : TypeId} {x y : AV} {K : AV → St → Prop} : appendK P s ty tx x y K = appendT P (tk P ty) s tx x y K := by
  unfold appendK appendT
  rcases tk P ty with e | _ | _ | _ | _ | _ | _ | _ <;> try rfl



def apXR (z z' off len : Nat) (h : Heap) (id : Nat) : Option Ob → Option (List (List AV) × Heap)
  | some (.slice sz2 es) => if z' = sz2 ∧ z' = z then some ((es.drop off).take len, hdel h id) else none
  | _ => none
def apYR (z z' off len : Nat) (h : Heap) (id : Nat) (sub : Option (Nat × Nat × Nat)) : Option (Nat × List (List AV)) → Option (List (List AV) × Heap)
  | some (sz2, es) => if z' = sz2 ∧ z' = z then (if allScs ((es.drop off).take len) then some ((es.drop off).take len, h) else match sub with | none => some ((es.drop off).take len, hdel h id) | some _ => none) else none
  | _ => none
def appYT (h : Heap) (sz : Nat) (k : TK) : AV → Option (List (List AV) × Heap)
  | .nil => match k with | .slice _ => some ([], h) | _ => none
  | .ref id sub sz' off len => match k with | .slice _ => apYR sz sz' off len h id sub (getS h id sub) | _ => none
  | .sl es => match k with | .slice _ => if es.all (fun e => e.length == sz) then some (es, h) else none | _ => none
  | .str s => match k with | .str => if sz = 1 then some (s.data.toList.map fun b => [.int .u8 b.toNat], h) else none | _ => none
  | _ => none
theorem appY_eq {P : Program} {h : Heap} {sz : Nat} {tx : TypeId} {y : AV} : appY P h sz tx y = appYT h sz (tk P tx) y := by
  cases y <;> try rfl
  rename_i id sub sz' off len
  simp only [appY, appYT]
  rcases tk P tx with e | _ | _ | _ | _ | _ | _ | _ <;> try rfl
  simp only
  rcases getS h id sub with _ | ⟨a, b⟩ <;> rfl
section
variable {P : Program} {e tx : TypeId} {s : St} {t : List AV} {h h1 h2 : Heap} {n z z' by' id off len sz2 : Nat} {x y : AV} {K : AV → St → Prop} {es es1 es2 : List (List AV)} {sub : Option (Nat × Nat × Nat)} {b : ByteArray}
theorem ap_slice : appendT P (.slice e) s tx x y K = (szOf P e ≠ 0 ∧ byOf P e ≠ 0 ∧ (zeroCells P e).map (·.length) = some (szOf P e) ∧ apX P s tx (szOf P e) (byOf P e) y K (appX P s.heap (szOf P e) x)) := _root_.id rfl
theorem apX_some : apX P s tx z by' y K (some (es1, h1)) = apY s z by' es1 K (appYT h1 z (tk P tx) y) := by rw [← appY_eq]; rfl
theorem apY_some : apY ⟨t, h, n⟩ z by' es1 K (some (es2, h2)) = ((es1.length + es2.length) * by' ≤ 140737488355328 ∧ K (.ref n none z 0 (es1.length + es2.length)) (killSt ⟨t, (n, .slice z (es1 ++ es2)) :: h2, n + 1⟩)) := _root_.id rfl
theorem appX_nil : appX P h z .nil = some ([], h) := _root_.id rfl
theorem appX_ref : appX P h z (.ref id none z' off len) = apXR z z' off len h id (hget h id) := by
  simp only [appX, apXR]
  rcases hget h id with _ | ⟨_, _⟩ | _ <;> rfl
theorem apXR_some : apXR z z' off len h id (some (.slice sz2 es)) = if z' = sz2 ∧ z' = z then some ((es.drop off).take len, hdel h id) else none := _root_.id rfl
theorem appY_nil : appYT h z (.slice e) .nil = some ([], h) := _root_.id rfl
theorem appY_ref : appYT h z (.slice e) (.ref id sub z' off len) = apYR z z' off len h id sub (getS h id sub) := _root_.id rfl
theorem appY_sl : appYT h z (.slice e) (.sl es) = if es.all (fun e => e.length == z) then some (es, h) else none := _root_.id rfl
theorem appY_str : appYT h z .str (.str b) = if z = 1 then some (b.data.toList.map fun b => [.int .u8 b.toNat], h) else none := _root_.id rfl
theorem apYR_sc (hs : allScs ((es.drop off).take len) = true) : apYR z z' off len h id sub (some (sz2, es)) = if z' = sz2 ∧ z' = z then some ((es.drop off).take len, h) else none := by
  simp [apYR, hs]
theorem apYR_ns (hs : allScs ((es.drop off).take len) = false) : apYR z z' off len h id none (some (sz2, es)) = if z' = sz2 ∧ z' = z then some ((es.drop off).take len, hdel h id) else none := by
  simp [apYR, hs]
theorem getS_none : getS h id none = (match hget h id with | some (.slice sz es) => some (sz, es) | _ => none) := _root_.id rfl
end
/-! the operations by their layouts -/
section
variable {P : Program} {G : Glo} {C : CT} {md : FuncId → Bool} {s : St} {K : AV → St → Prop} {ty ty' : TypeId} {x y i v l c : Operand} {j : Nat}
theorem p_faddr : opK P G C md (.fieldAddr ty x j) s K = faddrT (tk P ty) (ev G s x) j (fun v => K v s) := _root_.id rfl
theorem p_iaddr : opK P G C md (.indexAddr ty x i) s K = iaddrT P (tk P ty) (ev G s x) (ev G s i) (fun v => K v s) := _root_.id rfl
theorem p_idx : opK P G C md (.index ty x i) s K = idxT (tk P ty) (ev G s x) (ev G s i) (fun v => K v s) := _root_.id rfl
theorem p_slice {lo hi : Option Operand} : opK P G C md (.slice ty x lo hi none) s K = sliceT P (tk P ty) (ev G s x) (lo.map (ev G s)) (hi.map (ev G s)) (fun v => K v s) := by
  simp only [opK, sliceK, sliceT]
  rcases tk P ty with e | _ | _ | _ | _ | _ | _ | _ <;> cases ev G s x <;> (try rfl) <;>
  cases (lo.map (ev G s)).getD (.int .i64 0) <;> (try rfl) <;> simp only [slR, slF, slN, slS] <;>
  (generalize Option.getD _ _ = z; cases z <;> rfl)
theorem p_load : opK P G C md (.load ty x) s K = loadT (agT P ty) s.heap (ev G s x) (fun v => K v s) := (_root_.id rfl : _ = loadK P s.heap ty (ev G s x) (fun v => K v s)).trans load_eq
theorem p_store : opK P G C md (.store ty x v) s K = storeT (szOf P ty) s (ev G s x) (fun s' => K .any s') (cellsV (ev G s v)) := store_eq
theorem p_alloc : opK P G C md (.alloc ty) s K = allocT (zeroCells P ty) s K := _root_.id rfl
theorem p_box : opK P G C md (.box ty x) s K = allocT (cellsV (ev G s x)) s K := box_eq
theorem p_build {ps : Array (Nat × Operand)} : opK P G C md (.build ty ps) s K = buildT (places P ty) (zeroCells P ty) (ps.toList.map fun p => (p.1, ev G s p.2)) (fun v => K v s) := (_root_.id rfl : _ = buildK P ty (ps.toList.map fun p => (p.1, ev G s p.2)) (fun v => K v s)).trans build_eq
theorem p_buildS {m : Nat} {ps : Array (Nat × Operand)} : opK P G C md (.buildSlice ty m ps) s K = ((m = 0 → ps.toList = []) ∧ buildST P (tk P ty) s m (ps.toList.map fun p => (p.1, ev G s p.2)) K) := by
  rw [o_buildS, buildS_eq]
theorem p_make : opK P G C md (.makeSlice ty l c) s K = makeT P (tk P ty) s (ev G s l) (ev G s c) K := make_eq
theorem p_conv : opK P G C md (.convert ty ty' x) s K = convHT (tk P ty) (tk P ty') P s.heap (ev G s x) (fun v => K v s) := _root_.id rfl
theorem p_len : opK P G C md (.call ⟨.builtin .len, ⟨[x]⟩, ⟨[ty]⟩⟩) s K = lenT (tk P ty) (ev G s x) (fun v => K v s) := _root_.id rfl
theorem p_append : opK P G C md (.call ⟨.builtin .append, ⟨[x, y]⟩, ⟨[ty, ty']⟩⟩) s K = appendT P (tk P ty) s ty' (ev G s x) (ev G s y) K := append_eq
end
/-! binary operators -/
section
variable {P : Program} {ty : TypeId} {k k' : IntKind} {a b : Int} {K : AV → Prop} {u v : ByteArray} {p q : Bool}
theorem bi_add : binK P .add ty (.int k a) (.int k' b) K = (k = k' ∧ K (.int k (k.wrap (a + b)))) := _root_.id rfl
theorem bi_sub : binK P .sub ty (.int k a) (.int k' b) K = (k = k' ∧ K (.int k (k.wrap (a - b)))) := _root_.id rfl
theorem bi_mul : binK P .mul ty (.int k a) (.int k' b) K = (k = k' ∧ K (.int k (k.wrap (a * b)))) := _root_.id rfl
theorem bi_quo : binK P .quo ty (.int k a) (.int k' b) K = (k = k' ∧ b ≠ 0 ∧ K (.int k (k.wrap (a.tdiv b)))) := _root_.id rfl
theorem bi_rem : binK P .rem ty (.int k a) (.int k' b) K = (k = k' ∧ b ≠ 0 ∧ K (.int k (a.tmod b))) := _root_.id rfl
theorem bi_eql : binK P .eql ty (.int k a) (.int k' b) K = (k = k' ∧ K (.bool (decide (a = b)))) := by
  simp only [binK, intK]; rw [show (a == b) = decide (a = b) from rfl]
theorem bi_neq : binK P .neq ty (.int k a) (.int k' b) K = (k = k' ∧ K (.bool (!decide (a = b)))) := by
  simp only [binK, intK]; rw [show (a != b) = !decide (a = b) from rfl]
theorem bi_lss : binK P .lss ty (.int k a) (.int k' b) K = (k = k' ∧ K (.bool (decide (a < b)))) := _root_.id rfl
theorem bi_leq : binK P .leq ty (.int k a) (.int k' b) K = (k = k' ∧ K (.bool (decide (a ≤ b)))) := _root_.id rfl
theorem bi_gtr : binK P .gtr ty (.int k a) (.int k' b) K = (k = k' ∧ K (.bool (decide (b < a)))) := _root_.id rfl
theorem bi_geq : binK P .geq ty (.int k a) (.int k' b) K = (k = k' ∧ K (.bool (decide (b ≤ a)))) := _root_.id rfl
theorem bi_shl : binK P .shl ty (.int k a) (.int k' b) K = (0 ≤ b ∧ K (.int k (k.wrap (a * 2 ^ (min b.toNat k.bits))))) := _root_.id rfl
theorem bi_shr : binK P .shr ty (.int k a) (.int k' b) K = (0 ≤ b ∧ K (.int k (a.fdiv (2 ^ (min b.toNat k.bits))))) := _root_.id rfl
theorem bi_str {op : BinOp} : binK P op ty (.str u) (.str v) K = strK op u v K := by cases op <;> rfl
def bbT (k : TK) (op : BinOp) (a b : Bool) (K : AV → Prop) : Prop :=
  match k, op with
  | .bool, .eql => K (.bool (a == b))
  | .bool, .neq => K (.bool (!(a == b)))
  | _, _ => False
theorem bi_bool {op : BinOp} : binK P op ty (.bool p) (.bool q) K = bbT (tk P ty) op p q K := by cases op <;> rfl
theorem bb_eql : bbT .bool .eql p q K = K (.bool (p == q)) := _root_.id rfl
theorem bb_neq : bbT .bool .neq p q K = K (.bool (!(p == q))) := _root_.id rfl
def snT (k : TK) (op : BinOp) (e : Prop) (K : AV → Prop) : Prop :=
  match k, op with
  | .slice _, .eql => ∀ b : Bool, (b = true → e) → K (.bool b)
  | .slice _, .neq => ∀ b : Bool, (b = false → e) → K (.bool b)
  | _, _ => False
theorem bi_sln {op : BinOp} {es : List (List AV)} : binK P op ty (.sl es) .nil K = snT (tk P ty) op (es = []) K := by cases op <;> rfl
theorem bi_refn {op : BinOp} {id sz off len : Nat} : binK P op ty (.ref id none sz off len) .nil K = snT (tk P ty) op (len = 0) K := by cases op <;> rfl
def nnT (k : TK) (op : BinOp) (K : AV → Prop) : Prop :=
  match k, op with
  | .slice _, .eql => K (.bool true)
  | .slice _, .neq => K (.bool false)
  | _, _ => False
theorem bi_niln {op : BinOp} : binK P op ty .nil .nil K = nnT (tk P ty) op K := by cases op <;> rfl
theorem nn_eql {e : TypeId} : nnT (.slice e) .eql K = K (.bool true) := _root_.id rfl
theorem nn_neq {e : TypeId} : nnT (.slice e) .neq K = K (.bool false) := _root_.id rfl
theorem sn_eql {e : TypeId} {z : Prop} : snT (.slice e) .eql z K = ∀ b : Bool, (b = true → z) → K (.bool b) := _root_.id rfl
theorem sn_neq {e : TypeId} {z : Prop} : snT (.slice e) .neq z K = ∀ b : Bool, (b = false → z) → K (.bool b) := _root_.id rfl
end
/-! loops -/
section
variable {P : Program} {G : Glo} {C : CT} {md : FuncId → Bool} {B : Nat} {c : XC} {s : St} {Q : XE → St → Prop}
theorem R_ind (acts : List Keepd) (H : Nat → St → Prop) (k0 : Nat) (s0 : St) (h0 : HeadAt B acts s s0) (hH : H k0 s0)
    (h : ∀ k s', H k s' → ∀ J : St → Prop, (∀ k' s s'', k' < k → H k' s'' → HeadAt B acts s s'' → J s) → R P G C md B c s' (thenX J Q)) : R P G C md B (.loop c) s Q := by
  refine R_loop acts fun J hJ => ?_
  have key : ∀ k s s', H k s' → HeadAt B acts s s' → J s := by
    intro k
    induction k using Nat.strongRecOn with
    | ind k ih =>
      intro s s' hk hs
      exact hJ s s' hs (h k s' hk J fun k' s s'' hlt h2 h3 => ih k' hlt s s'' h2 h3)
  exact key k0 s s0 hH h0
theorem R_count (acts : List Keepd) (S : Nat → St) (I : Nat → Prop) (n i0 : Nat) (h0 : HeadAt B acts s (S i0)) (hle : i0 ≤ n) (hI : I i0)
    (h : ∀ i, i ≤ n → I i → ∀ J : St → Prop, (i < n → I (i + 1) → ∀ s, HeadAt B acts s (S (i + 1)) → J s) → R P G C md B c (S i) (thenX J Q)) : R P G C md B (.loop c) s Q := by
  refine R_ind acts (fun k s' => ∃ i, i + k = n ∧ s' = S i ∧ I i) (n - i0) (S i0) h0 ⟨i0, by omega, rfl, hI⟩ ?_
  rintro k s' ⟨i, hi, rfl, hIi⟩ J hJ
  exact h i (by omega) hIi J fun hlt hI' s hs => hJ (k - 1) s _ (by omega) ⟨i + 1, by omega, rfl, hI'⟩ hs
end
end Go.Proofs.YtedgfiikaedeoaaDoor.X
