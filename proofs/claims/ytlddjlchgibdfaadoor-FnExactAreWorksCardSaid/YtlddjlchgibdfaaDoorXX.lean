import Derived.Test.YtlddjlchgibdfaaDoorXPlan
import Derived.Laws.Sem
set_option linter.unusedVariables false
set_option linter.unusedSimpArgs false
namespace Go.Proofs.YtlddjlchgibdfaaDoor.X
open Go

/-! ### Code -/
inductive XE where
  | normal
  | exit (id : Nat)
  | ret
def thenX (K : St → Prop) (Q : XE → St → Prop) : XE → St → Prop
  | .normal, s => K s
  | e, s => Q e s
def inBlockX (id : Nat) (Q : XE → St → Prop) : XE → St → Prop
  | .exit i, s => if i = id then Q .normal s else Q (.exit i) s
  | e, s => Q e s
def know (s : St) (c : Operand) (b : Bool) : St :=
  match c with
  | .tmp d => s.put (some d) (.bool b)
  | _ => s
def X (P : Program) (G : Glo) (C : CT) (md : FuncId → Bool) (B : Nat) : Code → St → (XE → St → Prop) → Prop
  | .skip, s, Q => Q .normal s
  | .label _, s, Q => Q .normal s
  | .region _ ops draw, s, Q => runPlan P G C md ops (planOf md ops draw) s (Q .normal)
  | .seq x y, s, Q => X P G C md B x s (thenX (fun s' => X P G C md B y s' Q) Q)
  | .cond c x y, s, Q => match ev G s c with
    | .bool b => (b = true → X P G C md B x (know s c true) Q) ∧ (b = false → X P G C md B y (know s c false) Q)
    | _ => False
  | .block id c, s, Q => X P G C md B c s (inBlockX id Q)
  | .loop c, s, Q => ∀ J : St → Prop, (∀ s, (∃ acts ρ nx, rhoOk B ρ (objIds acts) nx = true ∧ X P G C md B c (canon B acts ρ nx s) (thenX J Q)) → J s) → J s
  | .exit id, s, Q => Q (.exit id) s
  | .ret, s, Q => Q .ret s
  | _, _, _ => False

def resK (P : Program) (s : St) : List ResultVar → (List AV → Prop) → Prop
  | [], K => K []
  | .tmp t :: r, K => resK P s r fun vs => K (s.tmps.getD t .any :: vs)
  | .cell a t :: r, K => loadK P s.heap t (s.tmps.getD a .any) fun v => resK P s r fun vs => K (v :: vs)
def oneOr (K : AV → Prop) : List AV → Prop
  | [x] => K x
  | xs => K (.tup xs)
def bodyQ (P : Program) (rs : List ResultVar) (K : AV → Heap → Nat → Prop) : XE → St → Prop
  | .exit _, _ => False
  | _, s => resK P s rs (oneOr fun v => K v s.heap s.next)
/-- The body of a function, from its arguments. -/
def BodyX (P : Program) (G : Glo) (C : CT) (md : FuncId → Bool) (f : FuncId) (args : List AV) (h : Heap) (n : Nat) (K : AV → Heap → Nat → Prop) : Prop :=
  ∃ fn c, P.funcs[f]? = some fn ∧ fn.body = some c ∧ fn.name ≠ "runtime.NumGoroutine" ∧ X P G C md n c ⟨args ++ List.replicate (fn.ntmps - args.length) (.con undef), h, n⟩ (bodyQ P fn.results.toList K)
def Closed (P : Program) (G : Glo) (md : FuncId → Bool) (C : CT) : Prop := ∀ f args h n K, BodyX P G C md f args h n K → C f args h n K

def codeQ (G : Glo) (M I : Nat → Prop) (n : Nat) (hd : Nat → Value) (w : World) (Q : XE → St → Prop) : Exit → Act → World → Prop
  | .normal, a, w' => Post G M I n hd w (Q .normal) a w'
  | .exit id, a, w' => Post G M I n hd w (Q (.exit id)) a w'
  | .ret, a, w' => Post G M I n hd w (Q .ret) a w'
  | _, _, _ => False

section
variable {P : Program} {G : Glo} {C : CT} {md : FuncId → Bool} {M I I0 : Nat → Prop} {s : St} {hd hd0 : Nat → Value} {Fp : Nat → List Nat} {a : Act} {w w0 : World} {n0 : Nat}

/-- At the loop's head. -/
def loopWp (P : Program) (c : Code) (Q : Exit → Act → World → Prop) (a : Act) (w : World) : Prop :=
  ∀ (b : Frame) (k : List Item) (cs : List Frame), ∃ e a' w', Q e a' w' ∧ Arrives P (lone (b.at a (.code c :: .inLoop c :: k)) cs w) b k cs e a' w'
theorem loopWp_unroll {c : Code} {Q : Exit → Act → World → Prop} (h : c.wp P (Exit.then (loopWp P c Q) Q) a w) : loopWp P c Q a w := by
  intro b k cs
  obtain ⟨e, a₁, w₁, hq, harr⟩ := h b (.inLoop c :: k) cs
  cases e with
  | normal =>
    obtain ⟨e₂, a₂, w₂, hq₂, harr₂⟩ := hq b k cs
    exact ⟨e₂, a₂, w₂, hq₂, .of_steps (Steps.trans harr (.one step_inLoop)) harr₂⟩
  | exit id => exact ⟨_, a₁, w₁, hq, .pass (x := .inLoop c) rfl (fun _ _ => .inl (by simp)) harr⟩
  | goto l => exact ⟨_, a₁, w₁, hq, .pass (x := .inLoop c) rfl (fun _ _ => .inl (by simp)) harr⟩
  | ret => exact ⟨_, a₁, w₁, hq, .pass (x := .inLoop c) rfl (fun _ _ => .inl (by simp)) harr⟩
  | panic ch => exact ⟨_, a₁, w₁, hq, .pass (x := .inLoop c) rfl (fun _ _ => .inl (by simp)) harr⟩
  | outgrown => exact ⟨_, a₁, w₁, hq, .pass (x := .inLoop c) rfl (fun _ _ => .inl (by simp)) harr⟩
theorem loopWp_wp {c : Code} {Q : Exit → Act → World → Prop} (h : loopWp P c Q a w) : (Code.loop c).wp P Q a w := by
  intro b k cs
  obtain ⟨e, a', w', hq, harr⟩ := h b k cs
  exact ⟨e, a', w', hq, .of_steps (.one step_loop) harr⟩

theorem know_SR (h : SR G M I s hd Fp a w) {c : Operand} {b : Bool} (hb : a.eval c = .bool b) : SR G M I (know s c b) hd Fp a w := by
  cases c with
  | tmp d => exact h.know hb
  | _ => exact h
theorem know_next (s : St) (c : Operand) (b : Bool) : (know s c b).next = s.next := by cases c <;> rfl

theorem X_sound (hm : P.follows .mixedOrders = true) (hC : Sound P G C) : ∀ (c : Code) (s : St) (Q : XE → St → Prop) (I : Nat → Prop) (hd : Nat → Value) (Fp : Nat → List Nat) (a : Act) (w : World), SR G M I s hd Fp a w → Ext M I0 I n0 hd0 hd w0 w → n0 ≤ s.next →
    X P G C md n0 c s Q → c.wp P (codeQ G M I0 n0 hd0 w0 Q) a w := by
  intro c
  induction c with
  | skip => intro s Q I hd Fp a w h hE hn hx; exact wp_skip ⟨s, I, hd, Fp, hx, h, hE, hn⟩
  | label l => intro s Q I hd Fp a w h hE hn hx; exact wp_label ⟨s, I, hd, Fp, hx, h, hE, hn⟩
  | exit id => intro s Q I hd Fp a w h hE hn hx; exact wp_exit ⟨s, I, hd, Fp, hx, h, hE, hn⟩
  | ret => intro s Q I hd Fp a w h hE hn hx; exact wp_ret ⟨s, I, hd, Fp, hx, h, hE, hn⟩
  | region id ops draw =>
    intro s Q I hd Fp a w h hE hn hx
    simp only [X, planOf] at hx
    cases draw with
    | false =>
      simp only [Bool.false_eq_true, if_false] at hx
      exact wp_region (plan_text (K := Q .normal) hC (fun _ _ h => h) _ s I hd Fp a w h hE hn hx)
    | true =>
      simp only [if_true] at hx
      have hE' : Ext M I0 I n0 hd0 hd w0 { w with drawn := w.drawn + 1 } :=
        hE.trans ⟨⟨rfl, rfl, rfl, Nat.le_refl _, fun _ _ _ => rfl⟩, fun b hb => ⟨hb, rfl⟩, fun _ _ => rfl⟩
      refine wp_region_any hm (wpAny_of_R (md := md) _ _ _ _ ?_)
      exact plan_any (K := Q .normal) hC (fun _ _ _ h => h) (fun _ _ h => h) _ _ s I hd Fp a _ (h.drew rfl) hE' hn hx
  | seq x y ihx ihy =>
    intro s Q I hd Fp a w h hE hn hx
    simp only [X] at hx
    refine wp_seq (wp_mono (ihx s _ I hd Fp a w h hE hn hx) ?_)
    intro e a' w' hq
    cases e with
    | normal =>
      obtain ⟨s', I', hd', Fp', h1, h2, h3, h4⟩ := hq
      exact ihy s' Q I' hd' Fp' a' w' h2 h3 h4 h1
    | exit id => exact hq
    | ret => exact hq
    | goto l => exact hq
    | panic ch => exact hq
    | outgrown => exact hq
  | cond c x y ihx ihy =>
    intro s Q I hd Fp a w h hE hn hx
    simp only [X] at hx
    have hc := ev_sound h c
    split at hx
    · rename_i b e
      rw [e] at hc
      have hb := S_bool_inv hc
      refine wp_cond hb ?_
      cases b with
      | true => exact ihx _ Q I hd Fp a w (know_SR h hb) hE (by rw [know_next]; exact hn) (hx.1 rfl)
      | false => exact ihy _ Q I hd Fp a w (know_SR h hb) hE (by rw [know_next]; exact hn) (hx.2 rfl)
    · exact hx.elim
  | block id c ih =>
    intro s Q I hd Fp a w h hE hn hx
    simp only [X] at hx
    refine wp_block (wp_mono (ih s _ I hd Fp a w h hE hn hx) ?_)
    intro e a' w' hq
    cases e with
    | normal => exact hq
    | exit i =>
      obtain ⟨s', I', hd', Fp', h1, h2⟩ := hq
      simp only [inBlockX] at h1
      simp only [Exit.inBlock]
      split at h1
      · rename_i hi; rw [if_pos hi]; exact ⟨s', I', hd', Fp', h1, h2⟩
      · rename_i hi; rw [if_neg hi]; exact ⟨s', I', hd', Fp', h1, h2⟩
    | ret => exact hq
    | goto l => exact hq
    | panic ch => exact hq
    | outgrown => exact hq
  | loop c ih =>
    intro s Q I hd Fp a w h hE hn hx
    simp only [X] at hx
    refine loopWp_wp (hx (fun s => ∀ (I : Nat → Prop) (hd : Nat → Value) (Fp : Nat → List Nat) (a : Act) (w : World), SR G M I s hd Fp a w → Ext M I0 I n0 hd0 hd w0 w → n0 ≤ s.next → loopWp P c (codeQ G M I0 n0 hd0 w0 Q) a w) ?_ I hd Fp a w h hE hn)
    rintro s ⟨acts, ρ, nx, hok, hx⟩ I hd Fp a w h hE hn
    obtain ⟨hd', Fp', h', hB⟩ := h.canon hok
    have hE' : Ext M I0 I n0 hd0 hd' w0 w := ⟨hE.keep, hE.im, fun id hid => (hB id hid).trans (hE.hds id hid)⟩
    refine loopWp_unroll (wp_mono (ih _ _ I hd' Fp' a w h' hE' (rho_spec hok).1 hx) ?_)
    intro e a' w' hq
    cases e with
    | normal =>
      obtain ⟨s', I', hd', Fp', h1, h2, h3, h4⟩ := hq
      exact h1 I' hd' Fp' a' w' h2 h3 h4
    | exit id => exact hq
    | ret => exact hq
    | goto l => exact hq
    | panic ch => exact hq
    | outgrown => exact hq
  | _ => intro s Q I hd Fp a w h hE hn hx; simp only [X] at hx

/-- The results. -/
def resF (tmps : Array Value) : ResultVar → Sem Value
  | .tmp t => pure (tmps.getD t undef)
  | .cell x t => do loadVar t (← asAddr (tmps.getD x undef))
theorem run_resF_tmp {tmps : Array Value} {t : Tmp} : (resF tmps (.tmp t)).run P w = .ok (tmps.getD t undef) w := rfl
theorem run_resF_cell {tmps : Array Value} {x t : Nat} {v : Value} (h1 : (Instr.loadAt t (tmps.getD x undef)).run P w = .ok v w) : (resF tmps (.cell x t)).run P w = .ok v w := by
  show (do loadVar t (← asAddr (tmps.getD x undef)) : Sem Value).run P w = _
  generalize tmps.getD x undef = u at h1 ⊢
  unfold Instr.loadAt at h1
  cases u with
  | pointer p => cases p with
    | some ad => simpa [Instr.sureAddr, asAddr] using h1
    | none => simp [Instr.sureAddr, stuck] at h1
  | _ => simp [Instr.sureAddr, stuck] at h1
theorem run_mapM_cons {α : Type} {f : α → Sem Value} {x : α} {xs : List α} {v : Value} {vs : List Value} (h1 : (f x).run P w = .ok v w) (h2 : (xs.mapM f).run P w = .ok vs w) : ((x :: xs).mapM f).run P w = .ok (v :: vs) w := by
  rw [List.mapM_cons]
  simp [h1, h2]
theorem resK_sound (h : SR G M I s hd Fp a w) : ∀ (rs : List ResultVar) (K : List AV → Prop), resK P s rs K → ∃ vs avs, (rs.mapM (resF a.tmps)).run P w = .ok vs w ∧ K avs ∧ SV hd s.next w I avs vs
  | [], K, hk => ⟨[], [], by simp, hk, by simp [SV]⟩
  | .tmp t :: r, K, hk => by
    obtain ⟨vs, avs, h1, h2, h3⟩ := resK_sound h r _ hk
    refine ⟨a.tmps.getD t undef :: vs, _, run_mapM_cons run_resF_tmp h1, h2, ?_⟩
    simp only [SV]; exact ⟨_, _, rfl, h.slots t, h3⟩
  | .cell x t :: r, K, hk => by
    simp only [resK] at hk
    obtain ⟨v, av, h1, h2, h3⟩ := loadK_sound h hk (h.slots x)
    obtain ⟨vs, avs, g1, g2, g3⟩ := resK_sound h r _ h2
    refine ⟨v :: vs, _, run_mapM_cons (run_resF_cell (h1 w (.refl w))) g1, g2, ?_⟩
    simp only [SV]; exact ⟨_, _, rfl, h3, g3⟩

theorem SV_single {n : Nat} {av : AV} {vs : List Value} (h : SV hd n w I [av] vs) : ∃ v, vs = [v] ∧ S hd n w I av v := by
  simp only [SV] at h
  obtain ⟨v, vs', rfl, h1, rfl⟩ := h
  exact ⟨v, rfl, h1⟩
theorem SV_length {n : Nat} : ∀ {avs : List AV} {vs : List Value}, SV hd n w I avs vs → vs.length = avs.length
  | [], vs, h => by simp only [SV] at h; rw [h]; rfl
  | _ :: _, vs, h => by
    simp only [SV] at h
    obtain ⟨v, vs', rfl, _, h2⟩ := h
    simp [SV_length h2]

theorem results_sound (h : SR G M I s hd Fp a w) {fn : Func} {K : AV → Prop} (hk : resK P s fn.results.toList (oneOr K)) : ∃ v av, (results fn a.tmps).run P w = .ok v w ∧ K av ∧ S hd s.next w I av v := by
  obtain ⟨vs, avs, h1, h2, h3⟩ := resK_sound h _ _ hk
  have hr : (results fn a.tmps).run P w = .ok (if h : vs.toArray.size = 1 then vs.toArray[0] else .tuple vs.toArray) w := by
    have e : results fn a.tmps = (do let vs ← fn.results.mapM (resF a.tmps); pure (if h : vs.size = 1 then vs[0] else .tuple vs)) := rfl
    rw [e, Array.mapM_eq_mapM_toList]
    simp only [Sem.run_bind, Sem.run_map, h1]
    rfl
  match avs, h3, h2 with
  | [x], h3, h2 =>
    obtain ⟨v, rfl, hv⟩ := SV_single h3
    exact ⟨v, x, by rw [hr]; rfl, h2, hv⟩
  | [], h3, h2 =>
    simp only [SV] at h3
    subst h3
    exact ⟨.tuple #[], .tup [], by rw [hr]; rfl, h2, by simp [S, SV]⟩
  | x :: y :: r, h3, h2 =>
    have hl := SV_length h3
    refine ⟨.tuple vs.toArray, .tup (x :: y :: r), ?_, h2, ?_⟩
    · rw [hr, dif_neg (by simp [hl])]
    · simp only [S]; exact ⟨_, rfl, h3⟩

/-- What a call in the model comes to, for every caller. -/
def CS (P : Program) (G : Glo) : CT := fun f args h n K => Enters P f ∧ ∀ (M I : Nat → Prop) (hd : Nat → Value) (Fp : Nat → List Nat) (w : World) (vals : List Value), HR G M I h n hd Fp w → SV hd n w I args vals →
    Calls P f vals.toArray w fun e w' => ∃ v av h' n' I' hd' Fp', e = .returned v ∧ K av h' n' ∧ HR G M I' h' n' hd' Fp' w' ∧ S hd' n' w' I' av v ∧ Ext M I I' n hd hd' w w' ∧ n ≤ n'
theorem CS_sound : Sound P G (CS P G) := fun f args h n K hc => hc

theorem SV_getD {n : Nat} : ∀ {avs : List AV} {vs : List Value}, SV hd n w I avs vs → ∀ t, S hd n w I (avs.getD t .any) (vs.getD t undef)
  | [], vs, h, t => by simp only [SV] at h; subst h; simp [S]
  | x :: xs, vs, h, t => by
    simp only [SV] at h
    obtain ⟨v, vs', rfl, h1, h2⟩ := h
    cases t with
    | zero => exact h1
    | succ t => simpa using SV_getD h2 t

theorem CS_closed (hm : P.follows .mixedOrders = true) : Closed P G md (CS P G) := by
  rintro f args h n K ⟨fn, c, hf, hb, hne, hx⟩
  refine ⟨⟨fn, hf, by rw [hb]; simp, hne⟩, ?_⟩
  intro M I hd Fp w vals hr hargs
  refine calls_of_wp hf hb ?_
  have hl := SV_length hargs
  have hsr : SR G M I ⟨args ++ List.replicate (fn.ntmps - args.length) (.con undef), h, n⟩ hd Fp ⟨vals.toArray ++ Array.replicate (fn.ntmps - vals.toArray.size) undef, []⟩ w := by
    refine ⟨hr, by simp [hl], fun t => ?_, rfl⟩
    have e : (vals.toArray ++ Array.replicate (fn.ntmps - vals.toArray.size) undef).getD t undef = (vals ++ List.replicate (fn.ntmps - vals.length) undef).getD t undef := by
      rw [Array.getD_eq_getD_getElem?, List.getD_eq_getElem?_getD, ← Array.getElem?_toList]
      simp
    rw [e]
    have hrep : ∀ k, SV hd n w I (List.replicate k (.con undef)) (List.replicate k undef) := by
      intro k
      induction k with
      | zero => simp [SV]
      | succ k ih => simp only [List.replicate_succ, SV]; exact ⟨_, _, rfl, by simp [S], ih⟩
    rw [hl]
    exact SV_getD (hargs.append (hrep _)) t
  refine wp_mono (X_sound (I0 := I) (hd0 := hd) (w0 := w) hm CS_sound c _ _ I hd Fp _ w hsr (Ext.refl _ _ _ _ _) (Nat.le_refl _) hx) ?_
  have fin : ∀ (e : XE) a' w', (∀ id, e ≠ .exit id) → Post G M I n hd w (bodyQ P fn.results.toList K e) a' w' → a'.defers = [] ∧ ∃ v, (results fn a'.tmps).run P w' = .ok v w' ∧ ∃ v' av h' n' I' hd' Fp', Ending.returned v = .returned v' ∧ K av h' n' ∧ HR G M I' h' n' hd' Fp' w' ∧ S hd' n' w' I' av v' ∧ Ext M I I' n hd hd' w w' ∧ n ≤ n' := by
    rintro e a' w' hne ⟨s', I', hd', Fp', h1, h2, h3, h4⟩
    have hk : resK P s' fn.results.toList (oneOr fun v => K v s'.heap s'.next) := by
      cases e with
      | normal => exact h1
      | ret => exact h1
      | exit id => exact absurd rfl (hne id)
    obtain ⟨v, av, g1, g2, g3⟩ := results_sound h2 hk
    exact ⟨h2.defers, v, g1, v, av, s'.heap, s'.next, I', hd', Fp', rfl, g2, h2.heap, g3, h3, h4⟩
  intro e a' w' hq
  cases e with
  | normal => exact fin .normal a' w' (by simp) hq
  | ret => exact fin .ret a' w' (by simp) hq
  | exit id =>
    obtain ⟨s', I', hd', Fp', h1, _⟩ := hq
    exact h1.elim
  | goto l => exact hq.elim
  | panic ch => exact hq.elim
  | outgrown => exact hq.elim
end
theorem eqs_thenX : True := by
  have := @thenX.eq_1
  trivial
theorem eqs_inBlockX : True := by
  have := @inBlockX.eq_1
  trivial
theorem eqs_resK : True := by
  have := @resK.eq_1
  trivial
theorem eqs_oneOr : True := by
  have := @oneOr.eq_1
  trivial
theorem eqs_bodyQ : True := by
  have := @bodyQ.eq_1
  trivial
end Go.Proofs.YtlddjlchgibdfaaDoor.X
