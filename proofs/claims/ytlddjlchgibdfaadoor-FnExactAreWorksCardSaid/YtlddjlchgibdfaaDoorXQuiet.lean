import Derived.Test.YtlddjlchgibdfaaDoorXCanon
set_option linter.unusedVariables false
set_option linter.unusedSimpArgs false
namespace Go.Proofs.YtlddjlchgibdfaaDoor.X
open Go

/-! ### Operations that only read, and operations that leave the older blocks alone -/
def quietOp : Op → Bool
  | .move _ | .assign _ | .pick .. | .binOp .. | .unOp .. | .convert .. | .extract .. | .nilCheck _ | .fieldAddr .. | .indexAddr .. | .load .. => true
  | .call c => match c.callee with | .builtin .len => true | _ => false
  | _ => false
def isLoad : Op → Bool
  | .load .. => true
  | _ => false
def keepOp (md : FuncId → Bool) : Op → Bool
  | .alloc _ | .box .. | .buildSlice .. | .makeSlice .. | .makeFunc .. | .index .. | .build .. => true
  | .call c => match c.callee with | .builtin .len => true | .value (.func g) => !md g | _ => false
  | o => quietOp o

section
variable {P : Program} {G : Glo} {C : CT} {md : FuncId → Bool} {M I : Nat → Prop} {s : St} {hd : Nat → Value} {Fp : Nat → List Nat} {a : Act} {w : World} {K : AV → St → Prop} {o : Oper} {Q : Exit → Act → World → Prop}

theorem run_val {m : Sem Value} {v : Value} {w : World} (h : m.run P w = .ok v w) : (do pure (Next.value (← m)) : Sem Next).run P w = .ok (.value v) w := by simp [h]

/-- An operation that only reads yields the same value in every world whose older blocks are these. -/
theorem opK_quiet (h : SR G M I s hd Fp a w) (hq : quietOp o.op = true) (hk : opK P G C md o.op s K) :
    ∃ v av, (∀ w', (isLoad o.op = true → SameB w w') → (execOp a.eval o).run P w' = .ok (.value v) w') ∧ K av s ∧ S hd s.next w I av v := by
  unfold opK at hk
  split at hk
  case h_1 x ho => exact ⟨_, _, fun w' _ => by simp [execOp, ho], hk, ev_sound h x⟩
  case h_2 x ho => exact ⟨_, _, fun w' _ => by simp [execOp, ho], hk, ev_sound h x⟩
  case h_3 c x y ho =>
    have hc := ev_sound h c
    split at hk
    · rename_i e; rw [e] at hc; simp only [S] at hc
      exact ⟨a.eval x, _, fun w' _ => by simp [execOp, ho, hc, asBool], hk, ev_sound h x⟩
    · rename_i e; rw [e] at hc; simp only [S] at hc
      exact ⟨a.eval y, _, fun w' _ => by simp [execOp, ho, hc, asBool], hk, ev_sound h y⟩
    · exact hk.elim
  case h_4 op t x y t2 ho =>
    obtain ⟨v, av, h1, h2, h3⟩ := binK_sound hk (ev_sound h x) (ev_sound h y)
    refine ⟨v, av, fun w' _ => ?_, h2, h3⟩
    have hg : (eqGuard op t x y (a.eval x) (a.eval y)).run P w' = .ok () w' := by
      have hx := ev_sound h x
      unfold binK at hk
      split at hk
      · rename_i e1 _; rw [e1] at hx; simp only [S] at hx; rw [hx]; exact eqGuard_idle (by simp) (by simp)
      · rename_i e1 _; rw [e1] at hx; simp only [S] at hx; rw [hx]; exact eqGuard_idle (by simp) (by simp)
      · rename_i e1 _; rw [e1] at hx; simp only [S] at hx; rw [hx]; exact eqGuard_idle (by simp) (by simp)
      · rename_i e1 _; rw [e1] at hx; simp only [S, T] at hx; obtain ⟨_, A, c, hx, _⟩ := hx; rw [hx]; exact eqGuard_idle (by simp) (by simp)
      · rename_i e1 _; rw [e1] at hx; simp only [S] at hx; rw [hx]; exact eqGuard_idle (by simp) (by simp)
      · rename_i e1 _; rw [e1] at hx; simp only [S] at hx
        obtain ⟨_, h0, _, hw⟩ := hx
        rcases hw with ⟨b, o, n, c, c', _, hx, _⟩ | ⟨_, A, hx⟩ <;> rw [hx] <;> exact eqGuard_idle (by simp) (by simp)
      · exact hk.elim
    simp [execOp, ho, hg, h1]
  case h_5 op t x ho =>
    obtain ⟨v, av, h1, h2, h3⟩ := unK_sound (P := P) hk (ev_sound h x)
    exact ⟨v, av, fun w' _ => by simp [execOp, ho, h1], h2, h3⟩
  case h_6 t t' x ho =>
    obtain ⟨v, av, h1, h2, h3⟩ := convK_sound hk (ev_sound h x)
    exact ⟨v, av, fun w' _ => by simp [execOp, ho, h1], h2, h3⟩
  case h_7 x i ho =>
    have hx := ev_sound h x
    split at hk
    · rename_i vs e
      rw [e] at hx
      simp only [S] at hx
      obtain ⟨us, hu, hs⟩ := hx
      split at hk
      · rename_i y hy
        obtain ⟨v, hv, hS⟩ := hs.get hy
        have : us[i]? = some v := by simpa using hv
        exact ⟨v, y, fun w' _ => by simp [execOp, ho, Instr.extract, hu, this], hk, hS⟩
      · exact hk.elim
    · exact hk.elim
  case h_8 x ho =>
    have hx := ev_sound h x
    split at hk
    · rename_i id sub sz i c e
      rw [e] at hx
      have hx' := hx
      simp only [S] at hx
      obtain ⟨_, h0, b, o', _, _, hu⟩ := hx
      exact ⟨a.eval x, _, fun w' _ => by simp [execOp, ho, hu], hk, hx'⟩
    · rename_i cs e
      rw [e] at hx
      have hx' := hx
      simp only [S, T] at hx
      obtain ⟨_, b, o', vs, hu, _⟩ := hx
      exact ⟨a.eval x, _, fun w' _ => by simp [execOp, ho, hu], hk, hx'⟩
    · exact hk.elim
  case h_10 t x j ho =>
    obtain ⟨v, av, h1, h2, h3⟩ := faddrK_sound hk (ev_sound h x)
    exact ⟨v, av, fun w' _ => by simp [execOp, ho, h1], h2, h3⟩
  case h_11 t x i ho =>
    obtain ⟨v, av, h1, h2, h3⟩ := iaddrK_sound hk (ev_sound h x) (ev_sound h i)
    exact ⟨v, av, fun w' _ => by simp [execOp, ho, h1], h2, h3⟩
  case h_14 t x ho =>
    obtain ⟨v, av, h1, h2, h3⟩ := loadK_sound h hk (ev_sound h x)
    exact ⟨v, av, fun w' hw => by simp [execOp, ho, h1 w' (hw (by rw [ho]; rfl))], h2, h3⟩
  case h_21 c ho =>
    obtain ⟨callee, args, argTypes⟩ := c
    simp only at hk
    split at hk
    · rename_i x t ts e2 e3
      have ea : args = #[x] := by apply Array.ext'; simpa using e2
      subst ea
      obtain ⟨v, av, h1, h2, h3⟩ := lenK_sound (ts := argTypes) (ty := o.type) (by rw [← Array.getElem?_toList, e3]; rfl) hk (ev_sound h x)
      exact ⟨v, av, fun w' _ => by simp [execOp, ho, resolve, invoke, builtin, h1], h2, h3⟩
    all_goals first | exact hk.elim | (simp [ho, quietOp] at hq; done)
  all_goals (rename_i ho; simp [ho, quietOp] at hq)

theorem opK_keeps (h : SR G M I s hd Fp a w) (hC : Sound P G C) (hq : keepOp md o.op = true) (hk : opK P G C md o.op s K) : o.wp P a w (fun a' w' => StepQ G M I s hd w o.dst K a' w' ∧ SameB w w') Q := by
  have quiet : quietOp o.op = true → o.wp P a w (fun a' w' => StepQ G M I s hd w o.dst K a' w' ∧ SameB w w') Q := by
    intro hq
    obtain ⟨v, av, h1, h2, h3⟩ := opK_quiet h hq hk
    unfold Oper.wp
    rw [h1 w (fun _ => .refl w)]
    exact ⟨⟨av, s, I, hd, Fp, h2, h.put o.dst h3, Ext.refl _ _ _ _ _, Nat.le_refl _⟩, .refl w⟩
  by_cases hq' : quietOp o.op = true
  · exact quiet hq'
  have step : ∀ {v : Value}, (execOp a.eval o).run P w = .ok (.value v) w → o.wp P a w (StepQ G M I s hd w o.dst K) Q → o.wp P a w (fun a' w' => StepQ G M I s hd w o.dst K a' w' ∧ SameB w w') Q := by
    intro v hr hw
    unfold Oper.wp at hw ⊢
    rw [hr] at hw ⊢
    exact ⟨hw, .refl w⟩
  have grow : ∀ {m : Sem Value}, execOp a.eval o = (do pure (.value (← m))) → (∃ v w', m.run P w = .ok v w' ∧ OpRes G M I s hd a w K (.value v) w' ∧ SameB w w') → o.wp P a w (fun a' w' => StepQ G M I s hd w o.dst K a' w' ∧ SameB w w') Q := by
    intro m he ⟨v, w', h1, h2, h3⟩
    have hr : (execOp a.eval o).run P w = .ok (.value v) w' := by rw [he]; simp [h1]
    have := wp_of_res (P := P) (Q := Q) hr h2
    unfold Oper.wp at this ⊢
    rw [hr] at this ⊢
    exact ⟨this, h3⟩
  have hw := opK_sound (Q := Q) h hC hk
  have hk' := hk
  unfold opK at hk
  split at hk
  case h_9 f first caps ho =>
    obtain ⟨hf, hk, hc⟩ := hk
    have hfe : first = #[] := Array.eq_empty_of_size_eq_zero hf
    subst hfe
    exact step (v := .func (.func f) #[] (caps.map a.eval)) (by simp [execOp, ho, Instr.makeFunc]) hw
  case h_12 t x i ho =>
    obtain ⟨v, av, h1, h2, h3⟩ := idxK_sound hk (ev_sound h x) (ev_sound h i)
    exact step (v := v) (by simp [execOp, ho, h1]) hw
  case h_16 t ho => exact grow (m := Instr.alloc t true (.tuple #[])) (by simp only [execOp, ho]) (allocK_sound h hk)
  case h_17 t x ho => exact grow (m := Instr.box t (a.eval x)) (by simp only [execOp, ho]) (boxK_sound h hk (ev_sound h x))
  case h_18 t ps ho =>
    obtain ⟨v, av, h1, h2, h3⟩ := buildK_sound (P := P) (t := t) hk (parts_of h ps.toList)
    have e : (ps.toList.map fun p => (p.1, a.eval p.2)).toArray = ps.map fun (i, x) => (i, a.eval x) := by apply Array.ext'; simp
    rw [e] at h1
    exact step (v := v) (by simp only [execOp, ho]; exact run_val h1) hw
  case h_19 t n ps ho =>
    refine grow (m := Instr.buildSlice t n (ps.map fun (i, x) => (i, a.eval x))) (by simp only [execOp, ho]) ?_
    have := buildSliceK_sound (P := P) (t := t) h hk.2 (parts_of h ps.toList) (fun h0 => by rw [hk.1 h0]; rfl)
    have e : (ps.toList.map fun p => (p.1, a.eval p.2)).toArray = ps.map fun (i, x) => (i, a.eval x) := by apply Array.ext'; simp
    rw [e] at this
    exact this
  case h_20 t l c ho => exact grow (m := Instr.makeSlice t (a.eval l) (a.eval c)) (by simp only [execOp, ho]) (makeSliceK_sound h hk (ev_sound h l) (ev_sound h c))
  case h_21 c ho =>
    obtain ⟨callee, args, argTypes⟩ := c
    simp only at hk
    cases callee with
    | invoke r m => simp [ho, keepOp] at hq
    | builtin b => cases b <;> simp [ho, keepOp, quietOp] at hq hq'
    | value f =>
      cases f with
      | func g =>
        have hmd : md g = false := by simpa [ho, keepOp] using hq
        split at hk
        · rename_i e _ _; simp at e
        · rename_i e _ _; simp at e
        · rename_i e _; simp at e
        · rename_i e _; simp at e
        · rename_i f' e
          simp only [Callee.value.injEq] at e
          subst e
          have hne : ¬ md g = true := by rw [hmd]; simp
          simp only [ev, callK] at hk
          rw [if_neg hne] at hk
          simp only [List.append_nil] at hk
          have hrun : (execOp a.eval o).run P w = (callFunc g (args.map a.eval)).run P w := by
            simp [execOp, ho, resolve, Act.eval, Deferred.ofValue, invoke]
          have hx : SV hd s.next w I (args.toList.map (ev G s)) (args.map a.eval).toList := by
            rw [Array.toList_map]; exact evL_SV h args.toList
          split at hk
          · rename_i ts hfz
            obtain ⟨hok, r, hev, hK⟩ := hk
            exact call_pure' h hC hev hfz hok hK hx hrun
          · exact hk.elim
        · rename_i h1 h2 h3 h4 h5
          first | exact (h1 _ rfl).elim | exact (h2 _ rfl).elim | exact (h3 _ rfl).elim | exact (h4 _ rfl).elim | exact (h5 _ rfl).elim
      | tmp t => simp [ho, keepOp] at hq
      | const v => simp [ho, keepOp] at hq
      | global g => simp [ho, keepOp] at hq
  all_goals first | exact hk.elim | (rename_i ho; simp [ho, keepOp, quietOp] at hq hq')
end
end Go.Proofs.YtlddjlchgibdfaaDoor.X
