import Derived.Test.YtlddjlchgibdfaaDoorXCode
import Derived.Orders
set_option linter.unusedVariables false
set_option linter.unusedSimpArgs false
namespace Go.Proofs.YtlddjlchgibdfaaDoor.X
open Go

/-- Behind an operation. -/
def StepQ (G : Glo) (M I : Nat → Prop) (s : St) (hd : Nat → Value) (w : World) (dst : Option Nat) (K : AV → St → Prop) (a' : Act) (w' : World) : Prop :=
  ∃ av s' I' hd' Fp', K av s' ∧ SR G M I' (s'.put dst av) hd' Fp' a' w' ∧ Ext M I I' s.next hd hd' w w' ∧ s.next ≤ s'.next

section
variable {P : Program} {G : Glo} {C : CT} {md : FuncId → Bool} {M I : Nat → Prop} {s : St} {hd : Nat → Value} {Fp : Nat → List Nat} {a : Act} {w : World} {K : AV → St → Prop} {o : Oper} {Q : Exit → Act → World → Prop}
theorem wp_of_res {r : Next} {w' : World} (hr : (execOp a.eval o).run P w = .ok r w') (h : OpRes G M I s hd a w K r w') : o.wp P a w (StepQ G M I s hd w o.dst K) Q := by
  unfold Oper.wp
  rw [hr]
  obtain ⟨v, av, s', I', hd', Fp', hrv, hK, hv, hs, hE, hn⟩ := h
  rcases hrv with rfl | ⟨rfl, rfl⟩
  · exact ⟨av, s', I', hd', Fp', hK, hs.put o.dst hv, hE, hn⟩
  · exact ⟨av, s', I', hd', Fp', hK, hs.put o.dst hv, hE, hn⟩
/-- An operation that only computes. -/
theorem wp_of_val (h : SR G M I s hd Fp a w) {m : Sem Value} (he : execOp a.eval o = (do pure (.value (← m)))) (hm : ∃ v av, m.run P w = .ok v w ∧ K av s ∧ S hd s.next w I av v) : o.wp P a w (StepQ G M I s hd w o.dst K) Q := by
  obtain ⟨v, av, h1, h2, h3⟩ := hm
  refine wp_of_res (r := .value v) (w' := w) (by rw [he]; simp [h1]) ⟨v, av, s, I, hd, Fp, .inl rfl, h2, h3, h, Ext.refl _ _ _ _ _, Nat.le_refl _⟩
theorem wp_of_val' (h : SR G M I s hd Fp a w) {m : Sem Value} (he : execOp a.eval o = (do pure (.value (← m)))) (hm : ∃ v w', m.run P w = .ok v w' ∧ OpRes G M I s hd a w K (.value v) w') : o.wp P a w (StepQ G M I s hd w o.dst K) Q := by
  obtain ⟨v, w', h1, h2⟩ := hm
  exact wp_of_res (r := .value v) (w' := w') (by rw [he]; simp [h1]) h2

theorem atW {m : Sem Value} {w : World} {A : AV → Prop} {B : AV → Value → Prop} (h : ∃ r av, (∀ w : World, m.run P w = .ok r w) ∧ A av ∧ B av r) : ∃ r av, m.run P w = .ok r w ∧ A av ∧ B av r :=
  let ⟨r, av, h1, h2⟩ := h; ⟨r, av, h1 w, h2⟩
theorem atS {m : Sem Value} {w : World} {A : AV → Prop} {B : AV → Value → Prop} (h : ∃ r av, (∀ w' : World, SameB w w' → m.run P w' = .ok r w') ∧ A av ∧ B av r) : ∃ r av, m.run P w = .ok r w ∧ A av ∧ B av r :=
  let ⟨r, av, h1, h2⟩ := h; ⟨r, av, h1 w (.refl w), h2⟩
theorem no3 {m : Sem Value} {w : World} {A : Value → World → Prop} {B : World → Prop} (h : ∃ v w', m.run P w = .ok v w' ∧ A v w' ∧ B w') : ∃ v w', m.run P w = .ok v w' ∧ A v w' :=
  let ⟨v, w', h1, h2, _⟩ := h; ⟨v, w', h1, h2⟩
theorem parts_of (h : SR G M I s hd Fp a w) : ∀ (ps : List (Nat × Operand)), Parts hd s.next w I (ps.map fun p => (p.1, ev G s p.2)) (ps.map fun p => (p.1, a.eval p.2))
  | [] => .nil
  | p :: ps => .cons (ev_sound h p.2) (parts_of h ps)

theorem call_open (h : SR G M I s hd Fp a w) (hC : Sound P G C) {g : FuncId} {xs : List AV} {vals : Array Value} {K0 : AV → Heap → Nat → Prop} (hk : C g xs s.heap s.next K0) (hK : ∀ v h' n', K0 v h' n' → s.next ≤ n' → K v (killSt ⟨s.tmps, h', n'⟩)) (hx : SV hd s.next w I xs vals.toList)
    (hrun : (execOp a.eval o).run P w = (callFunc g vals).run P w) : o.wp P a w (StepQ G M I s hd w o.dst K) Q := by
  obtain ⟨hent, hcall⟩ := hC g xs _ _ K0 hk
  unfold Oper.wp
  rw [hrun, run_callFunc hent, Oper.upon_enter]
  refine (hcall M I hd Fp w vals.toList h.heap hx).mono ?_
  rintro e w' ⟨v, av, h', n', I', hd', Fp', rfl, hK0, hr', hv, hE, hn⟩
  have hsr := SR.killed (h' := h') (n' := n') h hr' hn hE.im (fun id hid => hE.hds id hid)
  refine ⟨av, _, I', hd', Fp', hK av h' n' hK0 hn, hsr.put o.dst ?_, hE, hn⟩
  exact hv
theorem call_pure' (h : SR G M I s hd Fp a w) (hC : Sound P G C) {g : FuncId} {xs ts : List AV} {vals : Array Value} {r : AV} (hk : Ev C g ts r) (hfz : frzAL s.heap 8 xs = some ts) (hok : frzOkL ts = true)
    (hK : K (imp s.next r).1 ⟨s.tmps, (imp s.next r).2.1 ++ s.heap, (imp s.next r).2.2⟩) (hx : SV hd s.next w I xs vals.toList)
    (hrun : (execOp a.eval o).run P w = (callFunc g vals).run P w) : o.wp P a w (fun a' w' => StepQ G M I s hd w o.dst K a' w' ∧ SameB w w') Q := by
  obtain ⟨K0, hc, hown, hres⟩ := hk
  obtain ⟨hent, hcall⟩ := hC g ts _ _ K0 hc
  unfold Oper.wp
  rw [hrun, run_callFunc hent, Oper.upon_enter]
  have hr0 : HR G (fun b => w.heap.size ≤ b) (fun b => b < w.heap.size) [] 0 hd Fp w :=
    ⟨fun id o ho => by simp [hget] at ho, fun b hb => ⟨hb, fun id o ho => by simp [hget] at ho⟩, fun id o ho => by simp [hget] at ho, fun id o id' o' ho => by simp [hget] at ho, fun id o ho => by simp [hget] at ho, fun id o ho => by simp [hget] at ho, fun b hb => hb,
      fun g cs hg => T.frame (fun b hb => ⟨(h.heap.imm b hb).1, rfl⟩) _ _ _ (h.heap.glo g cs hg) (by simp)⟩
  have hargs : SV hd 0 w (fun b => b < w.heap.size) ts vals.toList := by
    have ht := frzV_sound h.heap 8 hx hfz
    have : ∀ (ts : List AV) (vs : List Value), frzOkL ts = true → TV w (fun b => b < w.heap.size) ts vs [] → SV hd 0 w (fun b => b < w.heap.size) ts vs := by
      intro ts
      induction ts with
      | nil => intro vs _ h; simp only [TV, SV] at h ⊢; exact h.1
      | cons x ts ih =>
        intro vs hf h
        simp only [frzOkL, Bool.and_eq_true] at hf
        simp only [TV] at h
        obtain ⟨v, vs', F1, F2, rfl, hF, hx, hxs⟩ := h
        obtain ⟨rfl, rfl⟩ := List.append_eq_nil_iff.1 hF.symm
        simp only [SV]
        exact ⟨v, vs', rfl, T.toS x v hf.1 hx, ih vs' hf.2 hxs⟩
    exact this ts _ hok ht
  refine (hcall _ _ hd Fp w vals.toList hr0 hargs).mono ?_
  rintro e w' ⟨v, av, h', n', I', hd', Fp', rfl, hK0, hr', hv, hE, hn⟩
  obtain ⟨r0, h2, hcon, hnil⟩ := hres av h' n' hK0
  obtain ⟨F, hT, hr2, hfree, hsub, _⟩ := (conR_sound 8).1 h' hr' av r0 h2 v hv hcon
  have hT2 := T.anyI (I' := I) r v F hown (T.nilTo r0 r v F hT hnil)
  have hnewF : ∀ b ∈ F, w.heap.size ≤ b := fun b hb => hfree.mine b hb
  have hold : ∀ b, b < w.heap.size → w'.heap[b]? = w.heap[b]? := fun b hb => (hE.im b hb).2
  have hrw : HR G M I s.heap s.next hd Fp w' := h.heap.grown hE.keep.size hold
  have hfr0 : Fr I I s.next s.next hd hd w w' := h.heap.fr hE.keep.size hold
  have hfree2 : Free M I s.heap Fp F := ⟨hfree.nodup, fun b hb => h.heap.news b (hnewF b hb), fun b hb hi => by have := (h.heap.imm b hi).1; have := hnewF b hb; omega, fun id o ho b hb hm => by have := h.heap.ltB ho b hb; have := hnewF b hm; omega⟩
  obtain ⟨hn1, hd1, Fp1, hr1, fr1, hx1, _, hS1⟩ := imp_sound r s.heap s.next hd Fp v F hrw hT2 hfree2
  have hsr := h.move hr1 (hfr0.trans fr1)
  exact ⟨⟨_, _, I, hd1, Fp1, hK, hsr.put o.dst hS1, ⟨⟨hE.keep.os, hE.keep.tape, hE.keep.output, hE.keep.size, fun b hb _ => hold b hb⟩, fun b hb => ⟨hb, hold b (h.heap.imm b hb).1⟩, hx1⟩, hn1⟩, hE.keep.size, hold⟩
theorem call_pure (h : SR G M I s hd Fp a w) (hC : Sound P G C) {g : FuncId} {xs ts : List AV} {vals : Array Value} {r : AV} (hk : Ev C g ts r) (hfz : frzAL s.heap 8 xs = some ts) (hok : frzOkL ts = true)
    (hK : K (imp s.next r).1 ⟨s.tmps, (imp s.next r).2.1 ++ s.heap, (imp s.next r).2.2⟩) (hx : SV hd s.next w I xs vals.toList)
    (hrun : (execOp a.eval o).run P w = (callFunc g vals).run P w) : o.wp P a w (StepQ G M I s hd w o.dst K) Q :=
  Oper.wp_mono (fun _ _ h => h.1) (call_pure' h hC hk hfz hok hK hx hrun)

theorem opK_sound (h : SR G M I s hd Fp a w) (hC : Sound P G C) (hk : opK P G C md o.op s K) : o.wp P a w (StepQ G M I s hd w o.dst K) Q := by
  unfold opK at hk
  split at hk
  case h_1 x ho => exact wp_of_res (r := .value (a.eval x)) (w' := w) (by simp [execOp, ho]) ⟨_, _, s, I, hd, Fp, .inl rfl, hk, ev_sound h x, h, Ext.refl _ _ _ _ _, Nat.le_refl _⟩
  case h_2 x ho => exact wp_of_res (r := .value (a.eval x)) (w' := w) (by simp [execOp, ho]) ⟨_, _, s, I, hd, Fp, .inl rfl, hk, ev_sound h x, h, Ext.refl _ _ _ _ _, Nat.le_refl _⟩
  case h_3 c x y ho =>
    have hc := ev_sound h c
    split at hk
    · rename_i e; rw [e] at hc; simp only [S] at hc
      exact wp_of_res (r := .value (a.eval x)) (w' := w) (by simp [execOp, ho, hc, asBool]) ⟨_, _, s, I, hd, Fp, .inl rfl, hk, ev_sound h x, h, Ext.refl _ _ _ _ _, Nat.le_refl _⟩
    · rename_i e; rw [e] at hc; simp only [S] at hc
      exact wp_of_res (r := .value (a.eval y)) (w' := w) (by simp [execOp, ho, hc, asBool]) ⟨_, _, s, I, hd, Fp, .inl rfl, hk, ev_sound h y, h, Ext.refl _ _ _ _ _, Nat.le_refl _⟩
    · exact hk.elim
  case h_4 op t x y t2 ho =>
    obtain ⟨v, av, h1, h2, h3⟩ := binK_sound hk (ev_sound h x) (ev_sound h y)
    refine wp_of_val h (m := do eqGuard op t x y (a.eval x) (a.eval y); binOp op t (a.eval x) (a.eval y)) (by simp only [execOp, ho]) ⟨v, av, ?_, h2, h3⟩
    have hg : (eqGuard op t x y (a.eval x) (a.eval y)).run P w = .ok () w := by
      have hx := ev_sound h x
      unfold binK at hk
      split at hk
      · rename_i e1 _; rw [e1] at hx; simp only [S] at hx; rw [hx]; exact eqGuard_idle (by simp) (by simp)
      · rename_i e1 _; rw [e1] at hx; simp only [S] at hx; rw [hx]; exact eqGuard_idle (by simp) (by simp)
      · rename_i e1 _; rw [e1] at hx; simp only [S] at hx; rw [hx]; exact eqGuard_idle (by simp) (by simp)
      · rename_i e1 _; rw [e1] at hx; simp only [S, T] at hx; obtain ⟨_, A, c, hx, _⟩ := hx; rw [hx]; exact eqGuard_idle (by simp) (by simp)
      · rename_i e1 _; rw [e1] at hx; simp only [S] at hx; rw [hx]; exact eqGuard_idle (by simp) (by simp)
      · rename_i e1 _; rw [e1] at hx; simp only [S] at hx
        obtain ⟨_, h0, _, hw⟩ := hx
        rcases hw with ⟨b, o, n, c, c', _, hx, _⟩ | ⟨_, A, hx⟩ <;> rw [hx] <;> exact eqGuard_idle (by simp) (by simp)
      · exact hk.elim
    simp [hg, h1]
  case h_5 op t x ho =>
    exact wp_of_val h (m := Op.unary op (a.eval x)) (by simp only [execOp, ho]) (atW (unK_sound hk (ev_sound h x)))
  case h_6 t t' x ho =>
    exact wp_of_val h (m := convert t t' (a.eval x)) (by simp only [execOp, ho]) (atW (convK_sound hk (ev_sound h x)))
  case h_7 x i ho =>
    have hx := ev_sound h x
    split at hk
    · rename_i vs e
      rw [e] at hx
      simp only [S] at hx
      obtain ⟨us, hu, hs⟩ := hx
      split at hk
      · rename_i y hy
        obtain ⟨v, hv, hS⟩ := hs.get hy
        refine wp_of_val h (m := Instr.extract (a.eval x) i) (by simp only [execOp, ho]) ⟨v, y, ?_, hk, hS⟩
        have : us[i]? = some v := by simpa using hv
        simp [Instr.extract, hu, this]
      · exact hk.elim
    · exact hk.elim
  case h_8 x ho =>
    have hx := ev_sound h x
    split at hk
    · rename_i id sub sz i c e
      rw [e] at hx
      have hx' := hx
      simp only [S] at hx
      obtain ⟨_, h0, b, o', _, _, hu⟩ := hx
      exact wp_of_res (r := .value (a.eval x)) (w' := w) (by simp [execOp, ho, hu]) ⟨_, _, s, I, hd, Fp, .inl rfl, hk, hx', h, Ext.refl _ _ _ _ _, Nat.le_refl _⟩
    · rename_i cs e
      rw [e] at hx
      have hx' := hx
      simp only [S, T] at hx
      obtain ⟨_, b, o', vs, hu, _⟩ := hx
      exact wp_of_res (r := .value (a.eval x)) (w' := w) (by simp [execOp, ho, hu]) ⟨_, _, s, I, hd, Fp, .inl rfl, hk, hx', h, Ext.refl _ _ _ _ _, Nat.le_refl _⟩
    · exact hk.elim
  case h_9 f first caps ho =>
    obtain ⟨hf, hk, hc⟩ := hk
    have hfe : first = #[] := Array.eq_empty_of_size_eq_zero hf
    subst hfe
    refine wp_of_val h (m := Instr.makeFunc (.func f) (#[].map a.eval) (caps.map a.eval)) (by simp only [execOp, ho]) ⟨.func (.func f) #[] (caps.map a.eval), _, by simp [Instr.makeFunc], hk, ?_⟩
    simp only [S]
    refine ⟨_, rfl, SV.SL hc ?_⟩
    rw [Array.toList_map]
    exact evL_SV h caps.toList
  case h_10 t x j ho => exact wp_of_val h (m := Instr.fieldAt t (a.eval x) j) (by simp only [execOp, ho]) (atW (faddrK_sound hk (ev_sound h x)))
  case h_11 t x i ho => exact wp_of_val h (m := Instr.indexAt t (a.eval x) (a.eval i)) (by simp only [execOp, ho]) (atW (iaddrK_sound hk (ev_sound h x) (ev_sound h i)))
  case h_12 t x i ho => exact wp_of_val h (m := Instr.index t (a.eval x) (a.eval i)) (by simp only [execOp, ho]) (idxK_sound hk (ev_sound h x) (ev_sound h i))
  case h_13 t x lo hi ho =>
    refine wp_of_val h (m := Instr.sliceAt t (a.eval x) (lo.map a.eval) (hi.map a.eval) none) (by simp only [execOp, ho, Option.map_none]) (sliceK_sound hk (ev_sound h x) ?_ ?_ ?_ ?_)
    · intro y hy; obtain ⟨z, rfl, rfl⟩ := Option.map_eq_some_iff.1 hy; exact ⟨_, rfl, ev_sound h z⟩
    · intro hy; rw [Option.map_eq_none_iff] at hy ⊢; exact hy
    · intro y hy; obtain ⟨z, rfl, rfl⟩ := Option.map_eq_some_iff.1 hy; exact ⟨_, rfl, ev_sound h z⟩
    · intro hy; rw [Option.map_eq_none_iff] at hy ⊢; exact hy
  case h_14 t x ho => exact wp_of_val h (m := Instr.loadAt t (a.eval x)) (by simp only [execOp, ho]) (atS (loadK_sound h hk (ev_sound h x)))
  case h_15 t x v ho =>
    obtain ⟨w', h1, s', I', hd', Fp', h2, h3, h4, h5⟩ := storeK_sound h hk (ev_sound h x) (ev_sound h v)
    exact wp_of_res (r := .skip) (w' := w') (by simp [execOp, ho, h1]) ⟨undef, .any, s', I', hd', Fp', .inr ⟨rfl, rfl⟩, h2, by simp only [S], h3, h4, h5⟩
  case h_16 t ho => exact wp_of_val' h (m := Instr.alloc t true (.tuple #[])) (by simp only [execOp, ho]) (no3 (allocK_sound h hk))
  case h_17 t x ho => exact wp_of_val' h (m := Instr.box t (a.eval x)) (by simp only [execOp, ho]) (no3 (boxK_sound h hk (ev_sound h x)))
  case h_18 t ps ho =>
    refine wp_of_val h (m := Instr.build t (ps.map fun (i, x) => (i, a.eval x))) (by simp only [execOp, ho]) ?_
    have := buildK_sound (P := P) (t := t) hk (parts_of h ps.toList)
    have e : (ps.toList.map fun p => (p.1, a.eval p.2)).toArray = ps.map fun (i, x) => (i, a.eval x) := by apply Array.ext'; simp
    rw [e] at this
    exact this
  case h_19 t n ps ho =>
    refine wp_of_val' h (m := Instr.buildSlice t n (ps.map fun (i, x) => (i, a.eval x))) (by simp only [execOp, ho]) ?_
    have := buildSliceK_sound (P := P) (t := t) h hk.2 (parts_of h ps.toList) (fun h0 => by rw [hk.1 h0]; rfl)
    have e : (ps.toList.map fun p => (p.1, a.eval p.2)).toArray = ps.map fun (i, x) => (i, a.eval x) := by apply Array.ext'; simp
    rw [e] at this
    exact no3 this
  case h_20 t l c ho => exact wp_of_val' h (m := Instr.makeSlice t (a.eval l) (a.eval c)) (by simp only [execOp, ho]) (no3 (makeSliceK_sound h hk (ev_sound h l) (ev_sound h c)))
  case h_21 c ho =>
    obtain ⟨callee, args, argTypes⟩ := c
    simp only at hk
    split at hk
    · rename_i x t ts e2 e3
      have ea : args = #[x] := by apply Array.ext'; simpa using e2
      subst ea
      exact wp_of_val h (m := Builtin.len_ argTypes o.type #[a.eval x]) (by simp [execOp, ho, resolve, invoke, builtin]) (atW (lenK_sound (by rw [← Array.getElem?_toList, e3]; rfl) hk (ev_sound h x)))
    · rename_i x y t tx e2 e3
      have ea : args = #[x, y] := by apply Array.ext'; simpa using e2
      have et : argTypes = #[t, tx] := by apply Array.ext'; simpa using e3
      subst ea; subst et
      exact wp_of_val' h (m := Builtin.append_ #[t, tx] o.type #[a.eval x, a.eval y]) (by simp [execOp, ho, resolve, invoke, builtin]) (appendK_sound h hk (ev_sound h x) (ev_sound h y))
    · rename_i x y e2
      have ea : args = #[x, y] := by apply Array.ext'; simpa using e2
      subst ea
      have hx := ev_sound h x
      have hy := ev_sound h y
      unfold minK at hk
      split at hk
      · rename_i k1 n1 k2 n2 q1 q2
        rw [q1] at hx; rw [q2] at hy
        simp only [S] at hx hy
        exact wp_of_val h (m := Builtin.min_ argTypes o.type #[a.eval x, a.eval y]) (by simp [execOp, ho, resolve, invoke, builtin]) ⟨_, _, by rw [hx, hy]; exact run_min, hk, S_int⟩
      · exact hk.elim
    · rename_i x y e2
      have ea : args = #[x, y] := by apply Array.ext'; simpa using e2
      subst ea
      have hx := ev_sound h x
      have hy := ev_sound h y
      unfold maxK at hk
      split at hk
      · rename_i k1 n1 k2 n2 q1 q2
        rw [q1] at hx; rw [q2] at hy
        simp only [S] at hx hy
        exact wp_of_val h (m := Builtin.max_ argTypes o.type #[a.eval x, a.eval y]) (by simp [execOp, ho, resolve, invoke, builtin]) ⟨_, _, by rw [hx, hy]; exact run_max, hk, S_int⟩
      · exact hk.elim
    · rename_i f
      have hf := ev_sound h f
      unfold callK at hk
      split at hk
      · rename_i g caps ef
        rw [ef] at hf
        simp only [S] at hf
        obtain ⟨vs, hvf, hcaps⟩ := hf
        have hrun : (execOp a.eval o).run P w = (callFunc g (args.map a.eval ++ vs)).run P w := by
          simp [execOp, ho, resolve, hvf, Deferred.ofValue, invoke]
        have hx : SV hd s.next w I (args.toList.map (ev G s) ++ caps) (args.map a.eval ++ vs).toList := by
          rw [Array.toList_append, Array.toList_map]
          exact (evL_SV h args.toList).append hcaps.SV
        split at hk
        · obtain ⟨K0, hc, hK⟩ := hk
          exact call_open h hC hc hK hx hrun
        · split at hk
          · rename_i ts hfz
            obtain ⟨hok, r, hev, hK⟩ := hk
            exact call_pure h hC hev hfz hok hK hx hrun
          · exact hk.elim
      · exact hk.elim
    · exact hk.elim
  case h_22 => exact hk.elim
end
end Go.Proofs.YtlddjlchgibdfaaDoor.X
