import Derived.Test.YtlddjlchgibdfaaDoorXQuiet
import Derived.OrdersHeld
set_option linter.unusedVariables false
set_option linter.unusedSimpArgs false
namespace Go.Proofs.YtlddjlchgibdfaaDoor.X
open Go

/-! ### A region: in which order its operations are walked -/
inductive Plan where
  | done
  | fail
  | op (i : Nat) (rest : Plan)
  | both (p q : Plan)
def Plan.text : List Nat → Plan
  | [] => .done
  | i :: r => .op i (Plan.text r)
def Plan.join : List Plan → Plan
  | [] => .done
  | p :: ps => match ps with
    | [] => p
    | _ => .both p (Plan.join ps)
def awaits (ops : Array Oper) (i : Nat) (W : List Nat) (j : Nat) : Bool :=
  match ops[j]? with
  | some o => o.after.any fun e => Region.binds .any e && (e.on == i || W.contains e.on)
  | none => false
def waitSet (ops : Array Oper) (listed : Array Bool) (i : Nat) : List Nat :=
  (List.range ops.size).foldl (fun W j => if !listed.getD j true && awaits ops i W j then j :: W else W) []
def freeOk (md : FuncId → Bool) (ops : Array Oper) (listed : Array Bool) (i : Nat) : Bool :=
  match ops[i]? with
  | none => false
  | some oi => quietOp oi.op && Region.noSelect ops && ((waitSet ops listed i).all fun j => !listed.getD j true && awaits ops i (waitSet ops listed i) j) &&
      (List.range ops.size).all fun j => j == i || listed.getD j true || (waitSet ops listed i).contains j || match ops[j]? with
        | some oj => oi.apart ops oj && (!isLoad oi.op || keepOp md oj.op)
        | none => true
def mkPlan (md : FuncId → Bool) (ops : Array Oper) : Nat → Array Bool → Plan
  | 0, listed => if (Region.ready .any ops listed).isEmpty then .done else .fail
  | fuel + 1, listed =>
    match (Region.ready .any ops listed).find? (freeOk md ops listed) with
    | some i => .op i (mkPlan md ops fuel (listed.setIfInBounds i true))
    | none => Plan.join ((Region.ready .any ops listed).map fun i => .op i (mkPlan md ops fuel (listed.setIfInBounds i true)))
def planOf (md : FuncId → Bool) (ops : Array Oper) (draw : Bool) : Plan :=
  if draw then mkPlan md ops ops.size (Array.replicate ops.size false) else Plan.text (List.range ops.size)

def opX (P : Program) (G : Glo) (C : CT) (md : FuncId → Bool) (ops : Array Oper) (o : Oper) (s : St) (K : St → Prop) : Prop :=
  match o.guard with
  | none => opK P G C md o.op s fun v s' => K (s'.put o.dst v)
  | some (j, want) => match (ops[j]?).bind (·.dst) with
    | none => False
    | some d => match s.tmps.getD d .any with
      | .bool b => (b = want → opK P G C md o.op (s.put (some d) (.bool want)) fun v s' => K (s'.put o.dst v)) ∧ (b = !want → K ((s.put (some d) (.bool !want)).put o.dst (.con undef)))
      | .con (.tuple a) => a = #[] ∧ K (s.put o.dst (.con undef))
      | _ => False
def runPlan (P : Program) (G : Glo) (C : CT) (md : FuncId → Bool) (ops : Array Oper) : Plan → St → (St → Prop) → Prop
  | .done, s, K => K s
  | .fail, _, _ => False
  | .op i r, s, K => match ops[i]? with
    | some o => opX P G C md ops o s fun s' => runPlan P G C md ops r s' K
    | none => False
  | .both p q, s, K => runPlan P G C md ops p s K ∧ runPlan P G C md ops q s K

/-- From a base state on. -/
def Post (G : Glo) (M I : Nat → Prop) (n : Nat) (hd : Nat → Value) (w : World) (K : St → Prop) (a' : Act) (w' : World) : Prop :=
  ∃ s' I' hd' Fp', K s' ∧ SR G M I' s' hd' Fp' a' w' ∧ Ext M I I' n hd hd' w w' ∧ n ≤ s'.next

section
variable {P : Program} {G : Glo} {C : CT} {md : FuncId → Bool} {M I : Nat → Prop} {s : St} {hd : Nat → Value} {Fp : Nat → List Nat} {a : Act} {w : World} {K : St → Prop} {o : Oper} {Q : Exit → Act → World → Prop} {ops : Array Oper}

theorem Post.from {M I I' : Nat → Prop} {n n' : Nat} {hd hd' : Nat → Value} {w w' : World} {K : St → Prop} {a2 : Act} {w2 : World} (hE : Ext M I I' n hd hd' w w') (hn : n ≤ n') (h : Post G M I' n' hd' w' K a2 w2) : Post G M I n hd w K a2 w2 := by
  obtain ⟨s', I2, hd2, Fp2, h1, h2, h3, h4⟩ := h
  exact ⟨s', I2, hd2, Fp2, h1, h2, hE.trans (h3.less hn), Nat.le_trans hn h4⟩

theorem SR.know (h : SR G M I s hd Fp a w) {d : Nat} {b : Bool} (hb : a.tmps.getD d undef = .bool b) : SR G M I (s.put (some d) (.bool b)) hd Fp a w := by
  refine ⟨h.heap, by simp [St.put, h.len], fun t => ?_, h.defers⟩
  simp only [St.put, getD_set_eq]
  split
  · rename_i ht
    obtain ⟨rfl, _⟩ := ht
    simp only [S]; exact hb
  · exact h.slots t

theorem yield_bool {j d : Nat} {b : Bool} (hj : (ops[j]?).bind (·.dst) = some d) (hb : a.tmps.getD d undef = .bool b) : yielded ops a.tmps j = some b := by
  have : a.tmps[d]? = some (.bool b) := by
    rw [Array.getD_eq_getD_getElem?] at hb
    cases e : a.tmps[d]? with
    | none => rw [e] at hb; simp [undef] at hb
    | some v => rw [e] at hb; simp only [Option.getD_some] at hb; rw [hb]
  simp [yielded, hj, this]
theorem yield_undef {j d : Nat} (hj : (ops[j]?).bind (·.dst) = some d) (hb : a.tmps.getD d undef = undef) : yielded ops a.tmps j = none := by
  have : ∀ b, a.tmps[d]? ≠ some (.bool b) := by
    intro b e
    rw [Array.getD_eq_getD_getElem?, e] at hb
    simp [undef] at hb
  simp only [yielded, hj, Option.bind_some]
  try split
  all_goals simp_all

theorem S_bool_inv {n : Nat} {b : Bool} {v : Value} (h : S hd n w I (.bool b) v) : v = .bool b := by simpa only [S] using h

/-- The guard: wanted, or passed over. -/
theorem opX_cases (h : SR G M I s hd Fp a w) (hk : opX P G C md ops o s K) :
    (Region.wanted o (yielded ops a.tmps) = true ∧ ∃ s0, s0.next = s.next ∧ SR G M I s0 hd Fp a w ∧ opK P G C md o.op s0 fun v s' => K (s'.put o.dst v)) ∨
    (Region.wanted o (yielded ops a.tmps) = false ∧ ∃ s0, s0.next = s.next ∧ SR G M I s0 hd Fp (a.put o.dst undef) w ∧ K s0) := by
  have hu : ∀ {s0 : St}, SR G M I s0 hd Fp a w → SR G M I (s0.put o.dst (.con undef)) hd Fp (a.put o.dst undef) w := fun h0 => h0.put o.dst (by simp only [S])
  unfold opX at hk
  split at hk
  · rename_i hg
    exact .inl ⟨by simp [Region.wanted, hg], s, rfl, h, hk⟩
  · rename_i j want hg
    split at hk
    · exact hk.elim
    · rename_i d hd'
      split at hk
      · rename_i b e
        have hb := h.slots d
        rw [e] at hb
        have hb := S_bool_inv hb
        have hy := yield_bool hd' hb
        by_cases hbw : b = want
        · subst hbw
          exact .inl ⟨by simp [Region.wanted, hg, hy], s.put (some d) (.bool b), rfl, h.know hb, hk.1 rfl⟩
        · have hbn : b = !want := by cases b <;> cases want <;> simp_all
          exact .inr ⟨by simp [Region.wanted, hg, hy, hbw], (s.put (some d) (.bool !want)).put o.dst (.con undef), rfl, hu (h.know (hbn ▸ hb)), hk.2 hbn⟩
      · rename_i arr e
        obtain ⟨rfl, hk⟩ := hk
        have hb := h.slots d
        rw [e] at hb
        simp only [S] at hb
        have hy := yield_undef hd' hb
        exact .inr ⟨by simp [Region.wanted, hg, hy], s.put o.dst (.con undef), rfl, hu h, hk⟩
      · exact hk.elim

theorem opX_sound (h : SR G M I s hd Fp a w) (hC : Sound P G C) {i : Nat} (hi : ops[i]? = some o) (hk : opX P G C md ops o s K) :
    wpOp P ops Q i (fun a' w' => Post G M I s.next hd w K a' w' ∧ (keepOp md o.op = true → SameB w w')) a w := by
  unfold wpOp
  simp only [hi]
  rcases opX_cases h hk with ⟨hw, s0, hn, h0, hk0⟩ | ⟨hw, s0, hn, h0, hk0⟩
  · rw [if_pos hw]
    left
    have key : ∀ {a' w'}, StepQ G M I s0 hd w o.dst (fun v s' => K (s'.put o.dst v)) a' w' → Post G M I s.next hd w K a' w' := by
      rintro a' w' ⟨av, s', I', hd', Fp', h1, h2, h3, h4⟩
      rw [hn] at h3 h4
      refine ⟨_, I', hd', Fp', h1, h2, h3, h4⟩
    by_cases hkp : keepOp md o.op = true
    · exact Oper.wp_mono (fun a' w' hh => ⟨key hh.1, fun _ => hh.2⟩) (opK_keeps h0 hC hkp hk0)
    · exact Oper.wp_mono (fun a' w' hh => ⟨key hh, fun e => absurd e hkp⟩) (opK_sound h0 hC hk0)
  · rw [if_neg (by rw [hw]; simp)]
    exact ⟨⟨s0, I, hd, Fp, hk0, h0, Ext.refl _ _ _ _ _, by omega⟩, fun _ => .refl w⟩

theorem opX_quiet (h : SR G M I s hd Fp a w) (hq : quietOp o.op = true) (hk : opX P G C md ops o s K) :
    ∃ v s', YieldsIf P ops (fun w' => isLoad o.op = true → SameB w w') o v a ∧ K s' ∧ SR G M I s' hd Fp (a.put o.dst v) w ∧ s'.next = s.next := by
  rcases opX_cases h hk with ⟨hw, s0, hn, h0, hk0⟩ | ⟨hw, s0, hn, h0, hk0⟩
  · obtain ⟨v, av, h1, h2, h3⟩ := opK_quiet h0 hq hk0
    refine ⟨v, s0.put o.dst av, .inl ⟨hw, h1⟩, h2, h0.put o.dst h3, ?_⟩
    simpa [St.put] using hn
  · exact ⟨undef, s0, .inr ⟨hw, rfl⟩, hk0, h0, hn⟩

/-- Any order; what a keeping operation leaves is kept. -/
def wpAnyR (P : Program) (md : FuncId → Bool) (ops : Array Oper) (Q : Exit → Act → World → Prop) : Nat → Array Bool → Act → World → Prop
  | 0, listed, a, w => Region.ready .any ops listed = [] ∧ Q .normal a w
  | fuel + 1, listed, a, w =>
    (Region.ready .any ops listed = [] → Q .normal a w) ∧
    ∀ i ∈ Region.ready .any ops listed, wpOp P ops Q i (fun a' w' => (∀ o, ops[i]? = some o → keepOp md o.op = true → SameB w w') ∧ wpAnyR P md ops Q fuel (listed.setIfInBounds i true) a' w') a w
theorem wpAny_of_R : ∀ (fuel : Nat) (listed : Array Bool) (a : Act) (w : World), wpAnyR P md ops Q fuel listed a w → wpAny P .any ops Q fuel listed a w
  | 0, _, _, _, h => h
  | fuel + 1, _, _, _, h => ⟨h.1, fun i hi => wpOp_mono (fun a' w' h' => wpAny_of_R fuel _ a' w' h'.2) (h.2 i hi)⟩

theorem listed_no {listed : Array Bool} {i : Nat} (h0 : listed.getD i true = false) (h1 : listed.getD i false = true) : False := by
  rcases Nat.lt_or_ge i listed.size with h' | h'
  · simp [h'] at h0 h1; rw [h0] at h1; cases h1
  · simp [Array.getElem?_eq_none h'] at h1

theorem wpAnyR_first {i : Nat} {oi : Oper} {v : Value} {S : World → Prop} (W : List Nat) (hi : ops[i]? = some oi) (hsel : ∀ (j : Nat) (o : Oper) cs b, ops[j]? = some o → o.op ≠ .select cs b)
    (hQ : ∀ c a w, ¬ Q (.panic c) a w) (hW : ∀ j ∈ W, awaits ops i W j = true) :
    ∀ (fuel : Nat) (listed : Array Bool) (a : Act) (w : World), (∀ j ∈ W, listed.getD j true = false) →
      (∀ j oj, ops[j]? = some oj → j ≠ i → listed.getD j true = false → j ∉ W → oi.apart ops oj = true ∧ ∀ w w', S w → (keepOp md oj.op = true → SameB w w') → S w') →
      i ∈ Region.ready .any ops listed → YieldsIf P ops S oi v a → S w →
      wpAnyR P md ops Q fuel (listed.setIfInBounds i true) (a.put oi.dst v) w → wpAnyR P md ops Q (fuel + 1) listed a w := by
  intro fuel
  induction fuel with
  | zero =>
    intro listed a w _ _ hr hy hS H
    refine ⟨fun h => (by rw [h] at hr; cases hr), fun j hj => ?_⟩
    by_cases hji : j = i
    · subst hji; exact hy.wpOp hi hS ⟨fun _ _ _ => .refl w, H⟩
    · have := ready_mono hj hji
      rw [H.1] at this
      cases this
  | succ fuel ih =>
    intro listed a w hWl hfree hr hy hS H
    refine ⟨fun h => (by rw [h] at hr; cases hr), fun j hj => ?_⟩
    by_cases hji : j = i
    · subst hji; exact hy.wpOp hi hS ⟨fun _ _ _ => .refl w, H⟩
    · have h1 := H.2 j (ready_mono hj hji)
      obtain ⟨hjun, oj, hoj, hall⟩ := mem_ready.1 hj
      have hjW : j ∉ W := by
        intro hm
        have := hW j hm
        simp only [awaits, hoj] at this
        obtain ⟨e, he, hb⟩ := Array.any_eq_true'.1 this
        simp only [Bool.and_eq_true, Bool.or_eq_true, beq_iff_eq, List.contains_eq_mem, decide_eq_true_eq] at hb
        have hl := hall e he hb.1
        rcases hb.2 with hb2 | hb2
        · rw [hb2] at hl; exact listed_no (mem_ready.1 hr).1 hl
        · exact listed_no (hWl _ hb2) hl
      obtain ⟨hap, hkeep⟩ := hfree j oj hoj hji hjun hjW
      have h2 := wpOp_putIf hoj hap (fun cs b => hsel i oi cs b hi) (fun cs b => hsel j oj cs b hoj) (fun c a w hq => (hQ c _ _ hq).elim) hy h1
      have hun' : ∀ {k : Nat}, (listed.setIfInBounds j true).getD k true = false → listed.getD k true = false := fun {k} hun => by
        by_cases hjk : j = k
        · subst hjk; exact hjun
        · rw [getD_set_ne true hjk] at hun; exact hun
      refine wpOp_mono (fun a' w' h3 => ⟨fun o ho hk => h3.2.1 o ho hk, ih (listed.setIfInBounds j true) a' w' ?_ (fun k ok hk hki hun hno => hfree k ok hk hki (hun' hun) hno) (ready_mono hr (Ne.symm hji)) h3.1 (hkeep w w' hS (fun e => h3.2.1 oj hoj e)) ?_⟩) h2
      · intro k hk
        have hne : j ≠ k := by rintro rfl; exact hjW hk
        rw [getD_set_ne true hne]; exact hWl k hk
      · rw [Array.setIfInBounds_comm _ _ hji]
        exact h3.2.2

theorem Plan.join_run : ∀ {ps : List Plan} {p : Plan}, p ∈ ps → ∀ {s : St} {K : St → Prop}, runPlan P G C md ops (Plan.join ps) s K → runPlan P G C md ops p s K
  | [], p, h, _, _, _ => by cases h
  | [q], p, h, s, K, hr => by
    simp only [List.mem_singleton] at h; subst h
    simpa only [Plan.join] using hr
  | q :: q2 :: ps, p, h, s, K, hr => by
    simp only [Plan.join, runPlan] at hr
    rcases List.mem_cons.1 h with rfl | h
    · exact hr.1
    · exact Plan.join_run h hr.2

theorem plan_any (hC : Sound P G C) {n : Nat} {hd0 : Nat → Value} {w0 : World} {I0 : Nat → Prop} (hQ : ∀ c a w, ¬ Q (.panic c) a w) (hK : ∀ a' w', Post G M I0 n hd0 w0 K a' w' → Q .normal a' w') :
    ∀ (fuel : Nat) (listed : Array Bool) (s : St) (I : Nat → Prop) (hd : Nat → Value) (Fp : Nat → List Nat) (a : Act) (w : World), SR G M I s hd Fp a w → Ext M I0 I n hd0 hd w0 w → n ≤ s.next →
      runPlan P G C md ops (mkPlan md ops fuel listed) s K → wpAnyR P md ops Q fuel listed a w := by
  intro fuel
  induction fuel with
  | zero =>
    intro listed s I hd Fp a w h hE hn hp
    simp only [mkPlan] at hp
    split at hp
    · rename_i he
      exact ⟨List.isEmpty_iff.1 he, hK _ _ ⟨s, I, hd, Fp, hp, h, hE, hn⟩⟩
    · exact hp.elim
  | succ fuel ih =>
    intro listed s I hd Fp a w h hE hn hp
    simp only [mkPlan] at hp
    split at hp
    · rename_i i hfind
      have hmem := List.mem_of_find?_eq_some hfind
      have hfree := List.find?_some hfind
      simp only [freeOk] at hfree
      split at hfree
      · cases hfree
      · rename_i oi hoi
        simp only [Bool.and_eq_true] at hfree
        obtain ⟨⟨⟨hq, hns⟩, hWs⟩, hall⟩ := hfree
        simp only [runPlan, hoi] at hp
        obtain ⟨v, s', hy, hK', h', hn'⟩ := opX_quiet h hq hp
        have hWs' : ∀ j ∈ waitSet ops listed i, listed.getD j true = false ∧ awaits ops i (waitSet ops listed i) j = true := fun j hj => by
          have := List.all_eq_true.1 hWs j hj
          simpa only [Bool.and_eq_true, Bool.not_eq_true'] using this
        refine wpAnyR_first (S := fun w' => isLoad oi.op = true → SameB w w') (waitSet ops listed i) hoi (Region.noSelect_spec hns) hQ (fun j hj => (hWs' j hj).2) fuel listed a w (fun j hj => (hWs' j hj).1) ?_ hmem hy (fun _ => .refl w)
          (ih _ s' I hd Fp _ w h' hE (by omega) hK')
        intro j oj hoj hji hun hnW
        have := List.all_eq_true.1 hall j (List.mem_range.2 (Array.getElem?_eq_some_iff.1 hoj).1)
        simp only [hoj, hun, Bool.or_eq_true, beq_iff_eq, List.contains_eq_mem, decide_eq_true_eq, Bool.and_eq_true, Bool.not_eq_true'] at this
        rcases this with ((h1 | h1) | h1) | ⟨h1, h2⟩
        · exact absurd h1 hji
        · cases h1
        · exact absurd h1 hnW
        · refine ⟨h1, fun w1 w2 hS hk hl => ?_⟩
          rcases h2 with h2 | h2
          · rw [hl] at h2; cases h2
          · exact (hS hl).trans (hk h2)
    · rename_i hfind
      refine ⟨fun hr => ?_, fun i hi => ?_⟩
      · rw [hr] at hp
        simp only [List.map_nil, Plan.join, runPlan] at hp
        exact hK _ _ ⟨s, I, hd, Fp, hp, h, hE, hn⟩
      · have hp' := Plan.join_run (List.mem_map_of_mem (f := fun i => Plan.op i (mkPlan md ops fuel (listed.setIfInBounds i true))) hi) hp
        simp only [runPlan] at hp'
        split at hp'
        · rename_i o ho
          refine wpOp_mono (fun a' w' hh => ?_) (opX_sound (Q := Q) h hC ho hp')
          obtain ⟨⟨s', I', hd', Fp', g1, g2, g3, g4⟩, hkp⟩ := hh
          refine ⟨fun o' ho' hk => hkp (by rw [ho] at ho'; cases ho'; exact hk), ih _ s' I' hd' Fp' a' w' g2 (hE.trans (g3.less hn)) (Nat.le_trans hn g4) g1⟩
        · exact hp'.elim

theorem plan_text (hC : Sound P G C) {n : Nat} {hd0 : Nat → Value} {w0 : World} {I0 : Nat → Prop} (hK : ∀ a' w', Post G M I0 n hd0 w0 K a' w' → Q .normal a' w') :
    ∀ (l : List Nat) (s : St) (I : Nat → Prop) (hd : Nat → Value) (Fp : Nat → List Nat) (a : Act) (w : World), SR G M I s hd Fp a w → Ext M I0 I n hd0 hd w0 w → n ≤ s.next →
      runPlan P G C md ops (Plan.text l) s K → wpOps P ops Q l a w := by
  intro l
  induction l with
  | nil => intro s I hd Fp a w h hE hn hp; exact hK _ _ ⟨s, I, hd, Fp, hp, h, hE, hn⟩
  | cons i l ih =>
    intro s I hd Fp a w h hE hn hp
    rw [wpOps_cons]
    simp only [Plan.text, runPlan] at hp
    split at hp
    · rename_i o ho
      refine wpOp_mono (fun a' w' hh => ?_) (opX_sound (Q := Q) h hC ho hp)
      obtain ⟨⟨s', I', hd', Fp', g1, g2, g3, g4⟩, _⟩ := hh
      exact ih s' I' hd' Fp' a' w' g2 (hE.trans (g3.less hn)) (Nat.le_trans hn g4) g1
    · exact hp.elim

/-- The world behind a draw. -/
theorem SR.drew {w1 : World} (h : SR G M I s hd Fp a w) (hh : w1.heap = w.heap) : SR G M I s hd Fp a w1 :=
  h.move (h.heap.grown (by rw [hh]; exact Nat.le_refl _) (fun b _ => by rw [hh])) (h.heap.fr (by rw [hh]; exact Nat.le_refl _) (fun b _ => by rw [hh]))
end
end Go.Proofs.YtlddjlchgibdfaaDoor.X
