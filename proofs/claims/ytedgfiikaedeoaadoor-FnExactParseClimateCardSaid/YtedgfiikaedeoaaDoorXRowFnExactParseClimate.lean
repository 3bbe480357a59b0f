/- FnExactParseClimate: at every argument the law returns true. Condition: the tables that the row lists read as the program's own text lays them (the card ties them to that text); the one variable of the library that the row does not list, internal/bytealg.MaxLen, may hold any number. -/
import Derived.Test.YtedgfiikaedeoaaDoorXM4
import Derived.Test.YtedgfiikaedeoaaDoorXP5
import Derived.Test.YtedgfiikaedeoaaDoorRows
import Derived.Test.YtedgfiikaedeoaaDoorTie
import Derived.Test.YtedgfiikaedeoaaDoorCards
import Derived.WalkKit
import Derived.ProofKit
import Derived.OpenShut
import Derived.ChangeOld
import Derived.ChangeVars
import Derived.Below
import Derived.WalkSmall
import Derived.SizedLaws
import Derived.SevenTiedAt
import Derived.Lay
import Derived.HandedShaped
import Derived.Stop.LaidErr
import Derived.Lib.LaidTab
namespace Go.Proofs.YtedgfiikaedeoaaDoor.fnExactParseClimate
open Go Go.ChangeShapes Go.WideShapes Go.ChangeAt Go.RowKit Go.Proofs.YtedgfiikaedeoaaDoor.X
theorem own : ownKnob Tryd.prog.godebug = none := by kernel_rfl
theorem laidOut : laidOutB Tryd.prog = true := by kernel_rfl
abbrev laidL : List (String × DataW Unit) := Rows.fnExactParseClimateRow.laid
theorem laid_met (os : Os) (args : Array Value) : laidMet Tryd.prog laidL ((World.laidAll Tryd.prog os laidL).forCall (fun _ _ => 0) ⟨#[], args, []⟩).memory := laidMet_laidAll _ (by kernel_rfl) (by kernel_rfl)
theorem gloT_of_var {W : World} {n : String} {g : Nat} {cs : List AV} (hg : Tryd.prog.globalNamed n = some g) (hs : cs.all gS = true) (ho : ∀ x ∈ cs, (gv x).oneCell' = true) (h : W.var? Tryd.prog n = some (cs.map gv).toArray) : GloT W (Old W) g cs := by
  simp only [World.var?, hg, Option.bind_some] at h
  split at h
  · rename_i vs t fr e
    obtain rfl := Option.some.inj h
    refine ⟨?_, _, t, fr, e, by simp⟩
    simp only [T]
    refine ⟨trivial, g, 0, cs.map gv, rfl, lt_of_row e, fun j u hu => ?_, ?_⟩
    · rw [Nat.zero_add, Go.Proofs.YtedgfiikaedeoaaDoor.X.cell_of_row e]; simpa using hu
    · clear e h
      induction cs with
      | nil => simp [TL]
      | cons x r ih =>
        simp only [List.all_cons, Bool.and_eq_true] at hs
        simp only [List.map_cons, TL]
        refine ⟨gv x, r.map gv, [], [], rfl, rfl, ho x (by simp), ?_, ih hs.2 fun y hy => ho y (by simp [hy])⟩
        cases x <;> simp only [gS, Bool.false_eq_true, false_and] at hs
        all_goals simp [T, gv]
  · cases h
theorem gES : Tryd.prog.globalNamed "strconv.ErrSyntax" = some 1 := by kernel_rfl
theorem gEST : (Tryd.prog.globals[1]?).map (·.type) = some 65 := by kernel_rfl
theorem gER : Tryd.prog.globalNamed "strconv.ErrRange" = some 2 := by kernel_rfl
theorem gERT : (Tryd.prog.globals[2]?).map (·.type) = some 65 := by kernel_rfl
theorem gTab : Tryd.prog.globalNamed "internal/strconv.uint64pow10" = some 3 := by kernel_rfl
theorem gTabT : (Tryd.prog.globals[3]?).map (·.type) = some 106 := by kernel_rfl
theorem gMax : Tryd.prog.globalNamed "internal/bytealg.MaxLen" = some 0 := by kernel_rfl
theorem cellsTab : Tryd.prog.cellsOf 106 = 20 := by kernel_rfl
theorem cellsU : Tryd.prog.cellsOf 89 = 1 := by kernel_rfl
theorem cellsES : Tryd.prog.cellsOf 120 = 1 := by kernel_rfl
theorem cellsS : Tryd.prog.cellsOf 9 = 1 := by kernel_rfl
theorem star : "*" ++ "errors.errorString" = "*errors.errorString" := by decide
theorem rowP (u : TypeId) (h : Tryd.prog.typeName? 3 u = some "*errors.errorString") : u = 118 :=
  typeName_ptr_named (nm := "errors.errorString") (by rw [star]; kernel_rfl) (by kernel_rfl) (by decide) u (by rw [star]; exact h)
theorem tabEq : (Rows.laid_internal_strconv_uint64pow10 : DataW Unit) = Go.Lib.tabData .u64 Go.Lib.pow10Tab := by kernel_rfl
theorem max_any {W : World} (h : W.ShapedOpen Tryd.prog) : ∃ m, W.var? Tryd.prog "internal/bytealg.MaxLen" = some #[.int .i64 m] := by
  obtain ⟨m, hm⟩ := cell_of_shapedOpen_int (P := Tryd.prog) (w := W) (g := 0) (t := 3) (zero := #[.int .i64 0]) (k := .i64) h (of_decide_eq_true (by kernel_rfl)) (by kernel_rfl) rfl (by kernel_rfl) (by kernel_rfl) Tryd.underlying3
  obtain ⟨cs, hcs, hsz, _⟩ := h.1 0 #[.int .i64 0] 3 (of_decide_eq_true (by kernel_rfl)) (by kernel_rfl)
  refine ⟨m, ?_⟩
  simp only [World.var?, gMax, Option.bind_some, hcs]
  rw [Go.Proofs.YtedgfiikaedeoaaDoor.X.cell_of_row hcs] at hm
  congr 1
  apply Array.ext
  · simpa using hsz
  · intro i h1 h2
    have : i = 0 := by simpa using h2
    subst this
    have h4 : cs[0]? = some cs[0] := by simp [h1]
    rw [h4] at hm
    simpa using Option.some.inj hm
theorem glo_ok {W : World} (h : laidMet Tryd.prog laidL W) (hsh : W.ShapedOpen Tryd.prog) : ∃ m e1 e2, (∃ te pe, e1 = Value.iface te pe) ∧ (∃ te pe, e2 = Value.iface te pe) ∧ ∀ g cs, Gp m e1 e2 g = some cs → GloT W (Old W) g cs := by
  obtain ⟨m, hm⟩ := max_any hsh
  have h1 : laidMet Tryd.prog (("internal/strconv.uint64pow10", Rows.laid_internal_strconv_uint64pow10) :: ("unicode/utf8.acceptRanges", Rows.laid_unicode_utf8_acceptRanges) :: ("strconv.ErrRange", Rows.laid_strconv_ErrRange) :: ("strconv.ErrSyntax", Rows.laid_strconv_ErrSyntax) :: [("unicode/utf8.first", Rows.laid_unicode_utf8_first)]) W := h.tail.tail
  obtain ⟨a2, s2, hv2, -, -, -⟩ := laid_sentinel h1.tail.tail gER gERT Tryd.underlying65 rowP Tryd.underlying118 Tryd.underlying120 rfl rfl Tryd.underlying9 cellsES cellsS
  obtain ⟨a1, s1, hv1, -, -, -⟩ := laid_sentinel h1.tail.tail.tail gES gEST Tryd.underlying65 rowP Tryd.underlying118 Tryd.underlying120 rfl rfl Tryd.underlying9 cellsES cellsS
  rw [tabEq] at h1
  have ht := Go.Lib.tabIs_of_head gTab gTabT Tryd.underlying106 Tryd.underlying89 cellsU cellsTab h1
  refine ⟨m, .iface 118 (.pointer (some a1)), .iface 118 (.pointer (some a2)), ⟨_, _, rfl⟩, ⟨_, _, rfl⟩, fun g cs hg => ?_⟩
  unfold Gp at hg
  split at hg
  · rename_i e; subst e; obtain rfl := Option.some.inj hg
    exact gloT_of_var gMax rfl (by simp [gv, Value.oneCell']) hm
  split at hg
  · rename_i e; subst e; obtain rfl := Option.some.inj hg
    exact gloT_of_var gES rfl (by simp [gv, Value.oneCell']) hv1
  split at hg
  · rename_i e; subst e; obtain rfl := Option.some.inj hg
    exact gloT_of_var gER rfl (by simp [gv, Value.oneCell']) hv2
  split at hg
  · rename_i e; subst e; obtain rfl := Option.some.inj hg
    refine gloT_of_var gTab (by decide) (fun x hx => ?_) ?_
    · obtain ⟨z, _, rfl⟩ := List.mem_map.1 hx; rfl
    · rw [List.map_map]; exact ht
  · cases hg
theorem returns_shaped {H : Type} {enc : TypeId × Value → H} {a : Assume} {C : Checked} {os : Os} {f : FuncId} {fn : Func} {s : ChangeSpec} {conds : List PathCond} {apart fresh handsOn again : Bool} {X : World → Array Value → Prop}
    (hX : ∀ (w w' : World) (args : Array Value), w.heap = w'.heap → X w args → X w' args)
    (own : ownKnob C.prog.godebug = none) (started : os.Started) (noInit : C.prog.inits.idxOf? f = none) (hfn : C.prog.funcs[f]? = some fn)
    (witness : ∃ (w : World) (tape : Tape) (i : Input), w.os = os ∧ (w.forCall tape i).Shaped C.prog ∧ i.vars = [] ∧ Input.okWide C.prog (w.forCall tape i) .any w.heap.size f i ∧
      ((s.pre enc C.prog fn conds apart (w.forCall tape i).memory i.args ∧ X (w.forCall tape i).memory i.args) ∧ sizedMet enc C.prog fn (OpenSpec.ofChange s) apart (w.forCall tape i).memory i.args) ∧ a.holds C.prog (lone (Frame.enter C.prog f i.args .normal) [] (w.forCall tape i)))
    (contract : ∀ (W : World) (base : Nat) (args : Array Value) (ds gs : List (DataW H)) (before : List MemPlace),
      (∀ (j : Nat) t v, fn.params[j]? = some t → args[j]? = some v → Value.okWide C.prog W .any base t v) →
      DataW.Whole enc C.prog fn.params.toList s.vars apart W args.toList ds gs before →
      (DataW.weightsEach C.prog (fn.params.toList ++ s.plain.varTypes C.prog) (ds ++ gs)).all (· ≤ reachBytes) = true → X W args → W.ShapedOpen C.prog →
      Calls C.prog f args W fun e W' => ∃ v, e = .returned v ∧ s.post enc C.prog fn apart fresh handsOn again W args v W') :
    ReturnsInHanded a C os f .any (fun w args => (s.pre enc C.prog fn conds apart w args ∧ X w args) ∧ sizedMet enc C.prog fn (OpenSpec.ofChange s) apart w args) (s.post enc C.prog fn apart fresh handsOn again) := by
  refine returnsInHanded_of_calls own started noInit witness ?_
  intro w tape i _ hsh _ hok hpre hholds
  obtain ⟨_, _, _, fn', hfn', _, _, _, _, hval⟩ := hok
  have e : fn' = fn := Option.some.inj (hfn'.symm.trans hfn)
  subst e
  obtain ⟨⟨⟨ds, gs, before, hw, hc⟩, hx⟩, hz⟩ := hpre
  have hw' := DataW.Whole.of_heap (w' := w.forCall tape i) (by rfl) hw
  refine (contract (w.forCall tape i) w.heap.size i.args ds gs before hval hw' (hz.weights hw) (hX _ _ _ (by rfl) hx) hsh).mono fun e W' ⟨v, he, hp⟩ => ?_
  subst he
  exact ChangeSpec.post_blind hp
set_option maxRecDepth 100000 in
theorem lifted (os : Os) (started : os.Started) (H : Type) (enc : TypeId × Value → H) :
    ReturnsInHanded {} Tryd.checked os 4 .any (fun w args => (Rows.fnExactParseClimateSpec.pre enc Tryd.prog Tryd.f4 [] false w args ∧ laidMet Tryd.prog laidL w) ∧ sizedMet enc Tryd.prog Tryd.f4 (OpenSpec.ofChange Rows.fnExactParseClimateSpec) false w args)
      (Rows.fnExactParseClimateSpec.post enc Tryd.prog Tryd.f4 false true false false) := by
  refine returns_shaped (C := Tryd.checked) (X := fun w _ => laidMet Tryd.prog laidL w) (fun _ _ _ hh h => h.of_heap hh) own started (by kernel_rfl) Tryd.func4
    (ChangeSpec.witness_shaped (enc := enc) (C := Tryd.checked) (os := os) (X := fun w _ => laidMet Tryd.prog laidL w) false (World.laidAll Tryd.prog os laidL) #[.string (ByteArray.mk #[])] 8 (World.laidAll_os _ _ _) (World.shaped_of_ZipB (by kernel_rfl) (by kernel_rfl)) (by kernel_rfl) (by kernel_rfl) (by kernel_rfl) (laid_met os _)) ?_
  intro W base args ds gs before hval0 hW hsz0 hL hsh
  have hsz : (DataW.weightsEach Tryd.prog (Tryd.f4.params.toList ++ Rows.fnExactParseClimateSpec.plain.varTypes Tryd.prog) (ds ++ gs)).all (· ≤ reachBytes) = true := hsz0
  have hval : ∀ (j : Nat) t v, Tryd.f4.params[j]? = some t → args[j]? = some v → Value.okWide Tryd.prog W .any base t v := hval0
  have hW' := hW
  obtain ⟨p, q, hA0, hV, rfl, hfz, hnd⟩ := hW
  have hA : DataW.TrodAll enc Tryd.prog W 0 (fun _ => true) true Tryd.f4.params.toList args.toList ds p := hA0
  rw [Tryd.params4] at hA hval hsz
  obtain ⟨rfl, rfl⟩ := trodVars_none hV
  rw [show Rows.fnExactParseClimateSpec.plain.varTypes Tryd.prog = [] from rfl, List.append_nil, List.append_nil] at hsz
  obtain ⟨xs, hT, hH, hF⟩ := args_open (K := 14) hA (fun j t v ht hv => hval j t v (by simpa using ht) (by simpa using hv)) (by kernel_rfl) hsz
  obtain ⟨m, e1, e2, he1, he2, hGl⟩ := glo_ok hL hsh
  refine (law_runG (lawParseClimate he1 he2 xs hH) hT hF hGl).mono fun e W' ⟨he, bel⟩ => ?_
  subst he
  have hback := args_back laidOut (by kernel_rfl) hA bel
  obtain ⟨v0, vs0, d0, ds0, p0, q0, hargs, rfl, rfl, h0, r0⟩ := trodAll_cons hA
  obtain ⟨rfl, rfl, rfl⟩ := trodAll_nil r0
  obtain rfl : args = #[v0] := by cases args; simp_all
  exact ⟨_, rfl, _, _, _, [], _, [], hW', trodAll_mk1 (shut_bool Tryd.underlying4 _), hback, rfl, bel.frame _, fun h => by cases h⟩
theorem k1 : Tryd.pinned.checked.prog.funcNamed Rows.fnExactParseClimateRow.func = some 4 := by kernel_rfl
theorem j1 : (Rows.fnExactParseClimateRow.wf (OpenSpec.ofChange Rows.fnExactParseClimateSpec)) = true := by kernel_rfl
theorem j2 : (laidOutB Tryd.pinned.checked.prog) = true := by kernel_rfl
theorem j3 : (mapsRowed Tryd.pinned.checked.prog) = true := by kernel_rfl
theorem j4 : (Tryd.f4.params.all (Tryd.pinned.checked.prog.readableRec ·)) = true := by kernel_rfl
theorem j5 : (namedTie Tryd.pinned.checked.prog Rows.fnExactParseClimateRow.named Rows.fnExactParseClimateSpec.vars) = true := by kernel_rfl
theorem j6 : (Rows.fnExactParseClimateRow.stops == []) = true := by kernel_rfl
theorem j7 : (Tryd.pinned.checked.prog.stops == []) = true := by kernel_rfl
theorem j8 : (Rows.fnExactParseClimateRow.knobs == []) = true := by kernel_rfl
theorem j9 : (Tryd.pinned.checked.prog.stopKnobs == []) = true := by kernel_rfl
theorem j10 : (Rows.fnExactParseClimateRow.inPlace == Tryd.pinned.checked.prog.inPlace 4) = true := by kernel_rfl
theorem j11 : (Rows.fnExactParseClimateRow.unfollowed == Tryd.pinned.checked.prog.unfollowed 4) = true := by kernel_rfl
theorem j12 : (Rows.fnExactParseClimateRow.recurses == Tryd.pinned.checked.prog.recurses 4) = true := by kernel_rfl
theorem j13 : (Rows.fnExactParseClimateRow.named == Tryd.pinned.checked.prog.varsNamed 4) = true := by kernel_rfl
theorem j14 : (Rows.fnExactParseClimateRow.maps == (Tryd.f4.params.toList ++ Rows.fnExactParseClimateSpec.plain.varTypes Tryd.pinned.checked.prog).any (Tryd.pinned.checked.prog.mapsRec ·)) = true := by kernel_rfl
theorem j15 : (Rows.fnExactParseClimateRow.ifaces == (Tryd.f4.params.toList ++ Rows.fnExactParseClimateSpec.plain.varTypes Tryd.pinned.checked.prog).any (Tryd.pinned.checked.prog.ifacesRec ·)) = true := by kernel_rfl
theorem j16 : (Rows.fnExactParseClimateRow.mapsOut == Tryd.pinned.checked.prog.mapsAmong Tryd.f4.resultTypes.toList) = true := by kernel_rfl
theorem j17 : (Rows.fnExactParseClimateRow.loops == (Tryd.f4.params.toList ++ Rows.fnExactParseClimateSpec.plain.varTypes Tryd.pinned.checked.prog).any (Tryd.pinned.checked.prog.loopsFrom ·)) = true := by kernel_rfl
theorem j18 : (Rows.fnExactParseClimateRow.wideKeys == (Tryd.f4.params.toList ++ Rows.fnExactParseClimateSpec.plain.varTypes Tryd.pinned.checked.prog ++ Tryd.f4.resultTypes.toList).any (Tryd.pinned.checked.prog.wideKeysFrom ·)) = true := by kernel_rfl
theorem j19 : (Rows.fnExactParseClimateSpec.vars.all (Tryd.pinned.checked.prog.varReadable ·)) = true := by kernel_rfl
theorem j20 : (Tryd.f4.resultTypes.all (fun t => Tryd.pinned.checked.prog.readableRec t && decide (t < Tryd.pinned.checked.prog.types.size))) = true := by kernel_rfl
theorem j21 : (Rows.fnExactParseClimateRow.ifacesOut == Tryd.f4.resultTypes.toList.any (Tryd.pinned.checked.prog.ifacesRec ·)) = true := by kernel_rfl
theorem j22 : (Rows.fnExactParseClimateRow.loopsOut == Tryd.f4.resultTypes.toList.any (Tryd.pinned.checked.prog.loopsFrom ·)) = true := by kernel_rfl
theorem j23 : (Rows.fnExactParseClimateRow.plainKeys == Tryd.pinned.checked.prog.plainKeys) = true := by kernel_rfl
theorem j24 : (Rows.fnExactParseClimateRow.shortTexts.isNone) = true := by kernel_rfl
theorem j25 : (Tryd.pinned.checked.prog.stopsHeard) = true := by kernel_rfl
theorem j26 : (Tryd.pinned.checked.prog.mayEnter) = true := by kernel_rfl
theorem j27 : (Rows.fnExactParseClimateRow.lifted == Tryd.pinned.checked.prog.liftsFinal) = true := by kernel_rfl
theorem j28 : (Tryd.pinned.checked.prog.make == some Rows.fnExactParseClimateRow.make) = true := by kernel_rfl
theorem j29 : (Rows.fnExactParseClimateRow.kinds == (if Rows.fnExactParseClimateRow.domain.isEmpty then [] else Tryd.f4.params.toList.map fun t => match Tryd.pinned.checked.prog.underlying t with | some (.int k) => some k | _ => none)) = true := by kernel_rfl
theorem j30 : (Rows.fnExactParseClimateRow.pinned == Rows.fnExactParseClimateRow.pinnedBy) = true := by kernel_rfl
theorem j31 : (Rows.fnExactParseClimateRow.veiled == (Tryd.f4.params.toList ++ Rows.fnExactParseClimateSpec.plain.varTypes Tryd.pinned.checked.prog ++ Tryd.f4.resultTypes.toList).any (Tryd.pinned.checked.prog.veiledRec ·)) = true := by kernel_rfl
theorem j32 : (Rows.fnExactParseClimateRow.veiledFits Tryd.pinned.checked.prog Tryd.f4.params.toList (Tryd.f4.params.toList ++ Rows.fnExactParseClimateSpec.plain.varTypes Tryd.pinned.checked.prog ++ Tryd.f4.resultTypes.toList)) = true := by kernel_rfl
theorem k2 : joinedFacts Tryd.pinned.checked.prog 4 Tryd.f4 Rows.fnExactParseClimateSpec Rows.fnExactParseClimateRow = true := by
  rw [joinedFacts, j1, j2, j3, j4, j5, j6, j7, j8, j9, j10, j11, j12, j13, j14, j15, j16, j17, j18, j19, j20, j21, j22, j23, j24, j25, j26, j27, j28, j30, j31, j32]
  kernel_rfl
theorem k3 : Func.isInstance Tryd.pinned.checked.prog Tryd.f4 Rows.fnExactParseClimateRow.origin Rows.fnExactParseClimateRow.targs := of_decide_eq_true (by kernel_rfl)
theorem k4 : Func.isWrapper Tryd.pinned.checked.prog Tryd.f4 Rows.fnExactParseClimateRow.wrapper Rows.fnExactParseClimateRow.mainSum := by unfold Func.isWrapper; first | (rw [if_pos (by decide +kernel)]; kernel_rfl) | (rw [if_neg (by decide +kernel)]; exact ⟨rfl, rfl⟩)
theorem k5 : OpenClaim.wfByText (OpenSpec.ofChange Rows.fnExactParseClimateSpec) Rows.fnExactParseClimateRow = true := by kernel_rfl
theorem k6 : Tryd.pinned.checked.prog.mainIs = some (Rows.fnExactParseClimateCard.stood.harness.fst, Rows.fnExactParseClimateCard.stood.harness.snd.toList) := by kernel_rfl
theorem k7 : Rows.fnExactParseClimateCard.stood.looks = Tryd.pinned.checked.prog.looks [] := by kernel_rfl
theorem k8 : ([9].all fun t => !Tryd.prog.wantsStandIn t) = true := by kernel_rfl
theorem k9 : false = Rows.fnExactParseClimateRow.goesBy Tryd.pinned.checked.prog := by kernel_rfl
theorem over : Rows.fnExactParseClimateRow.holds Tryd.pinned (OpenSpec.ofChange Rows.fnExactParseClimateSpec) :=
  OpenClaim.holds_of_wide 4 Tryd.f4 rfl rfl rfl rfl rfl rfl rfl ⟨rfl, rfl, rfl, rfl, rfl⟩ rfl rfl rfl rfl rfl k1 Tryd.func4 k2
    k3 k4
    (fun os started H enc _ => lifted os started H enc)
theorem proved : Rows.FnExactParseClimateCardSaid :=
  Claim7.holds_tied_plain_at .later [] [.data, .data, .data, .data, .sentinel, .sentinel, .pinned] true Rows.fnExactParseClimateCard.stood.harness Rows.fnExactParseClimateCard.stood.looks
    over (fun _ h => by cases h) k5 (fun _ h => by cases h) fnExactParseClimate_row_tie rfl ⟨rfl, rfl⟩ k6 rfl
    (fun f fn hf hfn => by
      obtain rfl : f = 4 := Option.some.inj (k1.symm.trans hf) |>.symm
      obtain rfl : fn = Tryd.f4 := (Option.some.inj (Tryd.func4.symm.trans hfn)).symm
      exact ⟨k7, fun j t ht => by
        rw [Tryd.params4] at ht
        have hm : t ∈ [9] := by
          have := List.mem_of_getElem? (l := [9]) (i := j) (by simpa using ht)
          exact this
        exact List.all_eq_true.1 k8 t hm |> fun h => (by simpa using h : Tryd.prog.wantsStandIn t = false)⟩)
    k9
end Go.Proofs.YtedgfiikaedeoaaDoor.fnExactParseClimate
