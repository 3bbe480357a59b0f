/- FnExactClimateText: at every argument the law returns true. Condition: the tables that the row lists read as the program's own text lays them (the card ties them to that text); the proof reads none of them. -/
import Derived.Test.YtedgfiikaedeoaaDoorXM4
import Derived.Test.YtedgfiikaedeoaaDoorXP3
import Derived.Test.YtedgfiikaedeoaaDoorRows
import Derived.Test.YtedgfiikaedeoaaDoorTie
import Derived.Test.YtedgfiikaedeoaaDoorCards
import Derived.WalkKit
import Derived.ProofKit
import Derived.OpenShut
import Derived.ChangeOld
import Derived.ChangeVars
import Derived.Below
import Derived.WalkSmall
import Derived.SizedLaws
import Derived.SevenTiedAt
import Derived.Lay
namespace Go.Proofs.YtedgfiikaedeoaaDoor.fnExactClimateText
open Go Go.ChangeShapes Go.WideShapes Go.ChangeAt Go.RowKit Go.Proofs.YtedgfiikaedeoaaDoor.X
theorem own : ownKnob Tryd.prog.godebug = none := by kernel_rfl
theorem laidOut : laidOutB Tryd.prog = true := by kernel_rfl
abbrev laidL : List (String × DataW Unit) := Rows.fnExactClimateTextRow.laid
theorem laid_met (os : Os) (args : Array Value) : laidMet Tryd.prog laidL ((World.laidAll Tryd.prog os laidL).forCall (fun _ _ => 0) ⟨#[], args, []⟩).memory := laidMet_laidAll _ (by kernel_rfl) (by kernel_rfl)
set_option maxRecDepth 100000 in
theorem lifted (os : Os) (started : os.Started) (H : Type) (enc : TypeId × Value → H) :
    ReturnsInHanded {} Tryd.checked os 3 .any (fun w args => (Rows.fnExactClimateTextSpec.pre enc Tryd.prog Tryd.f3 [] false w args ∧ laidMet Tryd.prog laidL w) ∧ sizedMet enc Tryd.prog Tryd.f3 (OpenSpec.ofChange Rows.fnExactClimateTextSpec) false w args)
      (Rows.fnExactClimateTextSpec.post enc Tryd.prog Tryd.f3 false true false false) := by
  refine returnsInHanded_of_change_and (C := Tryd.checked) (X := fun w _ => laidMet Tryd.prog laidL w) (fun _ _ _ hh h => h.of_heap hh) own started (by kernel_rfl) Tryd.func3
    (ChangeSpec.witness_at (enc := enc) (C := Tryd.checked) (os := os) (X := fun w _ => laidMet Tryd.prog laidL w) false (World.laidAll Tryd.prog os laidL) #[.agg #[.slice none 0 0]] 8 (World.laidAll_os _ _ _) (by kernel_rfl) (by kernel_rfl) (by kernel_rfl) (by kernel_rfl) (by kernel_rfl) (laid_met os _)) ?_
  intro W base args ds gs before hval0 hW hcnd hsz0 hL _
  have hsz : (DataW.weightsEach Tryd.prog (Tryd.f3.params.toList ++ Rows.fnExactClimateTextSpec.plain.varTypes Tryd.prog) (ds ++ gs)).all (· ≤ reachBytes) = true := hsz0
  have hval : ∀ (j : Nat) t v, Tryd.f3.params[j]? = some t → args[j]? = some v → Value.okWide Tryd.prog W .any base t v := hval0
  have hW' := hW
  obtain ⟨p, q, hA0, hV, rfl, hfz, hnd⟩ := hW
  have hA : DataW.TrodAll enc Tryd.prog W 0 (fun _ => true) true Tryd.f3.params.toList args.toList ds p := hA0
  rw [Tryd.params3] at hA hval hsz
  obtain ⟨rfl, rfl⟩ := trodVars_none hV
  rw [show Rows.fnExactClimateTextSpec.plain.varTypes Tryd.prog = [] from rfl, List.append_nil, List.append_nil] at hsz
  obtain ⟨xs, hT, hH, hF⟩ := args_open (K := 14) hA (fun j t v ht hv => hval j t v (by simpa using ht) (by simpa using hv)) (by kernel_rfl) hsz
  refine (law_run (lawClimateText xs hH) hT hF).mono fun e W' ⟨he, bel⟩ => ?_
  subst he
  have hback := args_back laidOut (by kernel_rfl) hA bel
  obtain ⟨v0, vs0, d0, ds0, p0, q0, hargs, rfl, rfl, h0, r0⟩ := trodAll_cons hA
  obtain ⟨rfl, rfl, rfl⟩ := trodAll_nil r0
  obtain rfl : args = #[v0] := by cases args; simp_all
  exact ⟨_, rfl, _, _, _, [], _, [], hW', trodAll_mk1 (shut_bool Tryd.underlying4 _), hback, rfl, bel.frame _, fun h => by cases h⟩
theorem k1 : Tryd.pinned.checked.prog.funcNamed Rows.fnExactClimateTextRow.func = some 3 := by kernel_rfl
theorem j1 : (Rows.fnExactClimateTextRow.wf (OpenSpec.ofChange Rows.fnExactClimateTextSpec)) = true := by kernel_rfl
theorem j2 : (laidOutB Tryd.pinned.checked.prog) = true := by kernel_rfl
theorem j3 : (mapsRowed Tryd.pinned.checked.prog) = true := by kernel_rfl
theorem j4 : (Tryd.f3.params.all (Tryd.pinned.checked.prog.readableRec ·)) = true := by kernel_rfl
theorem j5 : (namedTie Tryd.pinned.checked.prog Rows.fnExactClimateTextRow.named Rows.fnExactClimateTextSpec.vars) = true := by kernel_rfl
theorem j6 : (Rows.fnExactClimateTextRow.stops == []) = true := by kernel_rfl
theorem j7 : (Tryd.pinned.checked.prog.stops == []) = true := by kernel_rfl
theorem j8 : (Rows.fnExactClimateTextRow.knobs == []) = true := by kernel_rfl
theorem j9 : (Tryd.pinned.checked.prog.stopKnobs == []) = true := by kernel_rfl
theorem j10 : (Rows.fnExactClimateTextRow.inPlace == Tryd.pinned.checked.prog.inPlace 3) = true := by kernel_rfl
theorem j11 : (Rows.fnExactClimateTextRow.unfollowed == Tryd.pinned.checked.prog.unfollowed 3) = true := by kernel_rfl
theorem j12 : (Rows.fnExactClimateTextRow.recurses == Tryd.pinned.checked.prog.recurses 3) = true := by kernel_rfl
theorem j13 : (Rows.fnExactClimateTextRow.named == Tryd.pinned.checked.prog.varsNamed 3) = true := by kernel_rfl
theorem j14 : (Rows.fnExactClimateTextRow.maps == (Tryd.f3.params.toList ++ Rows.fnExactClimateTextSpec.plain.varTypes Tryd.pinned.checked.prog).any (Tryd.pinned.checked.prog.mapsRec ·)) = true := by kernel_rfl
theorem j15 : (Rows.fnExactClimateTextRow.ifaces == (Tryd.f3.params.toList ++ Rows.fnExactClimateTextSpec.plain.varTypes Tryd.pinned.checked.prog).any (Tryd.pinned.checked.prog.ifacesRec ·)) = true := by kernel_rfl
theorem j16 : (Rows.fnExactClimateTextRow.mapsOut == Tryd.pinned.checked.prog.mapsAmong Tryd.f3.resultTypes.toList) = true := by kernel_rfl
theorem j17 : (Rows.fnExactClimateTextRow.loops == (Tryd.f3.params.toList ++ Rows.fnExactClimateTextSpec.plain.varTypes Tryd.pinned.checked.prog).any (Tryd.pinned.checked.prog.loopsFrom ·)) = true := by kernel_rfl
theorem j18 : (Rows.fnExactClimateTextRow.wideKeys == (Tryd.f3.params.toList ++ Rows.fnExactClimateTextSpec.plain.varTypes Tryd.pinned.checked.prog ++ Tryd.f3.resultTypes.toList).any (Tryd.pinned.checked.prog.wideKeysFrom ·)) = true := by kernel_rfl
theorem j19 : (Rows.fnExactClimateTextSpec.vars.all (Tryd.pinned.checked.prog.varReadable ·)) = true := by kernel_rfl
theorem j20 : (Tryd.f3.resultTypes.all (fun t => Tryd.pinned.checked.prog.readableRec t && decide (t < Tryd.pinned.checked.prog.types.size))) = true := by kernel_rfl
theorem j21 : (Rows.fnExactClimateTextRow.ifacesOut == Tryd.f3.resultTypes.toList.any (Tryd.pinned.checked.prog.ifacesRec ·)) = true := by kernel_rfl
theorem j22 : (Rows.fnExactClimateTextRow.loopsOut == Tryd.f3.resultTypes.toList.any (Tryd.pinned.checked.prog.loopsFrom ·)) = true := by kernel_rfl
theorem j23 : (Rows.fnExactClimateTextRow.plainKeys == Tryd.pinned.checked.prog.plainKeys) = true := by kernel_rfl
theorem j24 : (Rows.fnExactClimateTextRow.shortTexts.isNone) = true := by kernel_rfl
theorem j25 : (Tryd.pinned.checked.prog.stopsHeard) = true := by kernel_rfl
theorem j26 : (Tryd.pinned.checked.prog.mayEnter) = true := by kernel_rfl
theorem j27 : (Rows.fnExactClimateTextRow.lifted == Tryd.pinned.checked.prog.liftsFinal) = true := by kernel_rfl
theorem j28 : (Tryd.pinned.checked.prog.make == some Rows.fnExactClimateTextRow.make) = true := by kernel_rfl
theorem j29 : (Rows.fnExactClimateTextRow.kinds == (if Rows.fnExactClimateTextRow.domain.isEmpty then [] else Tryd.f3.params.toList.map fun t => match Tryd.pinned.checked.prog.underlying t with | some (.int k) => some k | _ => none)) = true := by kernel_rfl
theorem j30 : (Rows.fnExactClimateTextRow.pinned == Rows.fnExactClimateTextRow.pinnedBy) = true := by kernel_rfl
theorem j31 : (Rows.fnExactClimateTextRow.veiled == (Tryd.f3.params.toList ++ Rows.fnExactClimateTextSpec.plain.varTypes Tryd.pinned.checked.prog ++ Tryd.f3.resultTypes.toList).any (Tryd.pinned.checked.prog.veiledRec ·)) = true := by kernel_rfl
theorem j32 : (Rows.fnExactClimateTextRow.veiledFits Tryd.pinned.checked.prog Tryd.f3.params.toList (Tryd.f3.params.toList ++ Rows.fnExactClimateTextSpec.plain.varTypes Tryd.pinned.checked.prog ++ Tryd.f3.resultTypes.toList)) = true := by kernel_rfl
theorem k2 : joinedFacts Tryd.pinned.checked.prog 3 Tryd.f3 Rows.fnExactClimateTextSpec Rows.fnExactClimateTextRow = true := by
  rw [joinedFacts, j1, j2, j3, j4, j5, j6, j7, j8, j9, j10, j11, j12, j13, j14, j15, j16, j17, j18, j19, j20, j21, j22, j23, j24, j25, j26, j27, j28, j30, j31, j32]
  kernel_rfl
theorem k3 : Func.isInstance Tryd.pinned.checked.prog Tryd.f3 Rows.fnExactClimateTextRow.origin Rows.fnExactClimateTextRow.targs := of_decide_eq_true (by kernel_rfl)
theorem k4 : Func.isWrapper Tryd.pinned.checked.prog Tryd.f3 Rows.fnExactClimateTextRow.wrapper Rows.fnExactClimateTextRow.mainSum := by unfold Func.isWrapper; first | (rw [if_pos (by decide +kernel)]; kernel_rfl) | (rw [if_neg (by decide +kernel)]; exact ⟨rfl, rfl⟩)
theorem k5 : OpenClaim.wfByText (OpenSpec.ofChange Rows.fnExactClimateTextSpec) Rows.fnExactClimateTextRow = true := by kernel_rfl
theorem k6 : Tryd.pinned.checked.prog.mainIs = some (Rows.fnExactClimateTextCard.stood.harness.fst, Rows.fnExactClimateTextCard.stood.harness.snd.toList) := by kernel_rfl
theorem k7 : Rows.fnExactClimateTextCard.stood.looks = Tryd.pinned.checked.prog.looks [] := by kernel_rfl
theorem k8 : ([24].all fun t => !Tryd.prog.wantsStandIn t) = true := by kernel_rfl
theorem k9 : false = Rows.fnExactClimateTextRow.goesBy Tryd.pinned.checked.prog := by kernel_rfl
theorem over : Rows.fnExactClimateTextRow.holds Tryd.pinned (OpenSpec.ofChange Rows.fnExactClimateTextSpec) :=
  OpenClaim.holds_of_wide 3 Tryd.f3 rfl rfl rfl rfl rfl rfl rfl ⟨rfl, rfl, rfl, rfl, rfl⟩ rfl rfl rfl rfl rfl k1 Tryd.func3 k2
    k3 k4
    (fun os started H enc _ => lifted os started H enc)
theorem proved : Rows.FnExactClimateTextCardSaid :=
  Claim7.holds_tied_plain_at .later [] [.data, .data, .data] true Rows.fnExactClimateTextCard.stood.harness Rows.fnExactClimateTextCard.stood.looks
    over (fun _ h => by cases h) k5 (fun _ h => by cases h) fnExactClimateText_row_tie rfl ⟨rfl, rfl⟩ k6 rfl
    (fun f fn hf hfn => by
      obtain rfl : f = 3 := Option.some.inj (k1.symm.trans hf) |>.symm
      obtain rfl : fn = Tryd.f3 := (Option.some.inj (Tryd.func3.symm.trans hfn)).symm
      exact ⟨k7, fun j t ht => by
        rw [Tryd.params3] at ht
        have hm : t ∈ [24] := by
          have := List.mem_of_getElem? (l := [24]) (i := j) (by simpa using ht)
          exact this
        exact List.all_eq_true.1 k8 t hm |> fun h => (by simpa using h : Tryd.prog.wantsStandIn t = false)⟩)
    k9
end Go.Proofs.YtedgfiikaedeoaaDoor.fnExactClimateText
