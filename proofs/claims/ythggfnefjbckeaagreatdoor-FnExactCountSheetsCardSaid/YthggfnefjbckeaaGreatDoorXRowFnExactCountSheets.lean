/- FnExactCountSheets: at every argument the law returns true. Condition: the table of directions reads as the program's own text lays it (the card ties it to that text). -/
import Derived.Test.YthggfnefjbckeaaGreatDoorXM3
import Derived.Test.YthggfnefjbckeaaGreatDoorXP10
import Derived.Test.YthggfnefjbckeaaGreatDoorRows
import Derived.Test.YthggfnefjbckeaaGreatDoorTie
import Derived.Test.YthggfnefjbckeaaGreatDoorCards
import Derived.WalkKit
import Derived.ProofKit
import Derived.OpenShut
import Derived.ChangeOld
import Derived.ChangeVars
import Derived.Below
import Derived.WalkSmall
import Derived.SizedLaws
import Derived.SevenTiedAt
namespace Go.Proofs.YthggfnefjbckeaaGreatDoor.fnExactCountSheets
open Go Go.ChangeShapes Go.WideShapes Go.ChangeAt Go.RowKit Go.Proofs.YthggfnefjbckeaaGreatDoor.X
theorem own : ownKnob Tryz.prog.godebug = none := by kernel_rfl
theorem laidOut : laidOutB Tryz.prog = true := by kernel_rfl
abbrev dirN : String := "loop.example/g00886/impl.directions"
abbrev laidL : List (String × DataW Unit) := [(dirN, Rows.laid_loop_example_g00886_impl_directions)]
theorem dirG : Tryz.prog.globalNamed dirN = some 0 := by kernel_rfl
theorem dirT : (Tryz.prog.globals[0]?).map (·.type) = some 185 := by kernel_rfl
theorem cellsA : Tryz.prog.cellsOf 185 = 12 := by kernel_rfl
theorem cellsE : Tryz.prog.cellsOf 142 = 2 := by kernel_rfl
theorem cellsI : Tryz.prog.cellsOf 3 = 1 := by kernel_rfl
theorem pair_of_trod {H : Type} {enc : TypeId × Value → H} {w : World} {base : Nat} {sp : Nat → Bool} {held : Bool} {fuel : Nat} {a b : Value} {y : DataW H × List MemPlace}
    (h : DataW.trod enc Tryz.prog w base sp held fuel 142 [a, b] = some y) : ∃ n m, a = .int .i64 n ∧ b = .int .i64 m ∧ y = (.agg [.lit (.int .i64 n), .lit (.int .i64 m)], []) := by
  cases fuel with
  | zero => simp [DataW.trod] at h
  | succ fuel =>
    simp only [DataW.trod, Tryz.underlying142, cellsE] at h
    split at h
    · simp only [List.mapM_cons, List.mapM_nil, Option.map_eq_some_iff, Option.bind_eq_bind, Option.bind_eq_some_iff, Option.pure_def, Option.some.injEq, List.drop_zero, List.drop_succ_cons, cellsI, List.take_succ_cons, List.take_zero] at h
      obtain ⟨xs, ⟨y0, h0, _, ⟨y1, h1, _, rfl, rfl⟩, rfl⟩, hx⟩ := h
      obtain ⟨n0, rfl, rfl⟩ := int_of_trod Tryz.underlying3 h0
      obtain ⟨n1, rfl, rfl⟩ := int_of_trod Tryz.underlying3 h1
      exact ⟨n0, n1, rfl, rfl, by rw [← hx]; rfl⟩
    · cases h
theorem cells_of_laid {W : World} (h : laidMet Tryz.prog laidL W) : W.var? Tryz.prog dirN = some (scCells dirs).toArray := by
  obtain ⟨ps, ⟨g, t, cs, fuel, p, q, hg, ht, hvar, hd, _, _⟩, _⟩ := h
  obtain rfl := Option.some.inj (dirG.symm.trans hg)
  obtain rfl := Option.some.inj (dirT.symm.trans ht)
  rw [hvar]
  congr 1
  obtain ⟨l⟩ := cs
  cases fuel with
  | zero => simp [DataW.trod] at hd
  | succ fuel =>
    simp only [DataW.trod, Tryz.underlying185, cellsA, cellsE] at hd
    split at hd
    · rename_i hl
      obtain ⟨a0, a1, a2, a3, a4, a5, a6, a7, a8, a9, a10, a11, rfl⟩ : ∃ a0 a1 a2 a3 a4 a5 a6 a7 a8 a9 a10 a11, l = [a0, a1, a2, a3, a4, a5, a6, a7, a8, a9, a10, a11] := by
        match l, hl with
        | [a, b, c, d, e, f, g, h, i, j, k, m], _ => exact ⟨a, b, c, d, e, f, g, h, i, j, k, m, rfl⟩
      have e : List.range 6 = [0, 1, 2, 3, 4, 5] := rfl
      rw [e] at hd
      simp only [Option.map_eq_some_iff, List.mapM_cons, List.mapM_nil, Option.bind_eq_bind, Option.bind_eq_some_iff, Option.pure_def, Option.some.injEq, Nat.reduceMul, List.drop_zero, List.drop_succ_cons, List.take_succ_cons, List.take_zero] at hd
      obtain ⟨xs, ⟨y0, h0, _, ⟨y1, h1, _, ⟨y2, h2, _, ⟨y3, h3, _, ⟨y4, h4, _, ⟨y5, h5, _, rfl, rfl⟩, rfl⟩, rfl⟩, rfl⟩, rfl⟩, rfl⟩, hx⟩ := hd
      obtain ⟨n0, m0, rfl, rfl, rfl⟩ := pair_of_trod h0
      obtain ⟨n1, m1, rfl, rfl, rfl⟩ := pair_of_trod h1
      obtain ⟨n2, m2, rfl, rfl, rfl⟩ := pair_of_trod h2
      obtain ⟨n3, m3, rfl, rfl, rfl⟩ := pair_of_trod h3
      obtain ⟨n4, m4, rfl, rfl, rfl⟩ := pair_of_trod h4
      obtain ⟨n5, m5, rfl, rfl, rfl⟩ := pair_of_trod h5
      simp [Rows.laid_loop_example_g00886_impl_directions] at hx
      obtain ⟨⟨⟨rfl, rfl⟩, ⟨rfl, rfl⟩, ⟨rfl, rfl⟩, ⟨rfl, rfl⟩, ⟨rfl, rfl⟩, rfl, rfl⟩, _⟩ := hx
      rfl
    · cases hd
noncomputable def laidWorld (os : Os) : World :=
  { World.holding Tryz.prog os ⟨#[], #[], []⟩ with heap := (World.holding Tryz.prog os ⟨#[], #[], []⟩).heap.modify 0 fun
      | .cells _ t frozen => .cells (scCells dirs).toArray t frozen
      | o => o }
theorem laidWorld_row (os : Os) (args : Array Value) : ((laidWorld os).forCall (fun _ _ => 0) ⟨#[], args, []⟩).memory.heap[0]? = some (.cells (scCells dirs).toArray 185 (0, 0)) := by kernel_rfl
set_option maxRecDepth 100000 in
theorem laid_of_row {w : World} (hrow : w.heap[0]? = some (.cells (scCells dirs).toArray 185 (0, 0))) : laidMet Tryz.prog laidL w :=
  ⟨_, ⟨0, 185, (scCells dirs).toArray, 8, [], [], dirG, dirT, by simp only [World.var?, dirG, Option.bind_some, hrow], by kernel_rfl, rfl, rfl⟩, by decide, fun b off h => by
    have h' : MemPlace.cell b off ∈ (List.range 12).map (MemPlace.cell 0) := h
    simp only [List.mem_map, List.mem_range, MemPlace.cell.injEq] at h'
    obtain ⟨j, hj, hb, rfl⟩ := h'
    subst hb
    exact ⟨⟨_, _, hrow⟩, fun u v hc => by exfalso; exact no_iface hrow hc⟩⟩
theorem laid_met (os : Os) (args : Array Value) : laidMet Tryz.prog laidL ((laidWorld os).forCall (fun _ _ => 0) ⟨#[], args, []⟩).memory := laid_of_row (laidWorld_row os args)
abbrev tableH {H : Type} : DataW H := .agg [.agg [.lit (.int .i64 1), .lit (.int .i64 0)], .agg [.lit (.int .i64 1), .lit (.int .i64 (-1))], .agg [.lit (.int .i64 0), .lit (.int .i64 (-1))], .agg [.lit (.int .i64 (-1)), .lit (.int .i64 0)], .agg [.lit (.int .i64 (-1)), .lit (.int .i64 1)], .agg [.lit (.int .i64 0), .lit (.int .i64 1)]]
theorem reads_table {H : Type} (enc : TypeId × Value → H) (W : World) (sp : Nat → Bool) : DataW.trod enc Tryz.prog W 0 sp true 4 185 (scCells dirs).toArray.toList = some (tableH, []) := by kernel_rfl
set_option maxRecDepth 100000 in
theorem glo_ok {W : World} (h : laidMet Tryz.prog laidL W) : ∀ g cs, G1 g = some cs → GloT W (Old W) g cs := by
  intro g cs hg
  unfold G1 at hg
  split at hg
  · rename_i e
    cases e
    cases hg
    have := glo_of_var (cs := dirs) (W := W) dirG (by decide) (cells_of_laid h)
    exact this
  · cases hg
set_option maxRecDepth 100000 in
theorem lifted (os : Os) (started : os.Started) (H : Type) (enc : TypeId × Value → H) :
    ReturnsInHanded {} Tryz.checked os 3 .any (fun w args => (Rows.fnExactCountSheetsSpec.pre enc Tryz.prog Tryz.f3 [] false w args ∧ laidMet Tryz.prog laidL w) ∧ sizedMet enc Tryz.prog Tryz.f3 (OpenSpec.ofChange Rows.fnExactCountSheetsSpec) false w args)
      (Rows.fnExactCountSheetsSpec.post enc Tryz.prog Tryz.f3 false true false false) := by
  refine returnsInHanded_of_change_and (C := Tryz.checked) (X := fun w _ => laidMet Tryz.prog laidL w) (fun _ _ _ hh h => h.of_heap hh) own started (by kernel_rfl) Tryz.func3
    (ChangeSpec.witness_at (enc := enc) (C := Tryz.checked) (os := os) (X := fun w _ => laidMet Tryz.prog laidL w) false (laidWorld os) #[.agg #[.slice none 0 0, .slice none 0 0, .int .i64 0, .int .i64 0, .int .i64 0, .int .i64 0, .int .i64 0, .int .i64 0, .int .i64 0, .slice none 0 0, .slice none 0 0, .slice none 0 0, .slice none 0 0, .int .i64 0, .slice none 0 0, .slice none 0 0, .slice none 0 0], .agg #[.int .i64 0, .int .i64 0, .slice none 0 0], .int .i64 0] 8 rfl (by kernel_rfl) (by kernel_rfl) (by kernel_rfl) (by kernel_rfl) (by kernel_rfl) (laid_met os _)) ?_
  intro W base args ds gs before hval0 hW hcnd hsz0 hL _
  have hsz : (DataW.weightsEach Tryz.prog (Tryz.f3.params.toList ++ Rows.fnExactCountSheetsSpec.plain.varTypes Tryz.prog) (ds ++ gs)).all (· ≤ reachBytes) = true := hsz0
  have hval : ∀ (j : Nat) t v, Tryz.f3.params[j]? = some t → args[j]? = some v → Value.okWide Tryz.prog W .any base t v := hval0
  have hW' := hW
  obtain ⟨p, q, hA0, hV0, rfl, hfz, hnd⟩ := hW
  have hA : DataW.TrodAll enc Tryz.prog W 0 (fun _ => true) true Tryz.f3.params.toList args.toList ds p := hA0
  have hV : DataW.TrodVars enc Tryz.prog W (fun _ => true) [dirN] gs q := hV0
  rw [Tryz.params3] at hA hval hsz
  obtain ⟨g, t, cs, fuel, d, p', rfl, hg, ht, hvar, hd, rfl⟩ := trodVars_one hV
  obtain rfl := Option.some.inj (dirG.symm.trans hg)
  obtain rfl := Option.some.inj (dirT.symm.trans ht)
  obtain rfl : cs = (scCells dirs).toArray := Option.some.inj (hvar.symm.trans (cells_of_laid hL))
  have hvt : Rows.fnExactCountSheetsSpec.plain.varTypes Tryz.prog = [185] := by kernel_rfl
  rw [hvt] at hsz
  have hsz1 := weights_args hA hsz
  obtain ⟨rfl, rfl⟩ := DataW.Trod.unique (v := .agg (scCells dirs).toArray) ⟨fuel, hd⟩ ⟨4, reads_table enc W _⟩
  obtain ⟨xs, hT, hH, hF⟩ := args_open (K := 30) hA (fun j t v ht hv => hval j t v (by simpa using ht) (by simpa using hv)) (by kernel_rfl) hsz1
  refine (law_runG (lawCountSheets xs hH) hT hF (glo_ok hL)).mono fun e W' ⟨he, bel⟩ => ?_
  subst he
  have hback := args_back laidOut (by kernel_rfl) hA bel
  have h0 : 0 < W.heap.size := by
    have := (glo_ok hL 0 dirs rfl).1
    simp only [T] at this
    obtain ⟨_, b, o, vs, e, hb, _⟩ := this
    cases e; exact hb
  have hvars : DataW.TrodVars enc Tryz.prog W' (fun b => decide (b < W.heap.size)) [dirN] [tableH] (MemPlace.row ⟨0, 0, none⟩ (scCells dirs).toArray.size ++ []) :=
    trodVars_mk1 dirG dirT (var?_below bel dirG h0 hvar) (reads_table enc W' _)
  obtain ⟨v0, vs0, d0, ds0, p0, q0, hargs, rfl, rfl, h0, r0⟩ := trodAll_cons hA
  obtain ⟨v1, vs1, d1, ds1, p1, q1, e1, rfl, rfl, h1, r1⟩ := trodAll_cons r0
  subst e1
  obtain ⟨v2, vs2, d2, ds2, p2, q2, e2, rfl, rfl, h2, r2⟩ := trodAll_cons r1
  subst e2
  obtain ⟨rfl, rfl, rfl⟩ := trodAll_nil r2
  obtain rfl : args = #[v0, v1, v2] := by cases args; simp_all
  exact ⟨_, rfl, _, _, _, [], _, _, hW', trodAll_mk1 (shut_bool Tryz.underlying4 _), hback, hvars, bel.frame _, fun h => by cases h⟩
theorem k1 : Tryz.pinned.checked.prog.funcNamed Rows.fnExactCountSheetsRow.func = some 3 := by kernel_rfl
theorem j1 : (Rows.fnExactCountSheetsRow.wf (OpenSpec.ofChange Rows.fnExactCountSheetsSpec)) = true := by kernel_rfl
theorem j2 : (laidOutB Tryz.pinned.checked.prog) = true := by kernel_rfl
theorem j3 : (mapsRowed Tryz.pinned.checked.prog) = true := by kernel_rfl
theorem j4 : (Tryz.f3.params.all (Tryz.pinned.checked.prog.readableRec ·)) = true := by kernel_rfl
theorem j5 : (namedTie Tryz.pinned.checked.prog Rows.fnExactCountSheetsRow.named Rows.fnExactCountSheetsSpec.vars) = true := by kernel_rfl
theorem j6 : (Rows.fnExactCountSheetsRow.stops == []) = true := by kernel_rfl
theorem j7 : (Tryz.pinned.checked.prog.stops == []) = true := by kernel_rfl
theorem j8 : (Rows.fnExactCountSheetsRow.knobs == []) = true := by kernel_rfl
theorem j9 : (Tryz.pinned.checked.prog.stopKnobs == []) = true := by kernel_rfl
theorem j10 : (Rows.fnExactCountSheetsRow.inPlace == Tryz.pinned.checked.prog.inPlace 3) = true := by kernel_rfl
theorem j11 : (Rows.fnExactCountSheetsRow.unfollowed == Tryz.pinned.checked.prog.unfollowed 3) = true := by kernel_rfl
theorem j12 : (Rows.fnExactCountSheetsRow.recurses == Tryz.pinned.checked.prog.recurses 3) = true := by kernel_rfl
theorem j13 : (Rows.fnExactCountSheetsRow.named == Tryz.pinned.checked.prog.varsNamed 3) = true := by kernel_rfl
theorem j14 : (Rows.fnExactCountSheetsRow.maps == (Tryz.f3.params.toList ++ Rows.fnExactCountSheetsSpec.plain.varTypes Tryz.pinned.checked.prog).any (Tryz.pinned.checked.prog.mapsRec ·)) = true := by kernel_rfl
theorem j15 : (Rows.fnExactCountSheetsRow.ifaces == (Tryz.f3.params.toList ++ Rows.fnExactCountSheetsSpec.plain.varTypes Tryz.pinned.checked.prog).any (Tryz.pinned.checked.prog.ifacesRec ·)) = true := by kernel_rfl
theorem j16 : (Rows.fnExactCountSheetsRow.mapsOut == Tryz.pinned.checked.prog.mapsAmong Tryz.f3.resultTypes.toList) = true := by kernel_rfl
theorem j17 : (Rows.fnExactCountSheetsRow.loops == (Tryz.f3.params.toList ++ Rows.fnExactCountSheetsSpec.plain.varTypes Tryz.pinned.checked.prog).any (Tryz.pinned.checked.prog.loopsFrom ·)) = true := by kernel_rfl
theorem j18 : (Rows.fnExactCountSheetsRow.wideKeys == (Tryz.f3.params.toList ++ Rows.fnExactCountSheetsSpec.plain.varTypes Tryz.pinned.checked.prog ++ Tryz.f3.resultTypes.toList).any (Tryz.pinned.checked.prog.wideKeysFrom ·)) = true := by kernel_rfl
theorem j19 : (Rows.fnExactCountSheetsSpec.vars.all (Tryz.pinned.checked.prog.varReadable ·)) = true := by kernel_rfl
theorem j20 : (Tryz.f3.resultTypes.all (fun t => Tryz.pinned.checked.prog.readableRec t && decide (t < Tryz.pinned.checked.prog.types.size))) = true := by kernel_rfl
theorem j21 : (Rows.fnExactCountSheetsRow.ifacesOut == Tryz.f3.resultTypes.toList.any (Tryz.pinned.checked.prog.ifacesRec ·)) = true := by kernel_rfl
theorem j22 : (Rows.fnExactCountSheetsRow.loopsOut == Tryz.f3.resultTypes.toList.any (Tryz.pinned.checked.prog.loopsFrom ·)) = true := by kernel_rfl
theorem j23 : (Rows.fnExactCountSheetsRow.plainKeys == Tryz.pinned.checked.prog.plainKeys) = true := by kernel_rfl
theorem j24 : (Rows.fnExactCountSheetsRow.shortTexts.isNone) = true := by kernel_rfl
theorem j25 : (Tryz.pinned.checked.prog.stopsHeard) = true := by kernel_rfl
theorem j26 : (Tryz.pinned.checked.prog.mayEnter) = true := by kernel_rfl
theorem j27 : (Rows.fnExactCountSheetsRow.lifted == Tryz.pinned.checked.prog.liftsFinal) = true := by kernel_rfl
theorem j28 : (Tryz.pinned.checked.prog.make == some Rows.fnExactCountSheetsRow.make) = true := by kernel_rfl
theorem j29 : (Rows.fnExactCountSheetsRow.kinds == (if Rows.fnExactCountSheetsRow.domain.isEmpty then [] else Tryz.f3.params.toList.map fun t => match Tryz.pinned.checked.prog.underlying t with | some (.int k) => some k | _ => none)) = true := by kernel_rfl
theorem j30 : (Rows.fnExactCountSheetsRow.pinned == Rows.fnExactCountSheetsRow.pinnedBy) = true := by kernel_rfl
theorem j31 : (Rows.fnExactCountSheetsRow.veiled == (Tryz.f3.params.toList ++ Rows.fnExactCountSheetsSpec.plain.varTypes Tryz.pinned.checked.prog ++ Tryz.f3.resultTypes.toList).any (Tryz.pinned.checked.prog.veiledRec ·)) = true := by kernel_rfl
theorem j32 : (Rows.fnExactCountSheetsRow.veiledFits Tryz.pinned.checked.prog Tryz.f3.params.toList (Tryz.f3.params.toList ++ Rows.fnExactCountSheetsSpec.plain.varTypes Tryz.pinned.checked.prog ++ Tryz.f3.resultTypes.toList)) = true := by kernel_rfl
theorem k2 : joinedFacts Tryz.pinned.checked.prog 3 Tryz.f3 Rows.fnExactCountSheetsSpec Rows.fnExactCountSheetsRow = true := by
  rw [joinedFacts, j1, j2, j3, j4, j5, j6, j7, j8, j9, j10, j11, j12, j13, j14, j15, j16, j17, j18, j19, j20, j21, j22, j23, j24, j25, j26, j27, j28, j30, j31, j32]
  kernel_rfl
theorem k3 : Func.isInstance Tryz.pinned.checked.prog Tryz.f3 Rows.fnExactCountSheetsRow.origin Rows.fnExactCountSheetsRow.targs := of_decide_eq_true (by kernel_rfl)
theorem k4 : Func.isWrapper Tryz.pinned.checked.prog Tryz.f3 Rows.fnExactCountSheetsRow.wrapper Rows.fnExactCountSheetsRow.mainSum := by unfold Func.isWrapper; first | (rw [if_pos (by decide +kernel)]; kernel_rfl) | (rw [if_neg (by decide +kernel)]; exact ⟨rfl, rfl⟩)
theorem k5 : OpenClaim.wfByText (OpenSpec.ofChange Rows.fnExactCountSheetsSpec) Rows.fnExactCountSheetsRow = true := by kernel_rfl
theorem k6 : Tryz.pinned.checked.prog.mainIs = some (Rows.fnExactCountSheetsCard.stood.harness.fst, Rows.fnExactCountSheetsCard.stood.harness.snd.toList) := by kernel_rfl
theorem k7 : Rows.fnExactCountSheetsCard.stood.looks = Tryz.pinned.checked.prog.looks [] := by kernel_rfl
theorem k8 : ([38, 41, 3].all fun t => !Tryz.prog.wantsStandIn t) = true := by kernel_rfl
theorem k9 : false = Rows.fnExactCountSheetsRow.goesBy Tryz.pinned.checked.prog := by kernel_rfl
theorem over : Rows.fnExactCountSheetsRow.holds Tryz.pinned (OpenSpec.ofChange Rows.fnExactCountSheetsSpec) :=
  OpenClaim.holds_of_wide 3 Tryz.f3 rfl rfl rfl rfl rfl rfl rfl ⟨rfl, rfl, rfl, rfl, rfl⟩ rfl rfl rfl rfl rfl k1 Tryz.func3 k2
    k3 k4
    (fun os started H enc _ => lifted os started H enc)
theorem proved : Rows.FnExactCountSheetsCardSaid :=
  Claim7.holds_tied_plain_at .later [] [.data] true Rows.fnExactCountSheetsCard.stood.harness Rows.fnExactCountSheetsCard.stood.looks
    over (fun _ h => by cases h) k5 (fun _ h => by cases h) fnExactCountSheets_row_tie rfl ⟨rfl, rfl⟩ k6 rfl
    (fun f fn hf hfn => by
      obtain rfl : f = 3 := Option.some.inj (k1.symm.trans hf) |>.symm
      obtain rfl : fn = Tryz.f3 := (Option.some.inj (Tryz.func3.symm.trans hfn)).symm
      exact ⟨k7, fun j t ht => by
        rw [Tryz.params3] at ht
        have hm : t ∈ [38, 41, 3] := by
          have := List.mem_of_getElem? (l := [38, 41, 3]) (i := j) (by simpa using ht)
          exact this
        exact List.all_eq_true.1 k8 t hm |> fun h => (by simpa using h : Tryz.prog.wantsStandIn t = false)⟩)
    k9
end Go.Proofs.YthggfnefjbckeaaGreatDoor.fnExactCountSheets
