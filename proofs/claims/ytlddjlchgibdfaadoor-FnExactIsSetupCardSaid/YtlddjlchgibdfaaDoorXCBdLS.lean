/- A part of the proof: lemmas on the functions that the law reaches. No condition of its own. -/
import Derived.Test.YtlddjlchgibdfaaDoorXCBdH
import Derived.Test.YtlddjlchgibdfaaDoorXCBdT
set_option maxHeartbeats 1000000
set_option maxRecDepth 8000
set_option linter.unusedSimpArgs false
set_option linter.unusedVariables false
namespace Go.Proofs.YtlddjlchgibdfaaDoor.X
open Go
theorem has_intss {k : Nat} {xs : List AV} (h : Has Tryd.prog (k + 3) 22 xs) : ∃ W, xs = [.sl (intss W)] ∧ SSB (2 ^ 50) W := by
  obtain ⟨es, rfl, _, hb, he⟩ := has_slice tk_22 h
  rw [bo_36] at hb
  obtain ⟨W, rfl, hr⟩ := all_map2 (f := fun r : List Int => [AV.sl (ints r)]) (p := fun r => r.length < 2 ^ 50) (es := es) fun e hx => by
    obtain ⟨l, rfl, hl⟩ := has_ints (he e hx).2
    exact ⟨l, rfl, hl⟩
  simp only [reachBytes, List.length_map] at hb
  exact ⟨W, rfl, ⟨by omega, hr⟩⟩
theorem has_od {k : Nat} {xs : List AV} (h : Has Tryd.prog (k + 6) 191 xs) : ∃ p : Od, xs = odA p := by
  have h := has_struct sty_191 h
  obtain ⟨x1, r, rfl, _, h1, h⟩ := hasE_cons h
  obtain ⟨x2, r, rfl, _, h2, h⟩ := hasE_cons h
  obtain rfl := hasE_nil h
  obtain ⟨a, rfl, _⟩ := has_int tk_3 h1
  obtain ⟨b, rfl, _⟩ := has_int tk_3 h2
  exact ⟨⟨a, b⟩, rfl⟩
theorem has_ct {k : Nat} {xs : List AV} (h : Has Tryd.prog (k + 12) 84 xs) : ∃ t : Ct, xs = ctF t ∧ CtB (2 ^ 50) t := by
  have h := has_struct sty_84 h
  obtain ⟨x0, r, rfl, _, h0, h⟩ := hasE_cons h
  obtain ⟨x1, r, rfl, _, h1, h⟩ := hasE_cons h
  obtain ⟨x2, r, rfl, _, h2, h⟩ := hasE_cons h
  obtain rfl := hasE_nil h
  obtain ⟨es, rfl, _, hb, he⟩ := has_slice tk_82 h0
  obtain ⟨cs, rfl⟩ := all_map (f := odA) (es := es) fun e hx => has_od (he e hx).2
  obtain ⟨d, rfl, _⟩ := has_int tk_3 h1
  obtain ⟨rs, rfl, hr⟩ := has_intss h2
  rw [bo_191] at hb
  simp only [reachBytes, List.length_map] at hb
  exact ⟨⟨cs, d, rs⟩, rfl, ⟨by show cs.length < _; omega, hr⟩⟩
theorem has_cl {k : Nat} {xs : List AV} (h : Has Tryd.prog (k + 8) 24 xs) : ∃ W, xs = [.sl (intss W)] ∧ SSB (2 ^ 50) W := by
  have h := has_struct sty_24 h
  obtain ⟨x0, r, rfl, _, h0, h⟩ := hasE_cons h
  obtain rfl := hasE_nil h
  obtain ⟨W, rfl, hr⟩ := has_intss h0
  exact ⟨W, rfl, hr⟩
theorem hasV_se {k : Nat} {x : AV} (hv : HasV Tryd.prog (k + 26) 86 x) : ∃ s : Se, x = seF s ∧ SeB (2 ^ 50) s := by
  obtain ⟨ys, rfl, h⟩ := hasV_struct sty_86 hv
  obtain ⟨x0, r, rfl, _, h0, h⟩ := hasE_cons h
  obtain ⟨x1, r, rfl, _, h1, h⟩ := hasE_cons h
  obtain ⟨x2, r, rfl, _, h2, h⟩ := hasE_cons h
  obtain ⟨x3, r, rfl, _, h3, h⟩ := hasE_cons h
  obtain rfl := hasE_nil h
  obtain ⟨b, rfl, hb⟩ := has_brd h0
  obtain ⟨t, rfl, ht⟩ := has_ct h1
  obtain ⟨c, rfl, hc⟩ := has_cl h2
  obtain ⟨w, rfl, hw⟩ := has_intss h3
  exact ⟨⟨b, t, c, w⟩, by simp only [seF, List.append_nil, List.append_assoc, List.cons_append, List.nil_append], ⟨hb, ht, hc, hw⟩⟩
theorem lawIsSetup_C {C : CT} (hC : Closed Tryd.prog G1 md0 C) : ∀ xs, HasVs Tryd.prog 30 [86] xs → Ev C 11 xs (.bool true) := by
  rintro xs ⟨x0, r0, rfl, h0, rfl⟩
  obtain ⟨s, rfl, hs⟩ := hasV_se h0
  exact t11 hC s hs
theorem lawIsSetup : ∀ xs, HasVs Tryd.prog 30 [86] xs → Ev (CS Tryd.prog G1) 11 xs (.bool true) := lawIsSetup_C (CS_closed (by kernel_rfl))
end Go.Proofs.YtlddjlchgibdfaaDoor.X
