import Derived.Test.YtnajmggefapeaaaXLanH
import Derived.Test.YtnajmggefapeaaaXCutD
set_option maxHeartbeats 1000000
set_option linter.unusedSimpArgs false
set_option linter.unusedSectionVars false
set_option linter.unusedVariables false
namespace Go.Proofs.Ytnajmggefapeaaa.X
open Go
theorem law8 {C : CT} (hC : Closed Try.prog G0 md0 C) : ∀ xs, HasVs Try.prog 14 [25, 3, 23] xs → Ev C 8 xs (.bool true) := by
  rintro xs ⟨x, r, rfl, h0, x1, r1, rfl, h1, x2, r2, rfl, h2, rfl⟩
  obtain ⟨ys, rfl, h⟩ := hasV_struct sty_25 h0
  obtain ⟨y1, r, rfl, _, k1, h⟩ := hasE_cons h
  obtain ⟨y2, r, rfl, _, k2, h⟩ := hasE_cons h
  obtain ⟨y3, r, rfl, _, k3, h⟩ := hasE_cons h
  obtain rfl := hasE_nil h
  obtain ⟨d, rfl, _⟩ := has_int tk_3 k1
  obtain ⟨ls, rfl, hl⟩ := has_lanes k2
  obtain ⟨st, rfl, hs⟩ := has_ints k3
  obtain ⟨n, rfl, _⟩ := hasV_int tk_3 h1
  unfold HasV at h2
  simp only [tk_slice tk_23] at h2
  obtain ⟨cut, hc, hcl⟩ := has_ints h2
  obtain rfl : x2 = .sl (ints cut) := by simpa using hc
  exact t8 hC ⟨d, ls, st⟩ n cut hl hs hcl
theorem lawCutLoad : ∀ xs, HasVs Try.prog 14 [25, 3, 23] xs → Ev (CS Try.prog G0) 8 xs (.bool true) := law8 (CS_closed (by kernel_rfl))
end Go.Proofs.Ytnajmggefapeaaa.X
