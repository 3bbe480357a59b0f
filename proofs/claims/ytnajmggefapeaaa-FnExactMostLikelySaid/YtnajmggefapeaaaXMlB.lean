import Derived.Test.YtnajmggefapeaaaXClF
import Derived.Test.YtnajmggefapeaaaXMlA
set_option maxHeartbeats 1000000
set_option linter.unusedSimpArgs false
set_option linter.unusedVariables false
namespace Go.Proofs.Ytnajmggefapeaaa.X
open Go
theorem law6 {C : CT} (hC : Closed Try.prog G0 md0 C) : ∀ xs, HasVs Try.prog 14 [36, 3, 3] xs → Ev C 6 xs (.bool true) := by
  rintro xs ⟨x, r, rfl, h0, x1, r1, rfl, h1, x2, r2, rfl, h2, rfl⟩
  obtain ⟨W, rfl, hW, hr⟩ := has_clim h0
  obtain ⟨w, rfl, _⟩ := hasV_int tk_3 h1
  obtain ⟨n, rfl, _⟩ := hasV_int tk_3 h2
  exact t6 hC W w n hW hr
theorem lawMostLikely : ∀ xs, HasVs Try.prog 14 [36, 3, 3] xs → Ev (CS Try.prog G0) 6 xs (.bool true) := law6 (CS_closed (by kernel_rfl))
end Go.Proofs.Ytnajmggefapeaaa.X
