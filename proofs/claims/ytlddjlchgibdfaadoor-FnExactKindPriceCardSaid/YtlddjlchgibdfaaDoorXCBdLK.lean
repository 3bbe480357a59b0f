import Derived.Test.YtlddjlchgibdfaaDoorXCBdH
set_option maxHeartbeats 1000000
set_option maxRecDepth 8000
set_option linter.unusedSimpArgs false
set_option linter.unusedVariables false
namespace Go.Proofs.YtlddjlchgibdfaaDoor.X
open Go
theorem law4 {C : CT} (hC : Closed Tryd.prog G1 md0 C) : ∀ xs, HasVs Tryd.prog 24 [40, 3] xs → Ev C 4 xs (.bool true) := by
  rintro xs ⟨x, r, rfl, h0, x1, r1, rfl, h1, rfl⟩
  obtain ⟨b, rfl, hb⟩ := hasV_brd h0
  obtain ⟨k, rfl, _⟩ := hasV_int tk_3 h1
  exact t4 hC b k hb
theorem lawKindPrice : ∀ xs, HasVs Tryd.prog 24 [40, 3] xs → Ev (CS Tryd.prog G1) 4 xs (.bool true) := law4 (CS_closed (by kernel_rfl))
end Go.Proofs.YtlddjlchgibdfaaDoor.X
