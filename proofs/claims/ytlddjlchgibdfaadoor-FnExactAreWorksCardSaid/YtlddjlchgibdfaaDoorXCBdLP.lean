import Derived.Test.YtlddjlchgibdfaaDoorXCBdH
import Derived.Test.YtlddjlchgibdfaaDoorXCBdQ
set_option maxHeartbeats 1000000
set_option maxRecDepth 8000
set_option linter.unusedSimpArgs false
set_option linter.unusedVariables false
namespace Go.Proofs.YtlddjlchgibdfaaDoor.X
open Go
theorem hasV_wk {k : Nat} {x : AV} (hv : HasV Tryd.prog (k + 20) 55 x) : ∃ w : Wk, x = .agg (wkF w) ∧ w.q.length < 2 ^ 50 := by
  obtain ⟨ys, rfl, h⟩ := hasV_struct sty_55 hv
  obtain ⟨x0, r, rfl, _, h0, h⟩ := hasE_cons h
  obtain ⟨x1, r, rfl, _, h1, h⟩ := hasE_cons h
  obtain ⟨x2, r, rfl, _, h2, h⟩ := hasE_cons h
  obtain ⟨x3, r, rfl, _, h3, h⟩ := hasE_cons h
  obtain rfl := hasE_nil h
  obtain ⟨a, rfl, _⟩ := has_int tk_3 h0
  obtain ⟨b, rfl, _⟩ := has_int tk_3 h1
  obtain ⟨c, rfl, _⟩ := has_int tk_3 h2
  obtain ⟨q, rfl, hq⟩ := has_ints h3
  exact ⟨⟨a, b, c, q⟩, rfl, hq⟩
theorem lawAreWorks_C {C : CT} (hC : Closed Tryd.prog G1 md0 C) : ∀ xs, HasVs Tryd.prog 24 [40, 55] xs → Ev C 5 xs (.bool true) := by
  rintro xs ⟨x0, r0, rfl, h0, x1, r1, rfl, h1, rfl⟩
  obtain ⟨b, rfl, hb⟩ := hasV_brd h0
  obtain ⟨w, rfl, hw⟩ := hasV_wk h1
  exact t5 hC b w hb hw
theorem lawAreWorks : ∀ xs, HasVs Tryd.prog 24 [40, 55] xs → Ev (CS Tryd.prog G1) 5 xs (.bool true) := lawAreWorks_C (CS_closed (by kernel_rfl))
theorem lawQueuePrice_C {C : CT} (hC : Closed Tryd.prog G1 md0 C) : ∀ xs, HasVs Tryd.prog 24 [40, 55] xs → Ev C 6 xs (.bool true) := by
  rintro xs ⟨x0, r0, rfl, h0, x1, r1, rfl, h1, rfl⟩
  obtain ⟨b, rfl, hb⟩ := hasV_brd h0
  obtain ⟨w, rfl, hw⟩ := hasV_wk h1
  exact t6 hC b w hb hw
theorem lawQueuePrice : ∀ xs, HasVs Tryd.prog 24 [40, 55] xs → Ev (CS Tryd.prog G1) 6 xs (.bool true) := lawQueuePrice_C (CS_closed (by kernel_rfl))
theorem lawTurnsUntil_C {C : CT} (hC : Closed Tryd.prog G1 md0 C) : ∀ xs, HasVs Tryd.prog 24 [40, 55, 3, 3] xs → Ev C 7 xs (.bool true) := by
  rintro xs ⟨x0, r0, rfl, h0, x1, r1, rfl, h1, x2, r2, rfl, h2, x3, r3, rfl, h3, rfl⟩
  obtain ⟨b, rfl, hb⟩ := hasV_brd h0
  obtain ⟨w, rfl, hw⟩ := hasV_wk h1
  obtain ⟨y0, rfl, _⟩ := hasV_int tk_3 h2
  obtain ⟨y1, rfl, _⟩ := hasV_int tk_3 h3
  exact t7 hC b w y0 y1 hb hw
theorem lawTurnsUntil : ∀ xs, HasVs Tryd.prog 24 [40, 55, 3, 3] xs → Ev (CS Tryd.prog G1) 7 xs (.bool true) := lawTurnsUntil_C (CS_closed (by kernel_rfl))
end Go.Proofs.YtlddjlchgibdfaaDoor.X
