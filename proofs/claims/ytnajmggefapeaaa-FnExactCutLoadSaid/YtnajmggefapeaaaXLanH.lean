import Derived.Test.YtnajmggefapeaaaXIsD
set_option maxHeartbeats 1000000
set_option linter.unusedSimpArgs false
set_option linter.unusedSectionVars false
set_option linter.unusedVariables false
namespace Go.Proofs.Ytnajmggefapeaaa.X
open Go
theorem has_lane {k : Nat} {xs : List AV} (h : Has Try.prog (k + 6) 88 xs) : ∃ p : Ln, xs = lnA p := by
  have h := has_struct sty_88 h
  obtain ⟨x1, r, rfl, _, h1, h⟩ := hasE_cons h
  obtain ⟨x2, r, rfl, _, h2, h⟩ := hasE_cons h
  obtain ⟨x3, r, rfl, _, h3, h⟩ := hasE_cons h
  obtain rfl := hasE_nil h
  obtain ⟨a, rfl, _⟩ := has_int tk_3 h1
  obtain ⟨b, rfl, _⟩ := has_int tk_3 h2
  obtain ⟨c, rfl, _⟩ := has_int tk_3 h3
  exact ⟨⟨a, b, c⟩, rfl⟩
theorem has_ints {k : Nat} {xs : List AV} (h : Has Try.prog (k + 2) 23 xs) : ∃ l, xs = [.sl (ints l)] ∧ l.length < 2 ^ 50 := by
  obtain ⟨es, rfl, _, hb, he⟩ := has_slice tk_23 h
  rw [bo_3] at hb
  obtain ⟨l, rfl⟩ := all_map (f := fun n : Int => [AV.int .i64 n]) (es := es) fun e hx => by
    obtain ⟨n, hn, _⟩ := has_int tk_3 (he e hx).2
    exact ⟨n, hn⟩
  simp only [reachBytes, List.length_map] at hb
  exact ⟨l, rfl, by omega⟩
theorem has_lanes {k : Nat} {xs : List AV} (h : Has Try.prog (k + 7) 22 xs) : ∃ l, xs = [.sl (lns l)] ∧ l.length < 2 ^ 50 := by
  obtain ⟨es, rfl, _, hb, he⟩ := has_slice tk_22 h
  rw [bo_88] at hb
  obtain ⟨l, rfl⟩ := all_map (f := lnA) (es := es) fun e hx => has_lane (he e hx).2
  simp only [reachBytes, List.length_map] at hb
  exact ⟨l, rfl, by omega⟩
end Go.Proofs.Ytnajmggefapeaaa.X
