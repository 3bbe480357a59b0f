import Derived.Test.YtnajmggefapeaaaXClD
set_option maxHeartbeats 1000000
set_option linter.unusedSimpArgs false
set_option linter.unusedVariables false
namespace Go.Proofs.Ytnajmggefapeaaa.X
open Go
theorem has_ints {k : Nat} {xs : List AV} (h : Has Try.prog (k + 2) 23 xs) : ∃ l, xs = [.sl (ints l)] ∧ l.length < 2 ^ 50 := by
  obtain ⟨es, rfl, _, hb, he⟩ := has_slice tk_23 h
  rw [bo_3] at hb
  obtain ⟨l, rfl⟩ := all_map (f := fun n : Int => [AV.int .i64 n]) (es := es) fun e hx => by
    obtain ⟨n, hn, _⟩ := has_int tk_3 (he e hx).2
    exact ⟨n, hn⟩
  simp only [reachBytes, List.length_map] at hb
  exact ⟨l, rfl, by omega⟩
theorem has_intss {k : Nat} {xs : List AV} (h : Has Try.prog (k + 3) 34 xs) : ∃ W, xs = [.sl (intss W)] ∧ W.length < 2 ^ 50 ∧ ∀ r ∈ W, r.length < 2 ^ 50 := by
  obtain ⟨es, rfl, _, hb, he⟩ := has_slice tk_34 h
  rw [bo_23] at hb
  obtain ⟨W, rfl⟩ := all_map (f := fun r : { r : List Int // r.length < 2 ^ 50 } => [AV.sl (ints r.1)]) (es := es) fun e hx => by
    obtain ⟨l, hl, hn⟩ := has_ints (he e hx).2
    exact ⟨⟨l, hn⟩, hl⟩
  simp only [reachBytes, List.length_map] at hb
  refine ⟨W.map (·.1), by simp only [intss, List.map_map]; rfl, by simp; omega, fun r hr => ?_⟩
  obtain ⟨x, _, rfl⟩ := List.mem_map.1 hr
  exact x.2
theorem has_clim {x : AV} (h0 : HasV Try.prog 14 36 x) : ∃ W, x = clA W ∧ W.length < 2 ^ 50 ∧ ∀ r ∈ W, r.length < 2 ^ 50 := by
  obtain ⟨ys, rfl, h⟩ := hasV_struct sty_36 h0
  obtain ⟨x1, r, rfl, _, h1, h⟩ := hasE_cons h
  obtain rfl := hasE_nil h
  obtain ⟨W, rfl, hW, hr⟩ := has_intss h1
  exact ⟨W, rfl, hW, hr⟩
end Go.Proofs.Ytnajmggefapeaaa.X
