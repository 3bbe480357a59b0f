import Derived.Test.YtlddjlchgibdfaaDoorXRow
set_option linter.unusedVariables false
set_option linter.unusedSimpArgs false
namespace Go.Proofs.YtlddjlchgibdfaaDoor.X
open Go Go.RowKit
/-- A law's call, where some of the program's variables hold known cells. -/
theorem law_runG {P : Program} {G : Glo} {f : FuncId} {ts : List AV} {vals : List Value} {W : World} (hEv : Ev (CS P G) f ts (.bool true)) (hargs : TV W (Old W) ts vals []) (hok : frzOkL ts = true)
    (hG : ∀ g cs, G g = some cs → T W (Old W) (.pf cs) (.pointer (some ⟨g, 0, none⟩)) []) :
    Calls P f vals.toArray W fun e W' => e = .returned (.bool true) ∧ Below W.heap.size W W' := by
  obtain ⟨K0, ⟨_, hcall⟩, _, hres⟩ := hEv
  have hr0 : HR G (fun b => W.heap.size ≤ b) (Old W) [] 0 (fun _ => undef) (fun _ => []) W :=
    ⟨fun id o ho => by simp [hget] at ho, fun b hb => ⟨hb, fun id o ho => by simp [hget] at ho⟩, fun id o ho => by simp [hget] at ho, fun id o id' o' ho => by simp [hget] at ho, fun id o ho => by simp [hget] at ho, fun id o ho => by simp [hget] at ho, fun b hb => hb, hG⟩
  refine (hcall _ _ _ _ W vals hr0 (TV_SV (P := P) ts vals hok hargs)).mono ?_
  rintro e W' ⟨v, av, h', n', I', hd', Fp', rfl, hK0, hr', hv, hE, hn⟩
  obtain ⟨r0, h2, hcon, hnil⟩ := hres av h' n' hK0
  obtain ⟨F, hT, _⟩ := (conR_sound 8).1 h' hr' av r0 h2 v hv hcon
  have hT2 := T.nilTo r0 _ v F hT hnil
  simp only [T] at hT2
  refine ⟨by rw [hT2.1], hE.keep.os, hE.keep.tape, hE.keep.output, hE.keep.size, fun b hb => (hE.im b hb).2⟩
/-- Scalar cells are as they are written. -/
def scCells : List AV → List Value
  | [] => []
  | .int k n :: r => .int k n :: scCells r
  | _ :: r => scCells r
def allInt : List AV → Bool
  | [] => true
  | .int _ _ :: r => allInt r
  | _ :: _ => false
theorem scCells_int : ∀ {cs : List AV} {v : Value}, v ∈ scCells cs → ∃ k n, v = .int k n
  | [], v, h => by simp [scCells] at h
  | x :: r, v, h => by
    cases x <;> simp only [scCells, List.mem_cons] at h
    case int k n =>
      rcases h with rfl | h
      · exact ⟨k, n, rfl⟩
      · exact scCells_int h
    all_goals exact scCells_int h
theorem cell_row {w : World} {b off : Nat} {cs : Array Value} {t : TypeId} {fr : Nat × Nat} (h : w.heap[b]? = some (.cells cs t fr)) : w.cell? ⟨b, off, none⟩ = cs[off]? := by
  simp only [World.cell?, h]
  rfl
theorem no_iface {w : World} {b off : Nat} {cs : List AV} {t : TypeId} {fr : Nat × Nat} {u : TypeId} {v : Value} (h : w.heap[b]? = some (.cells (scCells cs).toArray t fr)) (hc : w.cell? ⟨b, off, none⟩ = some (.iface u v)) : False := by
  rw [cell_row h, List.getElem?_toArray] at hc
  obtain ⟨k, n, e⟩ := scCells_int (List.mem_of_getElem? hc)
  cases e
theorem TL_ints {w : World} {I : Nat → Prop} : ∀ (cs : List AV), allInt cs = true → TL w I cs (scCells cs) []
  | [], _ => by simp [TL, scCells]
  | .int k n :: r, h => by
    simp only [TL, scCells]
    exact ⟨.int k n, scCells r, [], [], rfl, rfl, rfl, by simp [T], TL_ints r h⟩
theorem glo_of_var {P : Program} {W : World} {n : String} {g : Nat} {cs : List AV} (hg : P.globalNamed n = some g) (hi : allInt cs = true) (h : W.var? P n = some (scCells cs).toArray) : T W (Old W) (.pf cs) (.pointer (some ⟨g, 0, none⟩)) [] := by
  simp only [T]
  have hlt : g < W.heap.size := by
    simp only [World.var?, hg, Option.bind_some] at h
    rcases Nat.lt_or_ge g W.heap.size with hl | hl
    · exact hl
    · rw [Array.getElem?_eq_none hl] at h; cases h
  refine ⟨trivial, g, 0, scCells cs, rfl, hlt, fun j u hu => ?_, TL_ints cs hi⟩
  have := World.var?_cell hg h j
  rw [Nat.zero_add, this]
  simpa using hu
theorem int_of_trod {H : Type} {enc : TypeId × Value → H} {P : Program} {w : World} {base : Nat} {sp : Nat → Bool} {held : Bool} {fuel : Nat} {t : TypeId} {k : IntKind} {c : Value} {y : DataW H × List MemPlace}
    (ht : P.underlying t = some (.int k)) (h : DataW.trod enc P w base sp held fuel t [c] = some y) : ∃ n, c = .int k n ∧ y = (.lit (.int k n), []) := by
  cases fuel with
  | zero => simp [DataW.trod] at h
  | succ fuel =>
    cases c <;> simp [DataW.trod, ht] at h
    rename_i k' n
    obtain ⟨⟨rfl, _⟩, rfl⟩ := h
    exact ⟨n, rfl, rfl⟩
theorem weights_args {H : Type} {enc : TypeId × Value → H} {P : Program} {W : World} {base : Nat} {spare : Nat → Bool} {held : Bool} {us : List TypeId} {es : List (DataW H)} {f : Nat → Bool} : ∀ {ts : List TypeId} {vs : List Value} {ds : List (DataW H)} {p : List MemPlace}, DataW.TrodAll enc P W base spare held ts vs ds p →
    (DataW.weightsEach P (ts ++ us) (ds ++ es)).all f = true → (DataW.weightsEach P ts ds).all f = true
  | [], [], [], _, _, _ => by simp [DataW.weightsEach]
  | t :: ts, v :: vs, d :: ds, p, h, hw => by
    obtain ⟨p1, p2, h1, h2, rfl⟩ := h
    simp only [List.cons_append, DataW.weightsEach, List.all_append, Bool.and_eq_true] at hw ⊢
    exact ⟨hw.1, weights_args h2 hw.2⟩
  | [], _ :: _, _, _, h, _ => by cases h
  | [], [], _ :: _, _, h, _ => by cases h
  | _ :: _, [], _, _, h, _ => by cases h
  | _ :: _, _ :: _, [], _, h, _ => by cases h
end Go.Proofs.YtlddjlchgibdfaaDoor.X
