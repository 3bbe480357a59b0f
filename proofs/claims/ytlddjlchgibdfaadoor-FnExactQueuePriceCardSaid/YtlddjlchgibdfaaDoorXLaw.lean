import Derived.Test.YtlddjlchgibdfaaDoorXUse
import Derived.DataReads
import Derived.ChangeArms
import GoSem.ClaimJoined
set_option linter.unusedVariables false
set_option linter.unusedSimpArgs false
namespace Go.Proofs.YtlddjlchgibdfaaDoor.X
open Go

/-! ### What an argument can be -/
mutual
/-- The cells of a value of type t. -/
def Has (P : Program) : Nat → TypeId → List AV → Prop
  | 0, _, _ => False
  | k + 1, t, xs => match P.underlying t with
    | some .bool => ∃ b, xs = [.bool b]
    | some (.int kd) => ∃ n, xs = [.int kd n] ∧ (Lit.int kd n).wf = true
    | some .string => ∃ s, xs = [.str s] ∧ s.size ≤ reachBytes
    | some (.slice e) => ∃ es, xs = [.sl es] ∧ es.length ≤ maxLen ∧ es.length * P.bytesOf e ≤ reachBytes ∧ ∀ el ∈ es, el.length = P.cellsOf e ∧ Has P k e el
    | some (.struct fs) => HasE P k (fs.toList.map (·.type)) xs
    | _ => False
def HasE (P : Program) : Nat → List TypeId → List AV → Prop
  | 0, _, _ => False
  | _, [], xs => xs = []
  | k + 1, t :: ts, xs => ∃ x1 x2, xs = x1 ++ x2 ∧ x1.length = P.cellsOf t ∧ Has P k t x1 ∧ HasE P k ts x2
end
mutual
def okT (P : Program) : Nat → TypeId → Bool
  | 0, _ => false
  | k + 1, t => match P.underlying t with
    | some .bool | some (.int _) | some .string => P.cellsOf t == 1
    | some (.slice e) => P.cellsOf t == 1 && decide (0 < P.cellsOf e) && okT P k e
    | some (.struct fs) => okE P k 0 (P.cellsOf t) fs.toList
    | _ => false
def okE (P : Program) : Nat → Nat → Nat → List Field → Bool
  | 0, _, _, _ => false
  | _, off, total, [] => off == total
  | k + 1, off, total, f :: fs => f.offset == off && okT P k f.type && okE P k (off + P.cellsOf f.type) total fs
end

theorem At.append {w : World} {b o : Nat} {v1 v2 : List Value} (h1 : At w b o v1) (h2 : At w b (o + v1.length) v2) : At w b o (v1 ++ v2) := by
  intro j u hu
  rcases Nat.lt_or_ge j v1.length with hj | hj
  · rw [List.getElem?_append_left hj] at hu; exact h1 j u hu
  · rw [List.getElem?_append_right hj] at hu
    have := h2 _ u hu
    rwa [show o + v1.length + (j - v1.length) = o + j by omega] at this

section
variable {H : Type} {enc : TypeId × Value → H} {P : Program} {w : World} {base : Nat} {spare : Nat → Bool} {held : Bool}
abbrev Old (w : World) : Nat → Prop := fun b => b < w.heap.size

theorem row_open {k : Nat} {e : TypeId} (hA : ∀ (fuel : Nat) (cs : List Value) (d : DataW H × List MemPlace), DataW.trod enc P w base spare held fuel e cs = some d → (DataW.weights P e d.1).all (· ≤ reachBytes) = true → ∃ xs, TL w (Old w) xs cs [] ∧ Has P k e xs ∧ xs.length = P.cellsOf e)
    {fuel : Nat} {a : Addr} (hsz : 0 < P.cellsOf e) : ∀ (s : Nat) (r : List (DataW H × List MemPlace)),
    (∀ i, i < r.length → (w.cells? base (a.add ((s + i) * P.cellsOf e)) (P.cellsOf e)).bind (DataW.trod enc P w base spare held fuel e) = r[i]?) → (DataW.weightsAll P e (r.map (·.1))).all (· ≤ reachBytes) = true → (a.spot = none ∨ s = 0) →
    ∃ es vs, TLL w (Old w) es vs [] ∧ Each (P.cellsOf e) es ∧ (∀ el ∈ es, el.length = P.cellsOf e ∧ Has P k e el) ∧ es.length = r.length ∧ At w a.block (a.off + s * P.cellsOf e) vs ∧ (r ≠ [] → a.block < w.heap.size ∧ a.spot = none)
  | s, [], h, hw, _ => ⟨[], [], by simp [TLL], trivial, by simp, rfl, by simp [At], by simp⟩
  | s, (d, ps) :: r, h, hw, hsp => by
    simp only [List.map_cons, DataW.weightsAll, List.all_append, Bool.and_eq_true] at hw
    have h0 := h 0 (by simp)
    simp only [Nat.add_zero, List.getElem?_cons_zero] at h0
    obtain ⟨cs, hc1, hc2⟩ := Option.bind_eq_some_iff.1 h0
    obtain ⟨hb, hl, hcell⟩ := World.cells?_some hc1
    have hspot : a.spot = none ∧ a.block < w.heap.size := by
      have := hcell 0 hsz
      have hne : cs[0]? ≠ none := by rw [Ne, List.getElem?_eq_none_iff]; omega
      rw [← this] at hne
      have hbl : ((a.add (s * P.cellsOf e)).add 0).block = a.block := by unfold Addr.add; split <;> split <;> rfl
      refine ⟨?_, ?_⟩
      · rcases hsp with hsp | rfl
        · exact hsp
        · cases hs : a.spot with
          | none => rfl
          | some q =>
            exfalso; apply hne
            simp only [Nat.zero_mul, Addr.add, if_true]
            unfold World.cell?
            split
            · simp [hs]
            · rfl
      · rcases Nat.lt_or_ge a.block w.heap.size with g | g
        · exact g
        · exfalso; apply hne
          unfold World.cell?
          rw [hbl, Array.getElem?_eq_none g]
    obtain ⟨hspn, hlt⟩ := hspot
    obtain ⟨el, g1, g2, g3⟩ := hA fuel cs (d, ps) hc2 hw.1
    obtain ⟨es, vs, k1, k2, k3, k4, k5, _⟩ := row_open hA (fuel := fuel) (a := a) hsz (s + 1) r (fun i hi => by
      have := h (i + 1) (by simpa using hi)
      rw [List.getElem?_cons_succ] at this
      rw [← this, show s + 1 + i = s + (i + 1) by omega]) hw.2 (.inl hspn)
    have hadd : ∀ j, (a.add (s * P.cellsOf e)).add j = ⟨a.block, a.off + s * P.cellsOf e + j, none⟩ := by
      intro j
      obtain ⟨ab, ao, as⟩ := a
      simp only at hspn
      subst hspn
      rw [addr_add, addr_add]
    have hat : At w a.block (a.off + s * P.cellsOf e) cs := by
      intro j u hu
      have hj : j < P.cellsOf e := by rw [← hl]; exact (List.getElem?_eq_some_iff.1 hu).1
      have := hcell j hj
      rw [hadd] at this
      rw [this, hu]
    refine ⟨el :: es, cs ++ vs, ?_, ⟨g3, k2⟩, ?_, by simp [k4], hat.append ?_, fun _ => ⟨hlt, hspn⟩⟩
    · simp only [TLL]; exact ⟨cs, vs, [], [], rfl, rfl, g1, k1⟩
    · intro x hx
      rcases List.mem_cons.1 hx with rfl | hx
      · exact ⟨g3, g2⟩
      · exact k3 x hx
    · rw [hl, show a.off + s * P.cellsOf e + P.cellsOf e = a.off + (s + 1) * P.cellsOf e by rw [Nat.add_mul]; omega]; exact k5

theorem TL_one {w : World} {I : Nat → Prop} {x : AV} {v : Value} (h1 : v.oneCell' = true) (h : T w I x v []) : TL w I [x] [v] [] := by
  simp only [TL]; exact ⟨v, [], [], [], rfl, rfl, h1, h, rfl, rfl⟩

theorem open_both : ∀ (K : Nat), (∀ (t : TypeId) (fuel : Nat) (cs : List Value) (d : DataW H × List MemPlace), okT P K t = true → DataW.trod enc P w base spare held fuel t cs = some d → (DataW.weights P t d.1).all (· ≤ reachBytes) = true → ∃ xs, TL w (Old w) xs cs [] ∧ Has P K t xs ∧ xs.length = P.cellsOf t) ∧
    (∀ (fs : List Field) (off total fuel : Nat) (cs : List Value) (r : List (DataW H × List MemPlace)), okE P K off total fs = true → cs.length = total → r.length = fs.length → (∀ (i : Nat) (f : Field), fs[i]? = some f → DataW.trod enc P w base spare held fuel f.type ((cs.drop f.offset).take (P.cellsOf f.type)) = r[i]?) → (DataW.weightsEach P (fs.map (·.type)) (r.map (·.1))).all (· ≤ reachBytes) = true →
      ∃ xs, TL w (Old w) xs (cs.drop off) [] ∧ HasE P K (fs.map (·.type)) xs ∧ off + xs.length = total) := by
  intro K
  induction K with
  | zero => exact ⟨fun t fuel cs d h => by simp [okT] at h, fun fs off total fuel cs r h => by simp [okE] at h⟩
  | succ K ih =>
    obtain ⟨ihA, ihB⟩ := ih
    refine ⟨fun t fuel cs d hok h hw => ?_, fun fs off total fuel cs r hok hl hrl h hw => ?_⟩
    · simp only [okT] at hok
      simp only [Has]
      cases ht : P.underlying t with
      | none => simp [ht] at hok
      | some u =>
        rw [ht] at hok
        cases u <;> simp only [Bool.false_eq_true] at hok
        case bool =>
          obtain ⟨b, rfl, rfl⟩ := DataW.trod_bool ht h
          exact ⟨[.bool b], TL_one rfl (by simp [T]), ⟨b, rfl⟩, by simpa using (beq_iff_eq.1 hok).symm⟩
        case int kd =>
          obtain ⟨n, rfl, rfl, hwf⟩ := DataW.trod_int ht h
          exact ⟨[.int kd n], TL_one rfl (by simp [T]), ⟨n, rfl, hwf⟩, by simpa using (beq_iff_eq.1 hok).symm⟩
        case string =>
          obtain ⟨s, rfl, rfl, hs⟩ := DataW.trod_string ht h
          refine ⟨[.str s], TL_one rfl (by simp [T]), ⟨s, rfl, ?_⟩, by simpa using (beq_iff_eq.1 hok).symm⟩
          simpa [DataW.weights] using hw
        case slice e =>
          simp only [Bool.and_eq_true, beq_iff_eq, decide_eq_true_eq] at hok
          obtain ⟨⟨h1, h2⟩, h3⟩ := hok
          rcases DataW.trod_slice ht h with ⟨rfl, rfl⟩ | ⟨a, len, cap, elems, rest, n, rfl, rfl, rfl, hba, hlc, hcm, hel, hread, _, _⟩
          · exact ⟨[.sl []], TL_one rfl (by simp [T]), ⟨[], rfl, by simp, by simp, by simp⟩, by simpa using h1.symm⟩
          · simp only [DataW.weights, ht, List.all_cons, List.all_append, Bool.and_eq_true, decide_eq_true_eq, List.length_map] at hw
            obtain ⟨es, vs, k1, k2, k3, k4, k5, k6⟩ := row_open (k := K) (e := e) (fun fuel cs d hd hwd => ihA e fuel cs d h3 hd hwd) (fuel := n) (a := a) h2 0 elems (fun i hi => by rw [Nat.zero_add]; exact hread i (by omega)) hw.2.1 (.inr rfl)
            refine ⟨[.sl es], TL_one rfl ?_, ⟨es, rfl, by omega, ?_, k3⟩, by simpa using h1.symm⟩
            · simp only [T]
              refine ⟨trivial, some a, cap, by rw [k4, hel], by omega, by omega, ?_⟩
              cases elems with
              | nil => exact .inl (List.eq_nil_of_length_eq_zero (by simpa using k4))
              | cons x xs =>
                right
                obtain ⟨hlt, hsp⟩ := k6 (by simp)
                obtain ⟨ab, ao, as⟩ := a
                simp only at hsp hlt k5
                subst hsp
                exact ⟨ab, ao, _, vs, rfl, hlt, k2, by simpa using k5, k1⟩
            · rw [k4]
              exact Nat.le_trans (Nat.mul_le_mul_right _ (Nat.le_add_right _ _)) hw.1
        case struct fs =>
          obtain ⟨xs, n, rfl, rfl, hl, hxl, hread⟩ := DataW.trod_struct ht h
          simp only [DataW.weights, ht] at hw
          obtain ⟨ys, g1, g2, g3⟩ := ihB fs.toList 0 (P.cellsOf t) n cs xs hok hl (by simpa using hxl) (fun i f hf => hread i f (by simpa using hf)) hw
          exact ⟨ys, by simpa using g1, g2, by simpa using g3⟩
    · cases fs with
      | nil =>
        simp only [okE, beq_iff_eq] at hok
        subst hok
        refine ⟨[], ?_, rfl, rfl⟩
        rw [List.drop_eq_nil_of_le (by omega)]
        simp [TL]
      | cons f fs =>
        cases r with
        | nil => simp at hrl
        | cons x r =>
          simp only [okE, Bool.and_eq_true, beq_iff_eq] at hok
          obtain ⟨⟨h1, h2⟩, h3⟩ := hok
          simp only [List.map_cons, DataW.weightsEach, List.all_append, Bool.and_eq_true] at hw
          have hx := h 0 f rfl
          simp only [List.getElem?_cons_zero] at hx
          rw [h1] at hx
          obtain ⟨y1, g1, g2, g3⟩ := ihA f.type fuel _ x h2 hx hw.1
          obtain ⟨y2, k1, k2, k3⟩ := ihB fs (off + P.cellsOf f.type) total fuel cs r h3 hl (by simpa using hrl) (fun i f' hf' => by
            have := h (i + 1) f' (by simpa using hf')
            simpa using this) hw.2
          refine ⟨y1 ++ y2, ?_, ?_, ?_⟩
          · have e : cs.drop off = (cs.drop off).take (P.cellsOf f.type) ++ cs.drop (off + P.cellsOf f.type) := by
              rw [← List.drop_drop, List.take_append_drop]
            rw [e]
            exact TL.append g1 k1
          · simp only [List.map_cons, HasE]
            exact ⟨y1, y2, rfl, g3, g2, k2⟩
          · simp only [List.length_append]; omega
end
end Go.Proofs.YtlddjlchgibdfaaDoor.X
