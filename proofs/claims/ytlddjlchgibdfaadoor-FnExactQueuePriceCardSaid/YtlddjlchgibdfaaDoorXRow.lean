import Derived.Test.YtlddjlchgibdfaaDoorXLaw
import Derived.ChangeShapes
import Derived.ChangeOld
import Derived.Carry
import Derived.Below
set_option linter.unusedVariables false
set_option linter.unusedSimpArgs false
namespace Go.Proofs.YtlddjlchgibdfaaDoor.X
open Go Go.RowKit

/-- A value of type t. -/
def HasV (P : Program) (K : Nat) (t : TypeId) (x : AV) : Prop := match P.underlying t with
  | some (.struct _) => ∃ xs, x = .agg xs ∧ Has P K t xs
  | _ => Has P K t [x]
def HasVs (P : Program) (K : Nat) : List TypeId → List AV → Prop
  | [], xs => xs = []
  | t :: ts, xs => ∃ x r, xs = x :: r ∧ HasV P K t x ∧ HasVs P K ts r

theorem has_frz {P : Program} : ∀ (K : Nat), (∀ t xs, Has P K t xs → frzOkL xs = true) ∧ (∀ ts xs, HasE P K ts xs → frzOkL xs = true) := by
  have happ : ∀ xs ys : List AV, frzOkL xs = true → frzOkL ys = true → frzOkL (xs ++ ys) = true := by
    intro xs
    induction xs with
    | nil => intro ys _ h; exact h
    | cons x xs ih => intro ys h1 h2; simp only [frzOkL, Bool.and_eq_true, List.cons_append] at h1 ⊢; exact ⟨h1.1, ih ys h1.2 h2⟩
  intro K
  induction K with
  | zero => exact ⟨fun t xs h => by simp [Has] at h, fun ts xs h => by simp [HasE] at h⟩
  | succ K ih =>
    refine ⟨fun t xs h => ?_, fun ts xs h => ?_⟩
    · simp only [Has] at h
      split at h
      · obtain ⟨b, rfl⟩ := h; rfl
      · obtain ⟨n, rfl, _⟩ := h; rfl
      · obtain ⟨s, rfl, _⟩ := h; rfl
      · obtain ⟨es, rfl, _⟩ := h; rfl
      · exact ih.2 _ _ h
      · exact h.elim
    · cases ts with
      | nil => simp only [HasE] at h; subst h; rfl
      | cons t ts =>
        simp only [HasE] at h
        obtain ⟨x1, x2, rfl, _, h1, h2⟩ := h
        exact happ _ _ (ih.1 _ _ h1) (ih.2 _ _ h2)

section
variable {H : Type} {enc : TypeId × Value → H} {P : Program} {W W' : World} {base : Nat} {spare : Nat → Bool} {held : Bool}
theorem open_arg {K b0 : Nat} {t : TypeId} {v : Value} {d : DataW H} {p : List MemPlace} (hval : Value.okWide P W .any b0 t v) (h : DataW.Trod enc P W base spare held t v d p) (hok : okT P K t = true) (hw : (DataW.weights P t d).all (· ≤ reachBytes) = true) :
    ∃ x, T W (Old W) x v [] ∧ HasV P K t x ∧ frzOk x = true := by
  obtain ⟨fuel, hf⟩ := h
  obtain ⟨xs, h1, h2, h3⟩ := (open_both K).1 t fuel _ (d, p) hok hf hw
  have hz := (has_frz K).1 t xs h2
  have single : v.cells.toList = [v] → (∀ fs, P.underlying t ≠ some (.struct fs)) → ∃ x, T W (Old W) x v [] ∧ HasV P K t x ∧ frzOk x = true := by
    intro hc hs
    rw [hc] at h1
    cases xs with
    | nil => simp [TL] at h1
    | cons x xs =>
      simp only [TL] at h1
      obtain ⟨v', vs', F1, F2, e1, e2, _, hT, hr⟩ := h1
      simp only [List.cons.injEq] at e1
      obtain ⟨rfl, rfl⟩ := e1
      obtain ⟨rfl, rfl⟩ := List.append_eq_nil_iff.1 e2.symm
      cases xs with
      | cons y ys => simp [TL] at hr
      | nil =>
        refine ⟨x, hT, ?_, by simpa [frzOkL] using hz⟩
        unfold HasV
        split
        · rename_i fs e; exact absurd e (hs fs)
        · exact h2
  cases K with
  | zero => simp [okT] at hok
  | succ K =>
    simp only [okT] at hok
    cases ht : P.underlying t with
    | none => simp [ht] at hok
    | some u =>
      rw [ht] at hok
      cases u <;> simp only [Bool.false_eq_true] at hok
      case struct fs =>
        simp only [Value.okWide, ht] at hval
        obtain ⟨cs, rfl, _⟩ := hval
        refine ⟨.agg xs, ?_, ?_, by simpa [frzOk] using hz⟩
        · simp only [T]; exact ⟨cs, rfl, by simpa [Value.cells] using h1⟩
        · unfold HasV; rw [ht]; exact ⟨xs, rfl, h2⟩
      all_goals
        refine single ?_ (by simp [ht])
        simp only [Value.okWide, ht, Cell.okWide] at hval
        cases v <;> simp_all [Cell.ok, Value.cells]

theorem args_open {K b0 : Nat} : ∀ {ts : List TypeId} {vs : List Value} {ds : List (DataW H)} {p : List MemPlace}, DataW.TrodAll enc P W base spare held ts vs ds p → (∀ (j : Nat) t v, ts[j]? = some t → vs[j]? = some v → Value.okWide P W .any b0 t v) →
    ts.all (okT P K) = true → (DataW.weightsEach P ts ds).all (· ≤ reachBytes) = true → ∃ xs, TV W (Old W) xs vs [] ∧ HasVs P K ts xs ∧ frzOkL xs = true
  | [], [], [], p, h, hv, hok, hw => ⟨[], by simp [TV], rfl, rfl⟩
  | t :: ts, v :: vs, d :: ds, p, h, hv, hok, hw => by
    obtain ⟨p1, p2, h1, h2, rfl⟩ := h
    simp only [List.all_cons, Bool.and_eq_true] at hok
    simp only [DataW.weightsEach, List.all_append, Bool.and_eq_true] at hw
    obtain ⟨x, g1, g2, g3⟩ := open_arg (hv 0 t v rfl rfl) h1 hok.1 hw.1
    obtain ⟨xs, k1, k2, k3⟩ := args_open h2 (fun j t v ht hv' => hv (j + 1) t v (by simpa using ht) (by simpa using hv')) hok.2 hw.2
    refine ⟨x :: xs, ?_, ⟨x, xs, rfl, g2, k2⟩, by simp [frzOkL, g3, k3]⟩
    simp only [TV]; exact ⟨v, vs, [], [], rfl, rfl, g1, k1⟩
  | [], _ :: _, _, _, h, _, _, _ => by cases h
  | [], [], _ :: _, _, h, _, _, _ => by cases h
  | _ :: _, [], _, _, h, _, _, _ => by cases h
  | _ :: _, _ :: _, [], _, h, _, _, _ => by cases h

theorem args_back (hl : laidOutB P = true) : ∀ {ts : List TypeId} {vs : List Value} {ds : List (DataW H)} {p : List MemPlace}, (ts.all fun t => P.readableRec t && decide (t < P.types.size)) = true → DataW.TrodAll enc P W 0 (fun _ => true) true ts vs ds p → Below W.heap.size W W' →
    DataW.TrodAll enc P W' 0 (fun b => decide (b < W.heap.size)) true ts vs ds p
  | [], [], [], p, hr, h, hb => h
  | t :: ts, v :: vs, d :: ds, p, hr, h, hb => by
    obtain ⟨p1, p2, h1, h2, rfl⟩ := h
    simp only [List.all_cons, Bool.and_eq_true, decide_eq_true_eq] at hr
    refine ⟨p1, p2, Below.trod hl hr.1.1 hr.1.2 h1 hb ?_, args_back hl (by simpa using hr.2) h2 hb, rfl⟩
    obtain ⟨m, hm⟩ := h1
    exact DataW.trod_lt m _ _ _ hm
  | [], _ :: _, _, _, _, h, _ => by cases h
  | [], [], _ :: _, _, _, h, _ => by cases h
  | _ :: _, [], _, _, _, h, _ => by cases h
  | _ :: _, _ :: _, [], _, _, h, _ => by cases h
end

abbrev G0 : Glo := fun _ => none
theorem TV_SV {P : Program} {W : World} {hd : Nat → Value} {n : Nat} : ∀ (ts : List AV) (vs : List Value), frzOkL ts = true → TV W (Old W) ts vs [] → SV hd n W (Old W) ts vs := by
  intro ts
  induction ts with
  | nil => intro vs _ h; simp only [TV, SV] at h ⊢; exact h.1
  | cons x ts ih =>
    intro vs hf h
    simp only [frzOkL, Bool.and_eq_true] at hf
    simp only [TV] at h
    obtain ⟨v, vs', F1, F2, rfl, hF, hx, hxs⟩ := h
    obtain ⟨rfl, rfl⟩ := List.append_eq_nil_iff.1 hF.symm
    simp only [SV]
    exact ⟨v, vs', rfl, T.toS x v hf.1 hx, ih vs' hf.2 hxs⟩
/-- A law's call. -/
theorem law_run {P : Program} {f : FuncId} {ts : List AV} {vals : List Value} {W : World} (hEv : Ev (CS P G0) f ts (.bool true)) (hargs : TV W (Old W) ts vals []) (hok : frzOkL ts = true) :
    Calls P f vals.toArray W fun e W' => e = .returned (.bool true) ∧ Below W.heap.size W W' := by
  obtain ⟨K0, ⟨_, hcall⟩, _, hres⟩ := hEv
  have hr0 : HR G0 (fun b => W.heap.size ≤ b) (Old W) [] 0 (fun _ => undef) (fun _ => []) W :=
    ⟨fun id o ho => by simp [hget] at ho, fun b hb => ⟨hb, fun id o ho => by simp [hget] at ho⟩, fun id o ho => by simp [hget] at ho, fun id o id' o' ho => by simp [hget] at ho, fun id o ho => by simp [hget] at ho, fun id o ho => by simp [hget] at ho, fun b hb => hb, fun g cs hg => by cases hg⟩
  refine (hcall _ _ _ _ W vals hr0 (TV_SV (P := P) ts vals hok hargs)).mono ?_
  rintro e W' ⟨v, av, h', n', I', hd', Fp', rfl, hK0, hr', hv, hE, hn⟩
  obtain ⟨r0, h2, hcon, hnil⟩ := hres av h' n' hK0
  obtain ⟨F, hT, _⟩ := (conR_sound 8).1 h' hr' av r0 h2 v hv hcon
  have hT2 := T.nilTo r0 _ v F hT hnil
  simp only [T] at hT2
  refine ⟨by rw [hT2.1], hE.keep.os, hE.keep.tape, hE.keep.output, hE.keep.size, fun b hb => (hE.im b hb).2⟩
end Go.Proofs.YtlddjlchgibdfaaDoor.X
