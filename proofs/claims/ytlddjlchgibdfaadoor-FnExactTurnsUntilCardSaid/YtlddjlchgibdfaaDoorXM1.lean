/- A part of the proof: lemmas on the machine or on the functions that the law reaches. No condition of its own. -/
import Derived.Tactics
import Derived.Laws.AppendOwn
import Derived.Laws.MakeOwn
import Derived.Below
import Derived.Laws.Tables
import Derived.Laws.CopyRow
import Derived.Laws.Cells
import Derived.Deep.AppendSrc
import Derived.Great.BuildSlice
import Derived.Calls
set_option linter.unusedVariables false
set_option linter.unusedSimpArgs false
namespace Go.Proofs.YtlddjlchgibdfaaDoor.X
open Go

/-- Abstract values. -/
inductive AV where
  | any
  | con (v : Value)
  | int (k : IntKind) (n : Int)
  | bool (b : Bool)
  | str (s : ByteArray)
  | nil
  | sl (es : List (List AV))
  | pf (cs : List AV)
  | ow (sz : Nat) (es : List (List AV))
  | op (cs : List AV)
  | ref (id : Nat) (sub : Option (Nat × Nat × Nat)) (sz off len : Nat)
  | ptr (id : Nat) (sub : Option (Nat × Nat × Nat)) (sz i c : Nat)
  | fn (f : FuncId) (caps : List AV)
  | agg (cs : List AV)
  | tup (vs : List AV)
  deriving Inhabited

/-- The cells from (b, o) on. -/
def At (w : World) (b o : Nat) (vs : List Value) : Prop := ∀ j u, vs[j]? = some u → w.cell? ⟨b, o + j, none⟩ = some u

theorem At.frame {w w' : World} {b o : Nat} {vs : List Value} (h : At w b o vs) (hb : w'.heap[b]? = w.heap[b]?) : At w' b o vs := fun j u hu =>
  (World.cell?_of_block (a := ⟨b, o + j, none⟩) hb).trans (h j u hu)

def Each (sz : Nat) : List (List AV) → Prop
  | [] => True
  | e :: es => e.length = sz ∧ Each sz es

mutual
/-- A tree of values: what is frozen lies in blocks that I tells; F: the blocks that are the tree's own. -/
def T (w : World) (I : Nat → Prop) : AV → Value → List Nat → Prop
  | .any, _, F => F = []
  | .con u, v, F => v = u ∧ F = []
  | .int k n, v, F => v = .int k n ∧ F = []
  | .bool b, v, F => v = .bool b ∧ F = []
  | .str s, v, F => v = .string s ∧ F = []
  | .nil, v, F => v = .slice none 0 0 ∧ F = []
  | .sl es, v, F => F = [] ∧ ∃ A c, v = .slice A es.length c ∧ es.length ≤ c ∧ es.length ≤ maxLen ∧
      (es = [] ∨ ∃ b o sz vs, A = some ⟨b, o, none⟩ ∧ I b ∧ Each sz es ∧ At w b o vs ∧ TLL w I es vs [])
  | .pf cs, v, F => F = [] ∧ ∃ b o vs, v = .pointer (some ⟨b, o, none⟩) ∧ I b ∧ At w b o vs ∧ TL w I cs vs []
  | .ow sz es, v, F => (es = [] ∧ (∃ A, v = .slice A 0 0) ∧ F = []) ∨
      ∃ b o c cur e vs Fs, v = .slice (some ⟨b, o, none⟩) es.length c ∧ w.heap[b]? = some (.cells cur e (0, 0)) ∧ es.length ≤ c ∧ c ≤ maxLen ∧ o + c * sz ≤ cur.size ∧
        Each sz es ∧ (cur.toList.drop o).take (es.length * sz) = vs ∧ TLL w I es vs Fs ∧ F = b :: Fs
  | .op cs, v, F => ∃ b cur e Fs, v = .pointer (some ⟨b, 0, none⟩) ∧ w.heap[b]? = some (.cells cur e (0, 0)) ∧ TL w I cs cur.toList Fs ∧ F = b :: Fs
  | .fn f caps, v, F => ∃ vs, v = .func (.func f) #[] vs ∧ TL w I caps vs.toList F
  | .agg cs, v, F => ∃ vs, v = .agg vs ∧ TL w I cs vs.toList F
  | .tup xs, v, F => ∃ vs, v = .tuple vs ∧ TV w I xs vs.toList F
  | .ref .., _, _ => False
  | .ptr .., _, _ => False
def TL (w : World) (I : Nat → Prop) : List AV → List Value → List Nat → Prop
  | [], vs, F => vs = [] ∧ F = []
  | x :: xs, vs, F => ∃ v vs' F1 F2, vs = v :: vs' ∧ F = F1 ++ F2 ∧ v.oneCell' = true ∧ T w I x v F1 ∧ TL w I xs vs' F2
def TV (w : World) (I : Nat → Prop) : List AV → List Value → List Nat → Prop
  | [], vs, F => vs = [] ∧ F = []
  | x :: xs, vs, F => ∃ v vs' F1 F2, vs = v :: vs' ∧ F = F1 ++ F2 ∧ T w I x v F1 ∧ TV w I xs vs' F2
def TLL (w : World) (I : Nat → Prop) : List (List AV) → List Value → List Nat → Prop
  | [], vs, F => vs = [] ∧ F = []
  | e :: es, vs, F => ∃ v1 v2 F1 F2, vs = v1 ++ v2 ∧ F = F1 ++ F2 ∧ TL w I e v1 F1 ∧ TLL w I es v2 F2
end

section frame
variable {w w' : World} {I I' : Nat → Prop}
mutual
theorem T.frame (hI : ∀ b, I b → I' b ∧ w'.heap[b]? = w.heap[b]?) : ∀ (x : AV) (v : Value) (F : List Nat), T w I x v F → (∀ b ∈ F, w'.heap[b]? = w.heap[b]?) → T w' I' x v F
  | .any, v, F, h, _ => by simpa [T] using h
  | .con u, v, F, h, _ => by simpa [T] using h
  | .int k n, v, F, h, _ => by simpa [T] using h
  | .bool b, v, F, h, _ => by simpa [T] using h
  | .str s, v, F, h, _ => by simpa [T] using h
  | .nil, v, F, h, _ => by simpa [T] using h
  | .sl es, v, F, h, _ => by
    simp only [T] at h ⊢
    obtain ⟨hF, A, c, hv, hc, hm, h⟩ := h
    refine ⟨hF, A, c, hv, hc, hm, h.imp id ?_⟩
    rintro ⟨b, o, sz, vs, hA, hb, he, hat, ht⟩
    exact ⟨b, o, sz, vs, hA, (hI b hb).1, he, hat.frame (hI b hb).2, TLL.frame hI es vs [] ht (by simp)⟩
  | .pf cs, v, F, h, _ => by
    simp only [T] at h ⊢
    obtain ⟨hF, b, o, vs, hv, hb, hat, ht⟩ := h
    exact ⟨hF, b, o, vs, hv, (hI b hb).1, hat.frame (hI b hb).2, TL.frame hI cs vs [] ht (by simp)⟩
  | .ow sz es, v, F, h, hF => by
    simp only [T] at h ⊢
    refine h.imp id ?_
    rintro ⟨b, o, c, cur, e, vs, Fs, hv, hh, hc, hm, ho, he, hvs, ht, rfl⟩
    exact ⟨b, o, c, cur, e, vs, Fs, hv, (hF b (by simp)).trans hh, hc, hm, ho, he, hvs, TLL.frame hI es vs Fs ht (fun b hb => hF b (by simp [hb])), rfl⟩
  | .op cs, v, F, h, hF => by
    simp only [T] at h ⊢
    obtain ⟨b, cur, e, Fs, hv, hh, ht, rfl⟩ := h
    exact ⟨b, cur, e, Fs, hv, (hF b (by simp)).trans hh, TL.frame hI cs _ Fs ht (fun b hb => hF b (by simp [hb])), rfl⟩
  | .fn f caps, v, F, h, hF => by
    simp only [T] at h ⊢
    obtain ⟨vs, hv, ht⟩ := h
    exact ⟨vs, hv, TL.frame hI caps _ F ht hF⟩
  | .agg cs, v, F, h, hF => by
    simp only [T] at h ⊢
    obtain ⟨vs, hv, ht⟩ := h
    exact ⟨vs, hv, TL.frame hI cs _ F ht hF⟩
  | .tup xs, v, F, h, hF => by
    simp only [T] at h ⊢
    obtain ⟨vs, hv, ht⟩ := h
    exact ⟨vs, hv, TV.frame hI xs _ F ht hF⟩
  | .ref _ _ _ _ _, v, F, h, _ => by simp only [T] at h
  | .ptr _ _ _ _ _, v, F, h, _ => by simp only [T] at h
theorem TL.frame (hI : ∀ b, I b → I' b ∧ w'.heap[b]? = w.heap[b]?) : ∀ (xs : List AV) (vs : List Value) (F : List Nat), TL w I xs vs F → (∀ b ∈ F, w'.heap[b]? = w.heap[b]?) → TL w' I' xs vs F
  | [], vs, F, h, _ => by simpa [TL] using h
  | x :: xs, vs, F, h, hF => by
    simp only [TL] at h ⊢
    obtain ⟨v, vs', F1, F2, rfl, rfl, h1, hx, hxs⟩ := h
    exact ⟨v, vs', F1, F2, rfl, rfl, h1, T.frame hI x v F1 hx (fun b hb => hF b (by simp [hb])), TL.frame hI xs vs' F2 hxs (fun b hb => hF b (by simp [hb]))⟩
theorem TV.frame (hI : ∀ b, I b → I' b ∧ w'.heap[b]? = w.heap[b]?) : ∀ (xs : List AV) (vs : List Value) (F : List Nat), TV w I xs vs F → (∀ b ∈ F, w'.heap[b]? = w.heap[b]?) → TV w' I' xs vs F
  | [], vs, F, h, _ => by simpa [TV] using h
  | x :: xs, vs, F, h, hF => by
    simp only [TV] at h ⊢
    obtain ⟨v, vs', F1, F2, rfl, rfl, hx, hxs⟩ := h
    exact ⟨v, vs', F1, F2, rfl, rfl, T.frame hI x v F1 hx (fun b hb => hF b (by simp [hb])), TV.frame hI xs vs' F2 hxs (fun b hb => hF b (by simp [hb]))⟩
theorem TLL.frame (hI : ∀ b, I b → I' b ∧ w'.heap[b]? = w.heap[b]?) : ∀ (xs : List (List AV)) (vs : List Value) (F : List Nat), TLL w I xs vs F → (∀ b ∈ F, w'.heap[b]? = w.heap[b]?) → TLL w' I' xs vs F
  | [], vs, F, h, _ => by simpa [TLL] using h
  | x :: xs, vs, F, h, hF => by
    simp only [TLL] at h ⊢
    obtain ⟨v1, v2, F1, F2, rfl, rfl, hx, hxs⟩ := h
    exact ⟨v1, v2, F1, F2, rfl, rfl, TL.frame hI x v1 F1 hx (fun b hb => hF b (by simp [hb])), TLL.frame hI xs v2 F2 hxs (fun b hb => hF b (by simp [hb]))⟩
end
end frame

/-- Own blocks lie in the heap. -/
theorem lt_of_heap {w : World} {b : Nat} {o : Obj} (h : w.heap[b]? = some o) : b < w.heap.size := (Array.getElem?_eq_some_iff.1 h).1

theorem TL.length {w : World} {I : Nat → Prop} : ∀ {xs : List AV} {vs : List Value} {F : List Nat}, TL w I xs vs F → vs.length = xs.length
  | [], vs, F, h => by simp only [TL] at h; simp [h.1]
  | x :: xs, vs, F, h => by
    simp only [TL] at h
    obtain ⟨v, vs', F1, F2, rfl, rfl, h1, hx, hxs⟩ := h
    simp [TL.length hxs]
theorem TLL.length {w : World} {I : Nat → Prop} {sz : Nat} : ∀ {es : List (List AV)} {vs : List Value} {F : List Nat}, TLL w I es vs F → Each sz es → vs.length = es.length * sz
  | [], vs, F, h, _ => by simp only [TLL] at h; simp [h.1]
  | e :: es, vs, F, h, he => by
    simp only [TLL] at h
    obtain ⟨v1, v2, F1, F2, rfl, rfl, hx, hxs⟩ := h
    simp only [Each] at he
    have h1 := TL.length hx
    have h2 := TLL.length hxs he.2
    simp only [List.length_append, List.length_cons, h1, h2, he.1, Nat.add_mul, Nat.one_mul]
    omega
end Go.Proofs.YtlddjlchgibdfaaDoor.X
set_option linter.unusedVariables false
set_option linter.unusedSimpArgs false
namespace Go.Proofs.YtlddjlchgibdfaaDoor.X
open Go

mutual
/-- What is one's own, frozen. -/
def frzT : AV → AV
  | .ow sz es => .sl (frzLL es)
  | .op cs => .pf (frzL cs)
  | .fn f caps => .fn f (frzL caps)
  | .agg cs => .agg (frzL cs)
  | .tup xs => .tup (frzL xs)
  | x => x
def frzL : List AV → List AV
  | [] => []
  | x :: xs => frzT x :: frzL xs
def frzLL : List (List AV) → List (List AV)
  | [] => []
  | x :: xs => frzL x :: frzLL xs
end

theorem frzL_eq : ∀ xs : List AV, frzL xs = xs.map frzT
  | [] => rfl
  | x :: xs => by simp [frzL, frzL_eq xs]
theorem frzLL_eq : ∀ xs : List (List AV), frzLL xs = xs.map (List.map frzT)
  | [] => rfl
  | x :: xs => by simp [frzLL, frzL_eq, frzLL_eq xs]
theorem frzL_length (xs : List AV) : (frzL xs).length = xs.length := by simp [frzL_eq]
theorem frzLL_length (xs : List (List AV)) : (frzLL xs).length = xs.length := by simp [frzLL_eq]
theorem Each.frz {sz : Nat} : ∀ {es : List (List AV)}, Each sz es → Each sz (frzLL es)
  | [], _ => trivial
  | e :: es, h => ⟨(frzL_length e).trans h.1, Each.frz h.2⟩
theorem Each.mem {sz : Nat} : ∀ {es : List (List AV)}, Each sz es → ∀ e ∈ es, e.length = sz
  | e :: es, h, x, hx => by
    rcases List.mem_cons.1 hx with rfl | hx
    · exact h.1
    · exact Each.mem h.2 x hx
theorem Each.of_mem {sz : Nat} : ∀ {es : List (List AV)}, (∀ e ∈ es, e.length = sz) → Each sz es
  | [], _ => trivial
  | e :: es, h => ⟨h e (by simp), Each.of_mem (fun x hx => h x (by simp [hx]))⟩
theorem Each.take {sz : Nat} {es : List (List AV)} (h : Each sz es) (n : Nat) : Each sz (es.take n) := Each.of_mem fun e he => h.mem e (List.mem_of_mem_take he)
theorem Each.drop {sz : Nat} {es : List (List AV)} (h : Each sz es) (n : Nat) : Each sz (es.drop n) := Each.of_mem fun e he => h.mem e (List.mem_of_mem_drop he)
theorem Each.append {sz : Nat} {es es' : List (List AV)} (h : Each sz es) (h' : Each sz es') : Each sz (es ++ es') := Each.of_mem fun e he => (List.mem_append.1 he).elim (h.mem e) (h'.mem e)

theorem at_row {w : World} {b o n : Nat} {cur : Array Value} {e : TypeId} {fr : Nat × Nat} (h : w.heap[b]? = some (.cells cur e fr)) : At w b o ((cur.toList.drop o).take n) := by
  intro j u hu
  rw [List.getElem?_take] at hu
  split at hu
  · rw [List.getElem?_drop] at hu
    simpa [World.cell?, h] using hu
  · cases hu

section
variable {w : World} {I I' : Nat → Prop}
mutual
theorem T.frz (hI : ∀ b, I b → I' b) : ∀ (x : AV) (v : Value) (F : List Nat), T w I x v F → (∀ b ∈ F, I' b) → T w I' (frzT x) v []
  | .any, v, F, h, _ => by simp [T, frzT]
  | .con u, v, F, h, _ => by simp only [T, frzT] at h ⊢; exact ⟨h.1, trivial⟩
  | .int k n, v, F, h, _ => by simp only [T, frzT] at h ⊢; exact ⟨h.1, trivial⟩
  | .bool b, v, F, h, _ => by simp only [T, frzT] at h ⊢; exact ⟨h.1, trivial⟩
  | .str s, v, F, h, _ => by simp only [T, frzT] at h ⊢; exact ⟨h.1, trivial⟩
  | .nil, v, F, h, _ => by simp only [T, frzT] at h ⊢; exact ⟨h.1, trivial⟩
  | .sl es, v, F, h, hF => by
    simp only [frzT]
    have hFe : F = [] := by simp only [T] at h; exact h.1
    subst hFe
    simp only [T] at h ⊢
    obtain ⟨_, A, c, hv, hc, hm, h⟩ := h
    refine ⟨trivial, A, c, hv, hc, hm, h.imp id ?_⟩
    rintro ⟨b, o, sz, vs, hA, hb, he, hat, ht⟩
    exact ⟨b, o, sz, vs, hA, hI b hb, he, hat, TLL.frame (fun b hb => ⟨hI b hb, rfl⟩) es vs [] ht (by simp)⟩
  | .pf cs, v, F, h, hF => by
    simp only [frzT]
    simp only [T] at h ⊢
    obtain ⟨_, b, o, vs, hv, hb, hat, ht⟩ := h
    exact ⟨trivial, b, o, vs, hv, hI b hb, hat, TL.frame (fun b hb => ⟨hI b hb, rfl⟩) cs vs [] ht (by simp)⟩
  | .ow sz es, v, F, h, hF => by
    simp only [frzT]
    simp only [T] at h ⊢
    refine ⟨trivial, ?_⟩
    rcases h with ⟨rfl, ⟨A, rfl⟩, rfl⟩ | ⟨b, o, c, cur, e, vs, Fs, hv, hh, hc, hm, ho, he, hvs, ht, rfl⟩
    · exact ⟨A, 0, by simp [frzLL], by simp [frzLL], by simp [frzLL], .inl (by simp [frzLL])⟩
    · refine ⟨some ⟨b, o, none⟩, c, by rw [frzLL_length]; exact hv, by rw [frzLL_length]; exact hc, by rw [frzLL_length]; exact Nat.le_trans hc hm, .inr ⟨b, o, sz, vs, rfl, hF b (by simp), he.frz, ?_, ?_⟩⟩
      · rw [← hvs]; exact at_row hh
      · exact TLL.frz hI es vs Fs ht (fun b hb => hF b (by simp [hb]))
  | .op cs, v, F, h, hF => by
    simp only [frzT]
    simp only [T] at h ⊢
    obtain ⟨b, cur, e, Fs, hv, hh, ht, rfl⟩ := h
    refine ⟨trivial, b, 0, cur.toList, hv, hF b (by simp), ?_, TL.frz hI cs _ Fs ht (fun b hb => hF b (by simp [hb]))⟩
    intro j u hu
    simpa [World.cell?, hh] using hu
  | .fn f caps, v, F, h, hF => by
    simp only [frzT]
    simp only [T] at h ⊢
    obtain ⟨vs, hv, ht⟩ := h
    exact ⟨vs, hv, TL.frz hI caps _ F ht hF⟩
  | .agg cs, v, F, h, hF => by
    simp only [frzT]
    simp only [T] at h ⊢
    obtain ⟨vs, hv, ht⟩ := h
    exact ⟨vs, hv, TL.frz hI cs _ F ht hF⟩
  | .tup xs, v, F, h, hF => by
    simp only [frzT]
    simp only [T] at h ⊢
    obtain ⟨vs, hv, ht⟩ := h
    exact ⟨vs, hv, TV.frz hI xs _ F ht hF⟩
  | .ref _ _ _ _ _, v, F, h, _ => by simp only [T] at h
  | .ptr _ _ _ _ _, v, F, h, _ => by simp only [T] at h
theorem TL.frz (hI : ∀ b, I b → I' b) : ∀ (xs : List AV) (vs : List Value) (F : List Nat), TL w I xs vs F → (∀ b ∈ F, I' b) → TL w I' (frzL xs) vs []
  | [], vs, F, h, _ => by simp only [TL, frzL] at h ⊢; exact ⟨h.1, trivial⟩
  | x :: xs, vs, F, h, hF => by
    simp only [TL, frzL] at h ⊢
    obtain ⟨v, vs', F1, F2, rfl, rfl, h1, hx, hxs⟩ := h
    exact ⟨v, vs', [], [], rfl, rfl, h1, T.frz hI x v F1 hx (fun b hb => hF b (by simp [hb])), TL.frz hI xs vs' F2 hxs (fun b hb => hF b (by simp [hb]))⟩
theorem TV.frz (hI : ∀ b, I b → I' b) : ∀ (xs : List AV) (vs : List Value) (F : List Nat), TV w I xs vs F → (∀ b ∈ F, I' b) → TV w I' (frzL xs) vs []
  | [], vs, F, h, _ => by simp only [TV, frzL] at h ⊢; exact ⟨h.1, trivial⟩
  | x :: xs, vs, F, h, hF => by
    simp only [TV, frzL] at h ⊢
    obtain ⟨v, vs', F1, F2, rfl, rfl, hx, hxs⟩ := h
    exact ⟨v, vs', [], [], rfl, rfl, T.frz hI x v F1 hx (fun b hb => hF b (by simp [hb])), TV.frz hI xs vs' F2 hxs (fun b hb => hF b (by simp [hb]))⟩
theorem TLL.frz (hI : ∀ b, I b → I' b) : ∀ (xs : List (List AV)) (vs : List Value) (F : List Nat), TLL w I xs vs F → (∀ b ∈ F, I' b) → TLL w I' (frzLL xs) vs []
  | [], vs, F, h, _ => by simp only [TLL, frzLL] at h ⊢; exact ⟨h.1, trivial⟩
  | x :: xs, vs, F, h, hF => by
    simp only [TLL, frzLL] at h ⊢
    obtain ⟨v1, v2, F1, F2, rfl, rfl, hx, hxs⟩ := h
    exact ⟨v1, v2, [], [], rfl, rfl, TL.frz hI x v1 F1 hx (fun b hb => hF b (by simp [hb])), TLL.frz hI xs v2 F2 hxs (fun b hb => hF b (by simp [hb]))⟩
end
end

/-! ### Cells of a tree -/
/-- The part of a list of cells at j. -/
theorem TL.get {w : World} {I : Nat → Prop} : ∀ {xs : List AV} {vs : List Value} {F : List Nat}, TL w I xs vs F → ∀ {j : Nat} {x : AV}, xs[j]? = some x → ∃ v G, vs[j]? = some v ∧ v.oneCell' = true ∧ T w I x v G ∧ G.Sublist F
  | [], vs, F, h, j, x, hx => by simp at hx
  | y :: xs, vs, F, h, j, x, hx => by
    simp only [TL] at h
    obtain ⟨v, vs', F1, F2, rfl, rfl, h1, hy, hxs⟩ := h
    cases j with
    | zero => simp at hx; subst hx; exact ⟨v, F1, by simp, h1, hy, List.sublist_append_left _ _⟩
    | succ j =>
      simp at hx
      obtain ⟨u, G, hu, h1', hT, hs⟩ := TL.get hxs hx
      exact ⟨u, G, by simpa using hu, h1', hT, hs.trans (List.sublist_append_right _ _)⟩
theorem TL.ones {w : World} {I : Nat → Prop} : ∀ {xs : List AV} {vs : List Value} {F : List Nat}, TL w I xs vs F → ∀ v ∈ vs, v.oneCell' = true
  | [], vs, F, h, v, hv => by simp only [TL] at h; simp [h.1] at hv
  | y :: xs, vs, F, h, v, hv => by
    simp only [TL] at h
    obtain ⟨u, vs', F1, F2, rfl, rfl, h1, hy, hxs⟩ := h
    rcases List.mem_cons.1 hv with rfl | hv
    · exact h1
    · exact TL.ones hxs v hv
theorem TLL.ones {w : World} {I : Nat → Prop} : ∀ {xs : List (List AV)} {vs : List Value} {F : List Nat}, TLL w I xs vs F → ∀ v ∈ vs, v.oneCell' = true
  | [], vs, F, h, v, hv => by simp only [TLL] at h; simp [h.1] at hv
  | y :: xs, vs, F, h, v, hv => by
    simp only [TLL] at h
    obtain ⟨v1, v2, F1, F2, rfl, rfl, hx, hxs⟩ := h
    rcases List.mem_append.1 hv with hv | hv
    · exact hx.ones v hv
    · exact TLL.ones hxs v hv
/-- The element at i of a list of elements. -/
theorem TLL.get {w : World} {I : Nat → Prop} {sz : Nat} : ∀ {es : List (List AV)} {vs : List Value} {F : List Nat}, TLL w I es vs F → Each sz es → ∀ {i : Nat} {e : List AV}, es[i]? = some e →
    ∃ G, TL w I e ((vs.drop (i * sz)).take sz) G ∧ G.Sublist F
  | [], vs, F, h, _, i, e, he => by simp at he
  | y :: es, vs, F, h, hs, i, e, he => by
    simp only [TLL] at h
    obtain ⟨v1, v2, F1, F2, rfl, rfl, hx, hxs⟩ := h
    have hl := hx.length
    have h1 := hs.1
    cases i with
    | zero =>
      simp at he; subst he
      refine ⟨F1, ?_, List.sublist_append_left _ _⟩
      rw [Nat.zero_mul, List.drop_zero, List.take_append_of_le_length (by omega), List.take_of_length_le (by omega)]
      exact hx
    | succ i =>
      simp at he
      obtain ⟨G, hG, hsub⟩ := TLL.get hxs hs.2 he
      refine ⟨G, ?_, hsub.trans (List.sublist_append_right _ _)⟩
      rw [Nat.add_mul, Nat.one_mul, Nat.add_comm, ← List.drop_drop, List.drop_append_of_le_length (by omega), show v1.drop sz = [] from List.drop_eq_nil_of_le (by omega), List.nil_append]
      exact hG
end Go.Proofs.YtlddjlchgibdfaaDoor.X
set_option linter.unusedVariables false
set_option linter.unusedSimpArgs false
namespace Go.Proofs.YtlddjlchgibdfaaDoor.X
open Go

/-- Objects: a slice's elements; a variable's cells. -/
inductive Ob where
  | slice (sz : Nat) (es : List (List AV))
  | var (cs : List AV)
  deriving Inhabited

abbrev Heap := List (Nat × Ob)

def hget : Heap → Nat → Option Ob
  | [], _ => none
  | (i, o) :: h, id => if i = id then some o else hget h id
/-- What is there is replaced. -/
def hset : Heap → Nat → Ob → Heap
  | [], _, _ => []
  | (i, o) :: h, id, u => if i = id then (i, u) :: h else (i, o) :: hset h id u
def hdel : Heap → Nat → Heap
  | [], _ => []
  | (i, o) :: h, id => if i = id then hdel h id else (i, o) :: hdel h id

theorem hget_set (h : Heap) (id : Nat) (u : Ob) (j : Nat) : hget (hset h id u) j = if id = j then (hget h id).map (fun _ => u) else hget h j := by
  induction h with
  | nil => simp [hget, hset]
  | cons p h ih =>
    obtain ⟨i, o⟩ := p
    simp only [hset]
    by_cases h1 : i = id
    · subst h1
      by_cases h2 : i = j <;> simp [hget, h2]
    · by_cases h2 : i = j
      · subst h2; simp [hget, h1, Ne.symm h1, fun e => h1 (Eq.symm e)]
      · simp only [h1, if_false, hget, h2]
        rw [ih]
theorem hget_del (h : Heap) (id j : Nat) : hget (hdel h id) j = if id = j then none else hget h j := by
  induction h with
  | nil => simp [hget, hdel]
  | cons p h ih =>
    obtain ⟨i, o⟩ := p
    simp only [hdel]
    by_cases h1 : i = id
    · subst h1
      by_cases h2 : i = j
      · subst h2; simp [ih]
      · simp [ih, h2, hget]
    · by_cases h2 : i = j
      · subst h2; simp [hget, h1, Ne.symm h1, fun e => h1 (Eq.symm e)]
      · simp only [h1, if_false, hget, h2]
        rw [ih]

structure St where
  tmps : List AV
  heap : Heap
  next : Nat

/-! ### Slots -/
def BaseOf (h : Value) (b o : Nat) : Prop := (∃ n c, h = .slice (some ⟨b, o, none⟩) n c) ∨ h = .pointer (some ⟨b, o, none⟩)
def HdOf (hd : Nat → Value) (w : World) (id : Nat) : Option (Nat × Nat × Nat) → Value → Prop
  | none, h => h = hd id
  | some (szo, i, c), h => (∃ A n k, h = .slice A n k) ∧ ∃ b o, BaseOf (hd id) b o ∧ w.cell? ⟨b, o + (i * szo + c), none⟩ = some h
def Win (sz off len : Nat) (h v : Value) : Prop :=
  (∃ b o n c c', h = .slice (some ⟨b, o, none⟩) n c ∧ v = .slice (some ⟨b, o + off * sz, none⟩) len c' ∧ off + c' ≤ c ∧ len ≤ c' ∧ off + len ≤ n) ∨ (len = 0 ∧ ∃ A, v = .slice A 0 0)
theorem BaseOf.uniq {h : Value} {b o b' o' : Nat} (h1 : BaseOf h b o) (h2 : BaseOf h b' o') : b = b' ∧ o = o' := by
  rcases h1 with ⟨n, c, rfl⟩ | rfl <;> rcases h2 with ⟨n', c', h⟩ | h <;> simp at h <;> simp [h]

mutual
def S (hd : Nat → Value) (n : Nat) (w : World) (I : Nat → Prop) : AV → Value → Prop
  | .ref id sub sz off len, v => id < n ∧ ∃ h, HdOf hd w id sub h ∧ Win sz off len h v
  | .ptr id sub sz i c, v => id < n ∧ ∃ h b o, HdOf hd w id sub h ∧ BaseOf h b o ∧ v = .pointer (some ⟨b, o + (i * sz + c), none⟩)
  | .fn f caps, v => ∃ vs, v = .func (.func f) #[] vs ∧ SL hd n w I caps vs.toList
  | .agg cs, v => ∃ vs, v = .agg vs ∧ SL hd n w I cs vs.toList
  | .tup xs, v => ∃ vs, v = .tuple vs ∧ SV hd n w I xs vs.toList
  | .ow .., _ => False
  | .op .., _ => False
  | .any, _ => True
  | .con u, v => v = u
  | .int k m, v => v = .int k m
  | .bool b, v => v = .bool b
  | .str s, v => v = .string s
  | .nil, v => v = .slice none 0 0
  | .sl es, v => T w I (.sl es) v []
  | .pf cs, v => T w I (.pf cs) v []
def SL (hd : Nat → Value) (n : Nat) (w : World) (I : Nat → Prop) : List AV → List Value → Prop
  | [], vs => vs = []
  | x :: xs, vs => ∃ v vs', vs = v :: vs' ∧ v.oneCell' = true ∧ S hd n w I x v ∧ SL hd n w I xs vs'
def SV (hd : Nat → Value) (n : Nat) (w : World) (I : Nat → Prop) : List AV → List Value → Prop
  | [], vs => vs = []
  | x :: xs, vs => ∃ v vs', vs = v :: vs' ∧ S hd n w I x v ∧ SV hd n w I xs vs'
end

section frame
variable {hd hd' : Nat → Value} {n n' : Nat} {w w' : World} {I I' : Nat → Prop}
mutual
theorem S.frame (hn : n ≤ n') (hI : ∀ b, I b → I' b ∧ w'.heap[b]? = w.heap[b]?) (hH : ∀ id, id < n → ∀ sub h, HdOf hd w id sub h → HdOf hd' w' id sub h) :
    ∀ (x : AV) (v : Value), S hd n w I x v → S hd' n' w' I' x v
  | .ref id sub sz off len, v, h => by
    simp only [S] at h ⊢
    obtain ⟨hid, h0, h1, h2⟩ := h
    exact ⟨Nat.lt_of_lt_of_le hid hn, h0, hH id hid sub h0 h1, h2⟩
  | .ptr id sub sz i c, v, h => by
    simp only [S] at h ⊢
    obtain ⟨hid, h0, b, o, h1, h2, h3⟩ := h
    exact ⟨Nat.lt_of_lt_of_le hid hn, h0, b, o, hH id hid sub h0 h1, h2, h3⟩
  | .fn f caps, v, h => by
    simp only [S] at h ⊢
    obtain ⟨vs, hv, ht⟩ := h
    exact ⟨vs, hv, SL.frame hn hI hH caps _ ht⟩
  | .agg cs, v, h => by
    simp only [S] at h ⊢
    obtain ⟨vs, hv, ht⟩ := h
    exact ⟨vs, hv, SL.frame hn hI hH cs _ ht⟩
  | .tup xs, v, h => by
    simp only [S] at h ⊢
    obtain ⟨vs, hv, ht⟩ := h
    exact ⟨vs, hv, SV.frame hn hI hH xs _ ht⟩
  | .ow _ _, v, h => by simp only [S] at h
  | .op _, v, h => by simp only [S] at h
  | .any, v, h => by simp only [S]
  | .con u, v, h => by simpa only [S] using h
  | .int k m, v, h => by simpa only [S] using h
  | .bool b, v, h => by simpa only [S] using h
  | .str s, v, h => by simpa only [S] using h
  | .nil, v, h => by simpa only [S] using h
  | .sl es, v, h => by simp only [S] at h ⊢; exact T.frame hI _ _ _ h (by simp)
  | .pf cs, v, h => by simp only [S] at h ⊢; exact T.frame hI _ _ _ h (by simp)
theorem SL.frame (hn : n ≤ n') (hI : ∀ b, I b → I' b ∧ w'.heap[b]? = w.heap[b]?) (hH : ∀ id, id < n → ∀ sub h, HdOf hd w id sub h → HdOf hd' w' id sub h) :
    ∀ (xs : List AV) (vs : List Value), SL hd n w I xs vs → SL hd' n' w' I' xs vs
  | [], vs, h => by simpa only [SL] using h
  | x :: xs, vs, h => by
    simp only [SL] at h ⊢
    obtain ⟨v, vs', rfl, h1, hx, hxs⟩ := h
    exact ⟨v, vs', rfl, h1, S.frame hn hI hH x v hx, SL.frame hn hI hH xs vs' hxs⟩
theorem SV.frame (hn : n ≤ n') (hI : ∀ b, I b → I' b ∧ w'.heap[b]? = w.heap[b]?) (hH : ∀ id, id < n → ∀ sub h, HdOf hd w id sub h → HdOf hd' w' id sub h) :
    ∀ (xs : List AV) (vs : List Value), SV hd n w I xs vs → SV hd' n' w' I' xs vs
  | [], vs, h => by simpa only [SV] using h
  | x :: xs, vs, h => by
    simp only [SV] at h ⊢
    obtain ⟨v, vs', rfl, hx, hxs⟩ := h
    exact ⟨v, vs', rfl, S.frame hn hI hH x v hx, SV.frame hn hI hH xs vs' hxs⟩
end
end frame

theorem SL.length {hd : Nat → Value} {n : Nat} {w : World} {I : Nat → Prop} : ∀ {xs : List AV} {vs : List Value}, SL hd n w I xs vs → vs.length = xs.length
  | [], vs, h => by simp only [SL] at h; simp [h]
  | x :: xs, vs, h => by
    simp only [SL] at h
    obtain ⟨v, vs', rfl, h1, hx, hxs⟩ := h
    simp [SL.length hxs]
theorem SL.get {hd : Nat → Value} {n : Nat} {w : World} {I : Nat → Prop} : ∀ {xs : List AV} {vs : List Value}, SL hd n w I xs vs → ∀ {j : Nat} {x : AV}, xs[j]? = some x → ∃ v, vs[j]? = some v ∧ v.oneCell' = true ∧ S hd n w I x v
  | [], vs, h, j, x, hx => by simp at hx
  | y :: xs, vs, h, j, x, hx => by
    simp only [SL] at h
    obtain ⟨v, vs', rfl, h1, hy, hxs⟩ := h
    cases j with
    | zero => simp at hx; subst hx; exact ⟨v, by simp, h1, hy⟩
    | succ j =>
      simp at hx
      obtain ⟨u, hu, h1', hT⟩ := SL.get hxs hx
      exact ⟨u, by simpa using hu, h1', hT⟩
theorem SV.get {hd : Nat → Value} {n : Nat} {w : World} {I : Nat → Prop} : ∀ {xs : List AV} {vs : List Value}, SV hd n w I xs vs → ∀ {j : Nat} {x : AV}, xs[j]? = some x → ∃ v, vs[j]? = some v ∧ S hd n w I x v
  | [], vs, h, j, x, hx => by simp at hx
  | y :: xs, vs, h, j, x, hx => by
    simp only [SV] at h
    obtain ⟨v, vs', rfl, hy, hxs⟩ := h
    cases j with
    | zero => simp at hx; subst hx; exact ⟨v, by simp, hy⟩
    | succ j =>
      simp at hx
      obtain ⟨u, hu, hT⟩ := SV.get hxs hx
      exact ⟨u, by simpa using hu, hT⟩
theorem SL.ones {hd : Nat → Value} {n : Nat} {w : World} {I : Nat → Prop} : ∀ {xs : List AV} {vs : List Value}, SL hd n w I xs vs → ∀ v ∈ vs, v.oneCell' = true
  | [], vs, h, v, hv => by simp only [SL] at h; simp [h] at hv
  | y :: xs, vs, h, v, hv => by
    simp only [SL] at h
    obtain ⟨u, vs', rfl, h1, hy, hxs⟩ := h
    rcases List.mem_cons.1 hv with rfl | hv
    · exact h1
    · exact SL.ones hxs v hv

/-! ### Objects and states -/
def ObjR (hd : Nat → Value) (n : Nat) (w : World) (I : Nat → Prop) : Ob → Value → List Nat → Prop
  | .slice sz es, h, F => T w I (.ow sz es) h F
  | .var cs, h, F => ∃ b cur e, h = .pointer (some ⟨b, 0, none⟩) ∧ w.heap[b]? = some (.cells cur e (0, 0)) ∧ SL hd n w I cs cur.toList ∧ F = [b]

/-- Global tables: the cells of a package's variable that nobody writes. -/
abbrev Glo := Nat → Option (List AV)

/-- The abstract heap and the world. M: the blocks that this activation may write. I: blocks that nobody writes any more. -/
structure HR (G : Glo) (M I : Nat → Prop) (h : Heap) (n : Nat) (hd : Nat → Value) (Fp : Nat → List Nat) (w : World) : Prop where
  obj : ∀ id o, hget h id = some o → ObjR hd n w I o (hd id) (Fp id)
  imm : ∀ b, I b → b < w.heap.size ∧ ∀ id o, hget h id = some o → b ∉ Fp id
  nodup : ∀ id o, hget h id = some o → (Fp id).Nodup
  disj : ∀ id o id' o', hget h id = some o → hget h id' = some o' → id ≠ id' → ∀ b ∈ Fp id, b ∉ Fp id'
  mine : ∀ id o, hget h id = some o → ∀ b ∈ Fp id, M b
  next : ∀ id o, hget h id = some o → id < n
  news : ∀ b, w.heap.size ≤ b → M b
  glo : ∀ g cs, G g = some cs → T w I (.pf cs) (.pointer (some ⟨g, 0, none⟩)) []

structure SR (G : Glo) (M I : Nat → Prop) (s : St) (hd : Nat → Value) (Fp : Nat → List Nat) (a : Act) (w : World) : Prop where
  heap : HR G M I s.heap s.next hd Fp w
  len : s.tmps.length = a.tmps.size
  slots : ∀ t, S hd s.next w I (s.tmps.getD t .any) (a.tmps.getD t undef)
  defers : a.defers = []

/-- What the activation leaves alone. -/
structure Keep (M : Nat → Prop) (w w' : World) : Prop where
  os : w'.os = w.os
  tape : w'.tape = w.tape
  output : w'.output = w.output
  size : w.heap.size ≤ w'.heap.size
  block : ∀ b, b < w.heap.size → ¬ M b → w'.heap[b]? = w.heap[b]?
theorem Keep.refl (M : Nat → Prop) (w : World) : Keep M w w := ⟨rfl, rfl, rfl, Nat.le_refl _, fun _ _ _ => rfl⟩
theorem Keep.trans {M : Nat → Prop} {w w1 w2 : World} (h : Keep M w w1) (k : Keep M w1 w2) : Keep M w w2 :=
  ⟨k.os.trans h.os, k.tape.trans h.tape, k.output.trans h.output, Nat.le_trans h.size k.size, fun b hb hm => (k.block b (Nat.lt_of_lt_of_le hb h.size) hm).trans (h.block b hb hm)⟩
theorem Keep.mono {M M' : Nat → Prop} {w w1 : World} (h : Keep M w w1) (hM : ∀ b, b < w.heap.size → M b → M' b) : Keep M' w w1 :=
  ⟨h.os, h.tape, h.output, h.size, fun b hb hm => h.block b hb (fun hx => hm (hM b hb hx))⟩

mutual
/-- The blocks of a tree's own lie in the heap. -/
theorem T.lt {w : World} {I : Nat → Prop} : ∀ (x : AV) (v : Value) (F : List Nat), T w I x v F → ∀ b ∈ F, b < w.heap.size
  | .any, v, F, h, b, hb => by simp only [T] at h; simp [h] at hb
  | .con u, v, F, h, b, hb => by simp only [T] at h; simp [h.2] at hb
  | .int k n, v, F, h, b, hb => by simp only [T] at h; simp [h.2] at hb
  | .bool _, v, F, h, b, hb => by simp only [T] at h; simp [h.2] at hb
  | .str s, v, F, h, b, hb => by simp only [T] at h; simp [h.2] at hb
  | .nil, v, F, h, b, hb => by simp only [T] at h; simp [h.2] at hb
  | .sl es, v, F, h, b, hb => by simp only [T] at h; simp [h.1] at hb
  | .pf cs, v, F, h, b, hb => by simp only [T] at h; simp [h.1] at hb
  | .ow sz es, v, F, h, b, hb => by
    simp only [T] at h
    rcases h with ⟨_, _, rfl⟩ | ⟨b0, o, c, cur, e, vs, Fs, hv, hh, hc, hm, ho, he, hvs, ht, rfl⟩
    · simp at hb
    · rcases List.mem_cons.1 hb with rfl | hb
      · exact lt_of_heap hh
      · exact TLL.lt es vs Fs ht b hb
  | .op cs, v, F, h, b, hb => by
    simp only [T] at h
    obtain ⟨b0, cur, e, Fs, hv, hh, ht, rfl⟩ := h
    rcases List.mem_cons.1 hb with rfl | hb
    · exact lt_of_heap hh
    · exact TL.lt cs _ Fs ht b hb
  | .fn f caps, v, F, h, b, hb => by
    simp only [T] at h
    obtain ⟨vs, hv, ht⟩ := h
    exact TL.lt caps _ F ht b hb
  | .agg cs, v, F, h, b, hb => by
    simp only [T] at h
    obtain ⟨vs, hv, ht⟩ := h
    exact TL.lt cs _ F ht b hb
  | .tup xs, v, F, h, b, hb => by
    simp only [T] at h
    obtain ⟨vs, hv, ht⟩ := h
    exact TV.lt xs _ F ht b hb
  | .ref _ _ _ _ _, v, F, h, b, hb => by simp only [T] at h
  | .ptr _ _ _ _ _, v, F, h, b, hb => by simp only [T] at h
theorem TL.lt {w : World} {I : Nat → Prop} : ∀ (xs : List AV) (vs : List Value) (F : List Nat), TL w I xs vs F → ∀ b ∈ F, b < w.heap.size
  | [], vs, F, h, b, hb => by simp only [TL] at h; simp [h.2] at hb
  | x :: xs, vs, F, h, b, hb => by
    simp only [TL] at h
    obtain ⟨v, vs', F1, F2, rfl, rfl, h1, hx, hxs⟩ := h
    rcases List.mem_append.1 hb with hb | hb
    · exact T.lt x v F1 hx b hb
    · exact TL.lt xs vs' F2 hxs b hb
theorem TV.lt {w : World} {I : Nat → Prop} : ∀ (xs : List AV) (vs : List Value) (F : List Nat), TV w I xs vs F → ∀ b ∈ F, b < w.heap.size
  | [], vs, F, h, b, hb => by simp only [TV] at h; simp [h.2] at hb
  | x :: xs, vs, F, h, b, hb => by
    simp only [TV] at h
    obtain ⟨v, vs', F1, F2, rfl, rfl, hx, hxs⟩ := h
    rcases List.mem_append.1 hb with hb | hb
    · exact T.lt x v F1 hx b hb
    · exact TV.lt xs vs' F2 hxs b hb
theorem TLL.lt {w : World} {I : Nat → Prop} : ∀ (xs : List (List AV)) (vs : List Value) (F : List Nat), TLL w I xs vs F → ∀ b ∈ F, b < w.heap.size
  | [], vs, F, h, b, hb => by simp only [TLL] at h; simp [h.2] at hb
  | x :: xs, vs, F, h, b, hb => by
    simp only [TLL] at h
    obtain ⟨v1, v2, F1, F2, rfl, rfl, hx, hxs⟩ := h
    rcases List.mem_append.1 hb with hb | hb
    · exact TL.lt x v1 F1 hx b hb
    · exact TLL.lt xs v2 F2 hxs b hb
end
theorem ObjR.lt {hd : Nat → Value} {n : Nat} {w : World} {I : Nat → Prop} : ∀ {o : Ob} {h : Value} {F : List Nat}, ObjR hd n w I o h F → ∀ b ∈ F, b < w.heap.size
  | .slice sz es, h, F, hr, b, hb => T.lt _ _ _ hr b hb
  | .var cs, h, F, hr, b, hb => by
    obtain ⟨b0, cur, e, rfl, hh, _, rfl⟩ := hr
    simp at hb; subst hb; exact lt_of_heap hh
theorem eqs_hget : True := by
  have := @hget.eq_1
  trivial
theorem eqs_hset : True := by
  have := @hset.eq_1
  trivial
end Go.Proofs.YtlddjlchgibdfaaDoor.X
set_option linter.unusedVariables false
set_option linter.unusedSimpArgs false
namespace Go.Proofs.YtlddjlchgibdfaaDoor.X
open Go

def St.put (s : St) (dst : Option Nat) (v : AV) : St := ⟨match dst with | some d => s.tmps.set d v | none => s.tmps, s.heap, s.next⟩

/-- From one world to the next: what is frozen stays, ids keep their heads. -/
structure Fr (I I' : Nat → Prop) (n n' : Nat) (hd hd' : Nat → Value) (w w' : World) : Prop where
  le : n ≤ n'
  im : ∀ b, I b → I' b ∧ w'.heap[b]? = w.heap[b]?
  hds : ∀ id, id < n → ∀ sub v, HdOf hd w id sub v → HdOf hd' w' id sub v
theorem Fr.refl (I : Nat → Prop) (n : Nat) (hd : Nat → Value) (w : World) : Fr I I n n hd hd w w := ⟨Nat.le_refl _, fun _ h => ⟨h, rfl⟩, fun _ _ _ _ h => h⟩
theorem Fr.trans {I I' I2 : Nat → Prop} {n n' n2 : Nat} {hd hd' hd2 : Nat → Value} {w w' w2 : World} (h : Fr I I' n n' hd hd' w w') (k : Fr I' I2 n' n2 hd' hd2 w' w2) : Fr I I2 n n2 hd hd2 w w2 :=
  ⟨Nat.le_trans h.le k.le, fun b hb => ⟨(k.im b (h.im b hb).1).1, (k.im b (h.im b hb).1).2.trans (h.im b hb).2⟩, fun id hid sub v hv => k.hds id (Nat.lt_of_lt_of_le hid h.le) sub v (h.hds id hid sub v hv)⟩

section
variable {I I' : Nat → Prop} {n n' : Nat} {hd hd' : Nat → Value} {w w' : World} (fr : Fr I I' n n' hd hd' w w')
include fr
theorem Fr.S {x : AV} {v : Value} (h : S hd n w I x v) : X.S hd' n' w' I' x v := S.frame fr.le fr.im fr.hds x v h
theorem Fr.SL {x : List AV} {v : List Value} (h : SL hd n w I x v) : X.SL hd' n' w' I' x v := SL.frame fr.le fr.im fr.hds x v h
theorem Fr.T {x : AV} {v : Value} {F : List Nat} (h : T w I x v F) (hF : ∀ b ∈ F, w'.heap[b]? = w.heap[b]?) : X.T w' I' x v F := T.frame fr.im x v F h hF
theorem Fr.O {o : Ob} {v : Value} {F : List Nat} (h : ObjR hd n w I o v F) (hF : ∀ b ∈ F, w'.heap[b]? = w.heap[b]?) : ObjR hd' n' w' I' o v F := by
  cases o with
  | slice sz es => exact fr.T h hF
  | var cs =>
    obtain ⟨b, cur, e, rfl, hh, hs, rfl⟩ := h
    exact ⟨b, cur, e, rfl, (hF b (by simp)).trans hh, fr.SL hs, rfl⟩
end

theorem getD_set_eq {α : Type} (l : List α) (d : Nat) (v x : α) (t : Nat) : (l.set d v).getD t x = if d = t ∧ d < l.length then v else l.getD t x := by
  simp only [List.getD_eq_getElem?_getD, List.getElem?_set]
  by_cases h : d = t
  · subst h
    by_cases hl : d < l.length
    · simp [hl]
    · simp [hl]
  · simp [h]
theorem agetD_set_eq (l : Array Value) (d : Nat) (v x : Value) (t : Nat) : (l.setIfInBounds d v).getD t x = if d = t ∧ d < l.size then v else l.getD t x := by
  simp only [Array.getD_eq_getD_getElem?, Array.getElem?_setIfInBounds]
  by_cases h : d = t
  · subst h
    by_cases hl : d < l.size
    · simp [hl]
    · simp [hl]
  · simp [h]

section
variable {G : Glo} {M I : Nat → Prop} {s : St} {hd : Nat → Value} {Fp : Nat → List Nat} {a : Act} {w : World}
/-- A slot gets a value. -/
theorem SR.put (h : SR G M I s hd Fp a w) (dst : Option Nat) {av : AV} {v : Value} (hv : S hd s.next w I av v) : SR G M I (s.put dst av) hd Fp (a.put dst v) w := by
  cases dst with
  | none => exact h
  | some d =>
    refine ⟨h.heap, by simp [St.put, Act.put, h.len], fun t => ?_, h.defers⟩
    simp only [St.put, Act.put, getD_set_eq, agetD_set_eq]
    have hl := h.len
    by_cases hc : d = t ∧ d < s.tmps.length
    · rw [if_pos hc, if_pos ⟨hc.1, by omega⟩]
      exact hv
    · rw [if_neg hc, if_neg (fun hx => hc ⟨hx.1, by omega⟩)]
      exact h.slots t
/-- Another heap, another world: the slots follow. -/
theorem SR.move (h : SR G M I s hd Fp a w) {M' I' : Nat → Prop} {h' : Heap} {n' : Nat} {hd' : Nat → Value} {Fp' : Nat → List Nat} {w' : World} (hr : HR G M' I' h' n' hd' Fp' w') (fr : Fr I I' s.next n' hd hd' w w') :
    SR G M' I' ⟨s.tmps, h', n'⟩ hd' Fp' a w' :=
  ⟨hr, h.len, fun t => fr.S (h.slots t), h.defers⟩
end

section
variable {G : Glo} {M I : Nat → Prop} {h : Heap} {n : Nat} {hd : Nat → Value} {Fp : Nat → List Nat} {w w' : World}
theorem HR.ltB (hr : HR G M I h n hd Fp w) {id : Nat} {o : Ob} (ho : hget h id = some o) : ∀ b ∈ Fp id, b < w.heap.size := (hr.obj id o ho).lt
/-- The blocks that are named. -/
theorem HR.fr (hr : HR G M I h n hd Fp w) (hs : w.heap.size ≤ w'.heap.size) (hb : ∀ b, b < w.heap.size → w'.heap[b]? = w.heap[b]?) : Fr I I n n hd hd w w' := by
  refine ⟨Nat.le_refl _, fun b hx => ⟨hx, hb b (hr.imm b hx).1⟩, ?_⟩
  intro id _ sub v hx
  cases sub with
  | none => exact hx
  | some p =>
    obtain ⟨szo, i, c⟩ := p
    simp only [HdOf] at hx ⊢
    obtain ⟨hsl, b, o, hbo, hc⟩ := hx
    exact ⟨hsl, b, o, hbo, (World.cell?_of_block (a := ⟨b, o + (i * szo + c), none⟩) (hb b (World.block_lt_of_cell? w _ hc))).trans hc⟩
/-- The world draws, or grows by blocks that nobody names. -/
theorem HR.grown (hr : HR G M I h n hd Fp w) (hs : w.heap.size ≤ w'.heap.size) (hb : ∀ b, b < w.heap.size → w'.heap[b]? = w.heap[b]?) : HR G M I h n hd Fp w' := by
  have fr := hr.fr hs hb
  refine ⟨fun id o ho => fr.O (hr.obj id o ho) (fun b hb' => hb b (hr.ltB ho b hb')), fun b hx => ⟨Nat.lt_of_lt_of_le (hr.imm b hx).1 hs, (hr.imm b hx).2⟩, hr.nodup, hr.disj, hr.mine, hr.next,
    fun b hx => hr.news b (Nat.le_trans hs hx), fun g cs hg => fr.T (hr.glo g cs hg) (by simp)⟩

def upd {α : Type} (f : Nat → α) (i : Nat) (v : α) : Nat → α := fun j => if i = j then v else f j
@[simp] theorem upd_same {α : Type} (f : Nat → α) (i : Nat) (v : α) : upd f i v i = v := by simp [upd]
theorem upd_ne {α : Type} (f : Nat → α) {i j : Nat} (v : α) (h : i ≠ j) : upd f i v j = f j := by simp [upd, h]

/-- A new id keeps what is known of the others. -/
theorem Fr.new (I : Nat → Prop) (n : Nat) (hd : Nat → Value) (w : World) (v : Value) : Fr I I n (n + 1) hd (upd hd n v) w w := by
  refine ⟨Nat.le_succ _, fun b hb => ⟨hb, rfl⟩, fun id hid sub u hu => ?_⟩
  have e : (upd hd n v) id = hd id := upd_ne _ _ (by omega)
  cases sub with
  | none => simp only [HdOf] at hu ⊢; rw [e]; exact hu
  | some p => obtain ⟨x, y, z⟩ := p; simp only [HdOf] at hu ⊢; rw [e]; exact hu

/-- A further object, of blocks that no other has. -/
theorem HR.add (hr : HR G M I h n hd Fp w) (o : Ob) (v : Value) (F : List Nat) (hF : F.Nodup) (hM : ∀ b ∈ F, M b) (hI : ∀ b ∈ F, ¬ I b) (hd0 : ∀ id u, hget h id = some u → ∀ b ∈ Fp id, b ∉ F)
    (ho : ∀ hd', (∀ id, id < n → hd' id = hd id) → ObjR hd' (n + 1) w I o v F) :
    HR G M I ((n, o) :: h) (n + 1) (upd hd n v) (upd Fp n F) w := by
  have fr := Fr.new I n hd w v
  refine ⟨fun id u hu => ?_, fun b hb => ⟨(hr.imm b hb).1, fun id u hu => ?_⟩, fun id u hu => ?_, fun id u id' u' hu hu' hne => ?_, fun id u hu b hbm => ?_, fun id u hu => ?_, hr.news, hr.glo⟩
  · by_cases hid : n = id
    · subst hid
      simp only [hget, if_true, Option.some.injEq] at hu
      subst hu
      simp only [upd_same]
      exact ho _ (fun id hlt => upd_ne _ _ (by omega))
    · simp only [hget, hid, if_false] at hu
      rw [upd_ne _ _ hid, upd_ne _ _ hid]
      exact fr.O (hr.obj id u hu) (fun _ _ => rfl)
  · by_cases hid : n = id
    · subst hid; simp only [upd_same]; exact fun hm => hI b hm hb
    · simp only [hget, hid, if_false] at hu
      rw [upd_ne _ _ hid]; exact (hr.imm b hb).2 id u hu
  · by_cases hid : n = id
    · subst hid; simp only [upd_same]; exact hF
    · simp only [hget, hid, if_false] at hu
      rw [upd_ne _ _ hid]; exact hr.nodup id u hu
  · intro b hb1
    by_cases hid : n = id
    · subst hid
      have hid' : n ≠ id' := hne
      simp only [hget, hid', if_false] at hu'
      rw [upd_ne _ _ hid']
      simp only [upd_same] at hb1
      exact fun hb2 => hd0 id' u' hu' b hb2 hb1
    · simp only [hget, hid, if_false] at hu
      rw [upd_ne _ _ hid] at hb1
      by_cases hid' : n = id'
      · subst hid'
        simp only [upd_same]
        exact hd0 id u hu b hb1
      · simp only [hget, hid', if_false] at hu'
        rw [upd_ne _ _ hid']
        exact hr.disj id u id' u' hu hu' hne b hb1
  · by_cases hid : n = id
    · subst hid; simp only [upd_same] at hbm; exact hM b hbm
    · simp only [hget, hid, if_false] at hu
      rw [upd_ne _ _ hid] at hbm
      exact hr.mine id u hu b hbm
  · by_cases hid : n = id
    · omega
    · simp only [hget, hid, if_false] at hu
      have := hr.next id u hu
      omega

/-- An object is forgotten. -/
theorem HR.del (hr : HR G M I h n hd Fp w) (id : Nat) : HR G M I (hdel h id) n hd Fp w := by
  have hg : ∀ j u, hget (hdel h id) j = some u → hget h j = some u := by
    intro j u hu
    rw [hget_del] at hu
    split at hu
    · cases hu
    · exact hu
  exact ⟨fun j u hu => hr.obj j u (hg j u hu), fun b hb => ⟨(hr.imm b hb).1, fun j u hu => (hr.imm b hb).2 j u (hg j u hu)⟩, fun j u hu => hr.nodup j u (hg j u hu),
    fun j u j' u' hu hu' => hr.disj j u j' u' (hg j u hu) (hg j' u' hu'), fun j u hu => hr.mine j u (hg j u hu), fun j u hu => hr.next j u (hg j u hu), hr.news, hr.glo⟩

/-- The blocks of nobody are frozen. -/
theorem HR.freeze (hr : HR G M I h n hd Fp w) (F : List Nat) (hlt : ∀ b ∈ F, b < w.heap.size) (hno : ∀ id u, hget h id = some u → ∀ b ∈ Fp id, b ∉ F) : HR G M (fun b => I b ∨ b ∈ F) h n hd Fp w := by
  have fr : Fr I (fun b => I b ∨ b ∈ F) n n hd hd w w := ⟨Nat.le_refl _, fun b hb => ⟨.inl hb, rfl⟩, fun _ _ _ _ h => h⟩
  refine ⟨fun j u hu => fr.O (hr.obj j u hu) (fun _ _ => rfl), fun b hb => ?_, hr.nodup, hr.disj, hr.mine, hr.next, hr.news, fun g cs hg => fr.T (hr.glo g cs hg) (by simp)⟩
  rcases hb with hb | hb
  · exact hr.imm b hb
  · exact ⟨hlt b hb, fun id o ho hm => hno id o ho b hm hb⟩

/-- An object changes: its blocks F may be others; w' is w but for blocks that are the object's. -/
theorem HR.setG (hr : HR G M I h n hd Fp w) {id : Nat} {o : Ob} (ho : hget h id = some o) (o' : Ob) (hs : w'.heap.size = w.heap.size) (F : List Nat) (hF : F.Nodup) (hM : ∀ b ∈ F, M b) (hI : ∀ b ∈ F, ¬ I b)
    (hD : ∀ j u, hget h j = some u → j ≠ id → ∀ b ∈ Fp j, b ∉ F)
    (hobj : ∀ j u, hget h j = some u → j ≠ id → ObjR hd n w' I u (hd j) (Fp j)) (hglo : ∀ g cs, G g = some cs → T w' I (.pf cs) (.pointer (some ⟨g, 0, none⟩)) []) (hno : ObjR hd n w' I o' (hd id) F) :
    HR G M I (hset h id o') n hd (upd Fp id F) w' := by
  have hg : ∀ j u, hget (hset h id o') j = some u → (j = id ∧ u = o') ∨ (j ≠ id ∧ hget h j = some u) := by
    intro j u hu
    rw [hget_set] at hu
    by_cases hj : id = j
    · subst hj; simp [ho] at hu; exact .inl ⟨rfl, hu.symm⟩
    · simp only [hj, if_false] at hu; exact .inr ⟨Ne.symm hj, hu⟩
  refine ⟨fun j u hu => ?_, fun b hx => ⟨by rw [hs]; exact (hr.imm b hx).1, fun j u hu => ?_⟩, fun j u hu => ?_, fun j u j' u' hu hu' hne => ?_, fun j u hu b hbm => ?_, fun j u hu => ?_, fun b hx => hr.news b (by rw [hs] at hx; exact hx),
    hglo⟩
  · rcases hg j u hu with ⟨rfl, rfl⟩ | ⟨hj, hu⟩
    · simp only [upd_same]; exact hno
    · rw [upd_ne _ _ (Ne.symm hj)]
      exact hobj j u hu hj
  · rcases hg j u hu with ⟨rfl, rfl⟩ | ⟨hj, hu⟩
    · simp only [upd_same]; exact fun hm => hI b hm hx
    · rw [upd_ne _ _ (Ne.symm hj)]; exact (hr.imm b hx).2 j u hu
  · rcases hg j u hu with ⟨rfl, rfl⟩ | ⟨hj, hu⟩
    · simp only [upd_same]; exact hF
    · rw [upd_ne _ _ (Ne.symm hj)]; exact hr.nodup j u hu
  · rcases hg j u hu with ⟨rfl, rfl⟩ | ⟨hj, hu2⟩
    · rcases hg j' u' hu' with ⟨rfl, rfl⟩ | ⟨hj', hu3⟩
      · exact absurd rfl hne
      · simp only [upd_same]; rw [upd_ne _ _ (Ne.symm hj')]
        exact fun b hb1 hb2 => hD j' u' hu3 hj' b hb2 hb1
    · rw [upd_ne _ _ (Ne.symm hj)]
      rcases hg j' u' hu' with ⟨rfl, rfl⟩ | ⟨hj', hu3⟩
      · simp only [upd_same]; exact fun b hb1 hm => hD j u hu2 hj b hb1 hm
      · rw [upd_ne _ _ (Ne.symm hj')]; exact hr.disj j u j' u' hu2 hu3 hne
  · rcases hg j u hu with ⟨rfl, rfl⟩ | ⟨hj, hu⟩
    · simp only [upd_same] at hbm; exact hM b hbm
    · rw [upd_ne _ _ (Ne.symm hj)] at hbm; exact hr.mine j u hu b hbm
  · rcases hg j u hu with ⟨rfl, rfl⟩ | ⟨hj, hu⟩
    · exact hr.next _ o ho
    · exact hr.next j u hu
/-- An object changes: its blocks F may be others; w' is w but for blocks that are the object's. -/
theorem HR.set (hr : HR G M I h n hd Fp w) {id : Nat} {o : Ob} (ho : hget h id = some o) (o' : Ob) (hs : w'.heap.size = w.heap.size) (F : List Nat) (hF : F.Nodup) (hM : ∀ b ∈ F, M b) (hI : ∀ b ∈ F, ¬ I b)
    (hD : ∀ j u, hget h j = some u → j ≠ id → ∀ b ∈ Fp j, b ∉ F) (hb : ∀ b, b ∉ Fp id → w'.heap[b]? = w.heap[b]?)
    (fr : Fr I I n n hd hd w w') (hno : ObjR hd n w' I o' (hd id) F) : HR G M I (hset h id o') n hd (upd Fp id F) w' :=
  hr.setG ho o' hs F hF hM hI hD (fun j u hu hj => fr.O (hr.obj j u hu) (fun b hb' => hb b (hr.disj j u id o hu ho hj b hb'))) (fun g cs hg => fr.T (hr.glo g cs hg) (by simp)) hno
theorem HR.notI (hr : HR G M I h n hd Fp w) {id : Nat} {o : Ob} (ho : hget h id = some o) : ∀ b ∈ Fp id, ¬ I b := fun b hb hx => (hr.imm b hx).2 id o ho hb
end
end Go.Proofs.YtlddjlchgibdfaaDoor.X
set_option linter.unusedVariables false
set_option linter.unusedSimpArgs false
namespace Go.Proofs.YtlddjlchgibdfaaDoor.X
open Go

/-! ### Constants, layouts -/
def ofC : Value → AV
  | .int k n => .int k n
  | .bool b => .bool b
  | .string s => .str s
  | .slice none 0 0 => .nil
  | v => .con v
def ofV : Value → AV
  | .agg cs => if cs.toList.all (·.oneCell') then .agg (cs.toList.map ofC) else .any
  | .tuple _ => .any
  | v => ofC v
theorem ofC_S (hd : Nat → Value) (n : Nat) (w : World) (I : Nat → Prop) (v : Value) : S hd n w I (ofC v) v := by
  unfold ofC
  split <;> simp [S]
theorem ofC_SL (hd : Nat → Value) (n : Nat) (w : World) (I : Nat → Prop) : ∀ vs : List Value, (∀ v ∈ vs, v.oneCell' = true) → SL hd n w I (vs.map ofC) vs
  | [], _ => by simp [SL]
  | v :: vs, h => by
    simp only [List.map_cons, SL]
    exact ⟨v, vs, rfl, h v (by simp), ofC_S hd n w I v, ofC_SL hd n w I vs (fun u hu => h u (by simp [hu]))⟩
theorem ofV_S (hd : Nat → Value) (n : Nat) (w : World) (I : Nat → Prop) (v : Value) : S hd n w I (ofV v) v := by
  unfold ofV
  split
  · split
    · rename_i cs h
      simp only [S]
      exact ⟨cs, rfl, ofC_SL hd n w I _ (List.all_eq_true.1 h)⟩
    · simp [S]
  · simp [S]
  · exact ofC_S hd n w I v

inductive TK where
  | slice (e : TypeId)
  | array (n : Nat) (e : TypeId)
  | struct (fs : List (Nat × Nat))
  | str
  | bool
  | int (k : IntKind)
  | ptr (e : TypeId)
  | other
def szOf (P : Program) (t : TypeId) : Nat := (P.info? t).elim 0 (·.size)
def byOf (P : Program) (t : TypeId) : Nat := (P.info? t).elim 0 (·.bytes)
def zeroOf (P : Program) (t : TypeId) : AV := ((P.info? t).bind (·.zero)).elim .any ofV
def tk (P : Program) (t : TypeId) : TK :=
  match P.underlying t with
  | some (.slice e) => .slice e
  | some (.array n e) => .array n e
  | some (.struct fs) => .struct (fs.toList.map fun f => (f.offset, szOf P f.type))
  | some .string => .str
  | some .bool => .bool
  | some (.int k) => .int k
  | some (.pointer e) => .ptr e
  | _ => .other

section
variable {P : Program} {t e : TypeId}
theorem tk_slice (h : tk P t = .slice e) : P.underlying t = some (.slice e) := by
  unfold tk at h; split at h <;> simp_all
theorem tk_array {n : Nat} (h : tk P t = .array n e) : P.underlying t = some (.array n e) := by
  unfold tk at h; split at h <;> simp_all
theorem tk_struct {fs : List (Nat × Nat)} (h : tk P t = .struct fs) : ∃ f, P.underlying t = some (.struct f) ∧ fs = f.toList.map fun f => (f.offset, szOf P f.type) := by
  unfold tk at h; split at h <;> simp_all
theorem tk_str (h : tk P t = .str) : P.underlying t = some .string := by
  unfold tk at h; split at h <;> simp_all
theorem tk_bool (h : tk P t = .bool) : P.underlying t = some .bool := by
  unfold tk at h; split at h <;> simp_all
theorem tk_int {k : IntKind} (h : tk P t = .int k) : P.underlying t = some (.int k) := by
  unfold tk at h; split at h <;> simp_all
theorem szOf_pos (h : szOf P t ≠ 0) : ∃ i, P.info? t = some i ∧ i.size = szOf P t := by
  unfold szOf at h ⊢
  cases hi : P.info? t with
  | none => simp [hi] at h
  | some i => exact ⟨i, rfl, by simp⟩
end

/-! ### Operands -/
def ev (G : Glo) (s : St) : Operand → AV
  | .tmp t => s.tmps.getD t .any
  | .const v => ofV v
  | .global g => match G g with | some cs => .pf cs | none => .any
  | .func f => .fn f []

theorem ev_sound {G : Glo} {M I : Nat → Prop} {s : St} {hd : Nat → Value} {Fp : Nat → List Nat} {a : Act} {w : World} (h : SR G M I s hd Fp a w) (x : Operand) : S hd s.next w I (ev G s x) (a.eval x) := by
  cases x with
  | tmp t => exact h.slots t
  | const v => exact ofV_S hd _ w I v
  | global g =>
    simp only [ev, Act.eval]
    cases hg : G g with
    | none => simp [S]
    | some cs => simp only [S]; exact h.heap.glo g cs hg
  | func f => simp [ev, Act.eval, S, SL]

/-- Guaranteed over steps. -/
structure Ext (M I I' : Nat → Prop) (B : Nat) (hd hd' : Nat → Value) (w w' : World) : Prop where
  keep : Keep M w w'
  im : ∀ b, I b → I' b ∧ w'.heap[b]? = w.heap[b]?
  hds : ∀ id, id < B → hd' id = hd id
theorem Ext.refl (M I : Nat → Prop) (B : Nat) (hd : Nat → Value) (w : World) : Ext M I I B hd hd w w := ⟨Keep.refl _ _, fun _ h => ⟨h, rfl⟩, fun _ _ => rfl⟩
theorem Ext.trans {M I I' I2 : Nat → Prop} {B : Nat} {hd hd' hd2 : Nat → Value} {w w' w2 : World} (h : Ext M I I' B hd hd' w w') (k : Ext M I' I2 B hd' hd2 w' w2) : Ext M I I2 B hd hd2 w w2 :=
  ⟨h.keep.trans k.keep, fun b hb => ⟨(k.im b (h.im b hb).1).1, (k.im b (h.im b hb).1).2.trans (h.im b hb).2⟩, fun id hid => (k.hds id hid).trans (h.hds id hid)⟩
theorem Ext.less {M I I' : Nat → Prop} {B B' : Nat} {hd hd' : Nat → Value} {w w' : World} (h : Ext M I I' B hd hd' w w') (hB : B' ≤ B) : Ext M I I' B' hd hd' w w' := ⟨h.keep, h.im, fun id hid => h.hds id (Nat.lt_of_lt_of_le hid hB)⟩

/-- What an operation's run comes to. -/
def OpRes (G : Glo) (M I : Nat → Prop) (s : St) (hd : Nat → Value) (a : Act) (w : World) (K : AV → St → Prop) (r : Next) (w' : World) : Prop :=
  ∃ v av s' I' hd' Fp', (r = .value v ∨ (r = .skip ∧ v = undef)) ∧ K av s' ∧ S hd' s'.next w' I' av v ∧ SR G M I' s' hd' Fp' a w' ∧ Ext M I I' s.next hd hd' w w' ∧ s.next ≤ s'.next
def OpOk (P : Program) (G : Glo) (M I : Nat → Prop) (s : St) (hd : Nat → Value) (a : Act) (w : World) (K : AV → St → Prop) (m : Sem Next) : Prop :=
  ∃ r w', m.run P w = .ok r w' ∧ OpRes G M I s hd a w K r w'

section
variable {P : Program} {G : Glo} {M I : Nat → Prop} {s : St} {hd : Nat → Value} {Fp : Nat → List Nat} {a : Act} {w : World} {K : AV → St → Prop}
theorem OpOk.pure (h : SR G M I s hd Fp a w) {m : Sem Next} {v : Value} {av : AV} (hm : m.run P w = .ok (.value v) w) (hv : S hd s.next w I av v) (hK : K av s) : OpOk P G M I s hd a w K m :=
  ⟨_, w, hm, v, av, s, I, hd, Fp, .inl rfl, hK, hv, h, Ext.refl _ _ _ _ _, Nat.le_refl _⟩
end

/-- The older blocks are as they were. -/
def SameB (w w' : World) : Prop := w.heap.size ≤ w'.heap.size ∧ ∀ b, b < w.heap.size → w'.heap[b]? = w.heap[b]?
theorem SameB.refl (w : World) : SameB w w := ⟨Nat.le_refl _, fun _ _ => rfl⟩
theorem SameB.trans {w w1 w2 : World} (h : SameB w w1) (k : SameB w1 w2) : SameB w w2 := ⟨Nat.le_trans h.1 k.1, fun b hb => (k.2 b (Nat.lt_of_lt_of_le hb h.1)).trans (h.2 b hb)⟩
theorem SameB.cell {w w' : World} (h : SameB w w') {b o : Nat} {v : Value} (hc : w.cell? ⟨b, o, none⟩ = some v) : w'.cell? ⟨b, o, none⟩ = some v := by
  have hb : b < w.heap.size := by
    rcases Nat.lt_or_ge b w.heap.size with g | g
    · exact g
    · simp [World.cell?, Array.getElem?_eq_none g] at hc
  unfold World.cell? at hc ⊢
  simp only at hc ⊢
  rw [h.2 b hb]; exact hc

/-! ### Operators -/
def intK (op : BinOp) (k : IntKind) (a b : Int) (K : AV → Prop) : Prop :=
  match op with
  | .add => K (.int k (k.wrap (a + b)))
  | .sub => K (.int k (k.wrap (a - b)))
  | .mul => K (.int k (k.wrap (a * b)))
  | .quo => b ≠ 0 ∧ K (.int k (k.wrap (a.tdiv b)))
  | .rem => b ≠ 0 ∧ K (.int k (a.tmod b))
  | .eql => K (.bool (a == b))
  | .neq => K (.bool (a != b))
  | .lss => K (.bool (decide (a < b)))
  | .leq => K (.bool (decide (a ≤ b)))
  | .gtr => K (.bool (decide (a > b)))
  | .geq => K (.bool (decide (a ≥ b)))
  | _ => False
def strK (op : BinOp) (a b : ByteArray) (K : AV → Prop) : Prop :=
  match op with
  | .add => ((a.size + b.size : Nat) : Int) ≤ 9223372036854775807 ∧ K (.str (a ++ b))
  | .eql => K (.bool (a.toList == b.toList))
  | .neq => K (.bool (!(a.toList == b.toList)))
  | .lss => K (.bool (Op.bytesLess a.toList b.toList))
  | .leq => K (.bool (Op.bytesLess a.toList b.toList || a.toList == b.toList))
  | .gtr => K (.bool (!(Op.bytesLess a.toList b.toList || a.toList == b.toList)))
  | .geq => K (.bool (!Op.bytesLess a.toList b.toList))
  | _ => False
def isInts : List AV → List AV → Bool
  | [], [] => true
  | .int k a :: xs, .int k' b :: ys => k = k' && isInts xs ys
  | _, _ => false
def eqInts : List AV → List AV → Bool
  | .int _ a :: xs, .int _ b :: ys => a == b && eqInts xs ys
  | _, _ => true
def binK (P : Program) (op : BinOp) (t : TypeId) (x y : AV) (K : AV → Prop) : Prop :=
  match x, y with
  | .int k a, .int k' b => match op with
    | .shl => 0 ≤ b ∧ K (.int k (k.wrap (a * 2 ^ (min b.toNat k.bits))))
    | .shr => 0 ≤ b ∧ K (.int k (a.fdiv (2 ^ (min b.toNat k.bits))))
    | _ => k = k' ∧ intK op k a b K
  | .str a, .str b => strK op a b K
  | .bool a, .bool b => match tk P t, op with
    | .bool, .eql => K (.bool (a == b))
    | .bool, .neq => K (.bool (!(a == b)))
    | _, _ => False
  | .sl es, .nil => match tk P t, op with
    | .slice _, .eql => ∀ b : Bool, (b = true → es = []) → K (.bool b)
    | .slice _, .neq => ∀ b : Bool, (b = false → es = []) → K (.bool b)
    | _, _ => False
  | .nil, .nil => match tk P t, op with
    | .slice _, .eql => K (.bool true)
    | .slice _, .neq => K (.bool false)
    | _, _ => False
  | .ref _ none _ _ len, .nil => match tk P t, op with
    | .slice _, .eql => ∀ b : Bool, (b = true → len = 0) → K (.bool b)
    | .slice _, .neq => ∀ b : Bool, (b = false → len = 0) → K (.bool b)
    | _, _ => False
  | _, _ => False
def unK (op : UnOp) (x : AV) (K : AV → Prop) : Prop :=
  match op, x with
  | .neg, .int k n => K (.int k (k.wrap (0 - n)))
  | .not, .bool b => K (.bool !b)
  | _, _ => False

theorem ne_agg {v : Value} {k : IntKind} {n : Int} (h : v = .int k n) : ∀ x, v ≠ .agg x := by rintro x rfl; cases h

section
variable {P : Program} {G : Glo} {M I : Nat → Prop} {s : St} {hd : Nat → Value} {Fp : Nat → List Nat} {a : Act} {w : World}
theorem S_int {n : Nat} {k : IntKind} {m : Int} : S hd n w I (.int k m) (.int k m) := by simp [S]
theorem S_bool {n : Nat} {b : Bool} : S hd n w I (.bool b) (.bool b) := by simp [S]
theorem S_str {n : Nat} {b : ByteArray} : S hd n w I (.str b) (.string b) := by simp [S]
theorem intK_sound {op : BinOp} {k : IntKind} {x y : Int} {K : AV → Prop} (h : intK op k x y K) (hs : op ≠ .shl ∧ op ≠ .shr) (t : TypeId) (n : Nat) :
    ∃ v av, (∀ w : World, (binOp op t (.int k x) (.int k y)).run P w = .ok v w) ∧ K av ∧ S hd n w I av v := by
  unfold intK at h
  split at h
  all_goals first | exact h.elim | skip
  case h_1 => refine ⟨_, _, fun w => ?_, h, S_int⟩; simp [binOp, Op.intArith]
  case h_2 => refine ⟨_, _, fun w => ?_, h, S_int⟩; simp [binOp, Op.intArith]
  case h_3 => refine ⟨_, _, fun w => ?_, h, S_int⟩; simp [binOp, Op.intArith]
  case h_4 => refine ⟨_, _, fun w => ?_, h.2, S_int⟩; simp [binOp, Op.intDiv, h.1]
  case h_5 => refine ⟨_, _, fun w => ?_, h.2, S_int⟩; simp [binOp, Op.intDiv, h.1]
  all_goals refine ⟨_, _, fun w => ?_, h, S_bool⟩; simp [binOp, Op.intCmp]
theorem strK_sound {op : BinOp} {x y : ByteArray} {K : AV → Prop} (h : strK op x y K) (t : TypeId) (n : Nat) :
    ∃ v av, (∀ w : World, (binOp op t (.string x) (.string y)).run P w = .ok v w) ∧ K av ∧ S hd n w I av v := by
  unfold strK at h
  split at h
  all_goals first | exact h.elim | skip
  case h_1 =>
    have h1 := h.1
    have hm : IntKind.i64.max = 9223372036854775807 := rfl
    refine ⟨_, _, fun w => ?_, h.2, S_str⟩
    simp only [binOp, Op.stringOp, hm]
    rw [if_neg (by omega)]
    rfl
  all_goals refine ⟨_, _, fun w => ?_, h, S_bool⟩; simp [binOp, Op.stringOp]

theorem equal_bool {t : TypeId} (ht : P.underlying t = some .bool) (x y : Bool) : (Op.equal t (.bool x) (.bool y)).run P w = .ok (x == y) w := by
  show (Op.equalIn (9999 + 1) t _ _).run P w = _
  rw [Op.equalIn]
  simp [run_underlying ht]
theorem equal_slice_nil {t e : TypeId} (ht : P.underlying t = some (.slice e)) (A : Option Addr) (n c : Nat) : (Op.equal t (.slice A n c) (.slice none 0 0)).run P w = .ok A.isNone w := by
  show (Op.equalIn (9999 + 1) t _ _).run P w = _
  rw [Op.equalIn]
  cases A <;> simp [run_underlying ht]

theorem binK_sound {op : BinOp} {t : TypeId} {x y : AV} {K : AV → Prop} (h : binK P op t x y K) {n : Nat} {u v : Value} (hx : S hd n w I x u) (hy : S hd n w I y v) :
    ∃ r av, (∀ w : World, (binOp op t u v).run P w = .ok r w) ∧ K av ∧ S hd n w I av r := by
  unfold binK at h
  split at h
  · simp only [S] at hx hy
    subst hx; subst hy
    split at h
    · refine ⟨_, _, fun w => ?_, h.2, S_int⟩
      simp [binOp, Op.shift, Int.not_lt.2 h.1]
    · refine ⟨_, _, fun w => ?_, h.2, S_int⟩
      simp [binOp, Op.shift, Int.not_lt.2 h.1]
    · obtain ⟨rfl, h⟩ := h
      exact intK_sound h ⟨by assumption, by assumption⟩ t n
  · simp only [S] at hx hy
    subst hx; subst hy
    exact strK_sound h t n
  · simp only [S] at hx hy
    subst hx; subst hy
    split at h
    · rename_i ht
      refine ⟨_, _, fun w => ?_, h, S_bool⟩
      simp [binOp, equal_bool (tk_bool ht)]
    · rename_i ht
      refine ⟨_, _, fun w => ?_, h, S_bool⟩
      simp [binOp, equal_bool (tk_bool ht)]
    · exact h.elim
  · simp only [S] at hx hy
    subst hy
    simp only [T] at hx
    obtain ⟨_, A, c, rfl, hc, hm, hA⟩ := hx
    split at h
    · rename_i ht
      refine ⟨_, _, fun w => ?_, h A.isNone (fun e => ?_), S_bool⟩
      · simp [binOp, equal_slice_nil (tk_slice ht)]
      · rcases hA with hA | ⟨b, o, sz, vs, rfl, _⟩
        · exact hA
        · simp at e
    · rename_i ht
      refine ⟨_, _, fun w => ?_, h (!A.isNone) (fun e => ?_), S_bool⟩
      · simp [binOp, equal_slice_nil (tk_slice ht)]
      · rcases hA with hA | ⟨b, o, sz, vs, rfl, _⟩
        · exact hA
        · simp at e
    · exact h.elim
  · simp only [S] at hx hy
    subst hx; subst hy
    split at h
    · rename_i ht
      refine ⟨_, _, fun w => ?_, h, S_bool⟩
      simp [binOp, equal_slice_nil (tk_slice ht)]
    · rename_i ht
      refine ⟨_, _, fun w => ?_, h, S_bool⟩
      simp [binOp, equal_slice_nil (tk_slice ht)]
    · exact h.elim
  · simp only [S] at hx hy
    subst hy
    obtain ⟨hlt0, h0, hh0, hw⟩ := hx
    rename_i len
    have hA : ∃ A c, u = .slice A len c ∧ (A.isNone = true → len = 0) := by
      rcases hw with ⟨b, o, n, c, c', _, rfl, _⟩ | ⟨h1, A, rfl⟩
      · exact ⟨_, _, rfl, by simp⟩
      · exact ⟨A, 0, by rw [h1], fun _ => h1⟩
    obtain ⟨A, c, rfl, hA⟩ := hA
    split at h
    · rename_i ht
      refine ⟨_, _, fun w => ?_, h A.isNone hA, S_bool⟩
      simp [binOp, equal_slice_nil (tk_slice ht)]
    · rename_i ht
      refine ⟨_, _, fun w => ?_, h (!A.isNone) (fun e => hA (by simpa using e)), S_bool⟩
      simp [binOp, equal_slice_nil (tk_slice ht)]
    · exact h.elim
  · exact h.elim
theorem unK_sound {op : UnOp} {x : AV} {K : AV → Prop} (h : unK op x K) {n : Nat} {u : Value} (hx : S hd n w I x u) :
    ∃ r av, (∀ w : World, (Op.unary op u).run P w = .ok r w) ∧ K av ∧ S hd n w I av r := by
  unfold unK at h
  split at h
  · simp only [S] at hx; subst hx
    refine ⟨_, _, fun w => ?_, h, S_int⟩
    simp [Op.unary, Op.intArith]
  · simp only [S] at hx; subst hx
    refine ⟨_, _, fun w => ?_, h, S_bool⟩
    simp [Op.unary]
  · exact h.elim
/-- The guard of an equality is idle at what we compare. -/
theorem eqGuard_idle {op : BinOp} {t : TypeId} {x y : Operand} {u v : Value} (hu : u ≠ .nilIface) (ha : ∀ cs, u ≠ .agg cs) : (eqGuard op t x y u v).run P w = .ok () w := by
  cases op <;> first
    | rfl
    | (cases u <;> first | exact absurd rfl hu | exact absurd rfl (ha _) | (cases v <;> rfl))
end
theorem eqs_ofC : True := by
  have := @ofC.eq_1
  trivial
theorem eqs_ofV : True := by
  have := @ofV.eq_1
  trivial
theorem eqs_intK : True := by
  have := @intK.eq_1
  trivial
theorem eqs_strK : True := by
  have := @strK.eq_1
  trivial
theorem eqs_binK : True := by
  have := @binK.eq_1
  trivial
theorem eqs_unK : True := by
  have := @unK.eq_1
  trivial
end Go.Proofs.YtlddjlchgibdfaaDoor.X
set_option linter.unusedVariables false
set_option linter.unusedSimpArgs false
namespace Go.Proofs.YtlddjlchgibdfaaDoor.X
open Go

/-! ### The content of a place -/
def getS (h : Heap) (id : Nat) : Option (Nat × Nat × Nat) → Option (Nat × List (List AV))
  | none => match hget h id with
    | some (.slice sz es) => some (sz, es)
    | _ => none
  | some (szo, i, c) => match hget h id with
    | some (.slice sz es) => if sz = szo then (match (es[i]?).bind (·[c]?) with | some (.ow sz' es') => some (sz', es') | _ => none) else none
    | _ => none

theorem addr_add (b o j : Nat) : (⟨b, o, none⟩ : Addr).add j = ⟨b, o + j, none⟩ := by unfold Addr.add; split <;> simp_all

/-- A cell of an own slice. -/
theorem ow_cell {w : World} {I : Nat → Prop} {sz : Nat} {es : List (List AV)} {hv : Value} {F : List Nat} (h : T w I (.ow sz es) hv F) {i c : Nat} {e : List AV} {x : AV} (he : es[i]? = some e) (hx : e[c]? = some x) :
    ∃ b o cur ty v Gp, BaseOf hv b o ∧ w.heap[b]? = some (.cells cur ty (0, 0)) ∧ cur.toList[o + (i * sz + c)]? = some v ∧ v.oneCell' = true ∧ T w I x v Gp ∧ (b :: Gp).Sublist F ∧ o + es.length * sz ≤ cur.size := by
  simp only [T] at h
  rcases h with ⟨rfl, _, _⟩ | ⟨b, o, k, cur, ty, vs, Fs, rfl, hh, hc, hm, ho, hz, rfl, ht, rfl⟩
  · simp at he
  · obtain ⟨G1, hG, hs⟩ := ht.get hz he
    obtain ⟨v, G2, hv, h1, hT, hs2⟩ := hG.get hx
    have hlen : e.length = sz := hz.mem e (List.mem_of_getElem? he)
    have hcl : c < sz := by rw [← hlen]; exact (List.getElem?_eq_some_iff.1 hx).1
    have hil : i < es.length := (List.getElem?_eq_some_iff.1 he).1
    refine ⟨b, o, cur, ty, v, G2, .inl ⟨_, _, rfl⟩, hh, ?_, h1, hT, (hs2.trans hs).cons_cons _, Nat.le_trans (Nat.add_le_add_left (Nat.mul_le_mul_right sz hc) o) ho⟩
    have e1 : ((cur.toList.drop o).take (es.length * sz)).drop (i * sz) = ((cur.toList.drop o).drop (i * sz)).take (es.length * sz - i * sz) := by rw [List.drop_take]
    rw [e1] at hv
    simp only [List.getElem?_take, List.getElem?_drop] at hv
    repeat (split at hv)
    all_goals first | (exfalso; omega) | (exact hv) | (rw [← Nat.add_assoc] at hv ⊢; exact hv) | (simp at hv; done) | (simp at hv; exact hv.2)

theorem HdOf.uniq {hd : Nat → Value} {w : World} {id : Nat} : ∀ {sub : Option (Nat × Nat × Nat)} {h1 h2 : Value}, HdOf hd w id sub h1 → HdOf hd w id sub h2 → h1 = h2
  | none, h1, h2, e1, e2 => by simp only [HdOf] at e1 e2; rw [e1, e2]
  | some (szo, i, c), h1, h2, e1, e2 => by
    simp only [HdOf] at e1 e2
    obtain ⟨_, b, o, hb, hc⟩ := e1
    obtain ⟨_, b', o', hb', hc'⟩ := e2
    obtain ⟨rfl, rfl⟩ := hb.uniq hb'
    exact Option.some.inj (hc.symm.trans hc')

theorem ow_slice {w : World} {I : Nat → Prop} {sz : Nat} {es : List (List AV)} {hv : Value} {F : List Nat} (h : T w I (.ow sz es) hv F) : ∃ A k, hv = .slice A es.length k := by
  simp only [T] at h
  rcases h with ⟨rfl, ⟨A, rfl⟩, _⟩ | ⟨b, o, k, cur, ty, vs, Fs, rfl, _⟩
  · exact ⟨A, 0, rfl⟩
  · exact ⟨_, k, rfl⟩

section
variable {G : Glo} {M I : Nat → Prop} {h : Heap} {n : Nat} {hd : Nat → Value} {Fp : Nat → List Nat} {w : World}
theorem getS_sound (hr : HR G M I h n hd Fp w) {id : Nat} : ∀ {sub : Option (Nat × Nat × Nat)} {sz : Nat} {es : List (List AV)}, getS h id sub = some (sz, es) →
    ∃ hv F o, hget h id = some o ∧ HdOf hd w id sub hv ∧ T w I (.ow sz es) hv F ∧ F.Sublist (Fp id)
  | none, sz, es, hg => by
    simp only [getS] at hg
    split at hg
    · rename_i sz' es' ho
      simp only [Option.some.injEq, Prod.mk.injEq] at hg
      obtain ⟨rfl, rfl⟩ := hg
      exact ⟨hd id, Fp id, _, ho, rfl, hr.obj id _ ho, List.Sublist.refl _⟩
    · cases hg
  | some (szo, i, c), sz, es, hg => by
    simp only [getS] at hg
    split at hg
    · rename_i sz' es' ho
      split at hg
      · rename_i hsz; subst hsz
        split at hg
        · rename_i sz2 es2 hx
          simp only [Option.some.injEq, Prod.mk.injEq] at hg
          obtain ⟨rfl, rfl⟩ := hg
          obtain ⟨e, he, hx⟩ := Option.bind_eq_some_iff.1 hx
          obtain ⟨b, o, cur, ty, v, Gp, hb, hh, hv, h1, hT, hs, _⟩ := ow_cell (hr.obj id _ ho) he hx
          obtain ⟨A, k, hA⟩ := ow_slice hT
          refine ⟨v, Gp, _, ho, ⟨⟨A, _, k, hA⟩, b, o, hb, ?_⟩, hT, (List.sublist_cons_self _ _).trans hs⟩
          simpa [World.cell?, hh] using hv
        · cases hg
      · cases hg
    · cases hg
end

/-! ### Loading -/
/-- Of a type: is it a struct or an array, and of how many cells? -/
def agT (P : Program) (t : TypeId) : Option (Option Nat) :=
  match P.underlying t, P.info? t with
  | some d, some i => match d with
    | .struct _ => if i.size = 0 then none else some (some i.size)
    | .array _ _ => if i.size = 0 then none else some (some i.size)
    | _ => some none
  | _, _ => none
theorem agT_none {P : Program} {t : TypeId} {w : World} (h : agT P t = some none) : (isAgg t).run P w = .ok false w := by
  unfold agT at h
  split at h
  · rename_i d i hd hi
    simp only [isAgg, Sem.run_bind, run_underlying hd, Result.andThen_ok]
    cases d <;> simp at h <;> first | rfl | (split at h <;> cases h)
  · cases h
theorem agT_some {P : Program} {t : TypeId} {w : World} {n : Nat} (h : agT P t = some (some n)) : (isAgg t).run P w = .ok true w ∧ (sizeOf t).run P w = .ok n w ∧ n ≠ 0 ∧ szOf P t = n := by
  unfold agT at h
  split at h
  · rename_i d i hd hi
    have hs : (sizeOf t).run P w = .ok i.size w := by simp [sizeOf, typeInfo, hi]
    have hz : szOf P t = i.size := by simp [szOf, hi]
    simp only [isAgg, Sem.run_bind, run_underlying hd, Result.andThen_ok]
    cases d <;> simp at h
    all_goals (obtain ⟨h0, rfl⟩ := h; exact ⟨rfl, hs, h0, hz⟩)
  · cases h
def isF : AV → Bool
  | .any | .con _ | .int .. | .bool _ | .str _ | .nil | .sl _ | .pf _ => true
  | _ => false
theorem isF_S {hd : Nat → Value} {n : Nat} {w : World} {I : Nat → Prop} {x : AV} {v : Value} {F : List Nat} (hf : isF x = true) (h : T w I x v F) : S hd n w I x v := by
  cases x <;> simp [isF] at hf <;> simp only [T, S] at h ⊢
  case con => exact h.1
  case int => exact h.1
  case bool => exact h.1
  case str => exact h.1
  case nil => exact h.1
  case sl => exact ⟨trivial, h.2⟩
  case pf => exact ⟨trivial, h.2⟩
theorem isF_T {hd : Nat → Value} {n : Nat} {w : World} {I : Nat → Prop} {x : AV} {v : Value} (hf : isF x = true) (h : S hd n w I x v) : T w I x v [] := by
  cases x <;> simp [isF] at hf <;> simp only [T, S] at h ⊢
  case con => exact ⟨h, trivial⟩
  case int => exact ⟨h, trivial⟩
  case bool => exact ⟨h, trivial⟩
  case str => exact ⟨h, trivial⟩
  case nil => exact ⟨h, trivial⟩
  case sl => exact ⟨trivial, h.2⟩
  case pf => exact ⟨trivial, h.2⟩
def allF : List AV → Bool
  | [] => true
  | x :: xs => isF x && allF xs
theorem allF_SL {hd : Nat → Value} {n : Nat} {w : World} {I : Nat → Prop} : ∀ {xs : List AV} {vs : List Value} {F : List Nat}, allF xs = true → TL w I xs vs F → SL hd n w I xs vs
  | [], vs, F, _, h => by simp only [TL] at h; simp only [SL]; exact h.1
  | x :: xs, vs, F, hf, h => by
    simp only [allF, Bool.and_eq_true] at hf
    simp only [TL] at h
    obtain ⟨v, vs', F1, F2, rfl, rfl, h1, hx, hxs⟩ := h
    simp only [SL]
    exact ⟨v, vs', rfl, h1, isF_S hf.1 hx, allF_SL hf.2 hxs⟩

/-- A cell that was read. -/
def cellS (id : Nat) (sub : Option (Nat × Nat × Nat)) (sz i c : Nat) : AV → Option AV
  | .ow sz' es' => match sub with
    | none => some (.ref id (some (sz, i, c)) sz' 0 es'.length)
    | some _ => none
  | x => if isF x then some x else none
def cellsS (id : Nat) (sub : Option (Nat × Nat × Nat)) (sz i : Nat) : Nat → List AV → Option (List AV)
  | _, [] => some []
  | c, x :: xs => match cellS id sub sz i c x, cellsS id sub sz i (c + 1) xs with
    | some y, some ys => some (y :: ys)
    | _, _ => none

def loadK (P : Program) (h : Heap) (t : TypeId) (x : AV) (K : AV → Prop) : Prop :=
  match x, agT P t with
  | .pf cs, some (some n) => n ≤ cs.length ∧ allF (cs.take n) = true ∧ K (.agg (cs.take n))
  | .pf cs, some none => match cs with
    | y :: _ => isF y = true ∧ K y
    | [] => False
  | .ptr id sub sz i c, some ag => match sub, hget h id with
    | none, some (.var cs) => i = 0 ∧ match ag with
      | some n => c + n ≤ cs.length ∧ K (.agg ((cs.drop c).take n))
      | none => match cs[c]? with
        | some y => K y
        | none => False
    | _, _ => match getS h id sub with
      | some (sz', es) => sz' = sz ∧ match es[i]? with
        | some e => match ag with
          | some n => c + n ≤ e.length ∧ (match cellsS id sub sz i c ((e.drop c).take n) with | some ys => K (.agg ys) | none => False)
          | none => match e[c]? with
            | some y => match cellS id sub sz i c y with
              | some z => K z
              | none => False
            | none => False
        | none => False
      | none => False
  | _, _ => False

theorem At.loads {P : Program} {w : World} {b o : Nat} {vs : List Value} (h : At w b o vs) : (loadCells ⟨b, o, none⟩ vs.length).run P w = .ok vs.toArray w :=
  run_loadCells_list (P := P) w _ vs (fun j v hv => by rw [addr_add]; exact h j v hv)
theorem run_loadVar_agg {P : Program} {w : World} {t : TypeId} {b o n : Nat} {vs : List Value} (ht : agT P t = some (some n)) (h : At w b o vs) (hn : vs.length = n) : ∀ w', SameB w w' → (loadVar t ⟨b, o, none⟩).run P w' = .ok (.agg vs.toArray) w' := by
  intro w' hw
  have h : At w' b o vs := fun j v hv => hw.cell (h j v hv)
  obtain ⟨h1, h2, _⟩ := agT_some (w := w') ht
  subst hn
  simp [loadVar, h1, h2, h.loads]
theorem run_loadVar_one {P : Program} {w : World} {t : TypeId} {b o : Nat} {v : Value} (ht : agT P t = some none) (h : w.cell? ⟨b, o, none⟩ = some v) : ∀ w', SameB w w' → (loadVar t ⟨b, o, none⟩).run P w' = .ok v w' := by
  intro w' hw
  simp [loadVar, agT_none (w := w') ht, load, Sem.run, hw.cell h]
theorem run_loadAt {P : Program} {w : World} {t : TypeId} {a : Addr} {v : Value} (h : ∀ w', SameB w w' → (loadVar t a).run P w' = .ok v w') : ∀ w', SameB w w' → (Instr.loadAt t (.pointer (some a))).run P w' = .ok v w' := by
  intro w' hw
  simp [Instr.loadAt, Instr.sureAddr, h w' hw]

theorem TL.take {w : World} {I : Nat → Prop} : ∀ {xs : List AV} {vs : List Value} {F : List Nat} (n : Nat), TL w I xs vs F → ∃ F', TL w I (xs.take n) (vs.take n) F' ∧ F'.Sublist F
  | [], vs, F, n, h => by
    simp only [TL] at h
    obtain ⟨rfl, rfl⟩ := h
    exact ⟨[], by simp [TL], List.Sublist.refl _⟩
  | x :: xs, vs, F, 0, h => ⟨[], by simp [TL], List.nil_sublist _⟩
  | x :: xs, vs, F, n + 1, h => by
    simp only [TL] at h
    obtain ⟨v, vs', F1, F2, rfl, rfl, h1, hx, hxs⟩ := h
    obtain ⟨F', hF, hs⟩ := TL.take n hxs
    refine ⟨F1 ++ F', ?_, List.Sublist.append_left hs F1⟩
    simp only [List.take_succ_cons, TL]
    exact ⟨v, _, F1, F', rfl, rfl, h1, hx, hF⟩
theorem TL.drop {w : World} {I : Nat → Prop} : ∀ {xs : List AV} {vs : List Value} {F : List Nat} (n : Nat), TL w I xs vs F → ∃ F', TL w I (xs.drop n) (vs.drop n) F' ∧ F'.Sublist F
  | xs, vs, F, 0, h => ⟨F, by simpa using h, List.Sublist.refl _⟩
  | [], vs, F, n + 1, h => by
    simp only [TL] at h
    obtain ⟨rfl, rfl⟩ := h
    exact ⟨[], by simp [TL], List.Sublist.refl _⟩
  | x :: xs, vs, F, n + 1, h => by
    simp only [TL] at h
    obtain ⟨v, vs', F1, F2, rfl, rfl, h1, hx, hxs⟩ := h
    obtain ⟨F', hF, hs⟩ := TL.drop n hxs
    exact ⟨F', by simpa using hF, hs.trans (List.sublist_append_right _ _)⟩
theorem SL.take {hd : Nat → Value} {n : Nat} {w : World} {I : Nat → Prop} : ∀ {xs : List AV} {vs : List Value} (m : Nat), SL hd n w I xs vs → SL hd n w I (xs.take m) (vs.take m)
  | [], vs, m, h => by simp only [SL] at h; simp [SL, h]
  | x :: xs, vs, 0, h => by simp [SL]
  | x :: xs, vs, m + 1, h => by
    simp only [SL] at h
    obtain ⟨v, vs', rfl, h1, hx, hxs⟩ := h
    simp only [List.take_succ_cons, SL]
    exact ⟨v, _, rfl, h1, hx, SL.take m hxs⟩
theorem SL.drop {hd : Nat → Value} {n : Nat} {w : World} {I : Nat → Prop} : ∀ {xs : List AV} {vs : List Value} (m : Nat), SL hd n w I xs vs → SL hd n w I (xs.drop m) (vs.drop m)
  | xs, vs, 0, h => by simpa using h
  | [], vs, m + 1, h => by simp only [SL] at h; simp [SL, h]
  | x :: xs, vs, m + 1, h => by
    simp only [SL] at h
    obtain ⟨v, vs', rfl, h1, hx, hxs⟩ := h
    simpa using SL.drop m hxs

section
variable {P : Program} {G : Glo} {M I : Nat → Prop} {h : Heap} {n : Nat} {hd : Nat → Value} {Fp : Nat → List Nat} {w : World}
theorem cellS_sound (hr : HR G M I h n hd Fp w) {id : Nat} (hid : id < n) {sub : Option (Nat × Nat × Nat)} {sz i c b o : Nat} {hv : Value} (hh : HdOf hd w id sub hv) (hb : BaseOf hv b o) {x y : AV} {v : Value} {F : List Nat}
    (hc : w.cell? ⟨b, o + (i * sz + c), none⟩ = some v) (hx : T w I x v F) (hy : cellS id sub sz i c x = some y) : S hd n w I y v := by
  unfold cellS at hy
  split at hy
  · split at hy
    · simp only [Option.some.injEq] at hy
      subst hy
      obtain ⟨A, k, hA⟩ := ow_slice hx
      simp only [HdOf] at hh
      subst hh
      simp only [S]
      refine ⟨hid, v, ?_, ?_⟩
      · simp only [HdOf]
        exact ⟨⟨A, _, k, hA⟩, b, o, hb, hc⟩
      · simp only [T] at hx
        rcases hx with ⟨rfl, ⟨A', rfl⟩, _⟩ | ⟨b', o', k', cur, ty, vs, Fs, rfl, hh', hc', hm, ho, hz, hvs, ht, hF⟩
        · exact .inr ⟨rfl, A', rfl⟩
        · exact .inl ⟨b', o', _, k', k', rfl, by simp, by omega, hc', by omega⟩
    · cases hy
  · split at hy
    · rename_i hf
      simp only [Option.some.injEq] at hy
      subst hy
      exact isF_S hf hx
    · cases hy
theorem cellsS_sound (hr : HR G M I h n hd Fp w) {id : Nat} (hid : id < n) {sub : Option (Nat × Nat × Nat)} {sz i b o : Nat} {hv : Value} (hh : HdOf hd w id sub hv) (hb : BaseOf hv b o) :
    ∀ {xs ys : List AV} {vs : List Value} {F : List Nat} (c : Nat), At w b (o + (i * sz + c)) vs → TL w I xs vs F → cellsS id sub sz i c xs = some ys → SL hd n w I ys vs
  | [], ys, vs, F, c, hat, hx, hy => by
    simp only [cellsS, Option.some.injEq] at hy
    subst hy
    simp only [TL] at hx
    simp only [SL]
    exact hx.1
  | x :: xs, ys, vs, F, c, hat, hx, hy => by
    simp only [TL] at hx
    obtain ⟨v, vs', F1, F2, rfl, rfl, h1, hx, hxs⟩ := hx
    simp only [cellsS] at hy
    split at hy
    · rename_i y ys' e1 e2
      simp only [Option.some.injEq] at hy
      subst hy
      simp only [SL]
      refine ⟨v, vs', rfl, h1, cellS_sound hr hid hh hb (by have := hat 0 v (by simp); simpa using this) hx e1, cellsS_sound hr hid hh hb (c + 1) ?_ hxs e2⟩
      intro j u hu
      have := hat (j + 1) u (by simpa using hu)
      rw [show o + (i * sz + (c + 1)) + j = o + (i * sz + c) + (j + 1) by omega]
      exact this
    · cases hy
end

section
variable {P : Program} {G : Glo} {M I : Nat → Prop} {s : St} {hd : Nat → Value} {Fp : Nat → List Nat} {a : Act} {w : World} {K : AV → Prop}
theorem loadK_sound (h : SR G M I s hd Fp a w) {t : TypeId} {x : AV} {u : Value} (hk : loadK P s.heap t x K) (hx : S hd s.next w I x u) : ∃ v av, (∀ w', SameB w w' → (Instr.loadAt t u).run P w' = .ok v w') ∧ K av ∧ S hd s.next w I av v := by
  unfold loadK at hk
  split at hk
  · rename_i cs n ht
    obtain ⟨hn, hf, hk⟩ := hk
    simp only [S, T] at hx
    obtain ⟨_, b, o, vs, rfl, hb, hat, hT⟩ := hx
    obtain ⟨F', hT', _⟩ := hT.take n
    have hl := hT.length
    refine ⟨_, _, run_loadAt (run_loadVar_agg ht (vs := vs.take n) (fun j v hv => hat j v ?_) (by simp; omega)), hk, ?_⟩
    · rw [List.getElem?_take] at hv
      split at hv
      · exact hv
      · cases hv
    · simp only [S]
      exact ⟨_, rfl, allF_SL hf hT'⟩
  · rename_i cs ht
    simp only [S, T] at hx
    obtain ⟨_, b, o, vs, rfl, hb, hat, hT⟩ := hx
    split at hk
    · rename_i y ys
      simp only [TL] at hT
      obtain ⟨v, vs', F1, F2, rfl, _, h1, hy, _⟩ := hT
      exact ⟨v, _, run_loadAt (run_loadVar_one ht (by have := hat 0 v (by simp); simpa using this)), hk.2, isF_S hk.1 hy⟩
    · exact hk.elim
  · rename_i id sub sz i c ag ht
    simp only [S] at hx
    obtain ⟨hid, hv, b, o, hh, hb, rfl⟩ := hx
    split at hk
    · rename_i cs ho
      obtain ⟨rfl, hk⟩ := hk
      have hobj := h.heap.obj id _ ho
      simp only [HdOf] at hh
      subst hh
      obtain ⟨b', cur, e, hp, hhp, hs, _⟩ := hobj
      obtain ⟨rfl, rfl⟩ := hb.uniq (.inr hp)
      have hat : At w b 0 cur.toList := fun j u hu => by simpa [World.cell?, hhp] using hu
      split at hk
      · rename_i n
        obtain ⟨hn, hk⟩ := hk
        have hl := hs.length
        refine ⟨_, _, run_loadAt (run_loadVar_agg ht (vs := (cur.toList.drop c).take n) (fun j v hv => ?_) ?_), hk, ?_⟩
        · rw [List.getElem?_take] at hv
          split at hv
          · rw [List.getElem?_drop] at hv
            have := hat _ _ hv
            rw [show 0 + (0 * sz + c) + j = 0 + (c + j) by omega]
            exact this
          · cases hv
        · simp only [List.length_take, List.length_drop]; omega
        · simp only [S]
          exact ⟨_, rfl, (hs.drop c).take n⟩
      · split at hk
        · rename_i y hy
          obtain ⟨v, hv, h1, hS⟩ := hs.get hy
          exact ⟨v, _, run_loadAt (run_loadVar_one ht (by have := hat _ _ hv; rw [show 0 + (0 * sz + c) = 0 + c by omega]; exact this)), hk, hS⟩
        · exact hk.elim
    · split at hk
      · rename_i sz' es hg
        obtain ⟨rfl, hk⟩ := hk
        obtain ⟨hv', F, ob, ho, hh', hT, hsub⟩ := getS_sound h.heap hg
        obtain rfl := HdOf.uniq hh hh'
        split at hk
        · rename_i e he
          simp only [T] at hT
          rcases hT with ⟨rfl, _, _⟩ | ⟨b', o', k, cur, ty, vs, Fs, rfl, hhp, hc, hm, hof, hz, rfl, hTT, rfl⟩
          · simp at he
          · obtain ⟨rfl, rfl⟩ := hb.uniq (.inl ⟨_, _, rfl⟩)
            obtain ⟨G1, hG, _⟩ := hTT.get hz he
            have hel := hz.mem e (List.mem_of_getElem? he)
            have hil : i < es.length := (List.getElem?_eq_some_iff.1 he).1
            have hat : At w b (o + i * sz') ((((cur.toList.drop o).take (es.length * sz')).drop (i * sz')).take sz') := by
              intro j u hu
              rw [List.drop_take] at hu
              simp only [List.getElem?_take, List.getElem?_drop] at hu
              have hcu : cur.toList[o + (i * sz' + j)]? = some u := by
                repeat (split at hu)
                all_goals first | exact hu | (simp at hu; done)
              rw [show o + i * sz' + j = o + (i * sz' + j) by omega]
              simpa [World.cell?, hhp] using hcu
            split at hk
            · rename_i n
              obtain ⟨hn, hk⟩ := hk
              split at hk
              · rename_i ys hys
                obtain ⟨F1, hG1, _⟩ := hG.drop c
                obtain ⟨F2, hG2, _⟩ := hG1.take n
                have hl := hG.length
                have hat2 : At w b (o + (i * sz' + c)) ((((((cur.toList.drop o).take (es.length * sz')).drop (i * sz')).take sz').drop c).take n) := by
                  intro j u hu
                  rw [List.getElem?_take] at hu
                  split at hu
                  · rw [List.getElem?_drop] at hu
                    have := hat _ _ hu
                    rw [show o + (i * sz' + c) + j = o + i * sz' + (c + j) by omega]
                    exact this
                  · cases hu
                refine ⟨_, _, run_loadAt (run_loadVar_agg ht hat2 ?_), hk, ?_⟩
                · rw [List.length_take, List.length_drop, hl]; omega
                · simp only [S]
                  exact ⟨_, rfl, cellsS_sound h.heap hid hh hb c hat2 hG2 hys⟩
              · exact hk.elim
            · split at hk
              · rename_i y hy
                split at hk
                · rename_i z hz'
                  obtain ⟨v, G2, hv, h1, hTy, _⟩ := hG.get hy
                  have hcell : w.cell? ⟨b, o + (i * sz' + c), none⟩ = some v := by
                    have := hat _ _ hv
                    rw [show o + (i * sz' + c) = o + i * sz' + c by omega]
                    exact this
                  exact ⟨v, _, run_loadAt (run_loadVar_one ht hcell), hk, cellS_sound h.heap hid hh hb hcell hTy hz'⟩
                · exact hk.elim
              · exact hk.elim
        · exact hk.elim
      · exact hk.elim
  · exact hk.elim
end
theorem eqs_getS : True := by
  have := @getS.eq_1
  trivial
theorem eqs_isF : True := by
  have := @isF.eq_1
  trivial
theorem eqs_allF : True := by
  have := @allF.eq_1
  trivial
theorem eqs_cellS : True := by
  have := @cellS.eq_1
  trivial
theorem eqs_cellsS : True := by
  have := @cellsS.eq_1
  trivial
theorem eqs_loadK : True := by
  have := @loadK.eq_1
  trivial
end Go.Proofs.YtlddjlchgibdfaaDoor.X
set_option linter.unusedVariables false
set_option linter.unusedSimpArgs false
namespace Go.Proofs.YtlddjlchgibdfaaDoor.X
open Go

theorem TLL.take {w : World} {I : Nat → Prop} {sz : Nat} : ∀ {es : List (List AV)} {vs : List Value} {F : List Nat} (n : Nat), TLL w I es vs F → Each sz es → ∃ F', TLL w I (es.take n) (vs.take (n * sz)) F' ∧ F'.Sublist F
  | [], vs, F, n, h, _ => by
    simp only [TLL] at h
    obtain ⟨rfl, rfl⟩ := h
    exact ⟨[], by simp [TLL], List.Sublist.refl _⟩
  | e :: es, vs, F, 0, h, _ => ⟨[], by simp [TLL], List.nil_sublist _⟩
  | e :: es, vs, F, n + 1, h, hz => by
    simp only [TLL] at h
    obtain ⟨v1, v2, F1, F2, rfl, rfl, hx, hxs⟩ := h
    obtain ⟨F', hF, hs⟩ := TLL.take n hxs hz.2
    have hl := hx.length
    have h1 := hz.1
    refine ⟨F1 ++ F', ?_, List.Sublist.append_left hs F1⟩
    simp only [List.take_succ_cons, TLL]
    refine ⟨v1, _, F1, F', ?_, rfl, hx, hF⟩
    rw [List.take_append, List.take_of_length_le (by rw [hl, h1, Nat.add_mul]; omega), hl, h1, Nat.add_mul]
    congr 2
    omega
theorem TLL.drop {w : World} {I : Nat → Prop} {sz : Nat} : ∀ {es : List (List AV)} {vs : List Value} {F : List Nat} (n : Nat), TLL w I es vs F → Each sz es → ∃ F', TLL w I (es.drop n) (vs.drop (n * sz)) F' ∧ F'.Sublist F
  | es, vs, F, 0, h, _ => ⟨F, by simpa using h, List.Sublist.refl _⟩
  | [], vs, F, n + 1, h, _ => by
    simp only [TLL] at h
    obtain ⟨rfl, rfl⟩ := h
    exact ⟨[], by simp [TLL], List.Sublist.refl _⟩
  | e :: es, vs, F, n + 1, h, hz => by
    simp only [TLL] at h
    obtain ⟨v1, v2, F1, F2, rfl, rfl, hx, hxs⟩ := h
    obtain ⟨F', hF, hs⟩ := TLL.drop n hxs hz.2
    have hl := hx.length
    have h1 := hz.1
    refine ⟨F', ?_, hs.trans (List.sublist_append_right _ _)⟩
    rw [List.drop_succ_cons, Nat.add_mul, Nat.one_mul, Nat.add_comm, ← List.drop_drop, List.drop_append_of_le_length (by omega), List.drop_eq_nil_of_le (by omega : v1.length ≤ sz), List.nil_append]
    exact hF
theorem TLL.append {w : World} {I : Nat → Prop} : ∀ {es es' : List (List AV)} {vs vs' : List Value} {F F' : List Nat}, TLL w I es vs F → TLL w I es' vs' F' → TLL w I (es ++ es') (vs ++ vs') (F ++ F')
  | [], es', vs, vs', F, F', h, h' => by
    simp only [TLL] at h
    obtain ⟨rfl, rfl⟩ := h
    simpa using h'
  | e :: es, es', vs, vs', F, F', h, h' => by
    simp only [TLL] at h
    obtain ⟨v1, v2, F1, F2, rfl, rfl, hx, hxs⟩ := h
    simp only [List.cons_append, TLL]
    exact ⟨v1, v2 ++ vs', F1, F2 ++ F', by simp, by simp, hx, TLL.append hxs h'⟩
theorem TL.append {w : World} {I : Nat → Prop} : ∀ {es es' : List AV} {vs vs' : List Value} {F F' : List Nat}, TL w I es vs F → TL w I es' vs' F' → TL w I (es ++ es') (vs ++ vs') (F ++ F')
  | [], es', vs, vs', F, F', h, h' => by
    simp only [TL] at h
    obtain ⟨rfl, rfl⟩ := h
    simpa using h'
  | e :: es, es', vs, vs', F, F', h, h' => by
    simp only [TL] at h
    obtain ⟨v, v2, F1, F2, rfl, rfl, h1, hx, hxs⟩ := h
    simp only [List.cons_append, TL]
    exact ⟨v, v2 ++ vs', F1, F2 ++ F', by simp, by simp, h1, hx, TL.append hxs h'⟩

/-- A window of an own slice. -/
theorem ow_win {w : World} {I : Nat → Prop} {sz off len : Nat} {es : List (List AV)} {hv v : Value} {F : List Nat} (h : T w I (.ow sz es) hv F) (hw : Win sz off len hv v) :
    ∃ F', T w I (.ow sz ((es.drop off).take len)) v F' ∧ F'.Sublist F ∧ ((es.drop off).take len).length = len := by
  rcases hw with ⟨b, o, n, c, c', rfl, rfl, h1, h2, h3⟩ | ⟨rfl, A, rfl⟩
  · simp only [T] at h
    rcases h with ⟨rfl, ⟨A, hA⟩, rfl⟩ | ⟨b', o', k, cur, ty, vs, Fs, hs, hh, hc, hm, ho, hz, rfl, ht, rfl⟩
    · simp only [Value.slice.injEq] at hA
      obtain ⟨_, rfl, rfl⟩ := hA
      obtain rfl : len = 0 := by omega
      obtain rfl : c' = 0 := by omega
      exact ⟨[], by simp only [T]; exact .inl ⟨by simp, ⟨_, rfl⟩, trivial⟩, List.Sublist.refl _, by simp⟩
    · simp only [Value.slice.injEq, Option.some.injEq, Addr.mk.injEq] at hs
      obtain ⟨⟨rfl, rfl, _⟩, rfl, rfl⟩ := hs
      obtain ⟨F1, hT1, hs1⟩ := ht.drop off hz
      obtain ⟨F2, hT2, hs2⟩ := hT1.take len (hz.drop off)
      have hl : ((es.drop off).take len).length = len := by simp; omega
      refine ⟨b :: F2, ?_, (hs2.trans hs1).cons_cons _, hl⟩
      simp only [T]
      refine .inr ⟨b, o + off * sz, c', cur, ty, _, F2, by rw [hl], hh, by rw [hl]; exact h2, by omega, ?_, (hz.drop off).take len, ?_, hT2, rfl⟩
      · have : (off + c') * sz ≤ c * sz := Nat.mul_le_mul_right _ h1
        rw [Nat.add_mul] at this
        omega
      · rw [hl, ← List.drop_drop, List.drop_take, List.take_take]
        congr 1
        have : (off + len) * sz ≤ es.length * sz := Nat.mul_le_mul_right _ h3
        rw [Nat.add_mul] at this
        omega
  · exact ⟨[], by simp only [T]; exact .inl ⟨by simp, ⟨_, rfl⟩, trivial⟩, List.nil_sublist _, by simp⟩

/-! ### Handing away -/
def conC (h : Heap) : AV → Option (AV × Heap)
  | .ref id none sz off len => match hget h id with
    | some (.slice sz' es) => if sz = sz' then some (.ow sz ((es.drop off).take len), hdel h id) else none
    | _ => none
  | x => if isF x then some (x, h) else none
def conL (h : Heap) : List AV → Option (List AV × Heap)
  | [] => some ([], h)
  | x :: xs => match conC h x with
    | some (y, h1) => match conL h1 xs with
      | some (ys, h2) => some (y :: ys, h2)
      | none => none
    | none => none

/-- Blocks that are of nobody (any more), and ours to write. -/
structure Free (M I : Nat → Prop) (h : Heap) (Fp : Nat → List Nat) (F : List Nat) : Prop where
  nodup : F.Nodup
  mine : ∀ b ∈ F, M b
  imm : ∀ b ∈ F, ¬ I b
  disj : ∀ id o, hget h id = some o → ∀ b ∈ Fp id, b ∉ F
theorem Free.nil (M I : Nat → Prop) (h : Heap) (Fp : Nat → List Nat) : Free M I h Fp [] := ⟨List.nodup_nil, by simp, by simp, by simp⟩
def Sub (h' h : Heap) : Prop := ∀ id o, hget h' id = some o → hget h id = some o
theorem Sub.refl (h : Heap) : Sub h h := fun _ _ e => e
theorem Sub.trans {h1 h2 h3 : Heap} (a : Sub h1 h2) (b : Sub h2 h3) : Sub h1 h3 := fun id o e => b id o (a id o e)
theorem Sub.del (h : Heap) (id : Nat) : Sub (hdel h id) h := by
  intro j u hu
  rw [hget_del] at hu
  split at hu
  · cases hu
  · exact hu
theorem Free.less {M I : Nat → Prop} {h h' : Heap} {Fp : Nat → List Nat} {F : List Nat} (f : Free M I h Fp F) (s : Sub h' h) : Free M I h' Fp F := ⟨f.nodup, f.mine, f.imm, fun id o ho => f.disj id o (s id o ho)⟩
theorem Free.sub {M I : Nat → Prop} {h : Heap} {Fp : Nat → List Nat} {F F' : List Nat} (f : Free M I h Fp F) (s : F'.Sublist F) : Free M I h Fp F' :=
  ⟨s.nodup f.nodup, fun b hb => f.mine b (s.subset hb), fun b hb => f.imm b (s.subset hb), fun id o ho b hb hm => f.disj id o ho b hb (s.subset hm)⟩

section
variable {G : Glo} {M I : Nat → Prop} {h : Heap} {n : Nat} {hd : Nat → Value} {Fp : Nat → List Nat} {w : World}
theorem HR.freed (hr : HR G M I h n hd Fp w) {id : Nat} {o : Ob} (ho : hget h id = some o) : Free M I (hdel h id) Fp (Fp id) := by
  refine ⟨hr.nodup id o ho, hr.mine id o ho, hr.notI ho, fun j u hu => ?_⟩
  rw [hget_del] at hu
  split at hu
  · cases hu
  · rename_i hj
    exact hr.disj j u id o hu ho (Ne.symm hj)
theorem conC_sound (hr : HR G M I h n hd Fp w) {x y : AV} {h' : Heap} {v : Value} (hx : S hd n w I x v) (hy : conC h x = some (y, h')) :
    ∃ F, HR G M I h' n hd Fp w ∧ T w I y v F ∧ Free M I h' Fp F ∧ Sub h' h ∧ (∀ b ∈ F, ∃ id o, hget h id = some o ∧ b ∈ Fp id) := by
  unfold conC at hy
  split at hy
  · rename_i id sz off len
    split at hy
    · rename_i sz' es ho
      split at hy
      · rename_i hsz
        subst hsz
        simp only [Option.some.injEq, Prod.mk.injEq] at hy
        obtain ⟨rfl, rfl⟩ := hy
        simp only [S, HdOf] at hx
        obtain ⟨hid, hv, rfl, hw⟩ := hx
        obtain ⟨F', hT, hs, _⟩ := ow_win (hr.obj id _ ho) hw
        exact ⟨F', hr.del id, hT, (hr.freed ho).sub hs, Sub.del h id, fun b hb => ⟨id, _, ho, hs.subset hb⟩⟩
      · cases hy
    · cases hy
  · split at hy
    · rename_i hf
      simp only [Option.some.injEq, Prod.mk.injEq] at hy
      obtain ⟨rfl, rfl⟩ := hy
      exact ⟨[], hr, isF_T hf hx, Free.nil _ _ _ _, Sub.refl _, by simp⟩
    · cases hy
theorem conL_sound : ∀ {h : Heap} (hr : HR G M I h n hd Fp w) {xs ys : List AV} {h' : Heap} {vs : List Value} (hx : SL hd n w I xs vs) (hy : conL h xs = some (ys, h')),
    ∃ F, HR G M I h' n hd Fp w ∧ TL w I ys vs F ∧ Free M I h' Fp F ∧ Sub h' h ∧ (∀ b ∈ F, ∃ id o, hget h id = some o ∧ b ∈ Fp id)
  | h, hr, [], ys, h', vs, hx, hy => by
    simp only [conL, Option.some.injEq, Prod.mk.injEq] at hy
    obtain ⟨rfl, rfl⟩ := hy
    simp only [SL] at hx
    subst hx
    exact ⟨[], hr, by simp [TL], Free.nil _ _ _ _, Sub.refl _, by simp⟩
  | h, hr, x :: xs, ys, h', vs, hx, hy => by
    simp only [SL] at hx
    obtain ⟨v, vs', rfl, h1, hxv, hxs⟩ := hx
    simp only [conL] at hy
    split at hy
    · rename_i y h1' e1
      split at hy
      · rename_i ys' h2' e2
        simp only [Option.some.injEq, Prod.mk.injEq] at hy
        obtain ⟨rfl, rfl⟩ := hy
        obtain ⟨F1, hr1, hT1, hf1, hs1, ho1⟩ := conC_sound hr hxv e1
        obtain ⟨F2, hr2, hT2, hf2, hs2, ho2⟩ := conL_sound hr1 hxs e2
        refine ⟨F1 ++ F2, hr2, ?_, ⟨?_, ?_, ?_, ?_⟩, hs2.trans hs1, ?_⟩
        · simp only [TL]
          exact ⟨v, vs', F1, F2, rfl, rfl, h1, hT1, hT2⟩
        · refine List.nodup_append.2 ⟨hf1.nodup, hf2.nodup, ?_⟩
          rintro b hb1 b' hb2 rfl
          obtain ⟨id, o, ho, hb⟩ := ho2 b hb2
          exact hf1.disj id o ho b hb hb1
        · intro b hb
          rcases List.mem_append.1 hb with hb | hb
          · exact hf1.mine b hb
          · exact hf2.mine b hb
        · intro b hb
          rcases List.mem_append.1 hb with hb | hb
          · exact hf1.imm b hb
          · exact hf2.imm b hb
        · intro id o ho b hb hm
          rcases List.mem_append.1 hm with hm | hm
          · exact (hf1.less hs2).disj id o ho b hb hm
          · exact hf2.disj id o ho b hb hm
        · intro b hb
          rcases List.mem_append.1 hb with hb | hb
          · exact ho1 b hb
          · obtain ⟨id, o, ho, hb'⟩ := ho2 b hb
            exact ⟨id, o, hs1 id o ho, hb'⟩
      · cases hy
    · cases hy
/-- What was freed becomes an object. -/
theorem HR.addFree (hr : HR G M I h n hd Fp w) (o : Ob) (v : Value) (F : List Nat) (hf : Free M I h Fp F) (ho : ∀ hd', (∀ id, id < n → hd' id = hd id) → ObjR hd' (n + 1) w I o v F) :
    HR G M I ((n, o) :: h) (n + 1) (upd hd n v) (upd Fp n F) w := hr.add o v F hf.nodup hf.mine hf.imm hf.disj ho
end
end Go.Proofs.YtlddjlchgibdfaaDoor.X
set_option linter.unusedVariables false
set_option linter.unusedSimpArgs false
namespace Go.Proofs.YtlddjlchgibdfaaDoor.X
open Go

/-! ### Addresses -/
def faddrK (P : Program) (t : TypeId) (x : AV) (j : Nat) (K : AV → Prop) : Prop :=
  match tk P t with
  | .struct fs => match fs[j]? with
    | some (off, sz') => sz' ≠ 0 ∧ match x with
      | .ptr id sub sz i c => K (.ptr id sub sz i (c + off))
      | .pf cs => K (.pf (cs.drop off))
      | _ => False
    | none => False
  | _ => False
def iaddrK (P : Program) (t : TypeId) (x ix : AV) (K : AV → Prop) : Prop :=
  match tk P t, x, ix with
  | .slice e, .ref id sub sz off len, .int _ i => sz = szOf P e ∧ szOf P e ≠ 0 ∧ 0 ≤ i ∧ i < len ∧ K (.ptr id sub sz (off + i.toNat) 0)
  | .slice e, .sl es, .int _ i => szOf P e ≠ 0 ∧ 0 ≤ i ∧ match es[i.toNat]? with
    | some el => el.length = szOf P e ∧ K (.pf el)
    | none => False
  | .array m e, .ptr id sub sz i0 c, .int _ i => szOf P e ≠ 0 ∧ 0 ≤ i ∧ i < m ∧ K (.ptr id sub sz i0 (c + i.toNat * szOf P e))
  | .array m e, .pf cs, .int _ i => szOf P e ≠ 0 ∧ 0 ≤ i ∧ i < m ∧ K (.pf (cs.drop (i.toNat * szOf P e)))
  | _, _, _ => False
def bt (s : ByteArray) (i : Int) : Int := ((s.data.toList.getD i.toNat 0).toNat : Int)
def idxK (P : Program) (t : TypeId) (x ix : AV) (K : AV → Prop) : Prop :=
  match tk P t, x, ix with
  | .str, .str s, .int _ i => 0 ≤ i ∧ i < s.size ∧ K (.int .u8 (bt s i))
  | _, _, _ => False
def sliceK (P : Program) (t : TypeId) (x : AV) (lo hi : Option AV) (K : AV → Prop) : Prop :=
  match tk P t, x, lo.getD (.int .i64 0) with
  | .slice e, .ref id sub sz off len, .int _ l => match hi.getD (.int .i64 len) with
    | .int _ r => sz = szOf P e ∧ szOf P e ≠ 0 ∧ 0 ≤ l ∧ l ≤ r ∧ r ≤ len ∧ K (.ref id sub sz (off + l.toNat) (r - l).toNat)
    | _ => False
  | .slice e, .sl es, .int _ l => match hi.getD (.int .i64 es.length) with
    | .int _ r => szOf P e ≠ 0 ∧ (∀ el ∈ es, el.length = szOf P e) ∧ 0 ≤ l ∧ l ≤ r ∧ r ≤ es.length ∧ K (.sl ((es.drop l.toNat).take (r - l).toNat))
    | _ => False
  | .slice e, .nil, .int _ l => match hi.getD (.int .i64 0) with
    | .int _ r => szOf P e ≠ 0 ∧ l = 0 ∧ r = 0 ∧ K .nil
    | _ => False
  | .str, .str s, .int _ l => match hi.getD (.int .i64 s.size) with
    | .int _ r => 0 ≤ l ∧ l ≤ r ∧ r ≤ s.size ∧ K (.str (s.extract l.toNat r.toNat))
    | _ => False
  | _, _, _ => False

section
variable {P : Program} {G : Glo} {M I : Nat → Prop} {s : St} {hd : Nat → Value} {w : World} {K : AV → Prop} {n : Nat}
theorem run_sizeOf {P : Program} {t : TypeId} {w : World} (h : szOf P t ≠ 0) : (sizeOf t).run P w = .ok (szOf P t) w := by
  obtain ⟨i, hi, hs⟩ := szOf_pos h
  simp [sizeOf, typeInfo, hi, hs]
theorem TL.dropAt {w : World} {I : Nat → Prop} {b o : Nat} {cs : List AV} {vs : List Value} (m : Nat) (hat : At w b o vs) (h : TL w I cs vs []) : At w b (o + m) (vs.drop m) ∧ TL w I (cs.drop m) (vs.drop m) [] := by
  refine ⟨fun j u hu => ?_, ?_⟩
  · rw [List.getElem?_drop] at hu
    rw [Nat.add_assoc]
    exact hat _ _ hu
  · obtain ⟨F', h1, h2⟩ := h.drop m
    rwa [List.sublist_nil.1 h2] at h1
theorem faddrK_sound {t : TypeId} {x : AV} {j : Nat} {u : Value} (hk : faddrK P t x j K) (hx : S hd n w I x u) : ∃ v av, (∀ w : World, (Instr.fieldAt t u j).run P w = .ok v w) ∧ K av ∧ S hd n w I av v := by
  unfold faddrK at hk
  split at hk
  · rename_i fs ht
    obtain ⟨f, hf, rfl⟩ := tk_struct ht
    split at hk
    · rename_i off sz' hj
      obtain ⟨hz, hk⟩ := hk
      rw [List.getElem?_map] at hj
      obtain ⟨fd, hfd, he⟩ := Option.map_eq_some_iff.1 hj
      simp only [Prod.mk.injEq] at he
      obtain ⟨rfl, rfl⟩ := he
      have hfd' : f[j]? = some fd := by simpa using hfd
      have hrun : ∀ b o, ∀ w : World, (Instr.fieldAt t (.pointer (some ⟨b, o, none⟩)) j).run P w = .ok (.pointer (some ⟨b, o + fd.offset, none⟩)) w := by
        intro b o w
        simp only [Instr.fieldAt, Sem.run_bind, run_underlying hf, Result.andThen_ok, hfd', Instr.sureAddr, Sem.run_pure, fieldPlace, run_sizeOf hz, if_neg hz, addr_add]
      split at hk
      · rename_i id sub sz i c
        simp only [S] at hx
        obtain ⟨hid, h0, b, o, h1, h2, rfl⟩ := hx
        refine ⟨_, _, hrun _ _, hk, ?_⟩
        simp only [S]
        exact ⟨hid, h0, b, o, h1, h2, by simp only [Nat.add_assoc]⟩
      · rename_i cs
        simp only [S, T] at hx
        obtain ⟨_, b, o, vs, rfl, hb, hat, hT⟩ := hx
        obtain ⟨h1, h2⟩ := TL.dropAt fd.offset hat hT
        refine ⟨_, _, hrun _ _, hk, ?_⟩
        simp only [S, T]
        exact ⟨trivial, b, _, _, rfl, hb, h1, h2⟩
      · exact hk.elim
    · exact hk.elim
  · exact hk.elim
theorem run_indexAt_slice {t e : TypeId} (ht : P.underlying t = some (.slice e)) (hz : szOf P e ≠ 0) {b o len c : Nat} {k : IntKind} {i : Int} (h0 : 0 ≤ i) (h1 : i < len) :
    (Instr.indexAt t (.slice (some ⟨b, o, none⟩) len c) (.int k i)).run P w = .ok (.pointer (some ⟨b, o + i.toNat * szOf P e, none⟩)) w := by
  simp only [Instr.indexAt, asIntOf, Sem.run_bind, Sem.run_pure, Result.andThen_ok, run_underlying ht]
  rw [if_pos ⟨h0, h1⟩]
  simp only [Sem.run_bind, run_sizeOf hz, Result.andThen_ok, addr_add]
  rfl
theorem run_indexAt_array {t e : TypeId} {m : Nat} (ht : P.underlying t = some (.array m e)) (hz : szOf P e ≠ 0) {b o : Nat} {k : IntKind} {i : Int} (h0 : 0 ≤ i) (h1 : i < m) :
    (Instr.indexAt t (.pointer (some ⟨b, o, none⟩)) (.int k i)).run P w = .ok (.pointer (some ⟨b, o + i.toNat * szOf P e, none⟩)) w := by
  simp only [Instr.indexAt, asIntOf, Sem.run_bind, Sem.run_pure, Result.andThen_ok, run_underlying ht, Instr.sureAddr]
  rw [if_pos ⟨h0, h1⟩]
  simp only [Sem.run_bind, run_sizeOf hz, Result.andThen_ok, addr_add]
  rfl
theorem iaddrK_sound {t : TypeId} {x ix : AV} {u v : Value} (hk : iaddrK P t x ix K) (hx : S hd n w I x u) (hi : S hd n w I ix v) : ∃ r av, (∀ w : World, (Instr.indexAt t u v).run P w = .ok r w) ∧ K av ∧ S hd n w I av r := by
  unfold iaddrK at hk
  split at hk
  · rename_i e id sub sz off len k i ht
    obtain ⟨rfl, hz, h0, h1, hk⟩ := hk
    simp only [S] at hx hi
    subst hi
    obtain ⟨hid, hv, hh, hw⟩ := hx
    rcases hw with ⟨b, o, m, c, c', rfl, rfl, h2, h3, h4⟩ | ⟨rfl, A, rfl⟩
    · refine ⟨_, _, fun _ => run_indexAt_slice (tk_slice ht) hz h0 h1, hk, ?_⟩
      simp only [S]
      exact ⟨hid, _, b, o, hh, .inl ⟨_, _, rfl⟩, by simp only [Nat.add_mul, Nat.add_zero, Nat.add_assoc]⟩
    · omega
  · rename_i e es k i ht
    obtain ⟨hz, h0, hk⟩ := hk
    split at hk
    · rename_i el he
      obtain ⟨hl, hk⟩ := hk
      simp only [S] at hi
      subst hi
      simp only [S, T] at hx
      obtain ⟨_, A, c, rfl, hc, hm, hx⟩ := hx
      rcases hx with rfl | ⟨b, o, sz, vs, rfl, hb, hEach, hat, hT⟩
      · simp at he
      · have hsz : sz = szOf P e := by rw [← hl]; exact (hEach.mem el (List.mem_of_getElem? he)).symm
        subst hsz
        have hlt : i.toNat < es.length := (List.getElem?_eq_some_iff.1 he).1
        obtain ⟨F', h1, h2⟩ := hT.get hEach he
        rw [List.sublist_nil.1 h2] at h1
        refine ⟨_, _, fun _ => run_indexAt_slice (tk_slice ht) hz h0 (by omega), hk, ?_⟩
        simp only [S, T]
        refine ⟨trivial, b, _, _, rfl, hb, ?_, h1⟩
        intro j r hr
        rw [List.getElem?_take] at hr
        split at hr
        · rw [List.getElem?_drop] at hr
          rw [Nat.add_assoc]
          exact hat _ _ hr
        · cases hr
    · exact hk.elim
  · rename_i m e id sub sz i0 c k i ht
    obtain ⟨hz, h0, h1, hk⟩ := hk
    simp only [S] at hx hi
    subst hi
    obtain ⟨hid, h0', b, o, h2, h3, rfl⟩ := hx
    refine ⟨_, _, fun _ => run_indexAt_array (tk_array ht) hz h0 h1, hk, ?_⟩
    simp only [S]
    exact ⟨hid, h0', b, o, h2, h3, by simp only [Nat.add_assoc]⟩
  · rename_i m e cs k i ht
    obtain ⟨hz, h0, h1, hk⟩ := hk
    simp only [S] at hi
    subst hi
    simp only [S, T] at hx
    obtain ⟨_, b, o, vs, rfl, hb, hat, hT⟩ := hx
    obtain ⟨h2, h3⟩ := TL.dropAt (i.toNat * szOf P e) hat hT
    refine ⟨_, _, fun _ => run_indexAt_array (tk_array ht) hz h0 h1, hk, ?_⟩
    simp only [S, T]
    exact ⟨trivial, b, _, _, rfl, hb, h2, h3⟩
  · exact hk.elim
theorem idxK_sound {t : TypeId} {x ix : AV} {u v : Value} (hk : idxK P t x ix K) (hx : S hd n w I x u) (hi : S hd n w I ix v) : ∃ r av, (Instr.index t u v).run P w = .ok r w ∧ K av ∧ S hd n w I av r := by
  unfold idxK at hk
  split at hk
  · rename_i s k i ht
    obtain ⟨h0, h1, hk⟩ := hk
    simp only [S] at hx hi
    subst hx; subst hi
    refine ⟨_, _, ?_, hk, S_int⟩
    have hb : s[i.toNat]? = some (s.data.toList.getD i.toNat 0) := by
      have hlt : i.toNat < s.size := by omega
      rw [getElem?_pos s i.toNat hlt]
      congr 1
      have : i.toNat < s.data.toList.length := by simpa using hlt
      simp [List.getD_eq_getElem?_getD, List.getElem?_eq_getElem this]
      rfl
    simp only [Instr.index, asIntOf, Sem.run_bind, Sem.run_pure, Result.andThen_ok, run_underlying (tk_str ht), if_pos h0, hb]
    rfl
  · exact hk.elim
theorem run_bound {v : Value} {y : Nat} {k : IntKind} {i : Int} {c : BoundsCode} (h0 : 0 ≤ i) (h1 : i ≤ y) : (Instr.sliceBound (.int k i) y c).run P w = .ok i.toNat w := by
  simp only [Instr.sliceBound, asIntOf, Sem.run_bind, Sem.run_pure, Result.andThen_ok, if_pos (And.intro h0 h1)]
/-- The bounds of s[l:h], each given or not. -/
def OptInt (x : Option AV) (v : Option Value) (d : Nat) (i : Int) : Prop := (x = none ∧ v = none ∧ i = d) ∨ ∃ y k, x = some y ∧ y = .int k i ∧ v = some (.int k i)
theorem run_bounds {isS : Bool} {len cap : Nat} {lo hi : Option Value} {xl xh : Option AV} {l r : Int} (hl : OptInt xl lo 0 l) (hh : OptInt xh hi len r) (h0 : 0 ≤ l) (h1 : l ≤ r) (h2 : r ≤ cap) :
    (Instr.sliceBounds isS len cap lo hi none).run P w = .ok (l.toNat, r.toNat, cap) w := by
  have hb : ∀ (k : IntKind) (i : Int) (y : Nat) (c : BoundsCode), 0 ≤ i → i ≤ y → (Instr.sliceBound (.int k i) y c).run P w = .ok i.toNat w := fun k i y c g0 g1 => run_bound (v := undef) g0 g1
  rcases hl with ⟨_, rfl, rfl⟩ | ⟨yl, kl, _, _, rfl⟩ <;> rcases hh with ⟨_, rfl, rfl⟩ | ⟨yh, kh, _, _, rfl⟩
  · simp [Instr.sliceBounds]
  · simp [Instr.sliceBounds, hb kh r cap _ (by omega) h2]
  · simp [Instr.sliceBounds, hb kl l len _ h0 h1]
  · simp [Instr.sliceBounds, hb kh r cap _ (by omega) h2, hb kl l r.toNat _ h0 (by omega)]
theorem optInt_of {x : Option AV} {v : Option Value} {d : Nat} {i : Int} {k : IntKind} (h : x.getD (.int .i64 d) = .int k i) (hv : ∀ y, x = some y → ∃ u, v = some u ∧ S hd n w I y u) (hn : x = none → v = none) : OptInt x v d i := by
  cases x with
  | none =>
    simp only [Option.getD_none, AV.int.injEq] at h
    exact .inl ⟨rfl, hn rfl, h.2.symm⟩
  | some y =>
    simp only [Option.getD_some] at h
    subst h
    obtain ⟨u, rfl, hu⟩ := hv _ rfl
    simp only [S] at hu
    subst hu
    exact .inr ⟨_, k, rfl, rfl, rfl⟩

theorem run_slice_slice {t e : TypeId} (ht : P.underlying t = some (.slice e)) (hz : szOf P e ≠ 0) {A : Option Addr} {len cap : Nat} {lo hi : Option Value} {xl xh : Option AV} {l r : Int} (hl : OptInt xl lo 0 l) (hh : OptInt xh hi len r)
    (h0 : 0 ≤ l) (h1 : l ≤ r) (h2 : r ≤ cap) :
    (Instr.sliceAt t (.slice A len cap) lo hi none).run P w = .ok (.slice (if cap = l.toNat then A else A.map (·.add (l.toNat * szOf P e))) (r.toNat - l.toNat) (cap - l.toNat)) w := by
  simp only [Instr.sliceAt, Sem.run_bind, run_underlying ht, Result.andThen_ok, Instr.slice, run_bounds hl hh h0 h1 h2, run_sizeOf hz]
  rfl
theorem run_slice_str {t : TypeId} (ht : P.underlying t = some .string) {s : ByteArray} {lo hi : Option Value} {xl xh : Option AV} {l r : Int} (hl : OptInt xl lo 0 l) (hh : OptInt xh hi s.size r)
    (h0 : 0 ≤ l) (h1 : l ≤ r) (h2 : r ≤ s.size) : (Instr.sliceAt t (.string s) lo hi none).run P w = .ok (.string (s.extract l.toNat r.toNat)) w := by
  simp only [Instr.sliceAt, Sem.run_bind, run_underlying ht, Result.andThen_ok, Instr.slice, run_bounds hl hh h0 h1 h2, Option.isSome_none, Bool.false_eq_true, if_false, Sem.run_pure]
theorem sliceK_sound {t : TypeId} {x : AV} {lo hi : Option AV} {u : Value} {vl vh : Option Value} (hk : sliceK P t x lo hi K) (hx : S hd n w I x u) (hl : ∀ y, lo = some y → ∃ u, vl = some u ∧ S hd n w I y u) (hln : lo = none → vl = none)
    (hh : ∀ y, hi = some y → ∃ u, vh = some u ∧ S hd n w I y u) (hhn : hi = none → vh = none) : ∃ r av, (Instr.sliceAt t u vl vh none).run P w = .ok r w ∧ K av ∧ S hd n w I av r := by
  unfold sliceK at hk
  split at hk
  · rename_i e id sub sz off len k l ht hlo
    have hL : OptInt lo vl 0 l := optInt_of (by simpa using hlo) hl hln
    split at hk
    · rename_i k2 r hr
      have hR : OptInt hi vh len r := optInt_of hr hh hhn
      obtain ⟨rfl, hz, h0, h1, h2, hk⟩ := hk
      simp only [S] at hx
      obtain ⟨hid, hv, hh0, hw⟩ := hx
      rcases hw with ⟨b, o, m, c, c', rfl, rfl, h3, h4, h5⟩ | ⟨rfl, A, rfl⟩
      · refine ⟨_, _, run_slice_slice (tk_slice ht) hz hL hR h0 h1 (by omega), hk, ?_⟩
        simp only [S]
        refine ⟨hid, _, hh0, ?_⟩
        have e1 : r.toNat - l.toNat = (r - l).toNat := by omega
        by_cases hc : c' = l.toNat
        · refine .inr ⟨by omega, ?_⟩
          rw [e1, show (r - l).toNat = 0 by omega, hc, Nat.sub_self]
          exact ⟨_, rfl⟩
        · rw [if_neg hc, e1]
          refine .inl ⟨b, o, m, c, c' - l.toNat, rfl, ?_, by omega, by omega, by omega⟩
          simp only [Option.map_some, addr_add, Nat.add_mul, Nat.add_assoc]
      · refine ⟨_, _, run_slice_slice (tk_slice ht) hz hL hR h0 h1 (by omega), hk, ?_⟩
        simp only [S]
        refine ⟨hid, _, hh0, .inr ⟨by omega, ?_⟩⟩
        rw [show r.toNat = 0 by omega, show l.toNat = 0 by omega]
        exact ⟨_, rfl⟩
    · exact hk.elim
  · rename_i e es k l ht hlo
    have hL : OptInt lo vl 0 l := optInt_of (by simpa using hlo) hl hln
    split at hk
    · rename_i k2 r hr
      have hR : OptInt hi vh es.length r := optInt_of hr hh hhn
      obtain ⟨hz, hel, h0, h1, h2, hk⟩ := hk
      simp only [S, T] at hx
      obtain ⟨_, A, c, rfl, hc, hm, hx⟩ := hx
      refine ⟨_, _, run_slice_slice (tk_slice ht) hz hL hR h0 h1 (by omega), hk, ?_⟩
      have hlen : ((es.drop l.toNat).take (r - l).toNat).length = r.toNat - l.toNat := by simp; omega
      simp only [S, T]
      refine ⟨trivial, _, _, by rw [hlen], by rw [hlen]; omega, by rw [hlen]; omega, ?_⟩
      by_cases hnil : (es.drop l.toNat).take (r - l).toNat = []
      · exact .inl hnil
      · have hpos : 0 < r.toNat - l.toNat := by rw [← hlen]; exact List.length_pos_iff.2 hnil
        rcases hx with rfl | ⟨b, o, sz, vs, rfl, hb, hEach, hat, hT⟩
        · simp at hnil
        · have hsz : sz = szOf P e := by
            cases es with
            | nil => simp at hnil
            | cons e0 es0 => rw [← hel e0 (by simp)]; exact hEach.1.symm
          subst hsz
          obtain ⟨F1, hT1, hs1⟩ := hT.drop l.toNat hEach
          obtain ⟨F2, hT2, hs2⟩ := hT1.take (r - l).toNat (hEach.drop l.toNat)
          obtain rfl := List.sublist_nil.1 hs1
          obtain rfl := List.sublist_nil.1 hs2
          rw [if_neg (by omega)]
          refine .inr ⟨b, o + l.toNat * szOf P e, szOf P e, _, by simp only [Option.map_some, addr_add], hb, (hEach.drop _).take _, ?_, hT2⟩
          intro j q hq
          rw [List.getElem?_take] at hq
          split at hq
          · rw [List.getElem?_drop] at hq
            rw [Nat.add_assoc]
            exact hat _ _ hq
          · cases hq
    · exact hk.elim
  · rename_i e k l ht hlo
    have hL : OptInt lo vl 0 l := optInt_of (by simpa using hlo) hl hln
    split at hk
    · rename_i k2 r hr
      have hR : OptInt hi vh 0 r := optInt_of (by simpa using hr) hh hhn
      obtain ⟨hz, rfl, rfl, hk⟩ := hk
      simp only [S] at hx
      subst hx
      refine ⟨_, _, run_slice_slice (tk_slice ht) hz hL hR (by omega) (by omega) (by omega), hk, ?_⟩
      simp [S]
    · exact hk.elim
  · rename_i s k l ht hlo
    have hL : OptInt lo vl 0 l := optInt_of (by simpa using hlo) hl hln
    split at hk
    · rename_i k2 r hr
      have hR : OptInt hi vh s.size r := optInt_of hr hh hhn
      obtain ⟨h0, h1, h2, hk⟩ := hk
      simp only [S] at hx
      subst hx
      exact ⟨_, _, run_slice_str (tk_str ht) hL hR h0 h1 h2, hk, S_str⟩
    · exact hk.elim
  · exact hk.elim
end
theorem eqs_faddrK : True := by
  have := @faddrK.eq_1
  trivial
theorem eqs_iaddrK : True := by
  have := @iaddrK.eq_1
  trivial
theorem eqs_sliceK : True := by
  have := @sliceK.eq_1
  trivial
end Go.Proofs.YtlddjlchgibdfaaDoor.X
set_option linter.unusedVariables false
set_option linter.unusedSimpArgs false
namespace Go.Proofs.YtlddjlchgibdfaaDoor.X
open Go

section
variable {P : Program} {G : Glo} {M I : Nat → Prop} {s : St} {hd : Nat → Value} {Fp : Nat → List Nat} {a : Act} {w : World}

/-- An object in a new block; parts of the heap h' (less than the state's) stand behind it. -/
theorem SR.newObj (h : SR G M I s hd Fp a w) {h' : Heap} (hr : HR G M I h' s.next hd Fp w) (w1 : World) (arr : Array Value) (e : TypeId) (o : Ob) (v : Value) (Fs : List Nat) (hf : Free M I h' Fp Fs) (hlt : ∀ b ∈ Fs, b < w.heap.size)
    (hs : w1.heap.size = w.heap.size + 1) (hold : ∀ b, b < w.heap.size → w1.heap[b]? = w.heap[b]?) (hnew : w1.heap[w.heap.size]? = some (.cells arr e (0, 0))) (hos : w1.os = w.os) (htape : w1.tape = w.tape) (hout : w1.output = w.output)
    (ho : ∀ hd' n', s.next ≤ n' → (∀ id, id < s.next → hd' id = hd id) → Fr I I s.next n' hd hd' w w1 → ObjR hd' n' w1 I o v (w.heap.size :: Fs)) :
    ∃ Fp', SR G M I ⟨s.tmps, (s.next, o) :: h', s.next + 1⟩ (upd hd s.next v) Fp' a w1 ∧ Ext M I I s.next hd (upd hd s.next v) w w1 := by
  have hb : ∀ b, b < w.heap.size → w1.heap[b]? = w.heap[b]? := hold
  have hr1 := hr.grown (w' := w1) (by omega) hb
  have fr0 := hr.fr (w' := w1) (by omega) hb
  have hE : Ext M I I s.next hd (upd hd s.next v) w w1 :=
    ⟨⟨hos, htape, hout, by omega, fun b hb' _ => hold b hb'⟩, fun b hx => ⟨hx, hold b (hr.imm b hx).1⟩, fun id hid => upd_ne _ _ (by omega)⟩
  have hr2 := hr1.add o v (w.heap.size :: Fs) (List.nodup_cons.2 ⟨fun hm => by have := hlt _ hm; omega, hf.nodup⟩) (fun b hm => by
      rcases List.mem_cons.1 hm with rfl | hm
      · exact hr.news _ (Nat.le_refl _)
      · exact hf.mine b hm) (fun b hm hi => by
      rcases List.mem_cons.1 hm with rfl | hm
      · have := (hr.imm _ hi).1; omega
      · exact hf.imm b hm hi) (fun id u hu b hb' hm => by
      rcases List.mem_cons.1 hm with rfl | hm
      · have := hr.ltB hu _ hb'; omega
      · exact hf.disj id u hu b hb' hm) (fun hd' hx => ho hd' (s.next + 1) (Nat.le_succ _) hx ?_)
  · exact ⟨_, h.move hr2 (fr0.trans (Fr.new I s.next hd w1 v)), hE⟩
  · refine ⟨Nat.le_succ _, fr0.im, fun id hid sub u hu => ?_⟩
    have hu' := fr0.hds id hid sub u hu
    have e := hx id hid
    cases sub with
    | none => simp only [HdOf] at hu' ⊢; rw [e]; exact hu'
    | some p => obtain ⟨x, y, z⟩ := p; simp only [HdOf] at hu' ⊢; rw [e]; exact hu'

/-- A variable in a new block. -/
theorem SR.newVar (h : SR G M I s hd Fp a w) (arr : Array Value) (e : TypeId) {cs : List AV} (hc : SL hd s.next w I cs arr.toList) :
    ∃ hd' Fp', SR G M I ⟨s.tmps, (s.next, .var cs) :: s.heap, s.next + 1⟩ hd' Fp' a (w.alloc (.cells arr e)) ∧ Ext M I I s.next hd hd' w (w.alloc (.cells arr e)) ∧
      S hd' (s.next + 1) (w.alloc (.cells arr e)) I (.ptr s.next none 0 0 0) (.pointer (some ⟨w.heap.size, 0, none⟩)) := by
  obtain ⟨Fp', h1, h2⟩ := h.newObj h.heap (w.alloc (.cells arr e)) arr e (.var cs) (.pointer (some ⟨w.heap.size, 0, none⟩)) [] (Free.nil _ _ _ _) (by simp) (by simp) (fun b hb => heap_alloc_old w _ b hb) (heap_alloc_new w _) rfl rfl rfl
    (fun hd' n' hn hx fr => ⟨_, arr, e, rfl, heap_alloc_new w _, fr.SL hc, rfl⟩)
  refine ⟨_, Fp', h1, h2, ?_⟩
  simp only [S, HdOf]
  exact ⟨Nat.lt_succ_self _, _, w.heap.size, 0, rfl, .inr (by rw [upd_same]), rfl⟩
end

/-! ### alloc, box -/
def zeroCells (P : Program) (t : TypeId) : Option (List AV) := ((P.info? t).bind (·.zero)).bind fun v => if v.cells.toList.all (·.oneCell') then some (v.cells.toList.map ofC) else none
def allocK (P : Program) (s : St) (t : TypeId) (K : AV → St → Prop) : Prop :=
  match zeroCells P t with
  | some cs => K (.ptr s.next none 0 0 0) ⟨s.tmps, (s.next, .var cs) :: s.heap, s.next + 1⟩
  | none => False
def isCell : AV → Bool
  | .con u => u.oneCell'
  | .int .. | .bool _ | .str _ | .nil | .sl _ | .pf _ | .ref .. | .ptr .. | .fn .. => true
  | _ => false
def cellsV : AV → Option (List AV)
  | .agg cs => some cs
  | x => if isCell x then some [x] else none
def boxK (s : St) (v : AV) (K : AV → St → Prop) : Prop :=
  match cellsV v with
  | some cs => K (.ptr s.next none 0 0 0) ⟨s.tmps, (s.next, .var cs) :: s.heap, s.next + 1⟩
  | none => False

theorem isCell_one {hd : Nat → Value} {n : Nat} {w : World} {I : Nat → Prop} {x : AV} {v : Value} (hc : isCell x = true) (h : S hd n w I x v) : v.oneCell' = true ∧ v.cells = #[v] := by
  cases x <;> simp [isCell] at hc <;> simp only [S, T] at h
  case con u =>
    subst h
    refine ⟨hc, ?_⟩
    cases v <;> first | rfl | simp [Value.oneCell'] at hc
  case int => subst h; exact ⟨rfl, rfl⟩
  case bool => subst h; exact ⟨rfl, rfl⟩
  case str => subst h; exact ⟨rfl, rfl⟩
  case nil => subst h; exact ⟨rfl, rfl⟩
  case sl => obtain ⟨_, A, c, rfl, _⟩ := h; exact ⟨rfl, rfl⟩
  case pf => obtain ⟨_, b, o, vs, rfl, _⟩ := h; exact ⟨rfl, rfl⟩
  case ref =>
    obtain ⟨_, h0, _, hw⟩ := h
    rcases hw with ⟨b, o, n, c, c', _, rfl, _⟩ | ⟨_, A, rfl⟩ <;> exact ⟨rfl, rfl⟩
  case ptr => obtain ⟨_, h0, b, o, _, _, rfl⟩ := h; exact ⟨rfl, rfl⟩
  case fn => obtain ⟨vs, rfl, _⟩ := h; exact ⟨rfl, rfl⟩
theorem cellsV_SL {hd : Nat → Value} {n : Nat} {w : World} {I : Nat → Prop} {x : AV} {cs : List AV} {v : Value} (hc : cellsV x = some cs) (h : S hd n w I x v) : SL hd n w I cs v.cells.toList := by
  unfold cellsV at hc
  split at hc
  · simp only [Option.some.injEq] at hc
    subst hc
    simp only [S] at h
    obtain ⟨vs, rfl, hs⟩ := h
    exact hs
  · split at hc
    · rename_i hx
      simp only [Option.some.injEq] at hc
      subst hc
      obtain ⟨h1, h2⟩ := isCell_one hx h
      rw [h2]
      simp only [SL]
      exact ⟨v, [], rfl, h1, h, rfl⟩
    · cases hc

theorem sameB_alloc (w : World) (o : Obj) : SameB w (w.alloc o) := ⟨by show w.heap.size ≤ (w.heap.push o).size; simp, fun b hb => heap_alloc_old w o b hb⟩
theorem run_newRow {P : Program} {w : World} (e : TypeId) (cs : Array Value) : (newRow e cs).run P w = .ok ⟨w.heap.size, 0, none⟩ (w.alloc (.cells cs e)) := by
  simp [newRow]

section
variable {P : Program} {G : Glo} {M I : Nat → Prop} {s : St} {hd : Nat → Value} {Fp : Nat → List Nat} {a : Act} {w : World} {K : AV → St → Prop}
theorem allocK_sound (h : SR G M I s hd Fp a w) {t : TypeId} (hk : allocK P s t K) : ∃ v w', (Instr.alloc t true (.tuple #[])).run P w = .ok v w' ∧ OpRes G M I s hd a w K (.value v) w' ∧ SameB w w' := by
  unfold allocK at hk
  split at hk
  · rename_i cs hz
    unfold zeroCells at hz
    obtain ⟨z, hz1, hz2⟩ := Option.bind_eq_some_iff.1 hz
    obtain ⟨i, hi, hiz⟩ := Option.bind_eq_some_iff.1 hz1
    split at hz2
    · rename_i hones
      simp only [Option.some.injEq] at hz2
      subst hz2
      obtain ⟨hd', Fp', h1, h2, h3⟩ := h.newVar z.cells t (cs := z.cells.toList.map ofC) (ofC_SL hd _ w I _ (List.all_eq_true.1 hones))
      refine ⟨_, _, ?_, ⟨_, _, _, I, hd', Fp', .inl rfl, hk, h3, h1, h2, Nat.le_succ _⟩, sameB_alloc w _⟩
      simp [Instr.alloc, zeroValue, typeInfo, hi, hiz, newVar, run_newRow]
    · cases hz2
  · exact hk.elim
theorem boxK_sound (h : SR G M I s hd Fp a w) {t : TypeId} {x : AV} {u : Value} (hk : boxK s x K) (hx : S hd s.next w I x u) : ∃ v w', (Instr.box t u).run P w = .ok v w' ∧ OpRes G M I s hd a w K (.value v) w' ∧ SameB w w' := by
  unfold boxK at hk
  split at hk
  · rename_i cs hc
    obtain ⟨hd', Fp', h1, h2, h3⟩ := h.newVar u.cells t (cellsV_SL hc hx)
    refine ⟨_, _, ?_, ⟨_, _, _, I, hd', Fp', .inl rfl, hk, h3, h1, h2, Nat.le_succ _⟩, sameB_alloc w _⟩
    simp [Instr.box, newVar, run_newRow]
  · exact hk.elim
end
theorem eqs_allocK : True := by
  have := @allocK.eq_1
  trivial
theorem eqs_isCell : True := by
  have := @isCell.eq_1
  trivial
theorem eqs_cellsV : True := by
  have := @cellsV.eq_1
  trivial
theorem eqs_boxK : True := by
  have := @boxK.eq_1
  trivial
end Go.Proofs.YtlddjlchgibdfaaDoor.X
set_option linter.unusedVariables false
set_option linter.unusedSimpArgs false
namespace Go.Proofs.YtlddjlchgibdfaaDoor.X
open Go

def setsA {α : Type} : List α → Nat → List α → List α
  | cells, _, [] => cells
  | cells, off, c :: cs => setsA (cells.set off c) (off + 1) cs
def fillA (place : Nat → Option (Nat × Nat)) : List AV → List (Nat × AV) → Option (List AV)
  | cells, [] => some cells
  | cells, (i, v) :: rest => match place i, cellsV v with
    | some (off, size), some cs => if cs.length = size ∧ off + cs.length ≤ cells.length then fillA place (setsA cells off cs) rest else none
    | _, _ => none
def places (P : Program) (t : TypeId) : Option (List (Nat × Nat)) :=
  match P.underlying t with
  | some (.struct fields) => fields.toList.mapM (fun f => (P.info? f.type).map fun i => (f.offset, i.size))
  | _ => none
def buildK (P : Program) (t : TypeId) (parts : List (Nat × AV)) (K : AV → Prop) : Prop :=
  match places P t, zeroCells P t with
  | some pl, some zs => match fillA (pl[·]?) zs parts with
    | some cs => K (.agg cs)
    | none => False
  | _, _ => False

theorem SL.set {hd : Nat → Value} {n : Nat} {w : World} {I : Nat → Prop} : ∀ {xs : List AV} {vs : List Value} (h : SL hd n w I xs vs) (k : Nat) {x : AV} {v : Value}, v.oneCell' = true → S hd n w I x v → SL hd n w I (xs.set k x) (vs.set k v)
  | [], vs, h, k, x, v, _, _ => by simp only [SL] at h; subst h; simp [SL]
  | y :: xs, vs, h, 0, x, v, h1, hx => by
    simp only [SL] at h
    obtain ⟨u, vs', rfl, g1, hy, hxs⟩ := h
    simp only [List.set_cons_zero, SL]
    exact ⟨v, vs', rfl, h1, hx, hxs⟩
  | y :: xs, vs, h, k + 1, x, v, h1, hx => by
    simp only [SL] at h
    obtain ⟨u, vs', rfl, g1, hy, hxs⟩ := h
    simp only [List.set_cons_succ, SL]
    exact ⟨u, _, rfl, g1, hy, hxs.set k h1 hx⟩
theorem sets_sound {hd : Nat → Value} {n : Nat} {w : World} {I : Nat → Prop} (off : Nat) : ∀ {cs : List AV} {vs : List Value} (k : Nat) {cells : List AV} {arr : Array Value}, SL hd n w I cs vs → SL hd n w I cells arr.toList →
    SL hd n w I (setsA cells (off + k) cs) ((vs.zipIdx k).foldl (fun a (p : Value × Nat) => a.setIfInBounds (off + p.2) p.1) arr).toList ∧ ((vs.zipIdx k).foldl (fun a (p : Value × Nat) => a.setIfInBounds (off + p.2) p.1) arr).size = arr.size
  | [], vs, k, cells, arr, h, hc => by
    simp only [SL] at h; subst h
    simpa [setsA] using hc
  | c :: cs, vs, k, cells, arr, h, hc => by
    simp only [SL] at h
    obtain ⟨v, vs', rfl, h1, hv, hxs⟩ := h
    simp only [setsA, List.zipIdx_cons, List.foldl_cons]
    have := sets_sound off (k + 1) hxs (cells := cells.set (off + k) c) (arr := arr.setIfInBounds (off + k) v) (by rw [Array.toList_setIfInBounds]; exact hc.set _ h1 hv)
    rw [show off + k + 1 = off + (k + 1) by omega]
    exact ⟨this.1, by rw [this.2]; simp⟩
inductive Parts (hd : Nat → Value) (n : Nat) (w : World) (I : Nat → Prop) : List (Nat × AV) → List (Nat × Value) → Prop where
  | nil : Parts hd n w I [] []
  | cons {i : Nat} {x : AV} {v : Value} {xs : List (Nat × AV)} {vs : List (Nat × Value)} (h : S hd n w I x v) (t : Parts hd n w I xs vs) : Parts hd n w I ((i, x) :: xs) ((i, v) :: vs)
theorem fill_sound {hd : Nat → Value} {n : Nat} {w : World} {I : Nat → Prop} {place : Nat → Option (Nat × Nat)} : ∀ {parts : List (Nat × AV)} {pv : List (Nat × Value)} {cells cs : List AV} {arr : Array Value}, Parts hd n w I parts pv → SL hd n w I cells arr.toList →
    fillA place cells parts = some cs → ∃ r, Instr.fill place arr pv = some r ∧ SL hd n w I cs r.toList
  | [], pv, cells, cs, arr, hp, hc, hf => by
    cases hp
    simp only [fillA, Option.some.injEq] at hf
    subst hf
    exact ⟨arr, rfl, hc⟩
  | (i, x) :: parts, pv, cells, cs, arr, hp, hc, hf => by
    cases hp with
    | cons hx ht =>
      rename_i v vs
      simp only [fillA] at hf
      split at hf
      · rename_i off size cc e1 e2
        split at hf
        · rename_i hcond
          have hs := cellsV_SL e2 hx
          have hl := hs.length
          have hl2 := hc.length
          have hset := sets_sound off 0 hs hc
          obtain ⟨r, h1, h2⟩ := fill_sound ht hset.1 hf
          refine ⟨r, ?_, h2⟩
          simp only [Instr.fill, e1]
          have e3 : v.cells.size = size := by rw [← Array.length_toList, hl]; exact hcond.1
          rw [if_neg]
          · rw [← h1]
            congr 1
            rw [← Array.foldl_toList, Array.toList_zipIdx]
          · simp only [ne_eq, gt_iff_lt, Bool.or_eq_true, decide_eq_true_eq, not_or, Decidable.not_not, Nat.not_lt, decide_not, Bool.not_eq_true', decide_eq_false_iff_not]
            rw [← Array.length_toList, hl]
            rw [← Array.length_toList, hl2]
            simp only [← Array.length_toList, hl] at e3
            exact ⟨e3, hcond.2⟩
        · cases hf
      · cases hf

section
variable {P : Program} {G : Glo} {M I : Nat → Prop} {s : St} {hd : Nat → Value} {Fp : Nat → List Nat} {a : Act} {w : World}
theorem zeroCells_some {t : TypeId} {cs : List AV} (h : zeroCells P t = some cs) (n : Nat) : ∃ i z, P.info? t = some i ∧ i.zero = some z ∧ SL hd n w I cs z.cells.toList ∧ cs = z.cells.toList.map ofC := by
  unfold zeroCells at h
  obtain ⟨z, hz1, hz2⟩ := Option.bind_eq_some_iff.1 h
  obtain ⟨i, hi, hiz⟩ := Option.bind_eq_some_iff.1 hz1
  split at hz2
  · rename_i hones
    simp only [Option.some.injEq] at hz2
    subst hz2
    exact ⟨i, z, hi, hiz, ofC_SL hd n w I _ (List.all_eq_true.1 hones), rfl⟩
  · cases hz2
theorem buildK_sound {K : AV → Prop} {t : TypeId} {parts : List (Nat × AV)} {pv : List (Nat × Value)} {n : Nat} (hk : buildK P t parts K) (hp : Parts hd n w I parts pv) : ∃ r av, (Instr.build t pv.toArray).run P w = .ok r w ∧ K av ∧ S hd n w I av r := by
  unfold buildK at hk
  split at hk
  · rename_i pl zs e1 e2
    split at hk
    · rename_i cs hf
      obtain ⟨i, z, hi, hz, hs, _⟩ := zeroCells_some (hd := hd) (I := I) (w := w) e2 n
      obtain ⟨r, h1, h2⟩ := fill_sound hp hs hf
      refine ⟨.agg r, _, run_build w t _ r ?_, hk, ?_⟩
      · unfold places at e1
        split at e1
        · rename_i fields hu
          simp only [Program.built, hi, hu, hz, e1]
          have hfun : (fun (i : Nat) => pl[i]?) = (fun (i : Nat) => pl.toArray[i]?) := by funext i; simp
          rw [← hfun]
          exact h1
        · cases e1
      · simp only [S]
        exact ⟨r, rfl, h2⟩
    · exact hk.elim
  · exact hk.elim
end

/-! ### Slices that are made -/
def chunk (sz : Nat) : Nat → List AV → List (List AV)
  | 0, _ => []
  | n + 1, ts => ts.take sz :: chunk sz n (ts.drop sz)
theorem chunk_length (sz : Nat) : ∀ (n : Nat) (ts : List AV), (chunk sz n ts).length = n
  | 0, _ => rfl
  | n + 1, ts => by simp [chunk, chunk_length sz n]
theorem chunk_each {sz : Nat} : ∀ {n : Nat} {ts : List AV}, ts.length = n * sz → Each sz (chunk sz n ts)
  | 0, _, _ => trivial
  | n + 1, ts, h => by
    rw [Nat.add_mul, Nat.one_mul] at h
    exact ⟨by simp; omega, chunk_each (by simp; omega)⟩
theorem TL.split {w : World} {I : Nat → Prop} : ∀ {xs : List AV} {vs : List Value} {F : List Nat} (n : Nat), TL w I xs vs F → ∃ F1 F2, F = F1 ++ F2 ∧ TL w I (xs.take n) (vs.take n) F1 ∧ TL w I (xs.drop n) (vs.drop n) F2
  | [], vs, F, n, h => by
    simp only [TL] at h
    obtain ⟨rfl, rfl⟩ := h
    exact ⟨[], [], rfl, by simp [TL], by simp [TL]⟩
  | x :: xs, vs, F, 0, h => ⟨[], F, rfl, by simp [TL], by simpa using h⟩
  | x :: xs, vs, F, n + 1, h => by
    simp only [TL] at h
    obtain ⟨v, vs', F1, F2, rfl, rfl, h1, hx, hxs⟩ := h
    obtain ⟨G1, G2, rfl, h2, h3⟩ := TL.split n hxs
    refine ⟨F1 ++ G1, G2, by simp, ?_, by simpa using h3⟩
    simp only [List.take_succ_cons, TL]
    exact ⟨v, _, F1, G1, rfl, rfl, h1, hx, h2⟩
theorem TL.chunk {w : World} {I : Nat → Prop} {sz : Nat} : ∀ {n : Nat} {ts : List AV} {vs : List Value} {F : List Nat}, TL w I ts vs F → ts.length = n * sz → TLL w I (chunk sz n ts) vs F
  | 0, ts, vs, F, h, hl => by
    have : ts = [] := List.eq_nil_of_length_eq_zero (by simpa using hl)
    subst this
    simp only [TL] at h
    simp only [X.chunk, TLL]
    exact h
  | n + 1, ts, vs, F, h, hl => by
    rw [Nat.add_mul, Nat.one_mul] at hl
    obtain ⟨F1, F2, rfl, h1, h2⟩ := h.split sz
    simp only [X.chunk, TLL]
    exact ⟨_, _, F1, F2, (List.take_append_drop sz vs).symm, rfl, h1, TL.chunk h2 (by simp; omega)⟩

def buildSliceK (P : Program) (s : St) (t : TypeId) (len : Nat) (parts : List (Nat × AV)) (K : AV → St → Prop) : Prop :=
  match tk P t with
  | .slice e => szOf P e ≠ 0 ∧ len * szOf P e ≤ 16777216 ∧ if len = 0 then K (.ref s.next none (szOf P e) 0 0) ⟨s.tmps, (s.next, .slice (szOf P e) []) :: s.heap, s.next + 1⟩ else match zeroCells P e with
    | some zs => zs.length = szOf P e ∧ match fillA (fun i => some (i * szOf P e, szOf P e)) ((List.replicate len zs).flatten) parts with
      | some cs => match conL s.heap cs with
        | some (ts, h') => K (.ref s.next none (szOf P e) 0 len) ⟨s.tmps, (s.next, .slice (szOf P e) (chunk (szOf P e) len ts)) :: h', s.next + 1⟩
        | none => False
      | none => False
    | none => False
  | _ => False
def makeSliceK (P : Program) (s : St) (t : TypeId) (l c : AV) (K : AV → St → Prop) : Prop :=
  match tk P t, l, c with
  | .slice e, .int _ l, .int _ c => szOf P e ≠ 0 ∧ 0 ≤ l ∧ l ≤ c ∧ (byOf P e : Int) * c ≤ 140737488355328 ∧ c ≤ 9223372036854775807 ∧ match zeroCells P e with
    | some zs => zs.length = szOf P e ∧ allF zs = true ∧ K (.ref s.next none (szOf P e) 0 l.toNat) ⟨s.tmps, (s.next, .slice (szOf P e) (List.replicate l.toNat zs)) :: s.heap, s.next + 1⟩
    | none => False
  | _, _, _ => False

theorem flat_rep {α : Type} (zs : List α) : ∀ (n j : Nat), j < n * zs.length → ((List.replicate n zs).flatten)[j]? = zs[j % zs.length]?
  | 0, j, h => by simp at h
  | n + 1, j, h => by
    rw [Nat.add_mul, Nat.one_mul] at h
    rw [List.replicate_succ, List.flatten_cons]
    by_cases hj : j < zs.length
    · rw [List.getElem?_append_left hj, Nat.mod_eq_of_lt hj]
    · rw [List.getElem?_append_right (by omega), flat_rep zs n _ (by omega)]
      congr 1
      exact (Nat.mod_eq_sub_mod (by omega)).symm
theorem flat_rep_length {α : Type} (zs : List α) (n : Nat) : ((List.replicate n zs).flatten).length = n * zs.length := by
  induction n with
  | zero => simp
  | succ n ih => rw [List.replicate_succ, List.flatten_cons, List.length_append, ih, Nat.add_mul, Nat.one_mul]; omega
theorem SL_of_get {hd : Nat → Value} {n : Nat} {w : World} {I : Nat → Prop} : ∀ {xs : List AV} {vs : List Value}, vs.length = xs.length → (∀ (j : Nat) (x : AV), xs[j]? = some x → ∃ v, vs[j]? = some v ∧ v.oneCell' = true ∧ S hd n w I x v) → SL hd n w I xs vs
  | [], vs, hl, _ => by simp only [SL]; exact List.eq_nil_of_length_eq_zero hl
  | x :: xs, vs, hl, h => by
    cases vs with
    | nil => simp at hl
    | cons v vs =>
      obtain ⟨u, hu, h1, hx⟩ := h 0 x rfl
      simp at hu
      subst hu
      simp only [SL]
      exact ⟨v, vs, rfl, h1, hx, SL_of_get (by simpa using hl) (fun j y hy => by simpa using h (j + 1) y (by simpa using hy))⟩
theorem made_get (z : Array Value) (n j : Nat) (hj : j < n) : (madeCells z n).toList[j]? = some (z[j % z.size]!) := by
  simp [madeCells, hj]
theorem made_SL {hd : Nat → Value} {n : Nat} {w : World} {I : Nat → Prop} {zs : List AV} {z : Array Value} (h : SL hd n w I zs z.toList) (m : Nat) : SL hd n w I ((List.replicate m zs).flatten) (madeCells z (m * zs.length)).toList := by
  have hl : z.size = zs.length := by have := h.length; simpa using this
  refine SL_of_get (by rw [flat_rep_length]; simp [madeCells]) (fun j x hx => ?_)
  have hj : j < m * zs.length := by rw [← flat_rep_length zs m]; exact (List.getElem?_eq_some_iff.1 hx).1
  rw [flat_rep zs m j hj] at hx
  obtain ⟨v, hv, h1, h2⟩ := h.get hx
  refine ⟨v, ?_, h1, h2⟩
  rw [made_get _ _ _ hj, hl]
  have hlt : j % zs.length < z.size := by
    have := (List.getElem?_eq_some_iff.1 hv).1
    simpa using this
  rw [getElem!_pos z _ hlt]
  have hv' : z[j % zs.length]? = some v := by simpa using hv
  rw [Array.getElem?_eq_getElem hlt] at hv'
  exact hv'

theorem allF_TL {hd : Nat → Value} {n : Nat} {w : World} {I : Nat → Prop} : ∀ {xs : List AV} {vs : List Value}, allF xs = true → SL hd n w I xs vs → TL w I xs vs []
  | [], vs, _, h => by simp only [SL] at h; simp only [TL]; exact ⟨h, trivial⟩
  | x :: xs, vs, hf, h => by
    simp only [allF, Bool.and_eq_true] at hf
    simp only [SL] at h
    obtain ⟨v, vs', rfl, h1, hx, hxs⟩ := h
    simp only [TL]
    exact ⟨v, vs', [], [], rfl, rfl, h1, isF_T hf.1 hx, allF_TL hf.2 hxs⟩
theorem allF_append {xs ys : List AV} (h : allF xs = true) (h' : allF ys = true) : allF (xs ++ ys) = true := by
  induction xs with
  | nil => exact h'
  | cons x xs ih => simp only [allF, Bool.and_eq_true, List.cons_append] at h ⊢; exact ⟨h.1, ih h.2⟩
theorem allF_rep {zs : List AV} (h : allF zs = true) (m : Nat) : allF ((List.replicate m zs).flatten) = true := by
  induction m with
  | zero => rfl
  | succ m ih => rw [List.replicate_succ, List.flatten_cons]; exact allF_append h ih
theorem TLL_rep {w : World} {I : Nat → Prop} {zs : List AV} : ∀ (m : Nat) {vs : List Value}, TL w I ((List.replicate m zs).flatten) vs [] → TLL w I (List.replicate m zs) vs []
  | 0, vs, h => by simpa [TL, TLL] using h
  | m + 1, vs, h => by
    rw [List.replicate_succ, List.flatten_cons] at h
    obtain ⟨F1, F2, hF, h1, h2⟩ := h.split zs.length
    obtain ⟨rfl, rfl⟩ := List.append_eq_nil_iff.1 hF.symm
    rw [List.take_left] at h1
    rw [List.drop_left] at h2
    rw [List.replicate_succ]
    simp only [TLL]
    exact ⟨_, _, [], [], (List.take_append_drop zs.length vs).symm, rfl, h1, TLL_rep m h2⟩
theorem Each_rep {zs : List AV} (m : Nat) : Each zs.length (List.replicate m zs) := Each.of_mem fun e he => by rw [List.eq_of_mem_replicate he]

section
variable {P : Program} {G : Glo} {M I : Nat → Prop} {s : St} {hd : Nat → Value} {Fp : Nat → List Nat} {a : Act} {w : World} {K : AV → St → Prop}
/-- A new own slice, its elements' own parts freed before. -/
theorem SR.newSlice (h : SR G M I s hd Fp a w) {h' : Heap} (hr : HR G M I h' s.next hd Fp w) (w1 : World) (arr : Array Value) (e : TypeId) (sz len cap : Nat) (es : List (List AV)) (Fs : List Nat) (hf : Free M I h' Fp Fs) (hlt : ∀ b ∈ Fs, b < w.heap.size)
    (hs : w1.heap.size = w.heap.size + 1) (hold : ∀ b, b < w.heap.size → w1.heap[b]? = w.heap[b]?) (hnew : w1.heap[w.heap.size]? = some (.cells arr e (0, 0))) (hos : w1.os = w.os) (htape : w1.tape = w.tape) (hout : w1.output = w.output)
    (hlen : es.length = len) (hcap : len ≤ cap) (hmax : cap ≤ maxLen) (hsz : cap * sz ≤ arr.size) (hE : Each sz es) (hT : TLL w I es (arr.toList.take (len * sz)) Fs) :
    ∃ hd' Fp', SR G M I ⟨s.tmps, (s.next, .slice sz es) :: h', s.next + 1⟩ hd' Fp' a w1 ∧ Ext M I I s.next hd hd' w w1 ∧ S hd' (s.next + 1) w1 I (.ref s.next none sz 0 len) (.slice (some ⟨w.heap.size, 0, none⟩) len cap) := by
  subst hlen
  obtain ⟨Fp', h1, h2⟩ := h.newObj hr w1 arr e (.slice sz es) (.slice (some ⟨w.heap.size, 0, none⟩) es.length cap) Fs hf hlt hs hold hnew hos htape hout (fun hd' n' hn hx fr => by
    simp only [ObjR, T]
    exact .inr ⟨w.heap.size, 0, cap, arr, e, _, Fs, rfl, hnew, hcap, hmax, by omega, hE, by simp, TLL.frame fr.im es _ Fs hT (fun b hb => hold b (hlt b hb)), rfl⟩)
  refine ⟨_, Fp', h1, h2, ?_⟩
  simp only [S, HdOf]
  exact ⟨Nat.lt_succ_self _, _, rfl, .inl ⟨w.heap.size, 0, es.length, cap, cap, by rw [upd_same], by simp, by omega, hcap, by omega⟩⟩

theorem buildSliceK_sound (h : SR G M I s hd Fp a w) {t : TypeId} {len : Nat} {parts : List (Nat × AV)} {pv : List (Nat × Value)} (hk : buildSliceK P s t len parts K) (hp : Parts hd s.next w I parts pv) (hp0 : len = 0 → parts = []) :
    ∃ v w', (Instr.buildSlice t len pv.toArray).run P w = .ok v w' ∧ OpRes G M I s hd a w K (.value v) w' ∧ SameB w w' := by
  unfold buildSliceK at hk
  split at hk
  · rename_i e ht
    obtain ⟨hz, hsmall, hk⟩ := hk
    obtain ⟨i, hi, hiz⟩ := szOf_pos hz
    split at hk
    · rename_i hl0
      subst hl0
      have hpe := hp0 rfl
      subst hpe
      cases hp
      have hrun : (Instr.buildSlice t 0 #[]).run P w = .ok (.slice (some ⟨w.heap.size, 0, none⟩) 0 0) (w.alloc (.cells #[] e)) := by
        simp [Instr.buildSlice, run_underlying (tk_slice ht), sizeOf, typeInfo, hi, Instr.fill, newRow, show Array.range 0 = #[] from by simp [Array.range]]
      obtain ⟨hd', Fp', h1, h2, h3⟩ := h.newSlice h.heap (w.alloc (.cells #[] e)) #[] e (szOf P e) 0 0 [] [] (Free.nil _ _ _ _) (by simp) (by simp) (fun b hb => heap_alloc_old w _ b hb) (heap_alloc_new w _) rfl rfl rfl rfl (Nat.le_refl _) (by simp) (by simp) trivial (by simp [TLL])
      exact ⟨_, _, hrun, ⟨_, _, _, I, hd', Fp', .inl rfl, hk, h3, h1, h2, Nat.le_succ _⟩, sameB_alloc w _⟩
    · rename_i hl0
      split at hk
      · rename_i zs e1
        obtain ⟨hzl, hk⟩ := hk
        split at hk
        · rename_i cs hf
          split at hk
          · rename_i ts h' hcon
            obtain ⟨i2, z, hi2, hz2, hs, _⟩ := zeroCells_some (hd := hd) (I := I) (w := w) e1 s.next
            obtain rfl := Option.some.inj (hi.symm.trans hi2)
            have hzs : z.cells.size = szOf P e := by have := hs.length; rw [hzl] at this; simpa using this
            have hm := made_SL hs len
            rw [hzl] at hm
            obtain ⟨r, h1, h2⟩ := fill_sound hp hm hf
            have hrl : r.toList.length = len * szOf P e := by
              have e4 := h2.length
              have : cs.length = len * szOf P e := by
                have hx : ∀ (place : Nat → Option (Nat × Nat)) (parts : List (Nat × AV)) (cells cs : List AV), fillA place cells parts = some cs → cs.length = cells.length := by
                  intro place parts
                  induction parts with
                  | nil => intro cells cs hc; simp only [fillA, Option.some.injEq] at hc; rw [hc]
                  | cons p parts ih =>
                    intro cells cs hc
                    obtain ⟨j, y⟩ := p
                    simp only [fillA] at hc
                    split at hc
                    · split at hc
                      · rw [ih _ _ hc]
                        have hy : ∀ (cs : List AV) (k : Nat) (cells : List AV), (setsA cells k cs).length = cells.length := by
                          intro cs
                          induction cs with
                          | nil => intro k cells; rfl
                          | cons c cs ih => intro k cells; simp [setsA, ih]
                        exact hy _ _ _
                      · cases hc
                    · cases hc
                rw [hx _ _ _ _ hf, flat_rep_length, hzl]
              rw [e4, this]
            have hrun := run_buildSlice (P := P) w t e len pv.toArray r i z (tk_slice ht) hi hz2 (by rw [hiz]; omega) (by rw [hiz]; exact Nat.mul_ne_zero hl0 hz) (by rw [hiz]; simpa [madeCells] using h1)
            obtain ⟨F, hr', hT, hfree, hsub, hown⟩ := conL_sound h.heap h2 hcon
            have htl : ts.length = len * szOf P e := by rw [← hT.length, hrl]
            have hTL := TL.chunk (sz := szOf P e) hT htl
            obtain ⟨hd', Fp', g1, g2, g3⟩ := h.newSlice hr' (w.alloc (.cells r e)) r e (szOf P e) len len (chunk (szOf P e) len ts) F hfree (fun b hb => by obtain ⟨id, o, ho, hb'⟩ := hown b hb; exact h.heap.ltB ho b hb') (by simp) (fun b hb => heap_alloc_old w _ b hb) (heap_alloc_new w _) rfl rfl rfl
              (chunk_length _ _ _) (Nat.le_refl _) (by simp only [maxLen]; have : len * 1 ≤ len * szOf P e := Nat.mul_le_mul_left _ (by omega); omega) (by rw [← Array.length_toList, hrl]; exact Nat.le_refl _) (chunk_each htl) (by rw [← hrl, List.take_length]; exact hTL)
            exact ⟨_, _, hrun, ⟨_, _, _, I, hd', Fp', .inl rfl, hk, g3, g1, g2, Nat.le_succ _⟩, sameB_alloc w _⟩
          · exact hk.elim
        · exact hk.elim
      · exact hk.elim
  · exact hk.elim
theorem makeSliceK_sound (h : SR G M I s hd Fp a w) {t : TypeId} {l c : AV} {vl vc : Value} (hk : makeSliceK P s t l c K) (hl : S hd s.next w I l vl) (hc : S hd s.next w I c vc) :
    ∃ v w', (Instr.makeSlice t vl vc).run P w = .ok v w' ∧ OpRes G M I s hd a w K (.value v) w' ∧ SameB w w' := by
  unfold makeSliceK at hk
  split at hk
  · rename_i e k1 l k2 c ht
    obtain ⟨hz, h0, h1, hby, h63, hk⟩ := hk
    split at hk
    · rename_i zs e1
      obtain ⟨hzl, hF, hk⟩ := hk
      obtain ⟨i, z, hi, hz2, hs, _⟩ := zeroCells_some (hd := hd) (I := I) (w := w) e1 s.next
      obtain ⟨i2, hi2, hiz⟩ := szOf_pos hz
      obtain rfl := Option.some.inj (hi.symm.trans hi2)
      have hbi : byOf P e = i.bytes := by simp [byOf, hi]
      simp only [S] at hl hc
      subst hl; subst hc
      have hrun := run_make (P := P) w t e i z (tk_slice ht) hi hz2 k1 k2 l c h0 h1 (by rw [hbi] at hby; omega) h63
      rw [hiz] at hrun
      have hm := made_SL hs c.toNat
      rw [hzl] at hm
      have hT := allF_TL (allF_rep hF l.toNat) ((made_SL hs l.toNat))
      have hlist : (madeCells z.cells (c.toNat * szOf P e)).toList.take (l.toNat * szOf P e) = (madeCells z.cells (l.toNat * szOf P e)).toList := by
        have hle : l.toNat * szOf P e ≤ c.toNat * szOf P e := Nat.mul_le_mul_right _ (by omega)
        apply List.ext_getElem?
        intro j
        rw [List.getElem?_take]
        by_cases hj : j < l.toNat * szOf P e
        · rw [if_pos hj, made_get _ _ _ (by omega), made_get _ _ _ hj]
        · rw [if_neg hj]
          rw [List.getElem?_eq_none (by simp [madeCells]; omega)]
      rw [hzl] at hT
      obtain ⟨hd', Fp', g1, g2, g3⟩ := h.newSlice h.heap (w.alloc (.cells (madeCells z.cells (c.toNat * szOf P e)) e)) _ e (szOf P e) l.toNat c.toNat (List.replicate l.toNat zs) [] (Free.nil _ _ _ _) (by simp) (by simp) (fun b hb => heap_alloc_old w _ b hb) (heap_alloc_new w _) rfl rfl rfl
        (by simp) (by omega) (by simp only [maxLen]; omega) (by simp [madeCells]) (by have := Each_rep (zs := zs) l.toNat; rwa [hzl] at this) (by rw [hlist]; exact TLL_rep _ hT)
      exact ⟨_, _, hrun, ⟨_, _, _, I, hd', Fp', .inl rfl, hk, g3, g1, g2, Nat.le_succ _⟩, sameB_alloc w _⟩
    · exact hk.elim
  · exact hk.elim
end
theorem eqs_setsA : True := by
  have := @setsA.eq_1
  trivial
theorem eqs_buildK : True := by
  have := @buildK.eq_1
  trivial
theorem eqs_buildSliceK : True := by
  have := @buildSliceK.eq_1
  trivial
theorem eqs_makeSliceK : True := by
  have := @makeSliceK.eq_1
  trivial
end Go.Proofs.YtlddjlchgibdfaaDoor.X
set_option linter.unusedVariables false
set_option linter.unusedSimpArgs false
namespace Go.Proofs.YtlddjlchgibdfaaDoor.X
open Go

section sets
variable {α : Type}
theorem setsA_length : ∀ (us : List α) (k : Nat) (l : List α), (setsA l k us).length = l.length
  | [], _, _ => rfl
  | u :: us, k, l => by simp [setsA, setsA_length us]
theorem setsA_eq : ∀ (us : List α) (k : Nat) (l : List α), k + us.length ≤ l.length → setsA l k us = l.take k ++ us ++ l.drop (k + us.length)
  | [], k, l, _ => by simp [setsA]
  | u :: us, k, l, h => by
    simp only [List.length_cons] at h
    rw [setsA, setsA_eq us (k + 1) (l.set k u) (by simp; omega)]
    have h1 : (l.set k u).take (k + 1) = l.take k ++ [u] := by
      rw [List.take_succ_eq_append_getElem (by simp; omega)]
      simp [List.take_set, List.getElem_set]
      exact List.set_eq_of_length_le (by simp; omega)
    have h2 : (l.set k u).drop (k + 1 + us.length) = l.drop (k + (us.length + 1)) := by
      rw [List.drop_set_of_lt (by omega)]
      congr 1
      omega
    rw [h1, h2]
    simp
theorem setsA_drop : ∀ (us : List α) (o k : Nat) (l : List α), (setsA l (o + k) us).drop o = setsA (l.drop o) k us
  | [], _, _, _ => rfl
  | u :: us, o, k, l => by
    rw [setsA, setsA, show o + k + 1 = o + (k + 1) by omega, setsA_drop us o (k + 1)]
    congr 1
    rw [List.drop_set, if_neg (by omega)]
    congr 1
    omega
theorem setsA_take : ∀ (us : List α) (k n : Nat) (l : List α), k + us.length ≤ n → (setsA l k us).take n = setsA (l.take n) k us
  | [], _, _, _, _ => rfl
  | u :: us, k, n, l, h => by
    simp only [List.length_cons] at h
    rw [setsA, setsA, setsA_take us (k + 1) n _ (by omega), List.take_set]
end sets

def isSc : AV → Bool
  | .int .. | .bool _ | .str _ => true
  | _ => false
def allSc : List AV → Bool
  | [] => true
  | x :: xs => isSc x && allSc xs
/-- A value that is no slice. -/
def noSl (v : Value) : Prop := ∀ A n c, v ≠ .slice A n c
theorem isSc_T {w : World} {I : Nat → Prop} {x : AV} {v : Value} {F : List Nat} (h : isSc x = true) (hT : T w I x v F) : F = [] ∧ noSl v ∧ v.oneCell' = true := by
  cases x <;> simp [isSc] at h <;> simp only [T] at hT <;> obtain ⟨rfl, rfl⟩ := hT <;> exact ⟨rfl, fun A n c => by simp, rfl⟩
theorem isSc_S {hd : Nat → Value} {n : Nat} {w : World} {I : Nat → Prop} {x : AV} {v : Value} (h : isSc x = true) (hS : S hd n w I x v) : noSl v ∧ ∀ w' I', T w' I' x v [] := by
  cases x <;> simp [isSc] at h <;> simp only [S] at hS <;> subst hS <;> exact ⟨fun A n c => by simp, fun w' I' => by simp [T]⟩

mutual
def killS : AV → AV
  | .ref id (some _) sz off len => .any
  | .ptr id (some _) sz i c => .any
  | .fn f caps => .fn f (killL caps)
  | .agg cs => .agg (killL cs)
  | .tup xs => .tup (killL xs)
  | x => x
def killL : List AV → List AV
  | [] => []
  | x :: xs => killS x :: killL xs
end
def killH : Heap → Heap
  | [] => []
  | (i, .var cs) :: h => (i, .var (killL cs)) :: killH h
  | (i, .slice sz es) :: h => (i, .slice sz es) :: killH h
def killSt (s : St) : St := ⟨killL s.tmps, killH s.heap, s.next⟩
def killO : Ob → Ob
  | .var cs => .var (killL cs)
  | o => o
theorem hget_kill : ∀ (h : Heap) (j : Nat), hget (killH h) j = (hget h j).map killO
  | [], _ => rfl
  | (i, .var cs) :: h, j => by
    simp only [killH, hget]
    split <;> simp [killO, hget_kill h]
  | (i, .slice sz es) :: h, j => by
    simp only [killH, hget]
    split <;> simp [killO, hget_kill h]

section
variable {hd hd' : Nat → Value} {n n' : Nat} {w w' : World} {I I' : Nat → Prop}
mutual
theorem S.kill (hn : n ≤ n') (hI : ∀ b, I b → I' b ∧ w'.heap[b]? = w.heap[b]?) (hH : ∀ id, id < n → hd' id = hd id) :
    ∀ (x : AV) (v : Value), S hd n w I x v → S hd' n' w' I' (killS x) v
  | .ref id none sz off len, v, h => by
    simp only [S, killS, HdOf] at h ⊢
    obtain ⟨hid, h0, h1, h2⟩ := h
    exact ⟨Nat.lt_of_lt_of_le hid hn, h0, by rw [hH id hid]; exact h1, h2⟩
  | .ref id (some p) sz off len, v, h => by simp only [S, killS]
  | .ptr id none sz i c, v, h => by
    simp only [S, killS, HdOf] at h ⊢
    obtain ⟨hid, h0, b, o, h1, h2, h3⟩ := h
    exact ⟨Nat.lt_of_lt_of_le hid hn, h0, b, o, by rw [hH id hid]; exact h1, h2, h3⟩
  | .ptr id (some p) sz i c, v, h => by simp only [S, killS]
  | .fn f caps, v, h => by
    simp only [S, killS] at h ⊢
    obtain ⟨vs, hv, ht⟩ := h
    exact ⟨vs, hv, SL.kill hn hI hH caps _ ht⟩
  | .agg cs, v, h => by
    simp only [S, killS] at h ⊢
    obtain ⟨vs, hv, ht⟩ := h
    exact ⟨vs, hv, SL.kill hn hI hH cs _ ht⟩
  | .tup xs, v, h => by
    simp only [S, killS] at h ⊢
    obtain ⟨vs, hv, ht⟩ := h
    exact ⟨vs, hv, SV.kill hn hI hH xs _ ht⟩
  | .ow _ _, v, h => by simp only [S] at h
  | .op _, v, h => by simp only [S] at h
  | .any, v, h => by simp only [S, killS]
  | .con u, v, h => by simpa only [S, killS] using h
  | .int k m, v, h => by simpa only [S, killS] using h
  | .bool b, v, h => by simpa only [S, killS] using h
  | .str s, v, h => by simpa only [S, killS] using h
  | .nil, v, h => by simpa only [S, killS] using h
  | .sl es, v, h => by simp only [S, killS] at h ⊢; exact T.frame hI _ _ _ h (by simp)
  | .pf cs, v, h => by simp only [S, killS] at h ⊢; exact T.frame hI _ _ _ h (by simp)
theorem SL.kill (hn : n ≤ n') (hI : ∀ b, I b → I' b ∧ w'.heap[b]? = w.heap[b]?) (hH : ∀ id, id < n → hd' id = hd id) :
    ∀ (xs : List AV) (vs : List Value), SL hd n w I xs vs → SL hd' n' w' I' (killL xs) vs
  | [], vs, h => by simpa only [SL, killL] using h
  | x :: xs, vs, h => by
    simp only [SL, killL] at h ⊢
    obtain ⟨v, vs', rfl, h1, hx, hxs⟩ := h
    exact ⟨v, vs', rfl, h1, S.kill hn hI hH x v hx, SL.kill hn hI hH xs vs' hxs⟩
theorem SV.kill (hn : n ≤ n') (hI : ∀ b, I b → I' b ∧ w'.heap[b]? = w.heap[b]?) (hH : ∀ id, id < n → hd' id = hd id) :
    ∀ (xs : List AV) (vs : List Value), SV hd n w I xs vs → SV hd' n' w' I' (killL xs) vs
  | [], vs, h => by simpa only [SV, killL] using h
  | x :: xs, vs, h => by
    simp only [SV, killL] at h ⊢
    obtain ⟨v, vs', rfl, hx, hxs⟩ := h
    exact ⟨v, vs', rfl, S.kill hn hI hH x v hx, SV.kill hn hI hH xs vs' hxs⟩
end
end
theorem killL_eq : ∀ xs : List AV, killL xs = xs.map killS
  | [] => rfl
  | x :: xs => by simp [killL, killL_eq xs]

/-- One cell of a list of cells turns, its own part with it. -/
theorem TL.upd {w w' : World} {I : Nat → Prop} {b : Nat} (hb : ∀ b', b' ≠ b → w'.heap[b']? = w.heap[b']?) (hIb : ¬ I b) : ∀ {xs : List AV} {vs : List Value} {F : List Nat}, TL w I xs vs F → F.Nodup → ∀ {k : Nat} {x y : AV}, xs[k]? = some x →
    (∀ v Fx, vs[k]? = some v → T w I x v Fx → Fx.Sublist F → T w' I y v Fx ∧ b ∈ Fx) → TL w' I (xs.set k y) vs F ∧ b ∈ F
  | [], vs, F, h, _, k, x, y, hx, _ => by simp at hx
  | z :: xs, vs, F, h, hn, 0, x, y, hx, hT => by
    simp only [TL] at h
    obtain ⟨v, vs', F1, F2, rfl, rfl, h1, hz, hxs⟩ := h
    simp at hx
    subst hx
    obtain ⟨h2, h3⟩ := hT v F1 rfl hz (List.sublist_append_left _ _)
    refine ⟨?_, by simp [h3]⟩
    simp only [List.set_cons_zero, TL]
    refine ⟨v, vs', F1, F2, rfl, rfl, h1, h2, TL.frame (fun b' hI => ⟨hI, hb b' (fun e => hIb (e ▸ hI))⟩) xs vs' F2 hxs (fun b' hm => hb b' ?_)⟩
    rintro rfl
    exact (List.nodup_append.1 hn).2.2 _ h3 _ hm rfl
  | z :: xs, vs, F, h, hn, k + 1, x, y, hx, hT => by
    simp only [TL] at h
    obtain ⟨v, vs', F1, F2, rfl, rfl, h1, hz, hxs⟩ := h
    simp at hx
    obtain ⟨h2, h3⟩ := TL.upd hb hIb hxs (List.nodup_append.1 hn).2.1 hx (fun u Fx hu hTx hs => hT u Fx (by simpa using hu) hTx (hs.trans (List.sublist_append_right _ _)))
    refine ⟨?_, by simp [h3]⟩
    simp only [List.set_cons_succ, TL]
    refine ⟨v, vs', F1, F2, rfl, rfl, h1, T.frame (fun b' hI => ⟨hI, hb b' (fun e => hIb (e ▸ hI))⟩) z v F1 hz (fun b' hm => hb b' ?_), h2⟩
    rintro rfl
    exact (List.nodup_append.1 hn).2.2 _ hm _ h3 rfl
theorem TLL.upd {w w' : World} {I : Nat → Prop} {b sz : Nat} (hb : ∀ b', b' ≠ b → w'.heap[b']? = w.heap[b']?) (hIb : ¬ I b) : ∀ {es : List (List AV)} {vs : List Value} {F : List Nat}, TLL w I es vs F → F.Nodup → Each sz es → ∀ {i k : Nat} {e : List AV} {x y : AV}, es[i]? = some e → e[k]? = some x →
    (∀ v Fx, vs[i * sz + k]? = some v → T w I x v Fx → Fx.Sublist F → T w' I y v Fx ∧ b ∈ Fx) → TLL w' I (es.set i (e.set k y)) vs F ∧ b ∈ F
  | [], vs, F, h, _, _, i, k, e, x, y, he, _, _ => by simp at he
  | z :: es, vs, F, h, hn, hE, 0, k, e, x, y, he, hx, hT => by
    simp only [TLL] at h
    obtain ⟨v1, v2, F1, F2, rfl, rfl, hz, hxs⟩ := h
    simp at he
    subst he
    have hkl : k < v1.length := by rw [hz.length]; exact (List.getElem?_eq_some_iff.1 hx).1
    obtain ⟨h2, h3⟩ := TL.upd hb hIb hz (List.nodup_append.1 hn).1 (y := y) hx (fun v Fx hv hTx hs => hT v Fx (by rw [Nat.zero_mul, Nat.zero_add, List.getElem?_append_left hkl]; exact hv) hTx (hs.trans (List.sublist_append_left _ _)))
    refine ⟨?_, by simp [h3]⟩
    simp only [List.set_cons_zero, TLL]
    refine ⟨v1, v2, F1, F2, rfl, rfl, h2, TLL.frame (fun b' hI => ⟨hI, hb b' (fun e => hIb (e ▸ hI))⟩) es v2 F2 hxs (fun b' hm => hb b' ?_)⟩
    rintro rfl
    exact (List.nodup_append.1 hn).2.2 _ h3 _ hm rfl
  | z :: es, vs, F, h, hn, hE, i + 1, k, e, x, y, he, hx, hT => by
    simp only [TLL] at h
    obtain ⟨v1, v2, F1, F2, rfl, rfl, hz, hxs⟩ := h
    simp at he
    have hl := hz.length
    have h1 := hE.1
    obtain ⟨h2, h3⟩ := TLL.upd hb hIb hxs (List.nodup_append.1 hn).2.1 hE.2 (y := y) he hx (fun v Fx hv hTx hs => hT v Fx (by
      rw [List.getElem?_append_right (by rw [Nat.add_mul]; omega)]
      rw [← hv]
      congr 1
      rw [Nat.add_mul]
      omega) hTx (hs.trans (List.sublist_append_right _ _)))
    refine ⟨?_, by simp [h3]⟩
    simp only [List.set_cons_succ, TLL]
    refine ⟨v1, v2, F1, F2, rfl, rfl, TL.frame (fun b' hI => ⟨hI, hb b' (fun e => hIb (e ▸ hI))⟩) z v1 F1 hz (fun b' hm => hb b' ?_), h2⟩
    rintro rfl
    exact (List.nodup_append.1 hn).2.2 _ hm _ h3 rfl
theorem eqs_isSc : True := by
  have := @isSc.eq_1
  trivial
theorem eqs_allSc : True := by
  have := @allSc.eq_1
  trivial
theorem eqs_killL : True := by
  have := @killL.eq_1
  trivial
theorem eqs_killH : True := by
  have := @killH.eq_1
  trivial
theorem eqs_killSt : True := by
  have := @killSt.eq_1
  trivial
end Go.Proofs.YtlddjlchgibdfaaDoor.X
set_option linter.unusedVariables false
set_option linter.unusedSimpArgs false
namespace Go.Proofs.YtlddjlchgibdfaaDoor.X
open Go

theorem TL.setsc {w : World} {I : Nat → Prop} : ∀ {xs : List AV} {vs : List Value} {F : List Nat}, TL w I xs vs F → ∀ {k : Nat} {x y : AV} {u : Value}, xs[k]? = some x → isSc x = true → T w I y u [] → u.oneCell' = true → TL w I (xs.set k y) (vs.set k u) F
  | [], vs, F, h, k, x, y, u, hx, _, _, _ => by simp at hx
  | z :: xs, vs, F, h, 0, x, y, u, hx, hs, hy, h1 => by
    simp only [TL] at h
    obtain ⟨v, vs', F1, F2, rfl, rfl, g1, hz, hxs⟩ := h
    simp at hx; subst hx
    obtain ⟨rfl, _⟩ := isSc_T hs hz
    simp only [List.set_cons_zero, TL]
    exact ⟨u, vs', [], F2, rfl, rfl, h1, hy, hxs⟩
  | z :: xs, vs, F, h, k + 1, x, y, u, hx, hs, hy, h1 => by
    simp only [TL] at h
    obtain ⟨v, vs', F1, F2, rfl, rfl, g1, hz, hxs⟩ := h
    simp only [List.set_cons_succ, TL]
    exact ⟨v, _, F1, F2, rfl, rfl, g1, hz, TL.setsc hxs (by simpa using hx) hs hy h1⟩
theorem TLL.setsc {w : World} {I : Nat → Prop} {sz : Nat} : ∀ {es : List (List AV)} {vs : List Value} {F : List Nat}, TLL w I es vs F → Each sz es → ∀ {i k : Nat} {e : List AV} {x y : AV} {u : Value}, es[i]? = some e → e[k]? = some x → isSc x = true → T w I y u [] → u.oneCell' = true →
    TLL w I (es.set i (e.set k y)) (vs.set (i * sz + k) u) F
  | [], vs, F, h, _, i, k, e, x, y, u, he, _, _, _, _ => by simp at he
  | z :: es, vs, F, h, hE, 0, k, e, x, y, u, he, hx, hs, hy, h1 => by
    simp only [TLL] at h
    obtain ⟨v1, v2, F1, F2, rfl, rfl, hz, hxs⟩ := h
    simp at he; subst he
    have hkl : k < v1.length := by rw [hz.length]; exact (List.getElem?_eq_some_iff.1 hx).1
    simp only [List.set_cons_zero, TLL]
    exact ⟨v1.set k u, v2, F1, F2, by rw [Nat.zero_mul, Nat.zero_add, List.set_append_left _ _ hkl], rfl, hz.setsc hx hs hy h1, hxs⟩
  | z :: es, vs, F, h, hE, i + 1, k, e, x, y, u, he, hx, hs, hy, h1 => by
    simp only [TLL] at h
    obtain ⟨v1, v2, F1, F2, rfl, rfl, hz, hxs⟩ := h
    simp at he
    have hl := hz.length
    have g1 := hE.1
    simp only [List.set_cons_succ, TLL]
    refine ⟨v1, v2.set (i * sz + k) u, F1, F2, ?_, rfl, hz, TLL.setsc hxs hE.2 he hx hs hy h1⟩
    rw [Nat.add_mul, List.set_append_right _ _ (by omega)]
    congr 2
    omega
/-- Scalars and their values. -/
def Scs : List AV → List Value → Prop
  | [], us => us = []
  | y :: ys, us => ∃ u us', us = u :: us' ∧ isSc y = true ∧ u.oneCell' = true ∧ noSl u ∧ (∀ w I, T w I y u []) ∧ Scs ys us'
theorem Scs.length : ∀ {ys : List AV} {us : List Value}, Scs ys us → us.length = ys.length
  | [], us, h => by simp only [Scs] at h; simp [h]
  | y :: ys, us, h => by
    simp only [Scs] at h
    obtain ⟨u, us', rfl, _, _, _, _, ht⟩ := h
    simp [Scs.length ht]
theorem Scs.ones : ∀ {ys : List AV} {us : List Value}, Scs ys us → ∀ u ∈ us, u.oneCell' = true
  | [], us, h, u, hu => by simp only [Scs] at h; simp [h] at hu
  | y :: ys, us, h, u, hu => by
    simp only [Scs] at h
    obtain ⟨v, us', rfl, _, h1, _, _, ht⟩ := h
    rcases List.mem_cons.1 hu with rfl | hu
    · exact h1
    · exact Scs.ones ht u hu
theorem Scs.of {hd : Nat → Value} {n : Nat} {w : World} {I : Nat → Prop} : ∀ {ys : List AV} {us : List Value}, allSc ys = true → SL hd n w I ys us → Scs ys us
  | [], us, _, h => by simpa only [SL, Scs] using h
  | y :: ys, us, hs, h => by
    simp only [allSc, Bool.and_eq_true] at hs
    simp only [SL] at h
    obtain ⟨v, us', rfl, h1, hy, ht⟩ := h
    obtain ⟨h2, h3⟩ := isSc_S hs.1 hy
    simp only [Scs]
    exact ⟨v, us', rfl, hs.1, h1, h2, h3, Scs.of hs.2 ht⟩
theorem TLL.setsAsc {w : World} {I : Nat → Prop} {sz i : Nat} : ∀ {ys : List AV} {us : List Value} (hs : Scs ys us) {k : Nat} {es : List (List AV)} {e : List AV} {vs : List Value} {F : List Nat}, TLL w I es vs F → Each sz es → es[i]? = some e → k + ys.length ≤ e.length →
    allSc ((e.drop k).take ys.length) = true → TLL w I (es.set i (setsA e k ys)) (setsA vs (i * sz + k) us) F ∧ Each sz (es.set i (setsA e k ys))
  | [], us, hs, k, es, e, vs, F, h, hE, he, _, _ => by
    simp only [Scs] at hs; subst hs
    simp only [setsA]
    have : es.set i e = es := by
      apply List.ext_getElem?
      intro j
      rw [List.getElem?_set]
      split
      · rename_i hij; subst hij
        rw [he]; simp [(List.getElem?_eq_some_iff.1 he).1]
      · rfl
    rw [this]
    exact ⟨h, hE⟩
  | y :: ys, us, hs, k, es, e, vs, F, h, hE, he, hk, hold => by
    simp only [Scs] at hs
    obtain ⟨u, us', rfl, hy, h1, _, hT, hs⟩ := hs
    simp only [List.length_cons] at hk hold
    have hkl : k < e.length := by omega
    have hx : e[k]? = some e[k] := List.getElem?_eq_getElem hkl
    have hd : (e.drop k).take (ys.length + 1) = e[k] :: ((e.set k y).drop (k + 1)).take ys.length := by
      rw [List.drop_eq_getElem_cons hkl, List.take_succ_cons, List.drop_set_of_lt (by omega)]
    rw [hd] at hold
    simp only [allSc, Bool.and_eq_true] at hold
    have hilen : i < es.length := (List.getElem?_eq_some_iff.1 he).1
    have hsz := hE.mem e (List.mem_of_getElem? he)
    have h2 := h.setsc hE he hx hold.1 (hT w I) h1
    have hE2 : Each sz (es.set i (e.set k y)) := Each.of_mem fun z hz => by
      rcases List.mem_or_eq_of_mem_set hz with hz | rfl
      · exact hE.mem z hz
      · simpa using hsz
    have := TLL.setsAsc (i := i) hs (k := k + 1) h2 hE2 (e := e.set k y) (by rw [List.getElem?_set_self hilen]) (by simp; omega) hold.2
    simp only [List.set_set] at this
    simp only [setsA]
    rw [show i * sz + k + 1 = i * sz + (k + 1) by omega]
    exact this

theorem setRow_size (w : World) (b : Nat) (cs : Array Value) : (w.setRow b cs).heap.size = w.heap.size := by simp [World.setRow]

/-- Scalars are written over scalars, in an own slice's first block. -/
theorem ow_store {w : World} {I : Nat → Prop} {sz i c b o : Nat} {es : List (List AV)} {hv : Value} {F : List Nat} {e : List AV} {ys : List AV} {us : List Value} {cur : Array Value} {ty : TypeId}
    (h : T w I (.ow sz es) hv F) (hn : F.Nodup) (hI : ∀ b ∈ F, ¬ I b) (he : es[i]? = some e) (hc : c + ys.length ≤ e.length) (hold : allSc ((e.drop c).take ys.length) = true) (hs : Scs ys us)
    (hb : BaseOf hv b o) (hh : w.heap[b]? = some (.cells cur ty (0, 0))) :
    T (w.setRow b (setsA cur.toList (o + (i * sz + c)) us).toArray) I (.ow sz (es.set i (setsA e c ys))) hv F ∧ b ∈ F ∧ o + (i * sz + c) + us.length ≤ cur.size ∧ (∀ j, j < us.length → ∃ v, cur.toList[o + (i * sz + c) + j]? = some v ∧ noSl v) := by
  have hT := h
  simp only [T] at h
  rcases h with ⟨rfl, _, _⟩ | ⟨b', o', k, cur', ty', vs, Fs, rfl, hh', hck, hm, ho, hE, rfl, ht, rfl⟩
  · simp at he
  · obtain ⟨rfl, rfl⟩ := hb.uniq (.inl ⟨_, _, rfl⟩)
    obtain ⟨rfl, rfl⟩ : cur = cur' ∧ ty = ty' := by
      have := Option.some.inj (hh.symm.trans hh')
      simp only [Obj.cells.injEq] at this
      exact ⟨this.1, this.2.1⟩
    have hil : i < es.length := (List.getElem?_eq_some_iff.1 he).1
    have hel := hE.mem e (List.mem_of_getElem? he)
    have hlen := hs.length
    have hbnd : i * sz + c + us.length ≤ es.length * sz := by
      have : (i + 1) * sz ≤ es.length * sz := Nat.mul_le_mul_right _ hil
      rw [Nat.add_mul] at this
      omega
    have hks : es.length * sz ≤ k * sz := Nat.mul_le_mul_right _ hck
    have hother : ∀ b', b' ≠ b → (w.setRow b (setsA cur.toList (o + (i * sz + c)) us).toArray).heap[b']? = w.heap[b']? := fun b' hb' => setRow_other w b b' _ hb'
    have hbF := (List.nodup_cons.1 hn).1
    have ht2 : TLL (w.setRow b (setsA cur.toList (o + (i * sz + c)) us).toArray) I es ((cur.toList.drop o).take (es.length * sz)) Fs :=
      TLL.frame (fun b' hb' => ⟨hb', hother b' (fun e => hI b (by simp) (e ▸ hb'))⟩) es _ Fs ht (fun b' hb' => hother b' (fun e => hbF (e ▸ hb')))
    obtain ⟨h3, h4⟩ := TLL.setsAsc (i := i) hs (k := c) ht2 hE he hc hold
    refine ⟨?_, by simp, by omega, ?_⟩
    · simp only [T]
      refine .inr ⟨b, o, k, (setsA cur.toList (o + (i * sz + c)) us).toArray, ty, _, Fs, by rw [List.length_set], setRow_heap w b cur _ ty _ hh, by rw [List.length_set]; exact hck, hm, by simpa [setsA_length] using ho, h4, ?_, h3, rfl⟩
      rw [List.length_set, setsA_drop, setsA_take _ _ _ _ hbnd]
    · intro j hj
      have hcj : c + j < e.length := by omega
      have hx : e[c + j]? = some e[c + j] := List.getElem?_eq_getElem hcj
      obtain ⟨b2, o2, cur2, ty2, v, Gp, hb2, hh2, hv, h1, hTx, _, _⟩ := ow_cell hT he hx
      obtain ⟨rfl, rfl⟩ := hb2.uniq (.inl ⟨_, _, rfl⟩)
      obtain ⟨rfl, rfl⟩ : cur = cur2 ∧ ty = ty2 := by
        have := Option.some.inj (hh.symm.trans hh2)
        simp only [Obj.cells.injEq] at this
        exact ⟨this.1, this.2.1⟩
      refine ⟨v, by rw [← hv]; congr 1; omega, ?_⟩
      have hsc : isSc e[c + j] = true := by
        have hmem : e[c + j] ∈ (e.drop c).take ys.length := by
          refine List.mem_of_getElem? (i := j) ?_
          rw [List.getElem?_take, if_pos (by omega), List.getElem?_drop, hx]
        have hall : ∀ (l : List AV), allSc l = true → ∀ x ∈ l, isSc x = true := by
          intro l
          induction l with
          | nil => intro _ x hx; cases hx
          | cons y l ih =>
            intro h x hx
            simp only [allSc, Bool.and_eq_true] at h
            rcases List.mem_cons.1 hx with rfl | hx
            · exact h.1
            · exact ih h.2 x hx
        exact hall _ hold _ hmem
      exact (isSc_T hsc hTx).2.1

/-- Slices' heads stay where no slice was overwritten. -/
theorem fr_store {w : World} {I : Nat → Prop} {n : Nat} {hd : Nat → Value} {b p : Nat} {cur : Array Value} {ty : TypeId} {us : List Value} (hh : w.heap[b]? = some (.cells cur ty (0, 0))) (hI : ¬ I b) (hfit : p + us.length ≤ cur.size)
    (hold : ∀ j, j < us.length → ∃ v, cur.toList[p + j]? = some v ∧ noSl v) : Fr I I n n hd hd w (w.setRow b (setsA cur.toList p us).toArray) := by
  have hother : ∀ b', b' ≠ b → (w.setRow b (setsA cur.toList p us).toArray).heap[b']? = w.heap[b']? := fun b' hb' => setRow_other w b b' _ hb'
  refine ⟨Nat.le_refl _, fun b' hb' => ⟨hb', hother b' (fun e => hI (e ▸ hb'))⟩, fun id hid sub v hv => ?_⟩
  cases sub with
  | none => exact hv
  | some q =>
    obtain ⟨szo, i, c⟩ := q
    simp only [HdOf] at hv ⊢
    obtain ⟨⟨A, m, k, rfl⟩, b', o', hbo, hc⟩ := hv
    refine ⟨⟨A, m, k, rfl⟩, b', o', hbo, ?_⟩
    by_cases hbb : b' = b
    · subst hbb
      have hnew := setRow_heap w b' cur (setsA cur.toList p us).toArray ty (0, 0) hh
      simp only [World.cell?, hh, Option.isSome_none, Bool.false_eq_true, if_false] at hc
      simp only [World.cell?, hnew, Option.isSome_none, Bool.false_eq_true, if_false]
      rw [setsA_eq us p cur.toList (by simpa using hfit)]
      have hq : cur.toList[o' + (i * szo + c)]? = some (.slice A m k) := by simpa using hc
      generalize o' + (i * szo + c) = q at hq
      have hne : ¬ (p ≤ q ∧ q < p + us.length) := by
        rintro ⟨h1, h2⟩
        obtain ⟨u, hu, hns⟩ := hold (q - p) (by omega)
        rw [show p + (q - p) = q by omega, hq] at hu
        exact hns A m k (Option.some.inj hu).symm
      simp only [List.getElem?_toArray]
      by_cases h1 : q < p
      · rw [List.append_assoc, List.getElem?_append_left (by simp; omega), List.getElem?_take, if_pos h1]
        exact hq
      · rw [List.getElem?_append_right (by simp; omega), List.getElem?_drop]
        rw [← hq]
        congr 1
        simp
        omega
    · exact (World.cell?_of_block (a := ⟨b', o' + (i * szo + c), none⟩) (hother b' hbb)).trans hc
end Go.Proofs.YtlddjlchgibdfaaDoor.X
set_option linter.unusedVariables false
set_option linter.unusedSimpArgs false
namespace Go.Proofs.YtlddjlchgibdfaaDoor.X
open Go

def setS (h : Heap) (id : Nat) (sub : Option (Nat × Nat × Nat)) (es' : List (List AV)) : Heap :=
  match sub, hget h id with
  | none, some (.slice sz _) => hset h id (.slice sz es')
  | some (szo, i, c), some (.slice sz es) => match es[i]? with
    | some e => match e[c]? with
      | some (.ow sz' _) => hset h id (.slice sz (es.set i (e.set c (.ow sz' es'))))
      | _ => h
    | none => h
  | _, _ => h

def storeK (P : Program) (s : St) (t : TypeId) (x v : AV) (K : St → Prop) : Prop :=
  match x, cellsV v with
  | .ptr id sub sz i c, some cs => szOf P t ≠ 0 ∧ cs.length = szOf P t ∧ match sub, hget s.heap id with
    | none, some (.var old) => i = 0 ∧ c + cs.length ≤ old.length ∧
      (if allSc ((old.drop c).take cs.length) then K ⟨s.tmps, hset s.heap id (.var (setsA old c cs)), s.next⟩
       else K (killSt ⟨s.tmps, hset s.heap id (.var (setsA old c cs)), s.next⟩))
    | _, _ => match getS s.heap id sub with
      | some (sz', es) => sz' = sz ∧ match es[i]? with
        | some e => c + cs.length ≤ e.length ∧
          (if allSc cs = true ∧ allSc ((e.drop c).take cs.length) = true then K ⟨s.tmps, setS s.heap id sub (es.set i (setsA e c cs)), s.next⟩
           else sub = none ∧ match conL s.heap cs with
             | some (ys, h') => match hget h' id with
               | some (.slice _ _) => K (killSt ⟨s.tmps, hset h' id (.slice sz (es.set i (setsA e c ys))), s.next⟩)
               | _ => False
             | none => False)
        | none => False
      | none => False
  | _, _ => False

theorem run_storeAt {P : Program} {w : World} {t ty : TypeId} {b p : Nat} {v : Value} {cur : Array Value} (hz : szOf P t ≠ 0) (hv : v.cells.size = szOf P t) (hh : w.heap[b]? = some (.cells cur ty (0, 0))) (hfit : p + v.cells.toList.length ≤ cur.size)
    (h1 : ∀ u ∈ v.cells.toList, u.oneCell' = true) : (Instr.storeAt t (.pointer (some ⟨b, p, none⟩)) v).run P w = .ok () (w.setRow b (setsA cur.toList p v.cells.toList).toArray) := by
  have hst := run_storeCells_at P b p ty v.cells.toList 0 cur w hh (by simpa using hfit) h1
  simp only [Nat.add_zero] at hst
  rw [← setsA_eq v.cells.toList p cur.toList (by simpa using hfit)] at hst
  simp [Instr.storeAt, Instr.sureAddr, storeVar, run_sizeOf hz, hv, hst]

section
variable {P : Program} {G : Glo} {M I : Nat → Prop} {s : St} {hd : Nat → Value} {Fp : Nat → List Nat} {a : Act} {w w' : World}
theorem HR.kill {h : Heap} {n : Nat} (hr : HR G M I h n hd Fp w) : HR G M I (killH h) n hd Fp w := by
  have hg : ∀ j u, hget (killH h) j = some u → ∃ u0, hget h j = some u0 ∧ u = killO u0 := by
    intro j u hu
    rw [hget_kill] at hu
    obtain ⟨u0, h1, h2⟩ := Option.map_eq_some_iff.1 hu
    exact ⟨u0, h1, h2.symm⟩
  refine ⟨fun j u hu => ?_, fun b hb => ⟨(hr.imm b hb).1, fun j u hu => ?_⟩, fun j u hu => ?_, fun j u j' u' hu hu' => ?_, fun j u hu => ?_, fun j u hu => ?_, hr.news, hr.glo⟩
  · obtain ⟨u0, h1, rfl⟩ := hg j u hu
    have := hr.obj j u0 h1
    cases u0 with
    | slice sz es => exact this
    | var cs =>
      obtain ⟨b, cur, e, h2, h3, h4, h5⟩ := this
      exact ⟨b, cur, e, h2, h3, SL.kill (Nat.le_refl _) (fun b hb => ⟨hb, rfl⟩) (fun _ _ => rfl) cs _ h4, h5⟩
  · obtain ⟨u0, h1, rfl⟩ := hg j u hu; exact (hr.imm b hb).2 j u0 h1
  · obtain ⟨u0, h1, rfl⟩ := hg j u hu; exact hr.nodup j u0 h1
  · obtain ⟨u0, h1, rfl⟩ := hg j u hu
    obtain ⟨u0', h1', rfl⟩ := hg j' u' hu'
    exact hr.disj j u0 j' u0' h1 h1'
  · obtain ⟨u0, h1, rfl⟩ := hg j u hu; exact hr.mine j u0 h1
  · obtain ⟨u0, h1, rfl⟩ := hg j u hu; exact hr.next j u0 h1
theorem SR.killedK (h : SR G M I s hd Fp a w) {M' : Nat → Prop} {I' : Nat → Prop} {h' : Heap} {n' : Nat} {hd' : Nat → Value} {Fp' : Nat → List Nat} (hr : HR G M' I' (killH h') n' hd' Fp' w') (hn : s.next ≤ n') (hI : ∀ b, I b → I' b ∧ w'.heap[b]? = w.heap[b]?)
    (hH : ∀ id, id < s.next → hd' id = hd id) : SR G M' I' (killSt ⟨s.tmps, h', n'⟩) hd' Fp' a w' := by
  refine ⟨hr, by simp [killSt, killL_eq, h.len], fun t => ?_, h.defers⟩
  have := S.kill hn hI hH _ _ (h.slots t)
  simp only [killSt, killL_eq, List.getD_eq_getElem?_getD, List.getElem?_map] at this ⊢
  cases hs : s.tmps[t]? with
  | none => simp [S]
  | some x => simpa [hs] using this
/-- All inner references are forgotten; the slots follow to any world in which what is frozen stands. -/
theorem SR.killed (h : SR G M I s hd Fp a w) {M' : Nat → Prop} {I' : Nat → Prop} {h' : Heap} {n' : Nat} {hd' : Nat → Value} {Fp' : Nat → List Nat} (hr : HR G M' I' h' n' hd' Fp' w') (hn : s.next ≤ n') (hI : ∀ b, I b → I' b ∧ w'.heap[b]? = w.heap[b]?)
    (hH : ∀ id, id < s.next → hd' id = hd id) : SR G M' I' (killSt ⟨s.tmps, h', n'⟩) hd' Fp' a w' := by
  refine ⟨hr.kill, by simp [killSt, killL_eq, h.len], fun t => ?_, h.defers⟩
  have := S.kill hn hI hH _ _ (h.slots t)
  simp only [killSt, killL_eq, List.getD_eq_getElem?_getD, List.getElem?_map] at this ⊢
  cases hs : s.tmps[t]? with
  | none => simp [S]
  | some x => simpa [hs] using this

theorem keep_setRow {b : Nat} {cs : Array Value} (hM : M b) : Keep M w (w.setRow b cs) :=
  ⟨rfl, rfl, rfl, by rw [setRow_size]; exact Nat.le_refl _, fun b' hb' hm => setRow_other w b b' _ (fun e => hm (e ▸ hM))⟩

theorem SL.setsA {n : Nat} : ∀ {ys : List AV} {us : List Value} (hy : SL hd n w I ys us) {k : Nat} {xs : List AV} {vs : List Value}, SL hd n w I xs vs → SL hd n w I (X.setsA xs k ys) (X.setsA vs k us)
  | [], us, hy, k, xs, vs, h => by simp only [SL] at hy; subst hy; exact h
  | y :: ys, us, hy, k, xs, vs, h => by
    simp only [SL] at hy
    obtain ⟨u, us', rfl, h1, hu, ht⟩ := hy
    simp only [X.setsA]
    exact SL.setsA ht (h.set k h1 hu)

/-- An object's blocks stay; its content turns. -/
theorem HR.setSame {h : Heap} {n : Nat} (hr : HR G M I h n hd Fp w) {id : Nat} {o : Ob} (ho : hget h id = some o) (o' : Ob) (hs : w'.heap.size = w.heap.size) (hb : ∀ b, b ∉ Fp id → w'.heap[b]? = w.heap[b]?)
    (fr : Fr I I n n hd hd w w') (hno : ObjR hd n w' I o' (hd id) (Fp id)) : ∃ Fp', HR G M I (hset h id o') n hd Fp' w' :=
  ⟨_, hr.set ho o' hs (Fp id) (hr.nodup id o ho) (hr.mine id o ho) (hr.notI ho) (fun j u hu hj b hb' => hr.disj j u id o hu ho hj b hb') hb fr hno⟩

theorem allSc_noSl {n : Nat} : ∀ {xs : List AV} {vs : List Value}, allSc xs = true → SL hd n w I xs vs → ∀ v ∈ vs, noSl v
  | [], vs, _, h, v, hv => by simp only [SL] at h; subst h; cases hv
  | x :: xs, vs, hs, h, v, hv => by
    simp only [allSc, Bool.and_eq_true] at hs
    simp only [SL] at h
    obtain ⟨u, vs', rfl, h1, hx, ht⟩ := h
    rcases List.mem_cons.1 hv with rfl | hv
    · exact (isSc_S hs.1 hx).1
    · exact allSc_noSl hs.2 ht v hv

/-- Scalars are written over scalars in an own slice, or in one that lies in it. -/
theorem setS_sc {h : Heap} {n : Nat} (hr : HR G M I h n hd Fp w) {id : Nat} {sub : Option (Nat × Nat × Nat)} {sz i c b o : Nat} {es : List (List AV)} {e cs : List AV} {hhv : Value} {us : List Value} {cur : Array Value} {ty : TypeId}
    (hg : getS h id sub = some (sz, es)) (he : es[i]? = some e) (hfit : c + cs.length ≤ e.length) (hsc : allSc cs = true) (hold : allSc ((e.drop c).take cs.length) = true) (hcs : SL hd n w I cs us)
    (hh : HdOf hd w id sub hhv) (hb : BaseOf hhv b o) (hhp : w.heap[b]? = some (.cells cur ty (0, 0))) :
    ∃ Fp', HR G M I (setS h id sub (es.set i (setsA e c cs))) n hd Fp' (w.setRow b (setsA cur.toList (o + (i * sz + c)) us).toArray) := by
  have hscs := Scs.of hsc hcs
  have hother : ∀ b', b' ≠ b → (w.setRow b (setsA cur.toList (o + (i * sz + c)) us).toArray).heap[b']? = w.heap[b']? := fun b' hb' => setRow_other w b b' _ hb'
  cases sub with
  | none =>
    simp only [getS] at hg
    split at hg
    · rename_i sz0 es0 ho'
      simp only [Option.some.injEq, Prod.mk.injEq] at hg
      obtain ⟨rfl, rfl⟩ := hg
      simp only [setS, ho']
      simp only [HdOf] at hh
      subst hh
      obtain ⟨g1, g2, g3, g4⟩ := ow_store (hr.obj id _ ho') (hr.nodup id _ ho') (fun b hb => hr.notI ho' b hb) he hfit hold hscs hb hhp
      exact hr.setSame ho' _ (setRow_size _ _ _) (fun b' hb' => hother b' (fun e => hb' (e ▸ g2))) (fr_store hhp (hr.notI ho' b g2) g3 g4) g1
    · cases hg
  | some q =>
    obtain ⟨szo, io, co⟩ := q
    simp only [getS] at hg
    split at hg
    · rename_i sz0 es0 ho'
      split at hg
      · rename_i hsz; subst hsz
        split at hg
        · rename_i sz2 es2 hx2
          simp only [Option.some.injEq, Prod.mk.injEq] at hg
          obtain ⟨rfl, rfl⟩ := hg
          obtain ⟨e0, he0, hx0⟩ := Option.bind_eq_some_iff.1 hx2
          simp only [setS, ho', he0, hx0]
          have hT0 := hr.obj id _ ho'
          have hn0 := hr.nodup id _ ho'
          obtain ⟨b3, o3, cur3, ty3, v3, G3, hb3, hh3, hv3, _, hT3, hs3, hsz3⟩ := ow_cell (hr.obj id _ ho') he0 hx0
          have hv : v3 = hhv := by
            simp only [HdOf] at hh
            obtain ⟨_, b4, o4, hb4, hc4⟩ := hh
            obtain ⟨rfl, rfl⟩ := hb4.uniq hb3
            simp only [World.cell?, hh3, Option.isSome_none, Bool.false_eq_true, if_false] at hc4
            rw [← Array.getElem?_toList, hv3] at hc4
            exact Option.some.inj hc4
          subst hv
          have hG3n : G3.Nodup := ((List.sublist_cons_self _ _).trans hs3).nodup hn0
          obtain ⟨q1, q2, q3, q4⟩ := ow_store hT3 hG3n (fun b hb => hr.notI ho' b (hs3.subset (List.mem_cons_of_mem _ hb))) he hfit hold hscs hb hhp
          have hbF : b ∈ Fp id := hs3.subset (List.mem_cons_of_mem _ q2)
          have hIb := hr.notI ho' b hbF
          refine hr.setSame ho' _ (setRow_size _ _ _) (fun b' hb' => hother b' (fun e => hb' (e ▸ hbF))) (fr_store hhp hIb q3 q4) ?_
          have hbne : b ≠ b3 := by
            rintro rfl
            exact (List.nodup_cons.1 (hs3.nodup hn0)).1 q2
          simp only [ObjR, T] at hT0 ⊢
          rcases hT0 with ⟨rfl, _, _⟩ | ⟨b0, o0, k0, cur0, ty0, vs0, Fs0, hhd0, hh0, hc0, hm0, ho0, hE0, rfl, ht0, hF0⟩
          · simp at he0
          · obtain ⟨rfl, rfl⟩ : b3 = b0 ∧ o3 = o0 := hb3.uniq (hhd0 ▸ .inl ⟨_, _, rfl⟩)
            obtain ⟨rfl, rfl⟩ : cur0 = cur3 ∧ ty0 = ty3 := by
              have := Option.some.inj (hh0.symm.trans hh3)
              simp only [Obj.cells.injEq] at this
              exact ⟨this.1, this.2.1⟩
            have hn1 : (b3 :: Fs0).Nodup := hF0 ▸ hn0
            have hcell : (((cur0.toList.drop o3).take (es0.length * sz0))[io * sz0 + co]?) = some v3 := by
              have hil : io < es0.length := (List.getElem?_eq_some_iff.1 he0).1
              have hel := hE0.mem e0 (List.mem_of_getElem? he0)
              have hcl : co < e0.length := (List.getElem?_eq_some_iff.1 hx0).1
              have hlt : io * sz0 + co < es0.length * sz0 := by
                have : (io + 1) * sz0 ≤ es0.length * sz0 := Nat.mul_le_mul_right _ hil
                rw [Nat.add_mul] at this
                omega
              rw [List.getElem?_take, if_pos hlt, List.getElem?_drop]
              exact hv3
            obtain ⟨g1, g2⟩ := TLL.upd hother hIb ht0 (List.nodup_cons.1 hn1).2 hE0 (y := .ow sz2 (es2.set i (setsA e c cs))) he0 hx0 (fun v Fx hv2 hTx hsx => by
              rw [hcell] at hv2
              obtain rfl := Option.some.inj hv2
              obtain ⟨q1, q2, _⟩ := ow_store hTx (hsx.nodup (List.nodup_cons.1 hn1).2) (fun b hb => hr.notI ho' b (by rw [hF0]; exact List.mem_cons_of_mem _ (hsx.subset hb))) he hfit hold hscs hb hhp
              exact ⟨q1, q2⟩)
            refine .inr ⟨b3, o3, k0, cur0, ty0, _, Fs0, by rw [List.length_set]; exact hhd0, (hother b3 (Ne.symm hbne)).trans hh0, by rw [List.length_set]; exact hc0, hm0, ho0, ?_, by rw [List.length_set], g1, hF0⟩
            exact Each.of_mem fun z hz => by
              rcases List.mem_or_eq_of_mem_set hz with hz | rfl
              · exact hE0.mem z hz
              · simpa using hE0.mem e0 (List.mem_of_getElem? he0)
        · cases hg
      · cases hg
    · cases hg

theorem TL.setsF {w : World} {I : Nat → Prop} {ys : List AV} {us : List Value} {Fy : List Nat} (hy : TL w I ys us Fy) {xs : List AV} {vs : List Value} {F : List Nat} (h : TL w I xs vs F) {k : Nat} (hk : k + ys.length ≤ xs.length) :
    ∃ F1 F2 F3, F = F1 ++ F2 ++ F3 ∧ TL w I (setsA xs k ys) (setsA vs k us) (F1 ++ Fy ++ F3) := by
  have hl := h.length
  have hyl := hy.length
  obtain ⟨F1, Fr, rfl, h1, h2⟩ := h.split k
  obtain ⟨F2, F3, rfl, h3, h4⟩ := h2.split ys.length
  refine ⟨F1, F2, F3, by simp, ?_⟩
  rw [setsA_eq _ _ _ hk, setsA_eq _ _ _ (by omega), hyl]
  rw [List.drop_drop] at h4
  rw [List.drop_drop] at h4
  exact (h1.append hy).append h4
theorem TLL.setsF {w : World} {I : Nat → Prop} {sz : Nat} {ys : List AV} {us : List Value} {Fy : List Nat} (hy : TL w I ys us Fy) : ∀ {es : List (List AV)} {vs : List Value} {F : List Nat} (h : TLL w I es vs F) (hE : Each sz es) {i k : Nat} {e : List AV} (he : es[i]? = some e) (hk : k + ys.length ≤ e.length),
    ∃ F1 F2 F3, F = F1 ++ F2 ++ F3 ∧ TLL w I (es.set i (setsA e k ys)) (setsA vs (i * sz + k) us) (F1 ++ Fy ++ F3)
  | [], vs, F, h, _, i, k, e, he, _ => by simp at he
  | z :: es, vs, F, h, hE, 0, k, e, he, hk => by
    simp only [TLL] at h
    obtain ⟨v1, v2, F1, F2, rfl, rfl, hz, hxs⟩ := h
    simp at he; subst he
    have hl := hz.length
    have hyl := hy.length
    obtain ⟨G1, G2, G3, rfl, h1⟩ := TL.setsF hy hz hk
    refine ⟨G1, G2, G3 ++ F2, by simp, ?_⟩
    simp only [List.set_cons_zero, TLL]
    refine ⟨setsA v1 k us, v2, G1 ++ Fy ++ G3, F2, ?_, by simp, h1, hxs⟩
    rw [Nat.zero_mul, Nat.zero_add, setsA_eq _ _ _ (by simp; omega), setsA_eq _ _ _ (by omega), List.take_append_of_le_length (by omega), List.drop_append_of_le_length (by omega)]
    simp
  | z :: es, vs, F, h, hE, i + 1, k, e, he, hk => by
    simp only [TLL] at h
    obtain ⟨v1, v2, F1, F2, rfl, rfl, hz, hxs⟩ := h
    simp at he
    have hl := hz.length
    have hyl := hy.length
    have hs := hE.1
    obtain ⟨G1, G2, G3, rfl, h1⟩ := TLL.setsF hy hxs hE.2 he hk
    refine ⟨F1 ++ G1, G2, G3, by simp, ?_⟩
    simp only [List.set_cons_succ, TLL]
    refine ⟨v1, setsA v2 (i * sz + k) us, F1, G1 ++ Fy ++ G3, ?_, by simp, hz, h1⟩
    have hv2 := hxs.length hE.2
    have hil : i < es.length := (List.getElem?_eq_some_iff.1 he).1
    have hel := hE.2.mem e (List.mem_of_getElem? he)
    have hb : (i + 1) * sz ≤ es.length * sz := Nat.mul_le_mul_right _ hil
    rw [Nat.add_mul] at hb
    have e1 : (i + 1) * sz + k = v1.length + (i * sz + k) := by rw [Nat.add_mul]; omega
    rw [e1, setsA_eq _ _ _ (by simp; omega), setsA_eq _ _ _ (by omega), List.take_length_add_append, show v1.length + (i * sz + k) + us.length = v1.length + (i * sz + k + us.length) by omega, List.drop_length_add_append]
    simp

/-- Whatever is written into an own slice's element becomes its own. -/
theorem store_own {h h' : Heap} {n : Nat} (hr' : HR G M I h' n hd Fp w) {id : Nat} {sz i c b o : Nat} {es es0 : List (List AV)} {e ys : List AV} {us : List Value} {cur : Array Value} {ty : TypeId} {Fy : List Nat}
    (hg : hget h' id = some (.slice sz es)) (he : es[i]? = some e) (hfit : c + ys.length ≤ e.length) (hy : TL w I ys us Fy) (hf : Free M I h' Fp Fy)
    (hb : BaseOf (hd id) b o) (hhp : w.heap[b]? = some (.cells cur ty (0, 0))) :
    o + (i * sz + c) + us.length ≤ cur.size ∧ b ∈ Fp id ∧ ∃ Fp', HR G M I (killH (hset h' id (.slice sz (es.set i (setsA e c ys))))) n hd Fp' (w.setRow b (setsA cur.toList (o + (i * sz + c)) us).toArray) := by
  have hT := hr'.obj id _ hg
  have hn := hr'.nodup id _ hg
  have hyl := hy.length
  simp only [ObjR, T] at hT
  rcases hT with ⟨rfl, _, _⟩ | ⟨b', o', k, cur', ty', vs, Fs, hhd, hh', hck, hm, ho, hE, rfl, ht, hF⟩
  · simp at he
  · obtain ⟨rfl, rfl⟩ := hb.uniq (show BaseOf (hd id) b' o' from .inl ⟨_, _, hhd⟩)
    obtain ⟨rfl, rfl⟩ : cur = cur' ∧ ty = ty' := by
      have := Option.some.inj (hhp.symm.trans hh')
      simp only [Obj.cells.injEq] at this
      exact ⟨this.1, this.2.1⟩
    have hil : i < es.length := (List.getElem?_eq_some_iff.1 he).1
    have hel := hE.mem e (List.mem_of_getElem? he)
    have hbnd : i * sz + c + us.length ≤ es.length * sz := by
      have : (i + 1) * sz ≤ es.length * sz := Nat.mul_le_mul_right _ hil
      rw [Nat.add_mul] at this
      omega
    have hks : es.length * sz ≤ k * sz := Nat.mul_le_mul_right _ hck
    have hbF : b ∈ Fp id := by rw [hF]; simp
    have hIb := hr'.notI hg b hbF
    have hother : ∀ b', b' ≠ b → (w.setRow b (setsA cur.toList (o + (i * sz + c)) us).toArray).heap[b']? = w.heap[b']? := fun b' hb' => setRow_other w b b' _ hb'
    have hIm : ∀ b', I b' → I b' ∧ (w.setRow b (setsA cur.toList (o + (i * sz + c)) us).toArray).heap[b']? = w.heap[b']? := fun b' hb' => ⟨hb', hother b' (fun e => hIb (e ▸ hb'))⟩
    rw [hF] at hn
    have hbs := (List.nodup_cons.1 hn)
    have hby : b ∉ Fy := fun hx => hf.disj id _ hg b hbF hx
    have ht2 := TLL.frame hIm es _ Fs ht (fun b' hb' => hother b' (fun e => hbs.1 (e ▸ hb')))
    have hy2 := TL.frame hIm ys _ Fy hy (fun b' hb' => hother b' (fun e => hby (e ▸ hb')))
    obtain ⟨F1, F2, F3, rfl, h3⟩ := TLL.setsF hy2 ht2 hE he hfit
    have hmem : ∀ b' ∈ b :: (F1 ++ Fy ++ F3), b' ∈ Fp id ∨ b' ∈ Fy := by
      intro b' hb'
      rw [hF]
      simp only [List.mem_cons, List.mem_append] at hb' ⊢
      rcases hb' with hb' | (hb' | hb') | hb' <;> simp [hb']
    have hn2 : (b :: (F1 ++ Fy ++ F3)).Nodup := by
      have hnf := hbs.2
      rw [List.append_assoc, List.nodup_append] at hnf
      have hn23 := List.nodup_append.1 hnf.2.1
      refine List.nodup_cons.2 ⟨?_, ?_⟩
      · intro hx
        have h1 := hbs.1
        simp only [List.mem_append, not_or] at hx h1
        rcases hx with (hx | hx) | hx
        · exact h1.1.1 hx
        · exact hby hx
        · exact h1.2 hx
      · rw [List.append_assoc, List.nodup_append]
        refine ⟨hnf.1, ?_, ?_⟩
        · rw [List.nodup_append]
          refine ⟨hf.nodup, hn23.2.1, ?_⟩
          rintro x hx y hy' rfl
          exact hf.disj id _ hg x (by rw [hF]; simp [hy']) hx
        · rintro x hx y hy' rfl
          rcases List.mem_append.1 hy' with hy' | hy'
          · exact hf.disj id _ hg x (by rw [hF]; simp [hx]) hy'
          · exact hnf.2.2 x hx x (List.mem_append.2 (.inr hy')) rfl
    refine ⟨by omega, hbF, ?_⟩
    have hgk : hget (killH h') id = some (.slice sz es) := by rw [hget_kill, hg]; rfl
    have hkeq : killH (hset h' id (.slice sz (es.set i (setsA e c ys)))) = hset (killH h') id (.slice sz (es.set i (setsA e c ys))) := by
      have : ∀ (h : Heap), killH (hset h id (.slice sz (es.set i (setsA e c ys)))) = hset (killH h) id (.slice sz (es.set i (setsA e c ys))) := by
        intro h
        induction h with
        | nil => rfl
        | cons p h ih =>
          obtain ⟨j, u⟩ := p
          cases u <;> simp only [hset, killH] <;> split <;> simp_all [killH, hset]
      exact this h'
    rw [hkeq]
    refine ⟨_, hr'.kill.setG hgk _ (setRow_size _ _ _) (b :: (F1 ++ Fy ++ F3)) hn2 (fun b' hb' => ?_) (fun b' hb' => ?_) (fun j u hu hj b' hb' => ?_) (fun j u hu hj => ?_) (fun g gs hgs => T.frame hIm _ _ _ (hr'.glo g gs hgs) (by simp)) ?_⟩
    · rcases hmem b' hb' with hx | hx
      · exact hr'.mine id _ hg b' hx
      · exact hf.mine b' hx
    · rcases hmem b' hb' with hx | hx
      · exact hr'.notI hg b' hx
      · exact hf.imm b' hx
    · intro hx
      have hu' : ∃ u0, hget h' j = some u0 := by
        rw [hget_kill] at hu
        obtain ⟨u0, h1, _⟩ := Option.map_eq_some_iff.1 hu
        exact ⟨u0, h1⟩
      obtain ⟨u0, hu0⟩ := hu'
      rcases hmem b' hx with hx | hx
      · exact hr'.disj j u0 id _ hu0 hg hj b' hb' hx
      · exact hf.disj j u0 hu0 b' hb' hx
    · rw [hget_kill] at hu
      obtain ⟨u0, hu0, rfl⟩ := Option.map_eq_some_iff.1 hu
      have hq := hr'.obj j u0 hu0
      have hoth : ∀ b' ∈ Fp j, (w.setRow b (setsA cur.toList (o + (i * sz + c)) us).toArray).heap[b']? = w.heap[b']? := fun b' hb' => hother b' (fun e => hr'.disj j u0 id _ hu0 hg hj b' hb' (e ▸ hbF))
      cases u0 with
      | slice sz0 es0 => exact T.frame hIm _ _ _ hq hoth
      | var cs0 =>
        obtain ⟨b0, cur0, e0, g1, g2, g3, g4⟩ := hq
        exact ⟨b0, cur0, e0, g1, (hoth b0 (by rw [g4]; simp)).trans g2, SL.kill (Nat.le_refl _) hIm (fun _ _ => rfl) _ _ g3, g4⟩
    · simp only [ObjR, T]
      refine .inr ⟨b, o, k, (setsA cur.toList (o + (i * sz + c)) us).toArray, ty, _, F1 ++ Fy ++ F3, by rw [List.length_set]; exact hhd, setRow_heap w b cur _ ty _ hhp, by rw [List.length_set]; exact hck, hm, by simpa [setsA_length] using ho, ?_, ?_, h3, rfl⟩
      · exact Each.of_mem fun z hz => by
          rcases List.mem_or_eq_of_mem_set hz with hz | rfl
          · exact hE.mem z hz
          · simpa [setsA_length] using hel
      · rw [List.length_set, setsA_drop, setsA_take _ _ _ _ hbnd]

theorem storeK_sound (h : SR G M I s hd Fp a w) {t : TypeId} {x v : AV} {u uv : Value} {K : St → Prop} (hk : storeK P s t x v K) (hx : S hd s.next w I x u) (hv : S hd s.next w I v uv) :
    ∃ w', (Instr.storeAt t u uv).run P w = .ok () w' ∧ ∃ s' I' hd' Fp', K s' ∧ SR G M I' s' hd' Fp' a w' ∧ Ext M I I' s.next hd hd' w w' ∧ s.next ≤ s'.next := by
  unfold storeK at hk
  split at hk
  · rename_i id sub sz i c cs hcv
    obtain ⟨hz, hlen, hk⟩ := hk
    have hcs := cellsV_SL hcv hv
    have hus := hcs.length
    have hsize : uv.cells.size = szOf P t := by rw [← Array.length_toList, hus, hlen]
    simp only [S] at hx
    obtain ⟨hid, hhv, b, o, hh, hb, rfl⟩ := hx
    split at hk
    · rename_i old ho
      obtain ⟨rfl, hfit, hk⟩ := hk
      simp only [HdOf] at hh
      subst hh
      obtain ⟨b', cur, e, hp, hhp, hs, hF⟩ := h.heap.obj id _ ho
      obtain ⟨rfl, rfl⟩ := hb.uniq (.inr hp)
      have hol := hs.length
      rw [show 0 + (0 * sz + c) = c by omega]
      have hfit2 : c + uv.cells.toList.length ≤ cur.size := by rw [hus, ← Array.length_toList, hol]; omega
      have hrun := run_storeAt (P := P) (t := t) hz hsize hhp hfit2 hcs.ones
      have hbF : b ∈ Fp id := by rw [hF]; simp
      have hIb : ¬ I b := h.heap.notI ho b hbF
      have hother : ∀ b', b' ≠ b → (w.setRow b (setsA cur.toList c uv.cells.toList).toArray).heap[b']? = w.heap[b']? := fun b' hb' => setRow_other w b b' _ hb'
      have hIm : ∀ b', I b' → I b' ∧ (w.setRow b (setsA cur.toList c uv.cells.toList).toArray).heap[b']? = w.heap[b']? := fun b' hb' => ⟨hb', hother b' (fun e => hIb (e ▸ hb'))⟩
      have hE : Ext M I I s.next hd hd w (w.setRow b (setsA cur.toList c uv.cells.toList).toArray) := ⟨keep_setRow (h.heap.mine id _ ho b hbF), hIm, fun _ _ => rfl⟩
      split at hk
      · rename_i hsc
        have fr : Fr I I s.next s.next hd hd w (w.setRow b (setsA cur.toList c uv.cells.toList).toArray) := by
          refine fr_store hhp hIb hfit2 (fun j hj => ?_)
          have hseg := (hs.drop c).take cs.length
          have hj2 : j < ((cur.toList.drop c).take cs.length).length := by rw [hseg.length]; simp; omega
          refine ⟨((cur.toList.drop c).take cs.length)[j], ?_, allSc_noSl hsc hseg _ (List.getElem_mem hj2)⟩
          rw [List.getElem_take, List.getElem_drop]
          exact List.getElem?_eq_getElem _
        obtain ⟨Fp', hr'⟩ := h.heap.setSame ho (.var (setsA old c cs)) (setRow_size _ _ _) (fun b' hb' => hother b' (fun e => hb' (e ▸ hbF))) fr ⟨b, _, e, hp, setRow_heap w b cur _ e _ hhp, fr.SL (SL.setsA hcs hs), hF⟩
        exact ⟨_, hrun, _, I, hd, Fp', hk, h.move hr' fr, hE, Nat.le_refl _⟩
      · -- slices are overwritten: inner references are forgotten
        have hslots := SL.setsA (k := c) hcs hs
        have hr1 := h.heap.kill
        have hkl : ∀ (xs : List AV) (vs : List Value), SL hd s.next w I xs vs → SL hd s.next (w.setRow b (setsA cur.toList c uv.cells.toList).toArray) I (killL xs) vs := fun xs vs hx => SL.kill (Nat.le_refl _) hIm (fun _ _ => rfl) xs vs hx
        have hg : ∀ j q, hget (killH (hset s.heap id (.var (setsA old c cs)))) j = some q → (j = id ∧ q = .var (killL (setsA old c cs))) ∨ (j ≠ id ∧ ∃ q0, hget s.heap j = some q0 ∧ q = killO q0) := by
          intro j q hq
          rw [hget_kill, hget_set] at hq
          by_cases hj : id = j
          · subst hj; simp [ho, killO] at hq; exact .inl ⟨rfl, hq.symm⟩
          · simp only [hj, if_false] at hq
            obtain ⟨q0, h1, h2⟩ := Option.map_eq_some_iff.1 hq
            exact .inr ⟨Ne.symm hj, q0, h1, h2.symm⟩
        have hr2 : HR G M I (killH (hset s.heap id (.var (setsA old c cs)))) s.next hd Fp (w.setRow b (setsA cur.toList c uv.cells.toList).toArray) := by
          refine ⟨fun j q hq => ?_, fun b' hb' => ⟨by rw [setRow_size]; exact (h.heap.imm b' hb').1, fun j q hq => ?_⟩, fun j q hq => ?_, fun j q j' q' hq hq' hne => ?_, fun j q hq => ?_, fun j q hq => ?_, fun b' hb' => h.heap.news b' (by rwa [setRow_size] at hb'),
            fun g gs hgs => T.frame hIm _ _ _ (h.heap.glo g gs hgs) (by simp)⟩
          · rcases hg j q hq with ⟨rfl, rfl⟩ | ⟨hj, q0, hq0, rfl⟩
            · exact ⟨b, _, e, hp, setRow_heap w b cur _ e _ hhp, hkl _ _ hslots, hF⟩
            · have hq1 := h.heap.obj j q0 hq0
              have hoth : ∀ b' ∈ Fp j, (w.setRow b (setsA cur.toList c uv.cells.toList).toArray).heap[b']? = w.heap[b']? := fun b' hb' => hother b' (fun e => h.heap.disj j q0 id _ hq0 ho hj b' hb' (e ▸ hbF))
              cases q0 with
              | slice sz0 es0 => exact T.frame hIm _ _ _ hq1 hoth
              | var cs0 =>
                obtain ⟨b0, cur0, e0, g1, g2, g3, g4⟩ := hq1
                exact ⟨b0, cur0, e0, g1, (hoth b0 (by rw [g4]; simp)).trans g2, hkl _ _ g3, g4⟩
          · rcases hg j q hq with ⟨rfl, rfl⟩ | ⟨hj, q0, hq0, rfl⟩
            · exact (h.heap.imm b' hb').2 _ _ ho
            · exact (h.heap.imm b' hb').2 j q0 hq0
          · rcases hg j q hq with ⟨rfl, rfl⟩ | ⟨hj, q0, hq0, rfl⟩
            · exact h.heap.nodup _ _ ho
            · exact h.heap.nodup j q0 hq0
          · rcases hg j q hq with ⟨rfl, rfl⟩ | ⟨hj, q0, hq0, rfl⟩ <;> rcases hg j' q' hq' with ⟨rfl, rfl⟩ | ⟨hj', q0', hq0', rfl⟩
            · exact absurd rfl hne
            · exact h.heap.disj _ _ j' q0' ho hq0' hne
            · exact h.heap.disj j q0 _ _ hq0 ho hne
            · exact h.heap.disj j q0 j' q0' hq0 hq0' hne
          · rcases hg j q hq with ⟨rfl, rfl⟩ | ⟨hj, q0, hq0, rfl⟩
            · exact h.heap.mine _ _ ho
            · exact h.heap.mine j q0 hq0
          · rcases hg j q hq with ⟨rfl, rfl⟩ | ⟨hj, q0, hq0, rfl⟩
            · exact h.heap.next _ _ ho
            · exact h.heap.next j q0 hq0
        refine ⟨_, hrun, _, I, hd, Fp, hk, ⟨hr2, by simp [killSt, killL_eq, h.len], fun t => ?_, h.defers⟩, hE, Nat.le_refl _⟩
        have := S.kill (Nat.le_refl _) hIm (fun _ _ => rfl) _ _ (h.slots t)
        simp only [killSt, killL_eq, List.getD_eq_getElem?_getD, List.getElem?_map] at this ⊢
        cases hs : s.tmps[t]? with
        | none => simp [S]
        | some x => simpa [hs] using this
    · split at hk
      · rename_i sz' es hg
        obtain ⟨rfl, hk⟩ := hk
        obtain ⟨hv', F, ob, ho, hh', hT, hsub⟩ := getS_sound h.heap hg
        obtain rfl := HdOf.uniq hh hh'
        split at hk
        · rename_i e he
          obtain ⟨hfit, hk⟩ := hk
          split at hk
          · rename_i hsc
            have hscs := Scs.of hsc.1 hcs
            obtain ⟨b', o', cur, ty, hb', hhp⟩ : ∃ b' o' cur ty, BaseOf hhv b' o' ∧ w.heap[b']? = some (.cells cur ty (0, 0)) := by
              simp only [T] at hT
              rcases hT with ⟨rfl, _, _⟩ | ⟨b', o', k, cur, ty, vs, Fs, rfl, hhp, _⟩
              · simp at he
              · exact ⟨b', o', cur, ty, .inl ⟨_, _, rfl⟩, hhp⟩
            obtain ⟨rfl, rfl⟩ := hb.uniq hb'
            have hFn : F.Nodup := hsub.nodup (h.heap.nodup id ob ho)
            have hFI : ∀ b ∈ F, ¬ I b := fun b hb => h.heap.notI ho b (hsub.subset hb)
            obtain ⟨h1, h2, h3, h4⟩ := ow_store hT hFn hFI he hfit hsc.2 hscs hb hhp
            have hIb := hFI b h2
            have hbF : b ∈ Fp id := hsub.subset h2
            have fr := fr_store (n := s.next) (hd := hd) hhp hIb h3 h4
            have hother : ∀ b', b' ≠ b → (w.setRow b (setsA cur.toList (o + (i * sz' + c)) uv.cells.toList).toArray).heap[b']? = w.heap[b']? := fun b' hb' => setRow_other w b b' _ hb'
            have hrun := run_storeAt (P := P) (t := t) hz hsize hhp h3 hcs.ones
            have hE : Ext M I I s.next hd hd w (w.setRow b (setsA cur.toList (o + (i * sz' + c)) uv.cells.toList).toArray) := ⟨keep_setRow (h.heap.mine id _ ho b hbF), fr.im, fun _ _ => rfl⟩
            have hset := setS_sc h.heap hg he hfit hsc.1 hsc.2 hcs hh hb hhp
            obtain ⟨Fp', hr'⟩ := hset
            exact ⟨_, hrun, _, I, hd, Fp', hk, h.move hr' fr, hE, Nat.le_refl _⟩
          · obtain ⟨rfl, hk⟩ := hk
            split at hk
            · rename_i ys h' hcon
              obtain ⟨Fy, hr', hTy, hfree, hsubh, hown⟩ := conL_sound h.heap hcs hcon
              have hyl : ys.length = cs.length := by rw [← hTy.length, hus]
              split at hk
              · rename_i sz1 es1 hg1
                have hg0 := hsubh id _ hg1
                simp only [getS, hg0, Option.some.injEq, Prod.mk.injEq] at hg
                obtain ⟨rfl, rfl⟩ := hg
                simp only [HdOf] at hh
                subst hh
                have hT0 := hr'.obj id _ hg1
                obtain ⟨b', o', cur, ty, hb', hhp⟩ : ∃ b' o' cur ty, BaseOf (hd id) b' o' ∧ w.heap[b']? = some (.cells cur ty (0, 0)) := by
                  simp only [ObjR, T] at hT0
                  rcases hT0 with ⟨rfl, _, _⟩ | ⟨b', o', k, cur, ty, vs, Fs, hhd, hhp, _⟩
                  · simp at he
                  · exact ⟨b', o', cur, ty, .inl ⟨_, _, hhd⟩, hhp⟩
                obtain ⟨rfl, rfl⟩ := hb.uniq hb'
                obtain ⟨h3, hbF, Fp', hr2⟩ := store_own (h := s.heap) (es0 := es1) hr' hg1 he (by rw [hyl]; exact hfit) hTy hfree hb hhp
                have hIb := hr'.notI hg1 b hbF
                have hother : ∀ b', b' ≠ b → (w.setRow b (setsA cur.toList (o + (i * sz1 + c)) uv.cells.toList).toArray).heap[b']? = w.heap[b']? := fun b' hb' => setRow_other w b b' _ hb'
                have hIm : ∀ b', I b' → I b' ∧ (w.setRow b (setsA cur.toList (o + (i * sz1 + c)) uv.cells.toList).toArray).heap[b']? = w.heap[b']? := fun b' hb' => ⟨hb', hother b' (fun e => hIb (e ▸ hb'))⟩
                have hrun := run_storeAt (P := P) (t := t) hz hsize hhp h3 hcs.ones
                refine ⟨_, hrun, _, I, hd, Fp', hk, ⟨hr2, by simp [killSt, killL_eq, h.len], fun t => ?_, h.defers⟩, ⟨keep_setRow (h.heap.mine id _ ho b hbF), hIm, fun _ _ => rfl⟩, Nat.le_refl _⟩
                have := S.kill (Nat.le_refl _) hIm (fun _ _ => rfl) _ _ (h.slots t)
                simp only [killSt, killL_eq, List.getD_eq_getElem?_getD, List.getElem?_map] at this ⊢
                cases hs : s.tmps[t]? with
                | none => simp [S]
                | some x => simpa [hs] using this
              · exact hk.elim
            · exact hk.elim
        · exact hk.elim
      · exact hk.elim
  · exact hk.elim
end
theorem eqs_storeK : True := by
  have := @storeK.eq_1
  trivial
end Go.Proofs.YtlddjlchgibdfaaDoor.X
set_option linter.unusedVariables false
set_option linter.unusedSimpArgs false
namespace Go.Proofs.YtlddjlchgibdfaaDoor.X
open Go

def allScs : List (List AV) → Bool
  | [] => true
  | e :: es => allSc e && allScs es
/-- What is appended to; what is left of the heap. -/
def appX (P : Program) (h : Heap) (sz : Nat) : AV → Option (List (List AV) × Heap)
  | .nil => some ([], h)
  | .ref id none sz' off len => match hget h id with
    | some (.slice sz2 es) => if sz' = sz2 ∧ sz' = sz then some ((es.drop off).take len, hdel h id) else none
    | _ => none
  | _ => none
def appY (P : Program) (h : Heap) (sz : Nat) (tx : TypeId) : AV → Option (List (List AV) × Heap)
  | .nil => match tk P tx with | .slice _ => some ([], h) | _ => none
  | .ref id sub sz' off len => match tk P tx, getS h id sub with
    | .slice _, some (sz2, es) => if sz' = sz2 ∧ sz' = sz then (if allScs ((es.drop off).take len) then some ((es.drop off).take len, h) else match sub with | none => some ((es.drop off).take len, hdel h id) | some _ => none) else none
    | _, _ => none
  | .sl es => match tk P tx with | .slice _ => if es.all (fun e => e.length == sz) then some (es, h) else none | _ => none
  | .str s => match tk P tx with | .str => if sz = 1 then some (s.data.toList.map fun b => [.int .u8 b.toNat], h) else none | _ => none
  | _ => none
def appendK (P : Program) (s : St) (t tx : TypeId) (x y : AV) (K : AV → St → Prop) : Prop :=
  match tk P t with
  | .slice e => szOf P e ≠ 0 ∧ byOf P e ≠ 0 ∧ (zeroCells P e).map (·.length) = some (szOf P e) ∧ match appX P s.heap (szOf P e) x with
    | some (es1, h1) => match appY P h1 (szOf P e) tx y with
      | some (es2, h2) => (es1.length + es2.length) * byOf P e ≤ 140737488355328 ∧
        K (.ref s.next none (szOf P e) 0 (es1.length + es2.length)) (killSt ⟨s.tmps, (s.next, .slice (szOf P e) (es1 ++ es2)) :: h2, s.next + 1⟩)
      | none => False
    | none => False
  | _ => False

theorem TL.sc {w w' : World} {I I' : Nat → Prop} : ∀ {xs : List AV} {vs : List Value} {F : List Nat}, allSc xs = true → TL w I xs vs F → TL w' I' xs vs []
  | [], vs, F, _, h => by simp only [TL] at h ⊢; exact ⟨h.1, trivial⟩
  | x :: xs, vs, F, hs, h => by
    simp only [allSc, Bool.and_eq_true] at hs
    simp only [TL] at h ⊢
    obtain ⟨v, vs', F1, F2, rfl, rfl, h1, hx, hxs⟩ := h
    refine ⟨v, vs', [], [], rfl, rfl, h1, ?_, TL.sc hs.2 hxs⟩
    have := hs.1
    cases x <;> simp [isSc] at this <;> simp only [T] at hx ⊢ <;> exact ⟨hx.1, trivial⟩
theorem TLL.sc {w w' : World} {I I' : Nat → Prop} : ∀ {xs : List (List AV)} {vs : List Value} {F : List Nat}, allScs xs = true → TLL w I xs vs F → TLL w' I' xs vs []
  | [], vs, F, _, h => by simp only [TLL] at h ⊢; exact ⟨h.1, trivial⟩
  | x :: xs, vs, F, hs, h => by
    simp only [allScs, Bool.and_eq_true] at hs
    simp only [TLL] at h ⊢
    obtain ⟨v1, v2, F1, F2, rfl, rfl, hx, hxs⟩ := h
    exact ⟨v1, v2, [], [], rfl, rfl, hx.sc hs.1, hxs.sc hs.2⟩

theorem run_append_room_row {P : Program} {w : World} (t tx ty e : TypeId) (i : TypeInfo) (ht : P.underlying t = some (.slice e)) (hi : P.info? e = some i) (b off sLen sCap : Nat) (x : Value) (n : Nat) (news : List Value) (hs : Src P i.size tx x n news w)
    {cur : Array Value} {te : TypeId} (hh : w.heap[b]? = some (.cells cur te (0, 0))) (hroom : sLen + n ≤ sCap) (hfit : off + sLen * i.size + news.length ≤ cur.size) :
    (Builtin.append_ #[t, tx] ty #[.slice (some ⟨b, off, none⟩) sLen sCap, x]).run P w = .ok (.slice (some ⟨b, off, none⟩) (sLen + n) sCap) (w.setRow b (setsA cur.toList (off + sLen * i.size) news).toArray) := by
  have hst := run_storeCells_at P b (off + sLen * i.size) te news 0 cur w hh (by simpa using hfit) hs.one
  simp only [Nat.add_zero] at hst
  rw [← setsA_eq _ _ _ (by simpa using hfit)] at hst
  rcases hs.kind with ⟨e', hk⟩ | hk <;> simp [Builtin.append_, run_underlying ht, run_underlying hk, sizeOf, typeInfo, hi, hs.len, hroom, hs.cells, addr_add, hst]

section
variable {P : Program} {w : World} {I : Nat → Prop}
theorem src_at {sz : Nat} {tx e' : TypeId} (hk : P.underlying tx = some (.slice e')) {b o n c : Nat} {vs : List Value} (hat : At w b o vs) (hl : vs.length = n * sz) (h1 : ∀ u ∈ vs, u.oneCell' = true) : Src P sz tx (.slice (some ⟨b, o, none⟩) n c) n vs w :=
  Src.ofSlice w hk ⟨b, o, none⟩ n c vs hl (fun j u hu => by rw [addr_add]; exact hat j u hu) h1
theorem src_empty {sz : Nat} {tx e' : TypeId} (hk : P.underlying tx = some (.slice e')) (A : Option Addr) (c : Nat) : Src P sz tx (.slice A 0 c) 0 [] w := by
  cases A with
  | none => exact Src.ofNil w hk c
  | some a => exact Src.ofSlice w hk a 0 c [] (by simp) (by simp) (by simp)
theorem src_ow {sz : Nat} {tx e' : TypeId} (hk : P.underlying tx = some (.slice e')) {es : List (List AV)} {v : Value} {F : List Nat} (h : T w I (.ow sz es) v F) :
    ∃ news F', Src P sz tx v es.length news w ∧ TLL w I es news F' ∧ F'.Sublist F ∧ Each sz es := by
  simp only [T] at h
  rcases h with ⟨rfl, ⟨A, rfl⟩, rfl⟩ | ⟨b, o, c, cur, e, vs, Fs, rfl, hh, hc, hm, ho, hE, rfl, ht, rfl⟩
  · exact ⟨[], [], src_empty hk A 0, by simp [TLL], List.Sublist.refl _, trivial⟩
  · exact ⟨_, Fs, src_at hk (at_row hh) (ht.length hE) ht.ones, ht, List.sublist_cons_self _ _, hE⟩
theorem src_sl {sz : Nat} {tx e' : TypeId} (hk : P.underlying tx = some (.slice e')) {es : List (List AV)} {v : Value} (hE : ∀ e ∈ es, e.length = sz) (h : T w I (.sl es) v []) :
    ∃ news, Src P sz tx v es.length news w ∧ TLL w I es news [] := by
  simp only [T] at h
  obtain ⟨_, A, c, rfl, hc, hm, h⟩ := h
  rcases h with rfl | ⟨b, o, sz', vs, rfl, hb, hE', hat, ht⟩
  · exact ⟨[], src_empty hk A c, by simp [TLL]⟩
  · cases es with
    | nil => exact ⟨[], src_empty hk _ c, by simp [TLL]⟩
    | cons e0 es0 =>
      have : sz' = sz := by rw [← hE e0 (by simp)]; exact hE'.1.symm
      subst this
      exact ⟨vs, src_at hk hat (ht.length hE') ht.ones, ht⟩
theorem bytes_TLL (s : List UInt8) : TLL w I (s.map fun b => [.int .u8 b.toNat]) (s.map fun b => Value.int .u8 b.toNat) [] := by
  induction s with
  | nil => simp [TLL]
  | cons b s ih =>
    simp only [List.map_cons, TLL]
    exact ⟨[_], _, [], [], rfl, rfl, by simp only [TL, T]; exact ⟨_, _, [], [], rfl, rfl, rfl, ⟨rfl, rfl⟩, rfl, rfl⟩, ih⟩
end

section
variable {P : Program} {G : Glo} {M I : Nat → Prop} {s : St} {hd : Nat → Value} {Fp : Nat → List Nat} {a : Act} {w w' : World}
theorem appX_sound {h h1 : Heap} {n : Nat} (hr : HR G M I h n hd Fp w) {sz : Nat} {x : AV} {v : Value} {es1 : List (List AV)} (hx : S hd n w I x v) (hk : appX P h sz x = some (es1, h1)) :
    ∃ F, HR G M I h1 n hd Fp w ∧ T w I (.ow sz es1) v F ∧ Free M I h1 Fp F ∧ Sub h1 h ∧ (∀ b ∈ F, b < w.heap.size) ∧ (∀ id, x ≠ .nil → hget h1 id = some (.var []) → True) := by
  unfold appX at hk
  split at hk
  · simp only [Option.some.injEq, Prod.mk.injEq] at hk
    obtain ⟨rfl, rfl⟩ := hk
    simp only [S] at hx
    exact ⟨[], hr, by simp only [T]; exact .inl ⟨trivial, ⟨_, hx⟩, trivial⟩, Free.nil _ _ _ _, Sub.refl _, by simp, fun _ _ _ => trivial⟩
  · rename_i id sz' off len
    split at hk
    · rename_i sz2 es ho
      split at hk
      · rename_i hsz
        obtain ⟨rfl, rfl⟩ := hsz
        simp only [Option.some.injEq, Prod.mk.injEq] at hk
        obtain ⟨rfl, rfl⟩ := hk
        simp only [S, HdOf] at hx
        obtain ⟨hid, hv, rfl, hw⟩ := hx
        obtain ⟨F', hT, hs, _⟩ := ow_win (hr.obj id _ ho) hw
        exact ⟨F', hr.del id, hT, (hr.freed ho).sub hs, Sub.del h id, fun b hb => hr.ltB ho b (hs.subset hb), fun _ _ _ => trivial⟩
      · cases hk
    · cases hk
  · cases hk
theorem appY_sound {h h2 : Heap} {n : Nat} (hr : HR G M I h n hd Fp w) {sz : Nat} {tx : TypeId} {y : AV} {v : Value} {es2 : List (List AV)} (hy : S hd n w I y v) (hk : appY P h sz tx y = some (es2, h2)) :
    ∃ F news, HR G M I h2 n hd Fp w ∧ Src P sz tx v es2.length news w ∧ TLL w I es2 news F ∧ Free M I h2 Fp F ∧ Sub h2 h ∧ (∀ b ∈ F, b < w.heap.size ∧ ∃ id o, hget h id = some o ∧ b ∈ Fp id) ∧ Each sz es2 := by
  unfold appY at hk
  split at hk
  · split at hk
    · rename_i e' ht
      simp only [Option.some.injEq, Prod.mk.injEq] at hk
      obtain ⟨rfl, rfl⟩ := hk
      simp only [S] at hy
      subst hy
      exact ⟨[], [], hr, src_empty (tk_slice ht) _ _, by simp [TLL], Free.nil _ _ _ _, Sub.refl _, by simp, trivial⟩
    · cases hk
  · rename_i id sub sz' off len
    split at hk
    · rename_i e' sz2 es ht hg
      split at hk
      · rename_i hsz
        obtain ⟨rfl, rfl⟩ := hsz
        obtain ⟨hv', F, ob, ho, hh', hT, hsub⟩ := getS_sound hr hg
        simp only [S] at hy
        obtain ⟨hid, hv, hh, hw⟩ := hy
        obtain rfl := HdOf.uniq hh hh'
        obtain ⟨F', hT2, hs2, hlen⟩ := ow_win hT hw
        obtain ⟨news, F2, hsrc, htll, hs3, hE⟩ := src_ow (P := P) (tk_slice ht) hT2
        split at hk
        · rename_i hsc
          simp only [Option.some.injEq, Prod.mk.injEq] at hk
          obtain ⟨rfl, rfl⟩ := hk
          exact ⟨[], news, hr, hsrc, htll.sc hsc, Free.nil _ _ _ _, Sub.refl _, by simp, hE⟩
        · split at hk
          · simp only [Option.some.injEq, Prod.mk.injEq] at hk
            obtain ⟨rfl, rfl⟩ := hk
            have hss := (hs3.trans hs2).trans hsub
            exact ⟨F2, news, hr.del id, hsrc, htll, (hr.freed ho).sub hss, Sub.del h id, fun b hb => ⟨hr.ltB ho b (hss.subset hb), id, ob, ho, hss.subset hb⟩, hE⟩
          · cases hk
      · cases hk
    · cases hk
  · rename_i es
    split at hk
    · rename_i e' ht
      split at hk
      · rename_i hall
        simp only [Option.some.injEq, Prod.mk.injEq] at hk
        obtain ⟨rfl, rfl⟩ := hk
        simp only [S] at hy
        have hE : ∀ e ∈ es, e.length = sz := by simpa using hall
        obtain ⟨news, h1, h2⟩ := src_sl (P := P) (tk_slice ht) hE hy
        exact ⟨[], news, hr, h1, h2, Free.nil _ _ _ _, Sub.refl _, by simp, Each.of_mem hE⟩
      · cases hk
    · cases hk
  · rename_i s
    split at hk
    · rename_i ht
      split at hk
      · rename_i hsz
        subst hsz
        simp only [Option.some.injEq, Prod.mk.injEq] at hk
        obtain ⟨rfl, rfl⟩ := hk
        simp only [S] at hy
        subst hy
        have hsz : (s.data.toList.map fun b => [AV.int .u8 b.toNat]).length = s.size := by
          rw [List.length_map, Array.length_toList]; rfl
        refine ⟨[], byteCells s, hr, by rw [hsz]; exact Src.ofString w (tk_str ht) s, bytes_TLL _, Free.nil _ _ _ _, Sub.refl _, by simp, Each.of_mem fun e he => ?_⟩
        obtain ⟨b, _, rfl⟩ := List.mem_map.1 he
        rfl
      · cases hk
    · cases hk
  · cases hk
/-- The world turns in a block of nobody: inner references are forgotten. -/
theorem HR.killTo {h : Heap} {n : Nat} (hr : HR G M I h n hd Fp w) {b : Nat} (hIb : ¬ I b) (hs : w'.heap.size = w.heap.size) (hb : ∀ b', b' ≠ b → w'.heap[b']? = w.heap[b']?) (hno : ∀ id o, hget h id = some o → b ∉ Fp id) : HR G M I (killH h) n hd Fp w' := by
  have hIm : ∀ b', I b' → I b' ∧ w'.heap[b']? = w.heap[b']? := fun b' hb' => ⟨hb', hb b' (fun e => hIb (e ▸ hb'))⟩
  have hk := hr.kill
  have hg : ∀ j u, hget (killH h) j = some u → ∃ u0, hget h j = some u0 ∧ u = killO u0 := by
    intro j u hu
    rw [hget_kill] at hu
    obtain ⟨u0, h1, h2⟩ := Option.map_eq_some_iff.1 hu
    exact ⟨u0, h1, h2.symm⟩
  refine ⟨fun j u hu => ?_, fun b' hb' => ⟨by rw [hs]; exact (hk.imm b' hb').1, (hk.imm b' hb').2⟩, hk.nodup, hk.disj, hk.mine, hk.next, fun b' hb' => hr.news b' (by rwa [hs] at hb'), fun g cs hg => T.frame hIm _ _ _ (hr.glo g cs hg) (by simp)⟩
  obtain ⟨u0, h1, rfl⟩ := hg j u hu
  have hq := hr.obj j u0 h1
  have hoth : ∀ b' ∈ Fp j, w'.heap[b']? = w.heap[b']? := fun b' hb' => hb b' (fun e => hno j u0 h1 (e ▸ hb'))
  cases u0 with
  | slice sz es => exact T.frame hIm _ _ _ hq hoth
  | var cs =>
    obtain ⟨b0, cur0, e0, g1, g2, g3, g4⟩ := hq
    exact ⟨b0, cur0, e0, g1, (hoth b0 (by rw [g4]; simp)).trans g2, SL.kill (Nat.le_refl _) hIm (fun _ _ => rfl) _ _ g3, g4⟩
theorem Free.kill {h : Heap} {F : List Nat} (f : Free M I h Fp F) : Free M I (killH h) Fp F := by
  refine ⟨f.nodup, f.mine, f.imm, fun id o ho => ?_⟩
  rw [hget_kill] at ho
  obtain ⟨u0, h1, _⟩ := Option.map_eq_some_iff.1 ho
  exact f.disj id u0 h1
theorem killH_cons (n sz : Nat) (es : List (List AV)) (h : Heap) : killH ((n, .slice sz es) :: h) = (n, .slice sz es) :: killH h := rfl

theorem appendK_sound (h : SR G M I s hd Fp a w) {t tx ty : TypeId} {x y : AV} {u v : Value} {K : AV → St → Prop} (hk : appendK P s t tx x y K) (hx : S hd s.next w I x u) (hy : S hd s.next w I y v) :
    ∃ r w', (Builtin.append_ #[t, tx] ty #[u, v]).run P w = .ok r w' ∧ OpRes G M I s hd a w K (.value r) w' := by
  unfold appendK at hk
  split at hk
  · rename_i e ht
    obtain ⟨hz, hby0, hzc, hk⟩ := hk
    split at hk
    · rename_i es1 h1 e1
      split at hk
      · rename_i es2 h2 e2
        obtain ⟨hbytes, hk⟩ := hk
        obtain ⟨zs, hzs, hzl⟩ := Option.map_eq_some_iff.1 hzc
        obtain ⟨i, z, hi, hiz, hzS, _⟩ := zeroCells_some (hd := hd) (I := I) (w := w) hzs s.next
        obtain ⟨i2, hi2, hisz⟩ := szOf_pos hz
        obtain rfl := Option.some.inj (hi.symm.trans hi2)
        have hibt : i.bytes = byOf P e := by simp [byOf, hi]
        obtain ⟨F1, hr1, hT1, hf1, hs1, hlt1, _⟩ := appX_sound h.heap hx e1
        obtain ⟨F2, news, hr2, hsrc, htll, hf2, hs2, hlt2, hE2⟩ := appY_sound hr1 hy e2
        rw [← hisz] at hsrc
        have hlen : es1.length + es2.length ≤ 140737488355328 := Nat.le_trans (Nat.le_mul_of_pos_right _ (by omega)) hbytes
        have hnl := hsrc.newsLen
        -- the empty header, nothing appended
        have hdisj12 : ∀ b ∈ F1, b ∉ F2 := fun b hb1 hb2 => by
          obtain ⟨_, id, o, ho, hb⟩ := hlt2 b hb2
          exact hf1.disj id o ho b hb hb1
        simp only [T] at hT1
        -- a growing append: the row is new
        have grow : ∀ (A : Option Addr) (cap : Nat) (olds : List Value) (Fs1 : List Nat), u = .slice A es1.length cap → cap < es1.length + es2.length → (Builtin.firstCells i.size es1.length (.slice A es1.length cap)).run P w.drew = .ok olds.toArray w.drew →
            TLL w I es1 olds Fs1 → Fs1.Sublist F1 → Each (szOf P e) es1 → olds.length = es1.length * szOf P e → ∃ r w', (Builtin.append_ #[t, tx] ty #[u, v]).run P w = .ok r w' ∧ OpRes G M I s hd a w K (.value r) w' := by
          intro A cap olds Fs1 hu hg hfc htl1 hss hE1 hol
          subst hu
          have hrun := run_append_grow_src (P := P) w t tx ty e i z (tk_slice ht) hi hiz A es1.length cap olds hfc v es2.length news hsrc hg (by omega) (growslice_fits hg (by rw [hibt]; exact hbytes))
          have hge := grownCap_ge w (es1.length + es2.length) cap e
          have hcm := grownCap_le_maxLen w (es1.length + es2.length) cap e (by simp only [maxLen]; omega)
          have hfree : Free M I h2 Fp (Fs1 ++ F2) := by
            have hfa := (hf1.sub hss).less hs2
            refine ⟨List.nodup_append.2 ⟨hfa.nodup, hf2.nodup, ?_⟩, ?_, ?_, ?_⟩
            · rintro b hb b' hb' rfl
              exact hdisj12 b (hss.subset hb) hb'
            · intro b hb; rcases List.mem_append.1 hb with hb | hb
              · exact hfa.mine b hb
              · exact hf2.mine b hb
            · intro b hb; rcases List.mem_append.1 hb with hb | hb
              · exact hfa.imm b hb
              · exact hf2.imm b hb
            · intro id o ho b hb hm; rcases List.mem_append.1 hm with hm | hm
              · exact hfa.disj id o ho b hb hm
              · exact hf2.disj id o ho b hb hm
          have hzsz : z.cells.size = i.size := by
            rw [hisz]
            have e5 := hE2
            have : zs.length = z.cells.size := by have := hzS.length; simpa using this.symm
            rw [← this]
            exact hzl
          have hll : (olds ++ news).length = (es1.length + es2.length) * szOf P e := by rw [List.length_append, hol, hnl, hisz, Nat.add_mul]
          have hfits : grownCap w (es1.length + es2.length) cap e * szOf P e ≤ ((olds ++ news).toArray ++ Builtin.zeroCells z.cells (grownCap w (es1.length + es2.length) cap e - (es1.length + es2.length))).size := by
            simp only [Array.size_append, List.size_toArray, size_zeroCells, hzsz, hll, hisz, ← Nat.add_mul]
            exact Nat.mul_le_mul_right _ (by omega)
          have htake : TLL w I (es1 ++ es2) (((olds ++ news).toArray ++ Builtin.zeroCells z.cells (grownCap w (es1.length + es2.length) cap e - (es1.length + es2.length))).toList.take ((es1.length + es2.length) * szOf P e)) (Fs1 ++ F2) := by
            rw [Array.toList_append, List.take_append_of_le_length (by simp only [List.length_append] at hll ⊢; omega), List.take_of_length_le (by simp only [List.length_append] at hll ⊢; omega)]
            exact htl1.append htll
          obtain ⟨hd', Fp', g1, g2, g3⟩ := h.newSlice hr2 (w.drew.alloc (.cells ((olds ++ news).toArray ++ Builtin.zeroCells z.cells (grownCap w (es1.length + es2.length) cap e - (es1.length + es2.length))) e)) _ e (szOf P e) (es1.length + es2.length)
            (grownCap w (es1.length + es2.length) cap e) (es1 ++ es2) (Fs1 ++ F2) hfree (fun b hb => by
              rcases List.mem_append.1 hb with hb | hb
              · exact hlt1 b (hss.subset hb)
              · exact (hlt2 b hb).1) (by simp) (fun b hb => heap_alloc_old w.drew _ b hb) (heap_alloc_new w.drew _) rfl rfl rfl (by simp) hge hcm hfits (hE1.append hE2) htake
          have hkill := SR.killed g1 g1.heap (Nat.le_refl _) (fun b hb => ⟨hb, rfl⟩) (fun _ _ => rfl)
          exact ⟨_, _, hrun, _, _, _, I, hd', Fp', .inl rfl, hk, g3, hkill, g2, Nat.le_succ _⟩
        rcases hT1 with ⟨rfl, ⟨A, rfl⟩, rfl⟩ | ⟨b, o, cap, cur, te, vs, Fs, rfl, hh, hcap, hmax, hfitc, hE1, rfl, htl1, rfl⟩
        · by_cases hn0 : es2.length = 0
          · -- nothing
            have he2 : es2 = [] := List.eq_nil_of_length_eq_zero hn0
            subst he2
            have hnews : news = [] := List.eq_nil_of_length_eq_zero (by simpa using hnl)
            subst hnews
            have hrun : (Builtin.append_ #[t, tx] ty #[.slice A 0 0, v]).run P w = .ok (.slice A 0 0) w := by
              have hsrc' : Src P i.size tx v 0 [] w := hsrc
              rcases hsrc'.kind with ⟨e', hk'⟩ | hk' <;> cases A <;> simp [Builtin.append_, run_underlying (tk_slice ht), run_underlying hk', sizeOf, typeInfo, hi, hsrc'.len, hsrc'.cells, storeCells]
            have hr3 := hr2.addFree (.slice (szOf P e) []) (.slice A 0 0) [] (Free.nil _ _ _ _) (fun hd' _ => by simp only [ObjR, T]; exact .inl ⟨trivial, ⟨A, rfl⟩, trivial⟩)
            have hfr := Fr.new I s.next hd w (.slice A 0 0)
            have hkill := SR.killed h hr3 hfr.le hfr.im (fun id hid => upd_ne _ _ (by omega))
            refine ⟨_, _, hrun, _, _, _, I, _, _, .inl rfl, hk, ?_, hkill, ⟨Keep.refl _ _, fun b hb => ⟨hb, rfl⟩, fun id hid => upd_ne _ _ (by omega)⟩, by simp [killSt]⟩
            simp only [S, HdOf, killSt]
            exact ⟨Nat.lt_succ_self _, _, rfl, .inr ⟨rfl, A, rfl⟩⟩
          · exact grow A 0 [] [] rfl (by simp; omega) (by
              cases A with
              | none => exact run_firstCells_none _ _ _ _ _
              | some a0 => exact run_firstCells_some _ _ _ _ _ _ [] (by simp) (by simp)) (by simp [TLL]) (List.Sublist.refl _) trivial (by simp)
        · by_cases hroom : es1.length + es2.length ≤ cap
          · -- in place
            have hoff : o + es1.length * szOf P e + news.length ≤ cur.size := by
              have : (es1.length + es2.length) * szOf P e ≤ cap * szOf P e := Nat.mul_le_mul_right _ hroom
              rw [hnl, hisz]
              rw [Nat.add_mul] at this
              omega
            have hrun := run_append_room_row (P := P) t tx ty e i (tk_slice ht) hi b o es1.length cap v es2.length news hsrc hh hroom (by rw [hisz]; exact hoff)
            rw [hisz] at hrun
            have hbF := (List.nodup_cons.1 hf1.nodup)
            have hIb := hf1.imm b (by simp)
            have hother : ∀ b', b' ≠ b → (w.setRow b (setsA cur.toList (o + es1.length * szOf P e) news).toArray).heap[b']? = w.heap[b']? := fun b' hb' => setRow_other w b b' _ hb'
            have hIm : ∀ b', I b' → I b' ∧ (w.setRow b (setsA cur.toList (o + es1.length * szOf P e) news).toArray).heap[b']? = w.heap[b']? := fun b' hb' => ⟨hb', hother b' (fun e => hIb (e ▸ hb'))⟩
            have hf12 := hf1.less hs2
            have hb2 : b ∉ F2 := hdisj12 b (by simp)
            have hr3 := hr2.killTo (w' := w.setRow b (setsA cur.toList (o + es1.length * szOf P e) news).toArray) hIb (setRow_size _ _ _) hother (fun id o ho hm => hf12.disj id o ho b hm (by simp))
            have htl1' := TLL.frame hIm es1 _ Fs htl1 (fun b' hb' => hother b' (fun e => hbF.1 (e ▸ hb')))
            have htl2' := TLL.frame hIm es2 _ F2 htll (fun b' hb' => hother b' (fun e => hb2 (e ▸ hb')))
            have hfree : Free M I (killH h2) Fp (b :: (Fs ++ F2)) := by
              refine Free.kill ⟨?_, ?_, ?_, ?_⟩
              · refine List.nodup_cons.2 ⟨?_, List.nodup_append.2 ⟨hbF.2, hf2.nodup, ?_⟩⟩
                · intro hm; rcases List.mem_append.1 hm with hm | hm
                  · exact hbF.1 hm
                  · exact hb2 hm
                · rintro x hx y hy' rfl
                  exact hdisj12 x (by simp [hx]) hy'
              · intro x hx; simp only [List.mem_cons, List.mem_append] at hx
                rcases hx with rfl | hx | hx
                · exact hf1.mine _ (by simp)
                · exact hf1.mine x (by simp [hx])
                · exact hf2.mine x hx
              · intro x hx; simp only [List.mem_cons, List.mem_append] at hx
                rcases hx with rfl | hx | hx
                · exact hf1.imm _ (by simp)
                · exact hf1.imm x (by simp [hx])
                · exact hf2.imm x hx
              · intro id q hq b2 hxb hm; simp only [List.mem_cons, List.mem_append] at hm
                rcases hm with hm | hm | hm
                · exact hf12.disj id q hq b2 hxb (by simp [hm])
                · exact hf12.disj id q hq b2 hxb (by simp [hm])
                · exact hf2.disj id q hq b2 hxb hm
            have hr4 := hr3.addFree (.slice (szOf P e) (es1 ++ es2)) (.slice (some ⟨b, o, none⟩) (es1.length + es2.length) cap) (b :: (Fs ++ F2)) hfree (fun hd' _ => by
              simp only [ObjR, T]
              refine .inr ⟨b, o, cap, _, te, _, Fs ++ F2, by rw [List.length_append], setRow_heap w b cur _ te _ hh, by rw [List.length_append]; exact hroom, hmax, by simpa [setsA_length] using hfitc, hE1.append hE2, ?_, htl1'.append htl2', rfl⟩
              have hol : ((cur.toList.drop o).take (es1.length * szOf P e)).length = es1.length * szOf P e := htl1.length hE1
              rw [List.length_append, setsA_eq _ _ _ (by simpa using hoff)]
              simp only
              rw [List.append_assoc, List.drop_append_of_le_length (by simp; omega), List.drop_take, show o + es1.length * szOf P e - o = es1.length * szOf P e by omega, ← List.append_assoc]
              rw [List.take_append_of_le_length (by rw [List.length_append, hol, hnl, hisz, Nat.add_mul]; exact Nat.le_refl _)]
              rw [List.take_of_length_le (by rw [List.length_append, hol, hnl, hisz, Nat.add_mul]; exact Nat.le_refl _)])
            have hkill := SR.killedK (h' := (s.next, .slice (szOf P e) (es1 ++ es2)) :: h2) (n' := s.next + 1) h hr4 (Nat.le_succ _) hIm (fun id hid => upd_ne hd (.slice (some ⟨b, o, none⟩) (es1.length + es2.length) cap) (by omega))
            refine ⟨_, _, hrun, _, _, _, I, _, _, .inl rfl, hk, ?_, hkill, ⟨keep_setRow (hf1.mine b (by simp)), hIm, fun id hid => upd_ne _ _ (by omega)⟩, by simp [killSt]⟩
            simp only [S, HdOf, killSt]
            exact ⟨Nat.lt_succ_self _, _, rfl, .inl ⟨b, o, _, cap, cap, by rw [upd_same], by simp, by omega, hroom, by omega⟩⟩
          · exact grow (some ⟨b, o, none⟩) cap _ Fs rfl (by omega) (run_firstCells_some _ _ _ _ _ _ _ (by rw [hisz]; exact htl1.length hE1) (fun j q hq => by rw [addr_add]; exact at_row hh j q hq)) htl1 (List.sublist_cons_self _ _) hE1 (htl1.length hE1)
      · exact hk.elim
    · exact hk.elim
  · exact hk.elim
end
theorem eqs_appX : True := by
  have := @appX.eq_1
  trivial
theorem eqs_appY : True := by
  have := @appY.eq_1
  trivial
theorem eqs_appendK : True := by
  have := @appendK.eq_1
  trivial
end Go.Proofs.YtlddjlchgibdfaaDoor.X
set_option linter.unusedVariables false
set_option linter.unusedSimpArgs false
namespace Go.Proofs.YtlddjlchgibdfaaDoor.X
open Go

/-! ### Calls -/
abbrev CT := FuncId → List AV → Heap → Nat → (AV → Heap → Nat → Prop) → Prop

mutual
/-- Frozen, as an argument. -/
def frzA (h : Heap) : Nat → AV → Option AV
  | _, .ref id sub sz off len => match getS h id sub with
    | some (sz', es) => if sz = sz' then some (.sl (frzLL ((es.drop off).take len))) else none
    | none => none
  | k + 1, .ptr id none sz i c => match hget h id with
    | some (.var cs) => if i = 0 then (match frzAL h k (cs.drop c) with | some ys => some (.pf ys) | none => none) else none
    | _ => none
  | k + 1, .fn f caps => match frzAL h k caps with | some ys => some (.fn f ys) | none => none
  | k + 1, .agg cs => match frzAL h k cs with | some ys => some (.agg ys) | none => none
  | _, x => if isF x then some x else none
def frzAL (h : Heap) : Nat → List AV → Option (List AV)
  | _, [] => some []
  | k, x :: xs => match frzA h k x, frzAL h k xs with
    | some y, some ys => some (y :: ys)
    | _, _ => none
end

section
variable {G : Glo} {M I : Nat → Prop} {h : Heap} {n : Nat} {hd : Nat → Value} {Fp : Nat → List Nat} {w : World}
theorem isF_T2 {x : AV} {v : Value} (hr : HR G M I h n hd Fp w) (hf : isF x = true) (hx : S hd n w I x v) : T w (fun b => b < w.heap.size) x v [] :=
  T.frame (fun b hb => ⟨(hr.imm b hb).1, rfl⟩) _ _ _ (isF_T hf hx) (by simp)
theorem frz_sound (hr : HR G M I h n hd Fp w) : ∀ k, (∀ (x y : AV) (v : Value), S hd n w I x v → frzA h k x = some y → T w (fun b => b < w.heap.size) y v []) ∧
    (∀ (xs ys : List AV) (vs : List Value), SL hd n w I xs vs → frzAL h k xs = some ys → TL w (fun b => b < w.heap.size) ys vs []) := by
  have base : ∀ k, (∀ (x y : AV) (v : Value), S hd n w I x v → frzA h k x = some y → T w (fun b => b < w.heap.size) y v []) →
      (∀ (xs ys : List AV) (vs : List Value), SL hd n w I xs vs → frzAL h k xs = some ys → TL w (fun b => b < w.heap.size) ys vs []) := by
    intro k hk xs
    induction xs with
    | nil =>
      intro ys vs hx hy
      simp only [frzAL, Option.some.injEq] at hy
      subst hy
      simp only [SL] at hx
      simp only [TL]; exact ⟨hx, trivial⟩
    | cons x xs ih =>
      intro ys vs hx hy
      simp only [SL] at hx
      obtain ⟨v, vs', rfl, h1, hxv, hxs⟩ := hx
      simp only [frzAL] at hy
      split at hy
      · rename_i y ys' e1 e2
        simp only [Option.some.injEq] at hy
        subst hy
        simp only [TL]
        exact ⟨v, vs', [], [], rfl, rfl, h1, hk x y v hxv e1, ih ys' vs' hxs e2⟩
      · cases hy
  have hsl : ∀ (id : Nat) (sub : Option (Nat × Nat × Nat)) (sz off len : Nat) (y : AV) (v : Value), S hd n w I (.ref id sub sz off len) v → (match getS h id sub with
      | some (sz', es) => if sz = sz' then some (AV.sl (frzLL ((es.drop off).take len))) else none
      | none => none) = some y → T w (fun b => b < w.heap.size) y v [] := by
    intro id sub sz off len y v hx hy
    split at hy
    · rename_i sz' es hg
      split at hy
      · rename_i hsz
        subst hsz
        simp only [Option.some.injEq] at hy
        subst hy
        obtain ⟨hv', F, ob, ho, hh', hT, hsub⟩ := getS_sound hr hg
        simp only [S] at hx
        obtain ⟨hid, hv, hh, hw⟩ := hx
        obtain rfl := HdOf.uniq hh hh'
        obtain ⟨F', hT2, hs2, hlen⟩ := ow_win hT hw
        have := T.frz (I' := fun b => b < w.heap.size) (fun b hb => (hr.imm b hb).1) _ _ _ hT2 (T.lt _ _ _ hT2)
        simpa only [frzT] using this
      · cases hy
    · cases hy
  have hvar : ∀ k, (∀ (xs ys : List AV) (vs : List Value), SL hd n w I xs vs → frzAL h k xs = some ys → TL w (fun b => b < w.heap.size) ys vs []) →
      ∀ (x y : AV) (v : Value), S hd n w I x v → frzA h (k + 1) x = some y → T w (fun b => b < w.heap.size) y v [] := by
    intro k ih x y v hx hy
    cases x <;> try simp only [frzA] at hy
    case ref id sub sz off len => exact hsl id sub sz off len y v hx hy
    case ptr id sub sz i c =>
      cases sub with
      | some p => simp [frzA, isF] at hy
      | none =>
        simp only [frzA] at hy
        split at hy
        · rename_i cs ho
          split at hy
          · rename_i hi0
            subst hi0
            split at hy
            · rename_i ys e1
              simp only [Option.some.injEq] at hy
              subst hy
              simp only [S, HdOf] at hx
              obtain ⟨hid, hv, b, o, rfl, hb, rfl⟩ := hx
              obtain ⟨b', cur, e, hp, hhp, hs, hF⟩ := hr.obj id _ ho
              obtain ⟨rfl, rfl⟩ := hb.uniq (.inr hp)
              simp only [T]
              refine ⟨trivial, b, _, cur.toList.drop c, rfl, lt_of_heap hhp, ?_, ih _ _ _ (hs.drop c) e1⟩
              intro j u hu
              rw [List.getElem?_drop] at hu
              rw [show 0 + (0 * sz + c) + j = c + j by omega]
              simpa [World.cell?, hhp] using hu
            · cases hy
          · cases hy
        · cases hy
    case fn f caps =>
      split at hy
      · rename_i ys e1
        simp only [Option.some.injEq] at hy
        subst hy
        simp only [S] at hx
        obtain ⟨vs, rfl, hs⟩ := hx
        simp only [T]
        exact ⟨vs, rfl, ih _ _ _ hs e1⟩
      · cases hy
    case agg cs =>
      split at hy
      · rename_i ys e1
        simp only [Option.some.injEq] at hy
        subst hy
        simp only [S] at hx
        obtain ⟨vs, rfl, hs⟩ := hx
        simp only [T]
        exact ⟨vs, rfl, ih _ _ _ hs e1⟩
      · cases hy
    all_goals
      split at hy
      · rename_i hf
        simp only [Option.some.injEq] at hy
        subst hy
        exact isF_T2 hr hf hx
      · cases hy
  intro k
  induction k with
  | zero =>
    have h0 : ∀ (x y : AV) (v : Value), S hd n w I x v → frzA h 0 x = some y → T w (fun b => b < w.heap.size) y v [] := by
      intro x y v hx hy
      cases x <;> try simp only [frzA] at hy
      case ref id sub sz off len => exact hsl id sub sz off len y v hx hy
      all_goals
        split at hy
        · rename_i hf
          simp only [Option.some.injEq] at hy
          subst hy
          exact isF_T2 hr hf hx
        · cases hy
    exact ⟨h0, base 0 h0⟩
  | succ k ih =>
    have h1 := hvar k ih.2
    exact ⟨h1, base (k + 1) h1⟩
end

/-! ### Results -/
mutual
def NilTo : AV → AV → Prop
  | .nil, y => y = .nil ∨ ∃ sz, y = .ow sz []
  | .ow sz es, y => ∃ es', y = .ow sz es' ∧ NilToLL es es'
  | .agg xs, y => ∃ ys, y = .agg ys ∧ NilToL xs ys
  | .tup xs, y => ∃ ys, y = .tup ys ∧ NilToL xs ys
  | .op xs, y => ∃ ys, y = .op ys ∧ NilToL xs ys
  | x, y => x = y
def NilToL : List AV → List AV → Prop
  | [], ys => ys = []
  | x :: xs, ys => ∃ y ys', ys = y :: ys' ∧ NilTo x y ∧ NilToL xs ys'
def NilToLL : List (List AV) → List (List AV) → Prop
  | [], ys => ys = []
  | x :: xs, ys => ∃ y ys', ys = y :: ys' ∧ NilToL x y ∧ NilToLL xs ys'
end
mutual
/-- All of one's own: nothing frozen in it. -/
def ownR : AV → Bool
  | .con _ | .int .. | .bool _ | .str _ | .nil => true
  | .ow _ es => ownRLL es
  | .op cs => ownRL cs
  | .agg cs => ownRL cs
  | .tup cs => ownRL cs
  | _ => false
def ownRL : List AV → Bool
  | [] => true
  | x :: xs => ownR x && ownRL xs
def ownRLL : List (List AV) → Bool
  | [] => true
  | x :: xs => ownRL x && ownRLL xs
end
section
variable {w : World} {I I' : Nat → Prop}
mutual
theorem T.nilTo : ∀ (x y : AV) (v : Value) (F : List Nat), T w I x v F → NilTo x y → T w I y v F
  | .nil, y, v, F, h, hy => by
    simp only [NilTo] at hy
    rcases hy with rfl | ⟨sz, rfl⟩
    · exact h
    · simp only [T] at h ⊢
      obtain ⟨rfl, rfl⟩ := h
      exact .inl ⟨trivial, ⟨none, rfl⟩, rfl⟩
  | .ow sz es, y, v, F, h, hy => by
    simp only [NilTo] at hy
    obtain ⟨es', rfl, hy⟩ := hy
    have hl := NilToLL.length es es' hy
    simp only [T] at h ⊢
    rcases h with ⟨rfl, hA, rfl⟩ | ⟨b, o, c, cur, e, vs, Fs, hv, hh, hc, hm, ho, hE, hvs, ht, rfl⟩
    · exact .inl ⟨List.eq_nil_of_length_eq_zero hl, hA, rfl⟩
    · exact .inr ⟨b, o, c, cur, e, vs, Fs, by rw [hl]; exact hv, hh, by rw [hl]; exact hc, hm, ho, NilToLL.each es es' hy hE, by rw [hl]; exact hvs, TLL.nilTo es es' vs Fs ht hy, rfl⟩
  | .agg xs, y, v, F, h, hy => by
    simp only [NilTo] at hy
    obtain ⟨ys, rfl, hy⟩ := hy
    simp only [T] at h ⊢
    obtain ⟨vs, rfl, ht⟩ := h
    exact ⟨vs, rfl, TL.nilTo xs ys _ F ht hy⟩
  | .tup xs, y, v, F, h, hy => by
    simp only [NilTo] at hy
    obtain ⟨ys, rfl, hy⟩ := hy
    simp only [T] at h ⊢
    obtain ⟨vs, rfl, ht⟩ := h
    exact ⟨vs, rfl, TV.nilTo xs ys _ F ht hy⟩
  | .op xs, y, v, F, h, hy => by
    simp only [NilTo] at hy
    obtain ⟨ys, rfl, hy⟩ := hy
    simp only [T] at h ⊢
    obtain ⟨b, cur, e, Fs, rfl, hh, ht, rfl⟩ := h
    exact ⟨b, cur, e, Fs, rfl, hh, TL.nilTo xs ys _ Fs ht hy, rfl⟩
  | .any, y, v, F, h, hy => by simp only [NilTo] at hy; subst hy; exact h
  | .con u, y, v, F, h, hy => by simp only [NilTo] at hy; subst hy; exact h
  | .int k n, y, v, F, h, hy => by simp only [NilTo] at hy; subst hy; exact h
  | .bool b, y, v, F, h, hy => by simp only [NilTo] at hy; subst hy; exact h
  | .str s, y, v, F, h, hy => by simp only [NilTo] at hy; subst hy; exact h
  | .sl es, y, v, F, h, hy => by simp only [NilTo] at hy; subst hy; exact h
  | .pf cs, y, v, F, h, hy => by simp only [NilTo] at hy; subst hy; exact h
  | .fn f caps, y, v, F, h, hy => by simp only [NilTo] at hy; subst hy; exact h
  | .ref _ _ _ _ _, y, v, F, h, hy => by simp only [T] at h
  | .ptr _ _ _ _ _, y, v, F, h, hy => by simp only [T] at h
theorem TL.nilTo : ∀ (xs ys : List AV) (vs : List Value) (F : List Nat), TL w I xs vs F → NilToL xs ys → TL w I ys vs F
  | [], ys, vs, F, h, hy => by simp only [NilToL] at hy; subst hy; exact h
  | x :: xs, ys, vs, F, h, hy => by
    simp only [NilToL] at hy
    obtain ⟨y, ys', rfl, hy1, hy2⟩ := hy
    simp only [TL] at h ⊢
    obtain ⟨v, vs', F1, F2, rfl, rfl, h1, hx, hxs⟩ := h
    exact ⟨v, vs', F1, F2, rfl, rfl, h1, T.nilTo x y v F1 hx hy1, TL.nilTo xs ys' vs' F2 hxs hy2⟩
theorem TV.nilTo : ∀ (xs ys : List AV) (vs : List Value) (F : List Nat), TV w I xs vs F → NilToL xs ys → TV w I ys vs F
  | [], ys, vs, F, h, hy => by simp only [NilToL] at hy; subst hy; exact h
  | x :: xs, ys, vs, F, h, hy => by
    simp only [NilToL] at hy
    obtain ⟨y, ys', rfl, hy1, hy2⟩ := hy
    simp only [TV] at h ⊢
    obtain ⟨v, vs', F1, F2, rfl, rfl, hx, hxs⟩ := h
    exact ⟨v, vs', F1, F2, rfl, rfl, T.nilTo x y v F1 hx hy1, TV.nilTo xs ys' vs' F2 hxs hy2⟩
theorem TLL.nilTo : ∀ (xs ys : List (List AV)) (vs : List Value) (F : List Nat), TLL w I xs vs F → NilToLL xs ys → TLL w I ys vs F
  | [], ys, vs, F, h, hy => by simp only [NilToLL] at hy; subst hy; exact h
  | x :: xs, ys, vs, F, h, hy => by
    simp only [NilToLL] at hy
    obtain ⟨y, ys', rfl, hy1, hy2⟩ := hy
    simp only [TLL] at h ⊢
    obtain ⟨v1, v2, F1, F2, rfl, rfl, hx, hxs⟩ := h
    exact ⟨v1, v2, F1, F2, rfl, rfl, TL.nilTo x y v1 F1 hx hy1, TLL.nilTo xs ys' v2 F2 hxs hy2⟩
theorem NilToL.length : ∀ (xs ys : List AV), NilToL xs ys → ys.length = xs.length
  | [], ys, h => by simp only [NilToL] at h; subst h; rfl
  | x :: xs, ys, h => by
    simp only [NilToL] at h
    obtain ⟨y, ys', rfl, h1, h2⟩ := h
    simp [NilToL.length xs ys' h2]
theorem NilToLL.length : ∀ (xs ys : List (List AV)), NilToLL xs ys → ys.length = xs.length
  | [], ys, h => by simp only [NilToLL] at h; subst h; rfl
  | x :: xs, ys, h => by
    simp only [NilToLL] at h
    obtain ⟨y, ys', rfl, h1, h2⟩ := h
    simp [NilToLL.length xs ys' h2]
theorem NilToLL.each {sz : Nat} : ∀ (xs ys : List (List AV)), NilToLL xs ys → Each sz xs → Each sz ys
  | [], ys, h, _ => by simp only [NilToLL] at h; subst h; trivial
  | x :: xs, ys, h, hE => by
    simp only [NilToLL] at h
    obtain ⟨y, ys', rfl, h1, h2⟩ := h
    exact ⟨(NilToL.length x y h1).trans hE.1, NilToLL.each xs ys' h2 hE.2⟩
end
mutual
theorem T.anyI : ∀ (x : AV) (v : Value) (F : List Nat), ownR x = true → T w I x v F → T w I' x v F
  | .con u, v, F, _, h => by simpa only [T] using h
  | .int k n, v, F, _, h => by simpa only [T] using h
  | .bool b, v, F, _, h => by simpa only [T] using h
  | .str s, v, F, _, h => by simpa only [T] using h
  | .nil, v, F, _, h => by simpa only [T] using h
  | .ow sz es, v, F, ho, h => by
    simp only [ownR] at ho
    simp only [T] at h ⊢
    refine h.imp id ?_
    rintro ⟨b, o, c, cur, e, vs, Fs, hv, hh, hc, hm, ho', hE, hvs, ht, rfl⟩
    exact ⟨b, o, c, cur, e, vs, Fs, hv, hh, hc, hm, ho', hE, hvs, TLL.anyI es vs Fs ho ht, rfl⟩
  | .op cs, v, F, ho, h => by
    simp only [ownR] at ho
    simp only [T] at h ⊢
    obtain ⟨b, cur, e, Fs, hv, hh, ht, rfl⟩ := h
    exact ⟨b, cur, e, Fs, hv, hh, TL.anyI cs _ Fs ho ht, rfl⟩
  | .agg cs, v, F, ho, h => by
    simp only [ownR] at ho
    simp only [T] at h ⊢
    obtain ⟨vs, hv, ht⟩ := h
    exact ⟨vs, hv, TL.anyI cs _ F ho ht⟩
  | .tup cs, v, F, ho, h => by
    simp only [ownR] at ho
    simp only [T] at h ⊢
    obtain ⟨vs, hv, ht⟩ := h
    exact ⟨vs, hv, TV.anyI cs _ F ho ht⟩
  | .any, v, F, ho, h => by simp [ownR] at ho
  | .sl _, v, F, ho, h => by simp [ownR] at ho
  | .pf _, v, F, ho, h => by simp [ownR] at ho
  | .fn _ _, v, F, ho, h => by simp [ownR] at ho
  | .ref _ _ _ _ _, v, F, ho, h => by simp [ownR] at ho
  | .ptr _ _ _ _ _, v, F, ho, h => by simp [ownR] at ho
theorem TL.anyI : ∀ (xs : List AV) (vs : List Value) (F : List Nat), ownRL xs = true → TL w I xs vs F → TL w I' xs vs F
  | [], vs, F, _, h => by simpa only [TL] using h
  | x :: xs, vs, F, ho, h => by
    simp only [ownRL, Bool.and_eq_true] at ho
    simp only [TL] at h ⊢
    obtain ⟨v, vs', F1, F2, rfl, rfl, h1, hx, hxs⟩ := h
    exact ⟨v, vs', F1, F2, rfl, rfl, h1, T.anyI x v F1 ho.1 hx, TL.anyI xs vs' F2 ho.2 hxs⟩
theorem TV.anyI : ∀ (xs : List AV) (vs : List Value) (F : List Nat), ownRL xs = true → TV w I xs vs F → TV w I' xs vs F
  | [], vs, F, _, h => by simpa only [TV] using h
  | x :: xs, vs, F, ho, h => by
    simp only [ownRL, Bool.and_eq_true] at ho
    simp only [TV] at h ⊢
    obtain ⟨v, vs', F1, F2, rfl, rfl, hx, hxs⟩ := h
    exact ⟨v, vs', F1, F2, rfl, rfl, T.anyI x v F1 ho.1 hx, TV.anyI xs vs' F2 ho.2 hxs⟩
theorem TLL.anyI : ∀ (xs : List (List AV)) (vs : List Value) (F : List Nat), ownRLL xs = true → TLL w I xs vs F → TLL w I' xs vs F
  | [], vs, F, _, h => by simpa only [TLL] using h
  | x :: xs, vs, F, ho, h => by
    simp only [ownRLL, Bool.and_eq_true] at ho
    simp only [TLL] at h ⊢
    obtain ⟨v1, v2, F1, F2, rfl, rfl, hx, hxs⟩ := h
    exact ⟨v1, v2, F1, F2, rfl, rfl, TL.anyI x v1 F1 ho.1 hx, TLL.anyI xs v2 F2 ho.2 hxs⟩
end
end
theorem eqs_frzA : True := by
  have := @frzA.eq_1
  trivial
theorem eqs_frzAL : True := by
  have := @frzAL.eq_1
  trivial
end Go.Proofs.YtlddjlchgibdfaaDoor.X
