import Derived.Tactics
import Derived.Laws.AppendOwn
import Derived.Laws.MakeOwn
import Derived.Below
set_option linter.unusedVariables false
set_option linter.unusedSimpArgs false
namespace Go.Proofs.YtlddjlchgibdfaaDoor.X
open Go

/-- Abstract values. -/
inductive AV where
  | any
  | con (v : Value)
  | int (k : IntKind) (n : Int)
  | bool (b : Bool)
  | str (s : ByteArray)
  | nil
  | sl (es : List (List AV))
  | pf (cs : List AV)
  | ow (sz : Nat) (es : List (List AV))
  | op (cs : List AV)
  | ref (id : Nat) (sub : Option (Nat × Nat × Nat)) (sz off len : Nat)
  | ptr (id : Nat) (sub : Option (Nat × Nat × Nat)) (sz i c : Nat)
  | fn (f : FuncId) (caps : List AV)
  | agg (cs : List AV)
  | tup (vs : List AV)
  deriving Inhabited

/-- The cells from (b, o) on. -/
def At (w : World) (b o : Nat) (vs : List Value) : Prop := ∀ j u, vs[j]? = some u → w.cell? ⟨b, o + j, none⟩ = some u

theorem At.frame {w w' : World} {b o : Nat} {vs : List Value} (h : At w b o vs) (hb : w'.heap[b]? = w.heap[b]?) : At w' b o vs := fun j u hu =>
  (World.cell?_of_block (a := ⟨b, o + j, none⟩) hb).trans (h j u hu)

def Each (sz : Nat) : List (List AV) → Prop
  | [] => True
  | e :: es => e.length = sz ∧ Each sz es

mutual
/-- A tree of values: what is frozen lies in blocks that I tells; F: the blocks that are the tree's own. -/
def T (w : World) (I : Nat → Prop) : AV → Value → List Nat → Prop
  | .any, _, F => F = []
  | .con u, v, F => v = u ∧ F = []
  | .int k n, v, F => v = .int k n ∧ F = []
  | .bool b, v, F => v = .bool b ∧ F = []
  | .str s, v, F => v = .string s ∧ F = []
  | .nil, v, F => v = .slice none 0 0 ∧ F = []
  | .sl es, v, F => F = [] ∧ ∃ A c, v = .slice A es.length c ∧ es.length ≤ c ∧ es.length ≤ maxLen ∧
      (es = [] ∨ ∃ b o sz vs, A = some ⟨b, o, none⟩ ∧ I b ∧ Each sz es ∧ At w b o vs ∧ TLL w I es vs [])
  | .pf cs, v, F => F = [] ∧ ∃ b o vs, v = .pointer (some ⟨b, o, none⟩) ∧ I b ∧ At w b o vs ∧ TL w I cs vs []
  | .ow sz es, v, F => (es = [] ∧ (∃ A, v = .slice A 0 0) ∧ F = []) ∨
      ∃ b o c cur e vs Fs, v = .slice (some ⟨b, o, none⟩) es.length c ∧ w.heap[b]? = some (.cells cur e (0, 0)) ∧ es.length ≤ c ∧ c ≤ maxLen ∧ o + c * sz ≤ cur.size ∧
        Each sz es ∧ (cur.toList.drop o).take (es.length * sz) = vs ∧ TLL w I es vs Fs ∧ F = b :: Fs
  | .op cs, v, F => ∃ b cur e Fs, v = .pointer (some ⟨b, 0, none⟩) ∧ w.heap[b]? = some (.cells cur e (0, 0)) ∧ TL w I cs cur.toList Fs ∧ F = b :: Fs
  | .fn f caps, v, F => ∃ vs, v = .func (.func f) #[] vs ∧ TL w I caps vs.toList F
  | .agg cs, v, F => ∃ vs, v = .agg vs ∧ TL w I cs vs.toList F
  | .tup xs, v, F => ∃ vs, v = .tuple vs ∧ TV w I xs vs.toList F
  | .ref .., _, _ => False
  | .ptr .., _, _ => False
def TL (w : World) (I : Nat → Prop) : List AV → List Value → List Nat → Prop
  | [], vs, F => vs = [] ∧ F = []
  | x :: xs, vs, F => ∃ v vs' F1 F2, vs = v :: vs' ∧ F = F1 ++ F2 ∧ v.oneCell' = true ∧ T w I x v F1 ∧ TL w I xs vs' F2
def TV (w : World) (I : Nat → Prop) : List AV → List Value → List Nat → Prop
  | [], vs, F => vs = [] ∧ F = []
  | x :: xs, vs, F => ∃ v vs' F1 F2, vs = v :: vs' ∧ F = F1 ++ F2 ∧ T w I x v F1 ∧ TV w I xs vs' F2
def TLL (w : World) (I : Nat → Prop) : List (List AV) → List Value → List Nat → Prop
  | [], vs, F => vs = [] ∧ F = []
  | e :: es, vs, F => ∃ v1 v2 F1 F2, vs = v1 ++ v2 ∧ F = F1 ++ F2 ∧ TL w I e v1 F1 ∧ TLL w I es v2 F2
end

section frame
variable {w w' : World} {I I' : Nat → Prop}
mutual
theorem T.frame (hI : ∀ b, I b → I' b ∧ w'.heap[b]? = w.heap[b]?) : ∀ (x : AV) (v : Value) (F : List Nat), T w I x v F → (∀ b ∈ F, w'.heap[b]? = w.heap[b]?) → T w' I' x v F
  | .any, v, F, h, _ => by simpa [T] using h
  | .con u, v, F, h, _ => by simpa [T] using h
  | .int k n, v, F, h, _ => by simpa [T] using h
  | .bool b, v, F, h, _ => by simpa [T] using h
  | .str s, v, F, h, _ => by simpa [T] using h
  | .nil, v, F, h, _ => by simpa [T] using h
  | .sl es, v, F, h, _ => by
    simp only [T] at h ⊢
    obtain ⟨hF, A, c, hv, hc, hm, h⟩ := h
    refine ⟨hF, A, c, hv, hc, hm, h.imp id ?_⟩
    rintro ⟨b, o, sz, vs, hA, hb, he, hat, ht⟩
    exact ⟨b, o, sz, vs, hA, (hI b hb).1, he, hat.frame (hI b hb).2, TLL.frame hI es vs [] ht (by simp)⟩
  | .pf cs, v, F, h, _ => by
    simp only [T] at h ⊢
    obtain ⟨hF, b, o, vs, hv, hb, hat, ht⟩ := h
    exact ⟨hF, b, o, vs, hv, (hI b hb).1, hat.frame (hI b hb).2, TL.frame hI cs vs [] ht (by simp)⟩
  | .ow sz es, v, F, h, hF => by
    simp only [T] at h ⊢
    refine h.imp id ?_
    rintro ⟨b, o, c, cur, e, vs, Fs, hv, hh, hc, hm, ho, he, hvs, ht, rfl⟩
    exact ⟨b, o, c, cur, e, vs, Fs, hv, (hF b (by simp)).trans hh, hc, hm, ho, he, hvs, TLL.frame hI es vs Fs ht (fun b hb => hF b (by simp [hb])), rfl⟩
  | .op cs, v, F, h, hF => by
    simp only [T] at h ⊢
    obtain ⟨b, cur, e, Fs, hv, hh, ht, rfl⟩ := h
    exact ⟨b, cur, e, Fs, hv, (hF b (by simp)).trans hh, TL.frame hI cs _ Fs ht (fun b hb => hF b (by simp [hb])), rfl⟩
  | .fn f caps, v, F, h, hF => by
    simp only [T] at h ⊢
    obtain ⟨vs, hv, ht⟩ := h
    exact ⟨vs, hv, TL.frame hI caps _ F ht hF⟩
  | .agg cs, v, F, h, hF => by
    simp only [T] at h ⊢
    obtain ⟨vs, hv, ht⟩ := h
    exact ⟨vs, hv, TL.frame hI cs _ F ht hF⟩
  | .tup xs, v, F, h, hF => by
    simp only [T] at h ⊢
    obtain ⟨vs, hv, ht⟩ := h
    exact ⟨vs, hv, TV.frame hI xs _ F ht hF⟩
  | .ref _ _ _ _ _, v, F, h, _ => by simp only [T] at h
  | .ptr _ _ _ _ _, v, F, h, _ => by simp only [T] at h
theorem TL.frame (hI : ∀ b, I b → I' b ∧ w'.heap[b]? = w.heap[b]?) : ∀ (xs : List AV) (vs : List Value) (F : List Nat), TL w I xs vs F → (∀ b ∈ F, w'.heap[b]? = w.heap[b]?) → TL w' I' xs vs F
  | [], vs, F, h, _ => by simpa [TL] using h
  | x :: xs, vs, F, h, hF => by
    simp only [TL] at h ⊢
    obtain ⟨v, vs', F1, F2, rfl, rfl, h1, hx, hxs⟩ := h
    exact ⟨v, vs', F1, F2, rfl, rfl, h1, T.frame hI x v F1 hx (fun b hb => hF b (by simp [hb])), TL.frame hI xs vs' F2 hxs (fun b hb => hF b (by simp [hb]))⟩
theorem TV.frame (hI : ∀ b, I b → I' b ∧ w'.heap[b]? = w.heap[b]?) : ∀ (xs : List AV) (vs : List Value) (F : List Nat), TV w I xs vs F → (∀ b ∈ F, w'.heap[b]? = w.heap[b]?) → TV w' I' xs vs F
  | [], vs, F, h, _ => by simpa [TV] using h
  | x :: xs, vs, F, h, hF => by
    simp only [TV] at h ⊢
    obtain ⟨v, vs', F1, F2, rfl, rfl, hx, hxs⟩ := h
    exact ⟨v, vs', F1, F2, rfl, rfl, T.frame hI x v F1 hx (fun b hb => hF b (by simp [hb])), TV.frame hI xs vs' F2 hxs (fun b hb => hF b (by simp [hb]))⟩
theorem TLL.frame (hI : ∀ b, I b → I' b ∧ w'.heap[b]? = w.heap[b]?) : ∀ (xs : List (List AV)) (vs : List Value) (F : List Nat), TLL w I xs vs F → (∀ b ∈ F, w'.heap[b]? = w.heap[b]?) → TLL w' I' xs vs F
  | [], vs, F, h, _ => by simpa [TLL] using h
  | x :: xs, vs, F, h, hF => by
    simp only [TLL] at h ⊢
    obtain ⟨v1, v2, F1, F2, rfl, rfl, hx, hxs⟩ := h
    exact ⟨v1, v2, F1, F2, rfl, rfl, TL.frame hI x v1 F1 hx (fun b hb => hF b (by simp [hb])), TLL.frame hI xs v2 F2 hxs (fun b hb => hF b (by simp [hb]))⟩
end
end frame

/-- Own blocks lie in the heap. -/
theorem lt_of_heap {w : World} {b : Nat} {o : Obj} (h : w.heap[b]? = some o) : b < w.heap.size := (Array.getElem?_eq_some_iff.1 h).1

theorem TL.length {w : World} {I : Nat → Prop} : ∀ {xs : List AV} {vs : List Value} {F : List Nat}, TL w I xs vs F → vs.length = xs.length
  | [], vs, F, h => by simp only [TL] at h; simp [h.1]
  | x :: xs, vs, F, h => by
    simp only [TL] at h
    obtain ⟨v, vs', F1, F2, rfl, rfl, h1, hx, hxs⟩ := h
    simp [TL.length hxs]
theorem TLL.length {w : World} {I : Nat → Prop} {sz : Nat} : ∀ {es : List (List AV)} {vs : List Value} {F : List Nat}, TLL w I es vs F → Each sz es → vs.length = es.length * sz
  | [], vs, F, h, _ => by simp only [TLL] at h; simp [h.1]
  | e :: es, vs, F, h, he => by
    simp only [TLL] at h
    obtain ⟨v1, v2, F1, F2, rfl, rfl, hx, hxs⟩ := h
    simp only [Each] at he
    have h1 := TL.length hx
    have h2 := TLL.length hxs he.2
    simp only [List.length_append, List.length_cons, h1, h2, he.1, Nat.add_mul, Nat.one_mul]
    omega
end Go.Proofs.YtlddjlchgibdfaaDoor.X
