import Derived.Test.YtlddjlchgibdfaaDoorXBuild
set_option linter.unusedVariables false
set_option linter.unusedSimpArgs false
namespace Go.Proofs.YtlddjlchgibdfaaDoor.X
open Go

section sets
variable {α : Type}
theorem setsA_length : ∀ (us : List α) (k : Nat) (l : List α), (setsA l k us).length = l.length
  | [], _, _ => rfl
  | u :: us, k, l => by simp [setsA, setsA_length us]
theorem setsA_eq : ∀ (us : List α) (k : Nat) (l : List α), k + us.length ≤ l.length → setsA l k us = l.take k ++ us ++ l.drop (k + us.length)
  | [], k, l, _ => by simp [setsA]
  | u :: us, k, l, h => by
    simp only [List.length_cons] at h
    rw [setsA, setsA_eq us (k + 1) (l.set k u) (by simp; omega)]
    have h1 : (l.set k u).take (k + 1) = l.take k ++ [u] := by
      rw [List.take_succ_eq_append_getElem (by simp; omega)]
      simp [List.take_set, List.getElem_set]
      exact List.set_eq_of_length_le (by simp; omega)
    have h2 : (l.set k u).drop (k + 1 + us.length) = l.drop (k + (us.length + 1)) := by
      rw [List.drop_set_of_lt (by omega)]
      congr 1
      omega
    rw [h1, h2]
    simp
theorem setsA_drop : ∀ (us : List α) (o k : Nat) (l : List α), (setsA l (o + k) us).drop o = setsA (l.drop o) k us
  | [], _, _, _ => rfl
  | u :: us, o, k, l => by
    rw [setsA, setsA, show o + k + 1 = o + (k + 1) by omega, setsA_drop us o (k + 1)]
    congr 1
    rw [List.drop_set, if_neg (by omega)]
    congr 1
    omega
theorem setsA_take : ∀ (us : List α) (k n : Nat) (l : List α), k + us.length ≤ n → (setsA l k us).take n = setsA (l.take n) k us
  | [], _, _, _, _ => rfl
  | u :: us, k, n, l, h => by
    simp only [List.length_cons] at h
    rw [setsA, setsA, setsA_take us (k + 1) n _ (by omega), List.take_set]
end sets

def isSc : AV → Bool
  | .int .. | .bool _ | .str _ => true
  | _ => false
def allSc : List AV → Bool
  | [] => true
  | x :: xs => isSc x && allSc xs
/-- A value that is no slice. -/
def noSl (v : Value) : Prop := ∀ A n c, v ≠ .slice A n c
theorem isSc_T {w : World} {I : Nat → Prop} {x : AV} {v : Value} {F : List Nat} (h : isSc x = true) (hT : T w I x v F) : F = [] ∧ noSl v ∧ v.oneCell' = true := by
  cases x <;> simp [isSc] at h <;> simp only [T] at hT <;> obtain ⟨rfl, rfl⟩ := hT <;> exact ⟨rfl, fun A n c => by simp, rfl⟩
theorem isSc_S {hd : Nat → Value} {n : Nat} {w : World} {I : Nat → Prop} {x : AV} {v : Value} (h : isSc x = true) (hS : S hd n w I x v) : noSl v ∧ ∀ w' I', T w' I' x v [] := by
  cases x <;> simp [isSc] at h <;> simp only [S] at hS <;> subst hS <;> exact ⟨fun A n c => by simp, fun w' I' => by simp [T]⟩

mutual
def killS : AV → AV
  | .ref id (some _) sz off len => .any
  | .ptr id (some _) sz i c => .any
  | .fn f caps => .fn f (killL caps)
  | .agg cs => .agg (killL cs)
  | .tup xs => .tup (killL xs)
  | x => x
def killL : List AV → List AV
  | [] => []
  | x :: xs => killS x :: killL xs
end
def killH : Heap → Heap
  | [] => []
  | (i, .var cs) :: h => (i, .var (killL cs)) :: killH h
  | (i, .slice sz es) :: h => (i, .slice sz es) :: killH h
def killSt (s : St) : St := ⟨killL s.tmps, killH s.heap, s.next⟩
def killO : Ob → Ob
  | .var cs => .var (killL cs)
  | o => o
theorem hget_kill : ∀ (h : Heap) (j : Nat), hget (killH h) j = (hget h j).map killO
  | [], _ => rfl
  | (i, .var cs) :: h, j => by
    simp only [killH, hget]
    split <;> simp [killO, hget_kill h]
  | (i, .slice sz es) :: h, j => by
    simp only [killH, hget]
    split <;> simp [killO, hget_kill h]

section
variable {hd hd' : Nat → Value} {n n' : Nat} {w w' : World} {I I' : Nat → Prop}
mutual
theorem S.kill (hn : n ≤ n') (hI : ∀ b, I b → I' b ∧ w'.heap[b]? = w.heap[b]?) (hH : ∀ id, id < n → hd' id = hd id) :
    ∀ (x : AV) (v : Value), S hd n w I x v → S hd' n' w' I' (killS x) v
  | .ref id none sz off len, v, h => by
    simp only [S, killS, HdOf] at h ⊢
    obtain ⟨hid, h0, h1, h2⟩ := h
    exact ⟨Nat.lt_of_lt_of_le hid hn, h0, by rw [hH id hid]; exact h1, h2⟩
  | .ref id (some p) sz off len, v, h => by simp only [S, killS]
  | .ptr id none sz i c, v, h => by
    simp only [S, killS, HdOf] at h ⊢
    obtain ⟨hid, h0, b, o, h1, h2, h3⟩ := h
    exact ⟨Nat.lt_of_lt_of_le hid hn, h0, b, o, by rw [hH id hid]; exact h1, h2, h3⟩
  | .ptr id (some p) sz i c, v, h => by simp only [S, killS]
  | .fn f caps, v, h => by
    simp only [S, killS] at h ⊢
    obtain ⟨vs, hv, ht⟩ := h
    exact ⟨vs, hv, SL.kill hn hI hH caps _ ht⟩
  | .agg cs, v, h => by
    simp only [S, killS] at h ⊢
    obtain ⟨vs, hv, ht⟩ := h
    exact ⟨vs, hv, SL.kill hn hI hH cs _ ht⟩
  | .tup xs, v, h => by
    simp only [S, killS] at h ⊢
    obtain ⟨vs, hv, ht⟩ := h
    exact ⟨vs, hv, SV.kill hn hI hH xs _ ht⟩
  | .ow _ _, v, h => by simp only [S] at h
  | .op _, v, h => by simp only [S] at h
  | .any, v, h => by simp only [S, killS]
  | .con u, v, h => by simpa only [S, killS] using h
  | .int k m, v, h => by simpa only [S, killS] using h
  | .bool b, v, h => by simpa only [S, killS] using h
  | .str s, v, h => by simpa only [S, killS] using h
  | .nil, v, h => by simpa only [S, killS] using h
  | .sl es, v, h => by simp only [S, killS] at h ⊢; exact T.frame hI _ _ _ h (by simp)
  | .pf cs, v, h => by simp only [S, killS] at h ⊢; exact T.frame hI _ _ _ h (by simp)
theorem SL.kill (hn : n ≤ n') (hI : ∀ b, I b → I' b ∧ w'.heap[b]? = w.heap[b]?) (hH : ∀ id, id < n → hd' id = hd id) :
    ∀ (xs : List AV) (vs : List Value), SL hd n w I xs vs → SL hd' n' w' I' (killL xs) vs
  | [], vs, h => by simpa only [SL, killL] using h
  | x :: xs, vs, h => by
    simp only [SL, killL] at h ⊢
    obtain ⟨v, vs', rfl, h1, hx, hxs⟩ := h
    exact ⟨v, vs', rfl, h1, S.kill hn hI hH x v hx, SL.kill hn hI hH xs vs' hxs⟩
theorem SV.kill (hn : n ≤ n') (hI : ∀ b, I b → I' b ∧ w'.heap[b]? = w.heap[b]?) (hH : ∀ id, id < n → hd' id = hd id) :
    ∀ (xs : List AV) (vs : List Value), SV hd n w I xs vs → SV hd' n' w' I' (killL xs) vs
  | [], vs, h => by simpa only [SV, killL] using h
  | x :: xs, vs, h => by
    simp only [SV, killL] at h ⊢
    obtain ⟨v, vs', rfl, hx, hxs⟩ := h
    exact ⟨v, vs', rfl, S.kill hn hI hH x v hx, SV.kill hn hI hH xs vs' hxs⟩
end
end
theorem killL_eq : ∀ xs : List AV, killL xs = xs.map killS
  | [] => rfl
  | x :: xs => by simp [killL, killL_eq xs]

/-- One cell of a list of cells turns, its own part with it. -/
theorem TL.upd {w w' : World} {I : Nat → Prop} {b : Nat} (hb : ∀ b', b' ≠ b → w'.heap[b']? = w.heap[b']?) (hIb : ¬ I b) : ∀ {xs : List AV} {vs : List Value} {F : List Nat}, TL w I xs vs F → F.Nodup → ∀ {k : Nat} {x y : AV}, xs[k]? = some x →
    (∀ v Fx, vs[k]? = some v → T w I x v Fx → Fx.Sublist F → T w' I y v Fx ∧ b ∈ Fx) → TL w' I (xs.set k y) vs F ∧ b ∈ F
  | [], vs, F, h, _, k, x, y, hx, _ => by simp at hx
  | z :: xs, vs, F, h, hn, 0, x, y, hx, hT => by
    simp only [TL] at h
    obtain ⟨v, vs', F1, F2, rfl, rfl, h1, hz, hxs⟩ := h
    simp at hx
    subst hx
    obtain ⟨h2, h3⟩ := hT v F1 rfl hz (List.sublist_append_left _ _)
    refine ⟨?_, by simp [h3]⟩
    simp only [List.set_cons_zero, TL]
    refine ⟨v, vs', F1, F2, rfl, rfl, h1, h2, TL.frame (fun b' hI => ⟨hI, hb b' (fun e => hIb (e ▸ hI))⟩) xs vs' F2 hxs (fun b' hm => hb b' ?_)⟩
    rintro rfl
    exact (List.nodup_append.1 hn).2.2 _ h3 _ hm rfl
  | z :: xs, vs, F, h, hn, k + 1, x, y, hx, hT => by
    simp only [TL] at h
    obtain ⟨v, vs', F1, F2, rfl, rfl, h1, hz, hxs⟩ := h
    simp at hx
    obtain ⟨h2, h3⟩ := TL.upd hb hIb hxs (List.nodup_append.1 hn).2.1 hx (fun u Fx hu hTx hs => hT u Fx (by simpa using hu) hTx (hs.trans (List.sublist_append_right _ _)))
    refine ⟨?_, by simp [h3]⟩
    simp only [List.set_cons_succ, TL]
    refine ⟨v, vs', F1, F2, rfl, rfl, h1, T.frame (fun b' hI => ⟨hI, hb b' (fun e => hIb (e ▸ hI))⟩) z v F1 hz (fun b' hm => hb b' ?_), h2⟩
    rintro rfl
    exact (List.nodup_append.1 hn).2.2 _ hm _ h3 rfl
theorem TLL.upd {w w' : World} {I : Nat → Prop} {b sz : Nat} (hb : ∀ b', b' ≠ b → w'.heap[b']? = w.heap[b']?) (hIb : ¬ I b) : ∀ {es : List (List AV)} {vs : List Value} {F : List Nat}, TLL w I es vs F → F.Nodup → Each sz es → ∀ {i k : Nat} {e : List AV} {x y : AV}, es[i]? = some e → e[k]? = some x →
    (∀ v Fx, vs[i * sz + k]? = some v → T w I x v Fx → Fx.Sublist F → T w' I y v Fx ∧ b ∈ Fx) → TLL w' I (es.set i (e.set k y)) vs F ∧ b ∈ F
  | [], vs, F, h, _, _, i, k, e, x, y, he, _, _ => by simp at he
  | z :: es, vs, F, h, hn, hE, 0, k, e, x, y, he, hx, hT => by
    simp only [TLL] at h
    obtain ⟨v1, v2, F1, F2, rfl, rfl, hz, hxs⟩ := h
    simp at he
    subst he
    have hkl : k < v1.length := by rw [hz.length]; exact (List.getElem?_eq_some_iff.1 hx).1
    obtain ⟨h2, h3⟩ := TL.upd hb hIb hz (List.nodup_append.1 hn).1 (y := y) hx (fun v Fx hv hTx hs => hT v Fx (by rw [Nat.zero_mul, Nat.zero_add, List.getElem?_append_left hkl]; exact hv) hTx (hs.trans (List.sublist_append_left _ _)))
    refine ⟨?_, by simp [h3]⟩
    simp only [List.set_cons_zero, TLL]
    refine ⟨v1, v2, F1, F2, rfl, rfl, h2, TLL.frame (fun b' hI => ⟨hI, hb b' (fun e => hIb (e ▸ hI))⟩) es v2 F2 hxs (fun b' hm => hb b' ?_)⟩
    rintro rfl
    exact (List.nodup_append.1 hn).2.2 _ h3 _ hm rfl
  | z :: es, vs, F, h, hn, hE, i + 1, k, e, x, y, he, hx, hT => by
    simp only [TLL] at h
    obtain ⟨v1, v2, F1, F2, rfl, rfl, hz, hxs⟩ := h
    simp at he
    have hl := hz.length
    have h1 := hE.1
    obtain ⟨h2, h3⟩ := TLL.upd hb hIb hxs (List.nodup_append.1 hn).2.1 hE.2 (y := y) he hx (fun v Fx hv hTx hs => hT v Fx (by
      rw [List.getElem?_append_right (by rw [Nat.add_mul]; omega)]
      rw [← hv]
      congr 1
      rw [Nat.add_mul]
      omega) hTx (hs.trans (List.sublist_append_right _ _)))
    refine ⟨?_, by simp [h3]⟩
    simp only [List.set_cons_succ, TLL]
    refine ⟨v1, v2, F1, F2, rfl, rfl, TL.frame (fun b' hI => ⟨hI, hb b' (fun e => hIb (e ▸ hI))⟩) z v1 F1 hz (fun b' hm => hb b' ?_), h2⟩
    rintro rfl
    exact (List.nodup_append.1 hn).2.2 _ hm _ h3 rfl
theorem eqs_isSc : True := by
  have := @isSc.eq_1
  trivial
theorem eqs_allSc : True := by
  have := @allSc.eq_1
  trivial
theorem eqs_killL : True := by
  have := @killL.eq_1
  trivial
theorem eqs_killH : True := by
  have := @killH.eq_1
  trivial
theorem eqs_killSt : True := by
  have := @killSt.eq_1
  trivial
end Go.Proofs.YtlddjlchgibdfaaDoor.X
