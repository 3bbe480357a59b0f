import Derived.Test.YtlddjlchgibdfaaDoorXFrz
set_option linter.unusedVariables false
set_option linter.unusedSimpArgs false
namespace Go.Proofs.YtlddjlchgibdfaaDoor.X
open Go

/-- Objects: a slice's elements; a variable's cells. -/
inductive Ob where
  | slice (sz : Nat) (es : List (List AV))
  | var (cs : List AV)
  deriving Inhabited

abbrev Heap := List (Nat × Ob)

def hget : Heap → Nat → Option Ob
  | [], _ => none
  | (i, o) :: h, id => if i = id then some o else hget h id
/-- What is there is replaced. -/
def hset : Heap → Nat → Ob → Heap
  | [], _, _ => []
  | (i, o) :: h, id, u => if i = id then (i, u) :: h else (i, o) :: hset h id u
def hdel : Heap → Nat → Heap
  | [], _ => []
  | (i, o) :: h, id => if i = id then hdel h id else (i, o) :: hdel h id

theorem hget_set (h : Heap) (id : Nat) (u : Ob) (j : Nat) : hget (hset h id u) j = if id = j then (hget h id).map (fun _ => u) else hget h j := by
  induction h with
  | nil => simp [hget, hset]
  | cons p h ih =>
    obtain ⟨i, o⟩ := p
    simp only [hset]
    by_cases h1 : i = id
    · subst h1
      by_cases h2 : i = j <;> simp [hget, h2]
    · by_cases h2 : i = j
      · subst h2; simp [hget, h1, Ne.symm h1, fun e => h1 (Eq.symm e)]
      · simp only [h1, if_false, hget, h2]
        rw [ih]
theorem hget_del (h : Heap) (id j : Nat) : hget (hdel h id) j = if id = j then none else hget h j := by
  induction h with
  | nil => simp [hget, hdel]
  | cons p h ih =>
    obtain ⟨i, o⟩ := p
    simp only [hdel]
    by_cases h1 : i = id
    · subst h1
      by_cases h2 : i = j
      · subst h2; simp [ih]
      · simp [ih, h2, hget]
    · by_cases h2 : i = j
      · subst h2; simp [hget, h1, Ne.symm h1, fun e => h1 (Eq.symm e)]
      · simp only [h1, if_false, hget, h2]
        rw [ih]

structure St where
  tmps : List AV
  heap : Heap
  next : Nat

/-! ### Slots -/
def BaseOf (h : Value) (b o : Nat) : Prop := (∃ n c, h = .slice (some ⟨b, o, none⟩) n c) ∨ h = .pointer (some ⟨b, o, none⟩)
def HdOf (hd : Nat → Value) (w : World) (id : Nat) : Option (Nat × Nat × Nat) → Value → Prop
  | none, h => h = hd id
  | some (szo, i, c), h => (∃ A n k, h = .slice A n k) ∧ ∃ b o, BaseOf (hd id) b o ∧ w.cell? ⟨b, o + (i * szo + c), none⟩ = some h
def Win (sz off len : Nat) (h v : Value) : Prop :=
  (∃ b o n c c', h = .slice (some ⟨b, o, none⟩) n c ∧ v = .slice (some ⟨b, o + off * sz, none⟩) len c' ∧ off + c' ≤ c ∧ len ≤ c' ∧ off + len ≤ n) ∨ (len = 0 ∧ ∃ A, v = .slice A 0 0)
theorem BaseOf.uniq {h : Value} {b o b' o' : Nat} (h1 : BaseOf h b o) (h2 : BaseOf h b' o') : b = b' ∧ o = o' := by
  rcases h1 with ⟨n, c, rfl⟩ | rfl <;> rcases h2 with ⟨n', c', h⟩ | h <;> simp at h <;> simp [h]

mutual
def S (hd : Nat → Value) (n : Nat) (w : World) (I : Nat → Prop) : AV → Value → Prop
  | .ref id sub sz off len, v => id < n ∧ ∃ h, HdOf hd w id sub h ∧ Win sz off len h v
  | .ptr id sub sz i c, v => id < n ∧ ∃ h b o, HdOf hd w id sub h ∧ BaseOf h b o ∧ v = .pointer (some ⟨b, o + (i * sz + c), none⟩)
  | .fn f caps, v => ∃ vs, v = .func (.func f) #[] vs ∧ SL hd n w I caps vs.toList
  | .agg cs, v => ∃ vs, v = .agg vs ∧ SL hd n w I cs vs.toList
  | .tup xs, v => ∃ vs, v = .tuple vs ∧ SV hd n w I xs vs.toList
  | .ow .., _ => False
  | .op .., _ => False
  | .any, _ => True
  | .con u, v => v = u
  | .int k m, v => v = .int k m
  | .bool b, v => v = .bool b
  | .str s, v => v = .string s
  | .nil, v => v = .slice none 0 0
  | .sl es, v => T w I (.sl es) v []
  | .pf cs, v => T w I (.pf cs) v []
def SL (hd : Nat → Value) (n : Nat) (w : World) (I : Nat → Prop) : List AV → List Value → Prop
  | [], vs => vs = []
  | x :: xs, vs => ∃ v vs', vs = v :: vs' ∧ v.oneCell' = true ∧ S hd n w I x v ∧ SL hd n w I xs vs'
def SV (hd : Nat → Value) (n : Nat) (w : World) (I : Nat → Prop) : List AV → List Value → Prop
  | [], vs => vs = []
  | x :: xs, vs => ∃ v vs', vs = v :: vs' ∧ S hd n w I x v ∧ SV hd n w I xs vs'
end

section frame
variable {hd hd' : Nat → Value} {n n' : Nat} {w w' : World} {I I' : Nat → Prop}
mutual
theorem S.frame (hn : n ≤ n') (hI : ∀ b, I b → I' b ∧ w'.heap[b]? = w.heap[b]?) (hH : ∀ id, id < n → ∀ sub h, HdOf hd w id sub h → HdOf hd' w' id sub h) :
    ∀ (x : AV) (v : Value), S hd n w I x v → S hd' n' w' I' x v
  | .ref id sub sz off len, v, h => by
    simp only [S] at h ⊢
    obtain ⟨hid, h0, h1, h2⟩ := h
    exact ⟨Nat.lt_of_lt_of_le hid hn, h0, hH id hid sub h0 h1, h2⟩
  | .ptr id sub sz i c, v, h => by
    simp only [S] at h ⊢
    obtain ⟨hid, h0, b, o, h1, h2, h3⟩ := h
    exact ⟨Nat.lt_of_lt_of_le hid hn, h0, b, o, hH id hid sub h0 h1, h2, h3⟩
  | .fn f caps, v, h => by
    simp only [S] at h ⊢
    obtain ⟨vs, hv, ht⟩ := h
    exact ⟨vs, hv, SL.frame hn hI hH caps _ ht⟩
  | .agg cs, v, h => by
    simp only [S] at h ⊢
    obtain ⟨vs, hv, ht⟩ := h
    exact ⟨vs, hv, SL.frame hn hI hH cs _ ht⟩
  | .tup xs, v, h => by
    simp only [S] at h ⊢
    obtain ⟨vs, hv, ht⟩ := h
    exact ⟨vs, hv, SV.frame hn hI hH xs _ ht⟩
  | .ow _ _, v, h => by simp only [S] at h
  | .op _, v, h => by simp only [S] at h
  | .any, v, h => by simp only [S]
  | .con u, v, h => by simpa only [S] using h
  | .int k m, v, h => by simpa only [S] using h
  | .bool b, v, h => by simpa only [S] using h
  | .str s, v, h => by simpa only [S] using h
  | .nil, v, h => by simpa only [S] using h
  | .sl es, v, h => by simp only [S] at h ⊢; exact T.frame hI _ _ _ h (by simp)
  | .pf cs, v, h => by simp only [S] at h ⊢; exact T.frame hI _ _ _ h (by simp)
theorem SL.frame (hn : n ≤ n') (hI : ∀ b, I b → I' b ∧ w'.heap[b]? = w.heap[b]?) (hH : ∀ id, id < n → ∀ sub h, HdOf hd w id sub h → HdOf hd' w' id sub h) :
    ∀ (xs : List AV) (vs : List Value), SL hd n w I xs vs → SL hd' n' w' I' xs vs
  | [], vs, h => by simpa only [SL] using h
  | x :: xs, vs, h => by
    simp only [SL] at h ⊢
    obtain ⟨v, vs', rfl, h1, hx, hxs⟩ := h
    exact ⟨v, vs', rfl, h1, S.frame hn hI hH x v hx, SL.frame hn hI hH xs vs' hxs⟩
theorem SV.frame (hn : n ≤ n') (hI : ∀ b, I b → I' b ∧ w'.heap[b]? = w.heap[b]?) (hH : ∀ id, id < n → ∀ sub h, HdOf hd w id sub h → HdOf hd' w' id sub h) :
    ∀ (xs : List AV) (vs : List Value), SV hd n w I xs vs → SV hd' n' w' I' xs vs
  | [], vs, h => by simpa only [SV] using h
  | x :: xs, vs, h => by
    simp only [SV] at h ⊢
    obtain ⟨v, vs', rfl, hx, hxs⟩ := h
    exact ⟨v, vs', rfl, S.frame hn hI hH x v hx, SV.frame hn hI hH xs vs' hxs⟩
end
end frame

theorem SL.length {hd : Nat → Value} {n : Nat} {w : World} {I : Nat → Prop} : ∀ {xs : List AV} {vs : List Value}, SL hd n w I xs vs → vs.length = xs.length
  | [], vs, h => by simp only [SL] at h; simp [h]
  | x :: xs, vs, h => by
    simp only [SL] at h
    obtain ⟨v, vs', rfl, h1, hx, hxs⟩ := h
    simp [SL.length hxs]
theorem SL.get {hd : Nat → Value} {n : Nat} {w : World} {I : Nat → Prop} : ∀ {xs : List AV} {vs : List Value}, SL hd n w I xs vs → ∀ {j : Nat} {x : AV}, xs[j]? = some x → ∃ v, vs[j]? = some v ∧ v.oneCell' = true ∧ S hd n w I x v
  | [], vs, h, j, x, hx => by simp at hx
  | y :: xs, vs, h, j, x, hx => by
    simp only [SL] at h
    obtain ⟨v, vs', rfl, h1, hy, hxs⟩ := h
    cases j with
    | zero => simp at hx; subst hx; exact ⟨v, by simp, h1, hy⟩
    | succ j =>
      simp at hx
      obtain ⟨u, hu, h1', hT⟩ := SL.get hxs hx
      exact ⟨u, by simpa using hu, h1', hT⟩
theorem SV.get {hd : Nat → Value} {n : Nat} {w : World} {I : Nat → Prop} : ∀ {xs : List AV} {vs : List Value}, SV hd n w I xs vs → ∀ {j : Nat} {x : AV}, xs[j]? = some x → ∃ v, vs[j]? = some v ∧ S hd n w I x v
  | [], vs, h, j, x, hx => by simp at hx
  | y :: xs, vs, h, j, x, hx => by
    simp only [SV] at h
    obtain ⟨v, vs', rfl, hy, hxs⟩ := h
    cases j with
    | zero => simp at hx; subst hx; exact ⟨v, by simp, hy⟩
    | succ j =>
      simp at hx
      obtain ⟨u, hu, hT⟩ := SV.get hxs hx
      exact ⟨u, by simpa using hu, hT⟩
theorem SL.ones {hd : Nat → Value} {n : Nat} {w : World} {I : Nat → Prop} : ∀ {xs : List AV} {vs : List Value}, SL hd n w I xs vs → ∀ v ∈ vs, v.oneCell' = true
  | [], vs, h, v, hv => by simp only [SL] at h; simp [h] at hv
  | y :: xs, vs, h, v, hv => by
    simp only [SL] at h
    obtain ⟨u, vs', rfl, h1, hy, hxs⟩ := h
    rcases List.mem_cons.1 hv with rfl | hv
    · exact h1
    · exact SL.ones hxs v hv

/-! ### Objects and states -/
def ObjR (hd : Nat → Value) (n : Nat) (w : World) (I : Nat → Prop) : Ob → Value → List Nat → Prop
  | .slice sz es, h, F => T w I (.ow sz es) h F
  | .var cs, h, F => ∃ b cur e, h = .pointer (some ⟨b, 0, none⟩) ∧ w.heap[b]? = some (.cells cur e (0, 0)) ∧ SL hd n w I cs cur.toList ∧ F = [b]

/-- Global tables: the cells of a package's variable that nobody writes. -/
abbrev Glo := Nat → Option (List AV)

/-- The abstract heap and the world. M: the blocks that this activation may write. I: blocks that nobody writes any more. -/
structure HR (G : Glo) (M I : Nat → Prop) (h : Heap) (n : Nat) (hd : Nat → Value) (Fp : Nat → List Nat) (w : World) : Prop where
  obj : ∀ id o, hget h id = some o → ObjR hd n w I o (hd id) (Fp id)
  imm : ∀ b, I b → b < w.heap.size ∧ ∀ id o, hget h id = some o → b ∉ Fp id
  nodup : ∀ id o, hget h id = some o → (Fp id).Nodup
  disj : ∀ id o id' o', hget h id = some o → hget h id' = some o' → id ≠ id' → ∀ b ∈ Fp id, b ∉ Fp id'
  mine : ∀ id o, hget h id = some o → ∀ b ∈ Fp id, M b
  next : ∀ id o, hget h id = some o → id < n
  news : ∀ b, w.heap.size ≤ b → M b
  glo : ∀ g cs, G g = some cs → T w I (.pf cs) (.pointer (some ⟨g, 0, none⟩)) []

structure SR (G : Glo) (M I : Nat → Prop) (s : St) (hd : Nat → Value) (Fp : Nat → List Nat) (a : Act) (w : World) : Prop where
  heap : HR G M I s.heap s.next hd Fp w
  len : s.tmps.length = a.tmps.size
  slots : ∀ t, S hd s.next w I (s.tmps.getD t .any) (a.tmps.getD t undef)
  defers : a.defers = []

/-- What the activation leaves alone. -/
structure Keep (M : Nat → Prop) (w w' : World) : Prop where
  os : w'.os = w.os
  tape : w'.tape = w.tape
  output : w'.output = w.output
  size : w.heap.size ≤ w'.heap.size
  block : ∀ b, b < w.heap.size → ¬ M b → w'.heap[b]? = w.heap[b]?
theorem Keep.refl (M : Nat → Prop) (w : World) : Keep M w w := ⟨rfl, rfl, rfl, Nat.le_refl _, fun _ _ _ => rfl⟩
theorem Keep.trans {M : Nat → Prop} {w w1 w2 : World} (h : Keep M w w1) (k : Keep M w1 w2) : Keep M w w2 :=
  ⟨k.os.trans h.os, k.tape.trans h.tape, k.output.trans h.output, Nat.le_trans h.size k.size, fun b hb hm => (k.block b (Nat.lt_of_lt_of_le hb h.size) hm).trans (h.block b hb hm)⟩
theorem Keep.mono {M M' : Nat → Prop} {w w1 : World} (h : Keep M w w1) (hM : ∀ b, b < w.heap.size → M b → M' b) : Keep M' w w1 :=
  ⟨h.os, h.tape, h.output, h.size, fun b hb hm => h.block b hb (fun hx => hm (hM b hb hx))⟩

mutual
/-- The blocks of a tree's own lie in the heap. -/
theorem T.lt {w : World} {I : Nat → Prop} : ∀ (x : AV) (v : Value) (F : List Nat), T w I x v F → ∀ b ∈ F, b < w.heap.size
  | .any, v, F, h, b, hb => by simp only [T] at h; simp [h] at hb
  | .con u, v, F, h, b, hb => by simp only [T] at h; simp [h.2] at hb
  | .int k n, v, F, h, b, hb => by simp only [T] at h; simp [h.2] at hb
  | .bool _, v, F, h, b, hb => by simp only [T] at h; simp [h.2] at hb
  | .str s, v, F, h, b, hb => by simp only [T] at h; simp [h.2] at hb
  | .nil, v, F, h, b, hb => by simp only [T] at h; simp [h.2] at hb
  | .sl es, v, F, h, b, hb => by simp only [T] at h; simp [h.1] at hb
  | .pf cs, v, F, h, b, hb => by simp only [T] at h; simp [h.1] at hb
  | .ow sz es, v, F, h, b, hb => by
    simp only [T] at h
    rcases h with ⟨_, _, rfl⟩ | ⟨b0, o, c, cur, e, vs, Fs, hv, hh, hc, hm, ho, he, hvs, ht, rfl⟩
    · simp at hb
    · rcases List.mem_cons.1 hb with rfl | hb
      · exact lt_of_heap hh
      · exact TLL.lt es vs Fs ht b hb
  | .op cs, v, F, h, b, hb => by
    simp only [T] at h
    obtain ⟨b0, cur, e, Fs, hv, hh, ht, rfl⟩ := h
    rcases List.mem_cons.1 hb with rfl | hb
    · exact lt_of_heap hh
    · exact TL.lt cs _ Fs ht b hb
  | .fn f caps, v, F, h, b, hb => by
    simp only [T] at h
    obtain ⟨vs, hv, ht⟩ := h
    exact TL.lt caps _ F ht b hb
  | .agg cs, v, F, h, b, hb => by
    simp only [T] at h
    obtain ⟨vs, hv, ht⟩ := h
    exact TL.lt cs _ F ht b hb
  | .tup xs, v, F, h, b, hb => by
    simp only [T] at h
    obtain ⟨vs, hv, ht⟩ := h
    exact TV.lt xs _ F ht b hb
  | .ref _ _ _ _ _, v, F, h, b, hb => by simp only [T] at h
  | .ptr _ _ _ _ _, v, F, h, b, hb => by simp only [T] at h
theorem TL.lt {w : World} {I : Nat → Prop} : ∀ (xs : List AV) (vs : List Value) (F : List Nat), TL w I xs vs F → ∀ b ∈ F, b < w.heap.size
  | [], vs, F, h, b, hb => by simp only [TL] at h; simp [h.2] at hb
  | x :: xs, vs, F, h, b, hb => by
    simp only [TL] at h
    obtain ⟨v, vs', F1, F2, rfl, rfl, h1, hx, hxs⟩ := h
    rcases List.mem_append.1 hb with hb | hb
    · exact T.lt x v F1 hx b hb
    · exact TL.lt xs vs' F2 hxs b hb
theorem TV.lt {w : World} {I : Nat → Prop} : ∀ (xs : List AV) (vs : List Value) (F : List Nat), TV w I xs vs F → ∀ b ∈ F, b < w.heap.size
  | [], vs, F, h, b, hb => by simp only [TV] at h; simp [h.2] at hb
  | x :: xs, vs, F, h, b, hb => by
    simp only [TV] at h
    obtain ⟨v, vs', F1, F2, rfl, rfl, hx, hxs⟩ := h
    rcases List.mem_append.1 hb with hb | hb
    · exact T.lt x v F1 hx b hb
    · exact TV.lt xs vs' F2 hxs b hb
theorem TLL.lt {w : World} {I : Nat → Prop} : ∀ (xs : List (List AV)) (vs : List Value) (F : List Nat), TLL w I xs vs F → ∀ b ∈ F, b < w.heap.size
  | [], vs, F, h, b, hb => by simp only [TLL] at h; simp [h.2] at hb
  | x :: xs, vs, F, h, b, hb => by
    simp only [TLL] at h
    obtain ⟨v1, v2, F1, F2, rfl, rfl, hx, hxs⟩ := h
    rcases List.mem_append.1 hb with hb | hb
    · exact TL.lt x v1 F1 hx b hb
    · exact TLL.lt xs v2 F2 hxs b hb
end
theorem ObjR.lt {hd : Nat → Value} {n : Nat} {w : World} {I : Nat → Prop} : ∀ {o : Ob} {h : Value} {F : List Nat}, ObjR hd n w I o h F → ∀ b ∈ F, b < w.heap.size
  | .slice sz es, h, F, hr, b, hb => T.lt _ _ _ hr b hb
  | .var cs, h, F, hr, b, hb => by
    obtain ⟨b0, cur, e, rfl, hh, _, rfl⟩ := hr
    simp at hb; subst hb; exact lt_of_heap hh
theorem eqs_hget : True := by
  have := @hget.eq_1
  trivial
theorem eqs_hset : True := by
  have := @hset.eq_1
  trivial
end Go.Proofs.YtlddjlchgibdfaaDoor.X
