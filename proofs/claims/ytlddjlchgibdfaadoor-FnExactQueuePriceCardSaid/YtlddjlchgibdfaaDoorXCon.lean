import Derived.Test.YtlddjlchgibdfaaDoorXMem
set_option linter.unusedVariables false
set_option linter.unusedSimpArgs false
namespace Go.Proofs.YtlddjlchgibdfaaDoor.X
open Go

theorem TLL.take {w : World} {I : Nat → Prop} {sz : Nat} : ∀ {es : List (List AV)} {vs : List Value} {F : List Nat} (n : Nat), TLL w I es vs F → Each sz es → ∃ F', TLL w I (es.take n) (vs.take (n * sz)) F' ∧ F'.Sublist F
  | [], vs, F, n, h, _ => by
    simp only [TLL] at h
    obtain ⟨rfl, rfl⟩ := h
    exact ⟨[], by simp [TLL], List.Sublist.refl _⟩
  | e :: es, vs, F, 0, h, _ => ⟨[], by simp [TLL], List.nil_sublist _⟩
  | e :: es, vs, F, n + 1, h, hz => by
    simp only [TLL] at h
    obtain ⟨v1, v2, F1, F2, rfl, rfl, hx, hxs⟩ := h
    obtain ⟨F', hF, hs⟩ := TLL.take n hxs hz.2
    have hl := hx.length
    have h1 := hz.1
    refine ⟨F1 ++ F', ?_, List.Sublist.append_left hs F1⟩
    simp only [List.take_succ_cons, TLL]
    refine ⟨v1, _, F1, F', ?_, rfl, hx, hF⟩
    rw [List.take_append, List.take_of_length_le (by rw [hl, h1, Nat.add_mul]; omega), hl, h1, Nat.add_mul]
    congr 2
    omega
theorem TLL.drop {w : World} {I : Nat → Prop} {sz : Nat} : ∀ {es : List (List AV)} {vs : List Value} {F : List Nat} (n : Nat), TLL w I es vs F → Each sz es → ∃ F', TLL w I (es.drop n) (vs.drop (n * sz)) F' ∧ F'.Sublist F
  | es, vs, F, 0, h, _ => ⟨F, by simpa using h, List.Sublist.refl _⟩
  | [], vs, F, n + 1, h, _ => by
    simp only [TLL] at h
    obtain ⟨rfl, rfl⟩ := h
    exact ⟨[], by simp [TLL], List.Sublist.refl _⟩
  | e :: es, vs, F, n + 1, h, hz => by
    simp only [TLL] at h
    obtain ⟨v1, v2, F1, F2, rfl, rfl, hx, hxs⟩ := h
    obtain ⟨F', hF, hs⟩ := TLL.drop n hxs hz.2
    have hl := hx.length
    have h1 := hz.1
    refine ⟨F', ?_, hs.trans (List.sublist_append_right _ _)⟩
    rw [List.drop_succ_cons, Nat.add_mul, Nat.one_mul, Nat.add_comm, ← List.drop_drop, List.drop_append_of_le_length (by omega), List.drop_eq_nil_of_le (by omega : v1.length ≤ sz), List.nil_append]
    exact hF
theorem TLL.append {w : World} {I : Nat → Prop} : ∀ {es es' : List (List AV)} {vs vs' : List Value} {F F' : List Nat}, TLL w I es vs F → TLL w I es' vs' F' → TLL w I (es ++ es') (vs ++ vs') (F ++ F')
  | [], es', vs, vs', F, F', h, h' => by
    simp only [TLL] at h
    obtain ⟨rfl, rfl⟩ := h
    simpa using h'
  | e :: es, es', vs, vs', F, F', h, h' => by
    simp only [TLL] at h
    obtain ⟨v1, v2, F1, F2, rfl, rfl, hx, hxs⟩ := h
    simp only [List.cons_append, TLL]
    exact ⟨v1, v2 ++ vs', F1, F2 ++ F', by simp, by simp, hx, TLL.append hxs h'⟩
theorem TL.append {w : World} {I : Nat → Prop} : ∀ {es es' : List AV} {vs vs' : List Value} {F F' : List Nat}, TL w I es vs F → TL w I es' vs' F' → TL w I (es ++ es') (vs ++ vs') (F ++ F')
  | [], es', vs, vs', F, F', h, h' => by
    simp only [TL] at h
    obtain ⟨rfl, rfl⟩ := h
    simpa using h'
  | e :: es, es', vs, vs', F, F', h, h' => by
    simp only [TL] at h
    obtain ⟨v, v2, F1, F2, rfl, rfl, h1, hx, hxs⟩ := h
    simp only [List.cons_append, TL]
    exact ⟨v, v2 ++ vs', F1, F2 ++ F', by simp, by simp, h1, hx, TL.append hxs h'⟩

/-- A window of an own slice. -/
theorem ow_win {w : World} {I : Nat → Prop} {sz off len : Nat} {es : List (List AV)} {hv v : Value} {F : List Nat} (h : T w I (.ow sz es) hv F) (hw : Win sz off len hv v) :
    ∃ F', T w I (.ow sz ((es.drop off).take len)) v F' ∧ F'.Sublist F ∧ ((es.drop off).take len).length = len := by
  rcases hw with ⟨b, o, n, c, c', rfl, rfl, h1, h2, h3⟩ | ⟨rfl, A, rfl⟩
  · simp only [T] at h
    rcases h with ⟨rfl, ⟨A, hA⟩, rfl⟩ | ⟨b', o', k, cur, ty, vs, Fs, hs, hh, hc, hm, ho, hz, rfl, ht, rfl⟩
    · simp only [Value.slice.injEq] at hA
      obtain ⟨_, rfl, rfl⟩ := hA
      obtain rfl : len = 0 := by omega
      obtain rfl : c' = 0 := by omega
      exact ⟨[], by simp only [T]; exact .inl ⟨by simp, ⟨_, rfl⟩, trivial⟩, List.Sublist.refl _, by simp⟩
    · simp only [Value.slice.injEq, Option.some.injEq, Addr.mk.injEq] at hs
      obtain ⟨⟨rfl, rfl, _⟩, rfl, rfl⟩ := hs
      obtain ⟨F1, hT1, hs1⟩ := ht.drop off hz
      obtain ⟨F2, hT2, hs2⟩ := hT1.take len (hz.drop off)
      have hl : ((es.drop off).take len).length = len := by simp; omega
      refine ⟨b :: F2, ?_, (hs2.trans hs1).cons_cons _, hl⟩
      simp only [T]
      refine .inr ⟨b, o + off * sz, c', cur, ty, _, F2, by rw [hl], hh, by rw [hl]; exact h2, by omega, ?_, (hz.drop off).take len, ?_, hT2, rfl⟩
      · have : (off + c') * sz ≤ c * sz := Nat.mul_le_mul_right _ h1
        rw [Nat.add_mul] at this
        omega
      · rw [hl, ← List.drop_drop, List.drop_take, List.take_take]
        congr 1
        have : (off + len) * sz ≤ es.length * sz := Nat.mul_le_mul_right _ h3
        rw [Nat.add_mul] at this
        omega
  · exact ⟨[], by simp only [T]; exact .inl ⟨by simp, ⟨_, rfl⟩, trivial⟩, List.nil_sublist _, by simp⟩

/-! ### Handing away -/
def conC (h : Heap) : AV → Option (AV × Heap)
  | .ref id none sz off len => match hget h id with
    | some (.slice sz' es) => if sz = sz' then some (.ow sz ((es.drop off).take len), hdel h id) else none
    | _ => none
  | x => if isF x then some (x, h) else none
def conL (h : Heap) : List AV → Option (List AV × Heap)
  | [] => some ([], h)
  | x :: xs => match conC h x with
    | some (y, h1) => match conL h1 xs with
      | some (ys, h2) => some (y :: ys, h2)
      | none => none
    | none => none

/-- Blocks that are of nobody (any more), and ours to write. -/
structure Free (M I : Nat → Prop) (h : Heap) (Fp : Nat → List Nat) (F : List Nat) : Prop where
  nodup : F.Nodup
  mine : ∀ b ∈ F, M b
  imm : ∀ b ∈ F, ¬ I b
  disj : ∀ id o, hget h id = some o → ∀ b ∈ Fp id, b ∉ F
theorem Free.nil (M I : Nat → Prop) (h : Heap) (Fp : Nat → List Nat) : Free M I h Fp [] := ⟨List.nodup_nil, by simp, by simp, by simp⟩
def Sub (h' h : Heap) : Prop := ∀ id o, hget h' id = some o → hget h id = some o
theorem Sub.refl (h : Heap) : Sub h h := fun _ _ e => e
theorem Sub.trans {h1 h2 h3 : Heap} (a : Sub h1 h2) (b : Sub h2 h3) : Sub h1 h3 := fun id o e => b id o (a id o e)
theorem Sub.del (h : Heap) (id : Nat) : Sub (hdel h id) h := by
  intro j u hu
  rw [hget_del] at hu
  split at hu
  · cases hu
  · exact hu
theorem Free.less {M I : Nat → Prop} {h h' : Heap} {Fp : Nat → List Nat} {F : List Nat} (f : Free M I h Fp F) (s : Sub h' h) : Free M I h' Fp F := ⟨f.nodup, f.mine, f.imm, fun id o ho => f.disj id o (s id o ho)⟩
theorem Free.sub {M I : Nat → Prop} {h : Heap} {Fp : Nat → List Nat} {F F' : List Nat} (f : Free M I h Fp F) (s : F'.Sublist F) : Free M I h Fp F' :=
  ⟨s.nodup f.nodup, fun b hb => f.mine b (s.subset hb), fun b hb => f.imm b (s.subset hb), fun id o ho b hb hm => f.disj id o ho b hb (s.subset hm)⟩

section
variable {G : Glo} {M I : Nat → Prop} {h : Heap} {n : Nat} {hd : Nat → Value} {Fp : Nat → List Nat} {w : World}
theorem HR.freed (hr : HR G M I h n hd Fp w) {id : Nat} {o : Ob} (ho : hget h id = some o) : Free M I (hdel h id) Fp (Fp id) := by
  refine ⟨hr.nodup id o ho, hr.mine id o ho, hr.notI ho, fun j u hu => ?_⟩
  rw [hget_del] at hu
  split at hu
  · cases hu
  · rename_i hj
    exact hr.disj j u id o hu ho (Ne.symm hj)
theorem conC_sound (hr : HR G M I h n hd Fp w) {x y : AV} {h' : Heap} {v : Value} (hx : S hd n w I x v) (hy : conC h x = some (y, h')) :
    ∃ F, HR G M I h' n hd Fp w ∧ T w I y v F ∧ Free M I h' Fp F ∧ Sub h' h ∧ (∀ b ∈ F, ∃ id o, hget h id = some o ∧ b ∈ Fp id) := by
  unfold conC at hy
  split at hy
  · rename_i id sz off len
    split at hy
    · rename_i sz' es ho
      split at hy
      · rename_i hsz
        subst hsz
        simp only [Option.some.injEq, Prod.mk.injEq] at hy
        obtain ⟨rfl, rfl⟩ := hy
        simp only [S, HdOf] at hx
        obtain ⟨hid, hv, rfl, hw⟩ := hx
        obtain ⟨F', hT, hs, _⟩ := ow_win (hr.obj id _ ho) hw
        exact ⟨F', hr.del id, hT, (hr.freed ho).sub hs, Sub.del h id, fun b hb => ⟨id, _, ho, hs.subset hb⟩⟩
      · cases hy
    · cases hy
  · split at hy
    · rename_i hf
      simp only [Option.some.injEq, Prod.mk.injEq] at hy
      obtain ⟨rfl, rfl⟩ := hy
      exact ⟨[], hr, isF_T hf hx, Free.nil _ _ _ _, Sub.refl _, by simp⟩
    · cases hy
theorem conL_sound : ∀ {h : Heap} (hr : HR G M I h n hd Fp w) {xs ys : List AV} {h' : Heap} {vs : List Value} (hx : SL hd n w I xs vs) (hy : conL h xs = some (ys, h')),
    ∃ F, HR G M I h' n hd Fp w ∧ TL w I ys vs F ∧ Free M I h' Fp F ∧ Sub h' h ∧ (∀ b ∈ F, ∃ id o, hget h id = some o ∧ b ∈ Fp id)
  | h, hr, [], ys, h', vs, hx, hy => by
    simp only [conL, Option.some.injEq, Prod.mk.injEq] at hy
    obtain ⟨rfl, rfl⟩ := hy
    simp only [SL] at hx
    subst hx
    exact ⟨[], hr, by simp [TL], Free.nil _ _ _ _, Sub.refl _, by simp⟩
  | h, hr, x :: xs, ys, h', vs, hx, hy => by
    simp only [SL] at hx
    obtain ⟨v, vs', rfl, h1, hxv, hxs⟩ := hx
    simp only [conL] at hy
    split at hy
    · rename_i y h1' e1
      split at hy
      · rename_i ys' h2' e2
        simp only [Option.some.injEq, Prod.mk.injEq] at hy
        obtain ⟨rfl, rfl⟩ := hy
        obtain ⟨F1, hr1, hT1, hf1, hs1, ho1⟩ := conC_sound hr hxv e1
        obtain ⟨F2, hr2, hT2, hf2, hs2, ho2⟩ := conL_sound hr1 hxs e2
        refine ⟨F1 ++ F2, hr2, ?_, ⟨?_, ?_, ?_, ?_⟩, hs2.trans hs1, ?_⟩
        · simp only [TL]
          exact ⟨v, vs', F1, F2, rfl, rfl, h1, hT1, hT2⟩
        · refine List.nodup_append.2 ⟨hf1.nodup, hf2.nodup, ?_⟩
          rintro b hb1 b' hb2 rfl
          obtain ⟨id, o, ho, hb⟩ := ho2 b hb2
          exact hf1.disj id o ho b hb hb1
        · intro b hb
          rcases List.mem_append.1 hb with hb | hb
          · exact hf1.mine b hb
          · exact hf2.mine b hb
        · intro b hb
          rcases List.mem_append.1 hb with hb | hb
          · exact hf1.imm b hb
          · exact hf2.imm b hb
        · intro id o ho b hb hm
          rcases List.mem_append.1 hm with hm | hm
          · exact (hf1.less hs2).disj id o ho b hb hm
          · exact hf2.disj id o ho b hb hm
        · intro b hb
          rcases List.mem_append.1 hb with hb | hb
          · exact ho1 b hb
          · obtain ⟨id, o, ho, hb'⟩ := ho2 b hb
            exact ⟨id, o, hs1 id o ho, hb'⟩
      · cases hy
    · cases hy
/-- What was freed becomes an object. -/
theorem HR.addFree (hr : HR G M I h n hd Fp w) (o : Ob) (v : Value) (F : List Nat) (hf : Free M I h Fp F) (ho : ∀ hd', (∀ id, id < n → hd' id = hd id) → ObjR hd' (n + 1) w I o v F) :
    HR G M I ((n, o) :: h) (n + 1) (upd hd n v) (upd Fp n F) w := hr.add o v F hf.nodup hf.mine hf.imm hf.disj ho
end
end Go.Proofs.YtlddjlchgibdfaaDoor.X
