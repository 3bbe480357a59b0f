import Derived.Test.YtlddjlchgibdfaaDoorXSt
set_option linter.unusedVariables false
set_option linter.unusedSimpArgs false
namespace Go.Proofs.YtlddjlchgibdfaaDoor.X
open Go

def St.put (s : St) (dst : Option Nat) (v : AV) : St := ⟨match dst with | some d => s.tmps.set d v | none => s.tmps, s.heap, s.next⟩

/-- From one world to the next: what is frozen stays, ids keep their heads. -/
structure Fr (I I' : Nat → Prop) (n n' : Nat) (hd hd' : Nat → Value) (w w' : World) : Prop where
  le : n ≤ n'
  im : ∀ b, I b → I' b ∧ w'.heap[b]? = w.heap[b]?
  hds : ∀ id, id < n → ∀ sub v, HdOf hd w id sub v → HdOf hd' w' id sub v
theorem Fr.refl (I : Nat → Prop) (n : Nat) (hd : Nat → Value) (w : World) : Fr I I n n hd hd w w := ⟨Nat.le_refl _, fun _ h => ⟨h, rfl⟩, fun _ _ _ _ h => h⟩
theorem Fr.trans {I I' I2 : Nat → Prop} {n n' n2 : Nat} {hd hd' hd2 : Nat → Value} {w w' w2 : World} (h : Fr I I' n n' hd hd' w w') (k : Fr I' I2 n' n2 hd' hd2 w' w2) : Fr I I2 n n2 hd hd2 w w2 :=
  ⟨Nat.le_trans h.le k.le, fun b hb => ⟨(k.im b (h.im b hb).1).1, (k.im b (h.im b hb).1).2.trans (h.im b hb).2⟩, fun id hid sub v hv => k.hds id (Nat.lt_of_lt_of_le hid h.le) sub v (h.hds id hid sub v hv)⟩

section
variable {I I' : Nat → Prop} {n n' : Nat} {hd hd' : Nat → Value} {w w' : World} (fr : Fr I I' n n' hd hd' w w')
include fr
theorem Fr.S {x : AV} {v : Value} (h : S hd n w I x v) : X.S hd' n' w' I' x v := S.frame fr.le fr.im fr.hds x v h
theorem Fr.SL {x : List AV} {v : List Value} (h : SL hd n w I x v) : X.SL hd' n' w' I' x v := SL.frame fr.le fr.im fr.hds x v h
theorem Fr.T {x : AV} {v : Value} {F : List Nat} (h : T w I x v F) (hF : ∀ b ∈ F, w'.heap[b]? = w.heap[b]?) : X.T w' I' x v F := T.frame fr.im x v F h hF
theorem Fr.O {o : Ob} {v : Value} {F : List Nat} (h : ObjR hd n w I o v F) (hF : ∀ b ∈ F, w'.heap[b]? = w.heap[b]?) : ObjR hd' n' w' I' o v F := by
  cases o with
  | slice sz es => exact fr.T h hF
  | var cs =>
    obtain ⟨b, cur, e, rfl, hh, hs, rfl⟩ := h
    exact ⟨b, cur, e, rfl, (hF b (by simp)).trans hh, fr.SL hs, rfl⟩
end

theorem getD_set_eq {α : Type} (l : List α) (d : Nat) (v x : α) (t : Nat) : (l.set d v).getD t x = if d = t ∧ d < l.length then v else l.getD t x := by
  simp only [List.getD_eq_getElem?_getD, List.getElem?_set]
  by_cases h : d = t
  · subst h
    by_cases hl : d < l.length
    · simp [hl]
    · simp [hl]
  · simp [h]
theorem agetD_set_eq (l : Array Value) (d : Nat) (v x : Value) (t : Nat) : (l.setIfInBounds d v).getD t x = if d = t ∧ d < l.size then v else l.getD t x := by
  simp only [Array.getD_eq_getD_getElem?, Array.getElem?_setIfInBounds]
  by_cases h : d = t
  · subst h
    by_cases hl : d < l.size
    · simp [hl]
    · simp [hl]
  · simp [h]

section
variable {G : Glo} {M I : Nat → Prop} {s : St} {hd : Nat → Value} {Fp : Nat → List Nat} {a : Act} {w : World}
/-- A slot gets a value. -/
theorem SR.put (h : SR G M I s hd Fp a w) (dst : Option Nat) {av : AV} {v : Value} (hv : S hd s.next w I av v) : SR G M I (s.put dst av) hd Fp (a.put dst v) w := by
  cases dst with
  | none => exact h
  | some d =>
    refine ⟨h.heap, by simp [St.put, Act.put, h.len], fun t => ?_, h.defers⟩
    simp only [St.put, Act.put, getD_set_eq, agetD_set_eq]
    have hl := h.len
    by_cases hc : d = t ∧ d < s.tmps.length
    · rw [if_pos hc, if_pos ⟨hc.1, by omega⟩]
      exact hv
    · rw [if_neg hc, if_neg (fun hx => hc ⟨hx.1, by omega⟩)]
      exact h.slots t
/-- Another heap, another world: the slots follow. -/
theorem SR.move (h : SR G M I s hd Fp a w) {M' I' : Nat → Prop} {h' : Heap} {n' : Nat} {hd' : Nat → Value} {Fp' : Nat → List Nat} {w' : World} (hr : HR G M' I' h' n' hd' Fp' w') (fr : Fr I I' s.next n' hd hd' w w') :
    SR G M' I' ⟨s.tmps, h', n'⟩ hd' Fp' a w' :=
  ⟨hr, h.len, fun t => fr.S (h.slots t), h.defers⟩
end

section
variable {G : Glo} {M I : Nat → Prop} {h : Heap} {n : Nat} {hd : Nat → Value} {Fp : Nat → List Nat} {w w' : World}
theorem HR.ltB (hr : HR G M I h n hd Fp w) {id : Nat} {o : Ob} (ho : hget h id = some o) : ∀ b ∈ Fp id, b < w.heap.size := (hr.obj id o ho).lt
/-- The blocks that are named. -/
theorem HR.fr (hr : HR G M I h n hd Fp w) (hs : w.heap.size ≤ w'.heap.size) (hb : ∀ b, b < w.heap.size → w'.heap[b]? = w.heap[b]?) : Fr I I n n hd hd w w' := by
  refine ⟨Nat.le_refl _, fun b hx => ⟨hx, hb b (hr.imm b hx).1⟩, ?_⟩
  intro id _ sub v hx
  cases sub with
  | none => exact hx
  | some p =>
    obtain ⟨szo, i, c⟩ := p
    simp only [HdOf] at hx ⊢
    obtain ⟨hsl, b, o, hbo, hc⟩ := hx
    exact ⟨hsl, b, o, hbo, (World.cell?_of_block (a := ⟨b, o + (i * szo + c), none⟩) (hb b (World.block_lt_of_cell? w _ hc))).trans hc⟩
/-- The world draws, or grows by blocks that nobody names. -/
theorem HR.grown (hr : HR G M I h n hd Fp w) (hs : w.heap.size ≤ w'.heap.size) (hb : ∀ b, b < w.heap.size → w'.heap[b]? = w.heap[b]?) : HR G M I h n hd Fp w' := by
  have fr := hr.fr hs hb
  refine ⟨fun id o ho => fr.O (hr.obj id o ho) (fun b hb' => hb b (hr.ltB ho b hb')), fun b hx => ⟨Nat.lt_of_lt_of_le (hr.imm b hx).1 hs, (hr.imm b hx).2⟩, hr.nodup, hr.disj, hr.mine, hr.next,
    fun b hx => hr.news b (Nat.le_trans hs hx), fun g cs hg => fr.T (hr.glo g cs hg) (by simp)⟩

def upd {α : Type} (f : Nat → α) (i : Nat) (v : α) : Nat → α := fun j => if i = j then v else f j
@[simp] theorem upd_same {α : Type} (f : Nat → α) (i : Nat) (v : α) : upd f i v i = v := by simp [upd]
theorem upd_ne {α : Type} (f : Nat → α) {i j : Nat} (v : α) (h : i ≠ j) : upd f i v j = f j := by simp [upd, h]

/-- A new id keeps what is known of the others. -/
theorem Fr.new (I : Nat → Prop) (n : Nat) (hd : Nat → Value) (w : World) (v : Value) : Fr I I n (n + 1) hd (upd hd n v) w w := by
  refine ⟨Nat.le_succ _, fun b hb => ⟨hb, rfl⟩, fun id hid sub u hu => ?_⟩
  have e : (upd hd n v) id = hd id := upd_ne _ _ (by omega)
  cases sub with
  | none => simp only [HdOf] at hu ⊢; rw [e]; exact hu
  | some p => obtain ⟨x, y, z⟩ := p; simp only [HdOf] at hu ⊢; rw [e]; exact hu

/-- A further object, of blocks that no other has. -/
theorem HR.add (hr : HR G M I h n hd Fp w) (o : Ob) (v : Value) (F : List Nat) (hF : F.Nodup) (hM : ∀ b ∈ F, M b) (hI : ∀ b ∈ F, ¬ I b) (hd0 : ∀ id u, hget h id = some u → ∀ b ∈ Fp id, b ∉ F)
    (ho : ∀ hd', (∀ id, id < n → hd' id = hd id) → ObjR hd' (n + 1) w I o v F) :
    HR G M I ((n, o) :: h) (n + 1) (upd hd n v) (upd Fp n F) w := by
  have fr := Fr.new I n hd w v
  refine ⟨fun id u hu => ?_, fun b hb => ⟨(hr.imm b hb).1, fun id u hu => ?_⟩, fun id u hu => ?_, fun id u id' u' hu hu' hne => ?_, fun id u hu b hbm => ?_, fun id u hu => ?_, hr.news, hr.glo⟩
  · by_cases hid : n = id
    · subst hid
      simp only [hget, if_true, Option.some.injEq] at hu
      subst hu
      simp only [upd_same]
      exact ho _ (fun id hlt => upd_ne _ _ (by omega))
    · simp only [hget, hid, if_false] at hu
      rw [upd_ne _ _ hid, upd_ne _ _ hid]
      exact fr.O (hr.obj id u hu) (fun _ _ => rfl)
  · by_cases hid : n = id
    · subst hid; simp only [upd_same]; exact fun hm => hI b hm hb
    · simp only [hget, hid, if_false] at hu
      rw [upd_ne _ _ hid]; exact (hr.imm b hb).2 id u hu
  · by_cases hid : n = id
    · subst hid; simp only [upd_same]; exact hF
    · simp only [hget, hid, if_false] at hu
      rw [upd_ne _ _ hid]; exact hr.nodup id u hu
  · intro b hb1
    by_cases hid : n = id
    · subst hid
      have hid' : n ≠ id' := hne
      simp only [hget, hid', if_false] at hu'
      rw [upd_ne _ _ hid']
      simp only [upd_same] at hb1
      exact fun hb2 => hd0 id' u' hu' b hb2 hb1
    · simp only [hget, hid, if_false] at hu
      rw [upd_ne _ _ hid] at hb1
      by_cases hid' : n = id'
      · subst hid'
        simp only [upd_same]
        exact hd0 id u hu b hb1
      · simp only [hget, hid', if_false] at hu'
        rw [upd_ne _ _ hid']
        exact hr.disj id u id' u' hu hu' hne b hb1
  · by_cases hid : n = id
    · subst hid; simp only [upd_same] at hbm; exact hM b hbm
    · simp only [hget, hid, if_false] at hu
      rw [upd_ne _ _ hid] at hbm
      exact hr.mine id u hu b hbm
  · by_cases hid : n = id
    · omega
    · simp only [hget, hid, if_false] at hu
      have := hr.next id u hu
      omega

/-- An object is forgotten. -/
theorem HR.del (hr : HR G M I h n hd Fp w) (id : Nat) : HR G M I (hdel h id) n hd Fp w := by
  have hg : ∀ j u, hget (hdel h id) j = some u → hget h j = some u := by
    intro j u hu
    rw [hget_del] at hu
    split at hu
    · cases hu
    · exact hu
  exact ⟨fun j u hu => hr.obj j u (hg j u hu), fun b hb => ⟨(hr.imm b hb).1, fun j u hu => (hr.imm b hb).2 j u (hg j u hu)⟩, fun j u hu => hr.nodup j u (hg j u hu),
    fun j u j' u' hu hu' => hr.disj j u j' u' (hg j u hu) (hg j' u' hu'), fun j u hu => hr.mine j u (hg j u hu), fun j u hu => hr.next j u (hg j u hu), hr.news, hr.glo⟩

/-- The blocks of nobody are frozen. -/
theorem HR.freeze (hr : HR G M I h n hd Fp w) (F : List Nat) (hlt : ∀ b ∈ F, b < w.heap.size) (hno : ∀ id u, hget h id = some u → ∀ b ∈ Fp id, b ∉ F) : HR G M (fun b => I b ∨ b ∈ F) h n hd Fp w := by
  have fr : Fr I (fun b => I b ∨ b ∈ F) n n hd hd w w := ⟨Nat.le_refl _, fun b hb => ⟨.inl hb, rfl⟩, fun _ _ _ _ h => h⟩
  refine ⟨fun j u hu => fr.O (hr.obj j u hu) (fun _ _ => rfl), fun b hb => ?_, hr.nodup, hr.disj, hr.mine, hr.next, hr.news, fun g cs hg => fr.T (hr.glo g cs hg) (by simp)⟩
  rcases hb with hb | hb
  · exact hr.imm b hb
  · exact ⟨hlt b hb, fun id o ho hm => hno id o ho b hm hb⟩

/-- An object changes: its blocks F may be others; w' is w but for blocks that are the object's. -/
theorem HR.setG (hr : HR G M I h n hd Fp w) {id : Nat} {o : Ob} (ho : hget h id = some o) (o' : Ob) (hs : w'.heap.size = w.heap.size) (F : List Nat) (hF : F.Nodup) (hM : ∀ b ∈ F, M b) (hI : ∀ b ∈ F, ¬ I b)
    (hD : ∀ j u, hget h j = some u → j ≠ id → ∀ b ∈ Fp j, b ∉ F)
    (hobj : ∀ j u, hget h j = some u → j ≠ id → ObjR hd n w' I u (hd j) (Fp j)) (hglo : ∀ g cs, G g = some cs → T w' I (.pf cs) (.pointer (some ⟨g, 0, none⟩)) []) (hno : ObjR hd n w' I o' (hd id) F) :
    HR G M I (hset h id o') n hd (upd Fp id F) w' := by
  have hg : ∀ j u, hget (hset h id o') j = some u → (j = id ∧ u = o') ∨ (j ≠ id ∧ hget h j = some u) := by
    intro j u hu
    rw [hget_set] at hu
    by_cases hj : id = j
    · subst hj; simp [ho] at hu; exact .inl ⟨rfl, hu.symm⟩
    · simp only [hj, if_false] at hu; exact .inr ⟨Ne.symm hj, hu⟩
  refine ⟨fun j u hu => ?_, fun b hx => ⟨by rw [hs]; exact (hr.imm b hx).1, fun j u hu => ?_⟩, fun j u hu => ?_, fun j u j' u' hu hu' hne => ?_, fun j u hu b hbm => ?_, fun j u hu => ?_, fun b hx => hr.news b (by rw [hs] at hx; exact hx),
    hglo⟩
  · rcases hg j u hu with ⟨rfl, rfl⟩ | ⟨hj, hu⟩
    · simp only [upd_same]; exact hno
    · rw [upd_ne _ _ (Ne.symm hj)]
      exact hobj j u hu hj
  · rcases hg j u hu with ⟨rfl, rfl⟩ | ⟨hj, hu⟩
    · simp only [upd_same]; exact fun hm => hI b hm hx
    · rw [upd_ne _ _ (Ne.symm hj)]; exact (hr.imm b hx).2 j u hu
  · rcases hg j u hu with ⟨rfl, rfl⟩ | ⟨hj, hu⟩
    · simp only [upd_same]; exact hF
    · rw [upd_ne _ _ (Ne.symm hj)]; exact hr.nodup j u hu
  · rcases hg j u hu with ⟨rfl, rfl⟩ | ⟨hj, hu2⟩
    · rcases hg j' u' hu' with ⟨rfl, rfl⟩ | ⟨hj', hu3⟩
      · exact absurd rfl hne
      · simp only [upd_same]; rw [upd_ne _ _ (Ne.symm hj')]
        exact fun b hb1 hb2 => hD j' u' hu3 hj' b hb2 hb1
    · rw [upd_ne _ _ (Ne.symm hj)]
      rcases hg j' u' hu' with ⟨rfl, rfl⟩ | ⟨hj', hu3⟩
      · simp only [upd_same]; exact fun b hb1 hm => hD j u hu2 hj b hb1 hm
      · rw [upd_ne _ _ (Ne.symm hj')]; exact hr.disj j u j' u' hu2 hu3 hne
  · rcases hg j u hu with ⟨rfl, rfl⟩ | ⟨hj, hu⟩
    · simp only [upd_same] at hbm; exact hM b hbm
    · rw [upd_ne _ _ (Ne.symm hj)] at hbm; exact hr.mine j u hu b hbm
  · rcases hg j u hu with ⟨rfl, rfl⟩ | ⟨hj, hu⟩
    · exact hr.next _ o ho
    · exact hr.next j u hu
/-- An object changes: its blocks F may be others; w' is w but for blocks that are the object's. -/
theorem HR.set (hr : HR G M I h n hd Fp w) {id : Nat} {o : Ob} (ho : hget h id = some o) (o' : Ob) (hs : w'.heap.size = w.heap.size) (F : List Nat) (hF : F.Nodup) (hM : ∀ b ∈ F, M b) (hI : ∀ b ∈ F, ¬ I b)
    (hD : ∀ j u, hget h j = some u → j ≠ id → ∀ b ∈ Fp j, b ∉ F) (hb : ∀ b, b ∉ Fp id → w'.heap[b]? = w.heap[b]?)
    (fr : Fr I I n n hd hd w w') (hno : ObjR hd n w' I o' (hd id) F) : HR G M I (hset h id o') n hd (upd Fp id F) w' :=
  hr.setG ho o' hs F hF hM hI hD (fun j u hu hj => fr.O (hr.obj j u hu) (fun b hb' => hb b (hr.disj j u id o hu ho hj b hb'))) (fun g cs hg => fr.T (hr.glo g cs hg) (by simp)) hno
theorem HR.notI (hr : HR G M I h n hd Fp w) {id : Nat} {o : Ob} (ho : hget h id = some o) : ∀ b ∈ Fp id, ¬ I b := fun b hb hx => (hr.imm b hx).2 id o ho hb
end
end Go.Proofs.YtlddjlchgibdfaaDoor.X
