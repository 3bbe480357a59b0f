import Derived.Test.YtlddjlchgibdfaaDoorXStore3
set_option linter.unusedVariables false
set_option linter.unusedSimpArgs false
namespace Go.Proofs.YtlddjlchgibdfaaDoor.X
open Go

def allScs : List (List AV) → Bool
  | [] => true
  | e :: es => allSc e && allScs es
/-- What is appended to; what is left of the heap. -/
def appX (P : Program) (h : Heap) (sz : Nat) : AV → Option (List (List AV) × Heap)
  | .nil => some ([], h)
  | .ref id none sz' off len => match hget h id with
    | some (.slice sz2 es) => if sz' = sz2 ∧ sz' = sz then some ((es.drop off).take len, hdel h id) else none
    | _ => none
  | _ => none
def appY (P : Program) (h : Heap) (sz : Nat) (tx : TypeId) : AV → Option (List (List AV) × Heap)
  | .nil => match tk P tx with | .slice _ => some ([], h) | _ => none
  | .ref id sub sz' off len => match tk P tx, getS h id sub with
    | .slice _, some (sz2, es) => if sz' = sz2 ∧ sz' = sz then (if allScs ((es.drop off).take len) then some ((es.drop off).take len, h) else match sub with | none => some ((es.drop off).take len, hdel h id) | some _ => none) else none
    | _, _ => none
  | .sl es => match tk P tx with | .slice _ => if es.all (fun e => e.length == sz) then some (es, h) else none | _ => none
  | .str s => match tk P tx with | .str => if sz = 1 then some (s.data.toList.map fun b => [.int .u8 b.toNat], h) else none | _ => none
  | _ => none
def appendK (P : Program) (s : St) (t tx : TypeId) (x y : AV) (K : AV → St → Prop) : Prop :=
  match tk P t with
  | .slice e => szOf P e ≠ 0 ∧ byOf P e ≠ 0 ∧ (zeroCells P e).map (·.length) = some (szOf P e) ∧ match appX P s.heap (szOf P e) x with
    | some (es1, h1) => match appY P h1 (szOf P e) tx y with
      | some (es2, h2) => (es1.length + es2.length) * byOf P e ≤ 140737488355328 ∧
        K (.ref s.next none (szOf P e) 0 (es1.length + es2.length)) (killSt ⟨s.tmps, (s.next, .slice (szOf P e) (es1 ++ es2)) :: h2, s.next + 1⟩)
      | none => False
    | none => False
  | _ => False

theorem TL.sc {w w' : World} {I I' : Nat → Prop} : ∀ {xs : List AV} {vs : List Value} {F : List Nat}, allSc xs = true → TL w I xs vs F → TL w' I' xs vs []
  | [], vs, F, _, h => by simp only [TL] at h ⊢; exact ⟨h.1, trivial⟩
  | x :: xs, vs, F, hs, h => by
    simp only [allSc, Bool.and_eq_true] at hs
    simp only [TL] at h ⊢
    obtain ⟨v, vs', F1, F2, rfl, rfl, h1, hx, hxs⟩ := h
    refine ⟨v, vs', [], [], rfl, rfl, h1, ?_, TL.sc hs.2 hxs⟩
    have := hs.1
    cases x <;> simp [isSc] at this <;> simp only [T] at hx ⊢ <;> exact ⟨hx.1, trivial⟩
theorem TLL.sc {w w' : World} {I I' : Nat → Prop} : ∀ {xs : List (List AV)} {vs : List Value} {F : List Nat}, allScs xs = true → TLL w I xs vs F → TLL w' I' xs vs []
  | [], vs, F, _, h => by simp only [TLL] at h ⊢; exact ⟨h.1, trivial⟩
  | x :: xs, vs, F, hs, h => by
    simp only [allScs, Bool.and_eq_true] at hs
    simp only [TLL] at h ⊢
    obtain ⟨v1, v2, F1, F2, rfl, rfl, hx, hxs⟩ := h
    exact ⟨v1, v2, [], [], rfl, rfl, hx.sc hs.1, hxs.sc hs.2⟩

theorem run_append_room_row {P : Program} {w : World} (t tx ty e : TypeId) (i : TypeInfo) (ht : P.underlying t = some (.slice e)) (hi : P.info? e = some i) (b off sLen sCap : Nat) (x : Value) (n : Nat) (news : List Value) (hs : Src P i.size tx x n news w)
    {cur : Array Value} {te : TypeId} (hh : w.heap[b]? = some (.cells cur te (0, 0))) (hroom : sLen + n ≤ sCap) (hfit : off + sLen * i.size + news.length ≤ cur.size) :
    (Builtin.append_ #[t, tx] ty #[.slice (some ⟨b, off, none⟩) sLen sCap, x]).run P w = .ok (.slice (some ⟨b, off, none⟩) (sLen + n) sCap) (w.setRow b (setsA cur.toList (off + sLen * i.size) news).toArray) := by
  have hst := run_storeCells_at P b (off + sLen * i.size) te news 0 cur w hh (by simpa using hfit) hs.one
  simp only [Nat.add_zero] at hst
  rw [← setsA_eq _ _ _ (by simpa using hfit)] at hst
  rcases hs.kind with ⟨e', hk⟩ | hk <;> simp [Builtin.append_, run_underlying ht, run_underlying hk, sizeOf, typeInfo, hi, hs.len, hroom, hs.cells, addr_add, hst]

section
variable {P : Program} {w : World} {I : Nat → Prop}
theorem src_at {sz : Nat} {tx e' : TypeId} (hk : P.underlying tx = some (.slice e')) {b o n c : Nat} {vs : List Value} (hat : At w b o vs) (hl : vs.length = n * sz) (h1 : ∀ u ∈ vs, u.oneCell' = true) : Src P sz tx (.slice (some ⟨b, o, none⟩) n c) n vs w :=
  Src.ofSlice w hk ⟨b, o, none⟩ n c vs hl (fun j u hu => by rw [addr_add]; exact hat j u hu) h1
theorem src_empty {sz : Nat} {tx e' : TypeId} (hk : P.underlying tx = some (.slice e')) (A : Option Addr) (c : Nat) : Src P sz tx (.slice A 0 c) 0 [] w := by
  cases A with
  | none => exact Src.ofNil w hk c
  | some a => exact Src.ofSlice w hk a 0 c [] (by simp) (by simp) (by simp)
theorem src_ow {sz : Nat} {tx e' : TypeId} (hk : P.underlying tx = some (.slice e')) {es : List (List AV)} {v : Value} {F : List Nat} (h : T w I (.ow sz es) v F) :
    ∃ news F', Src P sz tx v es.length news w ∧ TLL w I es news F' ∧ F'.Sublist F ∧ Each sz es := by
  simp only [T] at h
  rcases h with ⟨rfl, ⟨A, rfl⟩, rfl⟩ | ⟨b, o, c, cur, e, vs, Fs, rfl, hh, hc, hm, ho, hE, rfl, ht, rfl⟩
  · exact ⟨[], [], src_empty hk A 0, by simp [TLL], List.Sublist.refl _, trivial⟩
  · exact ⟨_, Fs, src_at hk (at_row hh) (ht.length hE) ht.ones, ht, List.sublist_cons_self _ _, hE⟩
theorem src_sl {sz : Nat} {tx e' : TypeId} (hk : P.underlying tx = some (.slice e')) {es : List (List AV)} {v : Value} (hE : ∀ e ∈ es, e.length = sz) (h : T w I (.sl es) v []) :
    ∃ news, Src P sz tx v es.length news w ∧ TLL w I es news [] := by
  simp only [T] at h
  obtain ⟨_, A, c, rfl, hc, hm, h⟩ := h
  rcases h with rfl | ⟨b, o, sz', vs, rfl, hb, hE', hat, ht⟩
  · exact ⟨[], src_empty hk A c, by simp [TLL]⟩
  · cases es with
    | nil => exact ⟨[], src_empty hk _ c, by simp [TLL]⟩
    | cons e0 es0 =>
      have : sz' = sz := by rw [← hE e0 (by simp)]; exact hE'.1.symm
      subst this
      exact ⟨vs, src_at hk hat (ht.length hE') ht.ones, ht⟩
theorem bytes_TLL (s : List UInt8) : TLL w I (s.map fun b => [.int .u8 b.toNat]) (s.map fun b => Value.int .u8 b.toNat) [] := by
  induction s with
  | nil => simp [TLL]
  | cons b s ih =>
    simp only [List.map_cons, TLL]
    exact ⟨[_], _, [], [], rfl, rfl, by simp only [TL, T]; exact ⟨_, _, [], [], rfl, rfl, rfl, ⟨rfl, rfl⟩, rfl, rfl⟩, ih⟩
end

section
variable {P : Program} {G : Glo} {M I : Nat → Prop} {s : St} {hd : Nat → Value} {Fp : Nat → List Nat} {a : Act} {w w' : World}
theorem appX_sound {h h1 : Heap} {n : Nat} (hr : HR G M I h n hd Fp w) {sz : Nat} {x : AV} {v : Value} {es1 : List (List AV)} (hx : S hd n w I x v) (hk : appX P h sz x = some (es1, h1)) :
    ∃ F, HR G M I h1 n hd Fp w ∧ T w I (.ow sz es1) v F ∧ Free M I h1 Fp F ∧ Sub h1 h ∧ (∀ b ∈ F, b < w.heap.size) ∧ (∀ id, x ≠ .nil → hget h1 id = some (.var []) → True) := by
  unfold appX at hk
  split at hk
  · simp only [Option.some.injEq, Prod.mk.injEq] at hk
    obtain ⟨rfl, rfl⟩ := hk
    simp only [S] at hx
    exact ⟨[], hr, by simp only [T]; exact .inl ⟨trivial, ⟨_, hx⟩, trivial⟩, Free.nil _ _ _ _, Sub.refl _, by simp, fun _ _ _ => trivial⟩
  · rename_i id sz' off len
    split at hk
    · rename_i sz2 es ho
      split at hk
      · rename_i hsz
        obtain ⟨rfl, rfl⟩ := hsz
        simp only [Option.some.injEq, Prod.mk.injEq] at hk
        obtain ⟨rfl, rfl⟩ := hk
        simp only [S, HdOf] at hx
        obtain ⟨hid, hv, rfl, hw⟩ := hx
        obtain ⟨F', hT, hs, _⟩ := ow_win (hr.obj id _ ho) hw
        exact ⟨F', hr.del id, hT, (hr.freed ho).sub hs, Sub.del h id, fun b hb => hr.ltB ho b (hs.subset hb), fun _ _ _ => trivial⟩
      · cases hk
    · cases hk
  · cases hk
theorem appY_sound {h h2 : Heap} {n : Nat} (hr : HR G M I h n hd Fp w) {sz : Nat} {tx : TypeId} {y : AV} {v : Value} {es2 : List (List AV)} (hy : S hd n w I y v) (hk : appY P h sz tx y = some (es2, h2)) :
    ∃ F news, HR G M I h2 n hd Fp w ∧ Src P sz tx v es2.length news w ∧ TLL w I es2 news F ∧ Free M I h2 Fp F ∧ Sub h2 h ∧ (∀ b ∈ F, b < w.heap.size ∧ ∃ id o, hget h id = some o ∧ b ∈ Fp id) ∧ Each sz es2 := by
  unfold appY at hk
  split at hk
  · split at hk
    · rename_i e' ht
      simp only [Option.some.injEq, Prod.mk.injEq] at hk
      obtain ⟨rfl, rfl⟩ := hk
      simp only [S] at hy
      subst hy
      exact ⟨[], [], hr, src_empty (tk_slice ht) _ _, by simp [TLL], Free.nil _ _ _ _, Sub.refl _, by simp, trivial⟩
    · cases hk
  · rename_i id sub sz' off len
    split at hk
    · rename_i e' sz2 es ht hg
      split at hk
      · rename_i hsz
        obtain ⟨rfl, rfl⟩ := hsz
        obtain ⟨hv', F, ob, ho, hh', hT, hsub⟩ := getS_sound hr hg
        simp only [S] at hy
        obtain ⟨hid, hv, hh, hw⟩ := hy
        obtain rfl := HdOf.uniq hh hh'
        obtain ⟨F', hT2, hs2, hlen⟩ := ow_win hT hw
        obtain ⟨news, F2, hsrc, htll, hs3, hE⟩ := src_ow (P := P) (tk_slice ht) hT2
        split at hk
        · rename_i hsc
          simp only [Option.some.injEq, Prod.mk.injEq] at hk
          obtain ⟨rfl, rfl⟩ := hk
          exact ⟨[], news, hr, hsrc, htll.sc hsc, Free.nil _ _ _ _, Sub.refl _, by simp, hE⟩
        · split at hk
          · simp only [Option.some.injEq, Prod.mk.injEq] at hk
            obtain ⟨rfl, rfl⟩ := hk
            have hss := (hs3.trans hs2).trans hsub
            exact ⟨F2, news, hr.del id, hsrc, htll, (hr.freed ho).sub hss, Sub.del h id, fun b hb => ⟨hr.ltB ho b (hss.subset hb), id, ob, ho, hss.subset hb⟩, hE⟩
          · cases hk
      · cases hk
    · cases hk
  · rename_i es
    split at hk
    · rename_i e' ht
      split at hk
      · rename_i hall
        simp only [Option.some.injEq, Prod.mk.injEq] at hk
        obtain ⟨rfl, rfl⟩ := hk
        simp only [S] at hy
        have hE : ∀ e ∈ es, e.length = sz := by simpa using hall
        obtain ⟨news, h1, h2⟩ := src_sl (P := P) (tk_slice ht) hE hy
        exact ⟨[], news, hr, h1, h2, Free.nil _ _ _ _, Sub.refl _, by simp, Each.of_mem hE⟩
      · cases hk
    · cases hk
  · rename_i s
    split at hk
    · rename_i ht
      split at hk
      · rename_i hsz
        subst hsz
        simp only [Option.some.injEq, Prod.mk.injEq] at hk
        obtain ⟨rfl, rfl⟩ := hk
        simp only [S] at hy
        subst hy
        have hsz : (s.data.toList.map fun b => [AV.int .u8 b.toNat]).length = s.size := by
          rw [List.length_map, Array.length_toList]; rfl
        refine ⟨[], byteCells s, hr, by rw [hsz]; exact Src.ofString w (tk_str ht) s, bytes_TLL _, Free.nil _ _ _ _, Sub.refl _, by simp, Each.of_mem fun e he => ?_⟩
        obtain ⟨b, _, rfl⟩ := List.mem_map.1 he
        rfl
      · cases hk
    · cases hk
  · cases hk
/-- The world turns in a block of nobody: inner references are forgotten. -/
theorem HR.killTo {h : Heap} {n : Nat} (hr : HR G M I h n hd Fp w) {b : Nat} (hIb : ¬ I b) (hs : w'.heap.size = w.heap.size) (hb : ∀ b', b' ≠ b → w'.heap[b']? = w.heap[b']?) (hno : ∀ id o, hget h id = some o → b ∉ Fp id) : HR G M I (killH h) n hd Fp w' := by
  have hIm : ∀ b', I b' → I b' ∧ w'.heap[b']? = w.heap[b']? := fun b' hb' => ⟨hb', hb b' (fun e => hIb (e ▸ hb'))⟩
  have hk := hr.kill
  have hg : ∀ j u, hget (killH h) j = some u → ∃ u0, hget h j = some u0 ∧ u = killO u0 := by
    intro j u hu
    rw [hget_kill] at hu
    obtain ⟨u0, h1, h2⟩ := Option.map_eq_some_iff.1 hu
    exact ⟨u0, h1, h2.symm⟩
  refine ⟨fun j u hu => ?_, fun b' hb' => ⟨by rw [hs]; exact (hk.imm b' hb').1, (hk.imm b' hb').2⟩, hk.nodup, hk.disj, hk.mine, hk.next, fun b' hb' => hr.news b' (by rwa [hs] at hb'), fun g cs hg => T.frame hIm _ _ _ (hr.glo g cs hg) (by simp)⟩
  obtain ⟨u0, h1, rfl⟩ := hg j u hu
  have hq := hr.obj j u0 h1
  have hoth : ∀ b' ∈ Fp j, w'.heap[b']? = w.heap[b']? := fun b' hb' => hb b' (fun e => hno j u0 h1 (e ▸ hb'))
  cases u0 with
  | slice sz es => exact T.frame hIm _ _ _ hq hoth
  | var cs =>
    obtain ⟨b0, cur0, e0, g1, g2, g3, g4⟩ := hq
    exact ⟨b0, cur0, e0, g1, (hoth b0 (by rw [g4]; simp)).trans g2, SL.kill (Nat.le_refl _) hIm (fun _ _ => rfl) _ _ g3, g4⟩
theorem Free.kill {h : Heap} {F : List Nat} (f : Free M I h Fp F) : Free M I (killH h) Fp F := by
  refine ⟨f.nodup, f.mine, f.imm, fun id o ho => ?_⟩
  rw [hget_kill] at ho
  obtain ⟨u0, h1, _⟩ := Option.map_eq_some_iff.1 ho
  exact f.disj id u0 h1
theorem killH_cons (n sz : Nat) (es : List (List AV)) (h : Heap) : killH ((n, .slice sz es) :: h) = (n, .slice sz es) :: killH h := rfl

theorem appendK_sound (h : SR G M I s hd Fp a w) {t tx ty : TypeId} {x y : AV} {u v : Value} {K : AV → St → Prop} (hk : appendK P s t tx x y K) (hx : S hd s.next w I x u) (hy : S hd s.next w I y v) :
    ∃ r w', (Builtin.append_ #[t, tx] ty #[u, v]).run P w = .ok r w' ∧ OpRes G M I s hd a w K (.value r) w' := by
  unfold appendK at hk
  split at hk
  · rename_i e ht
    obtain ⟨hz, hby0, hzc, hk⟩ := hk
    split at hk
    · rename_i es1 h1 e1
      split at hk
      · rename_i es2 h2 e2
        obtain ⟨hbytes, hk⟩ := hk
        obtain ⟨zs, hzs, hzl⟩ := Option.map_eq_some_iff.1 hzc
        obtain ⟨i, z, hi, hiz, hzS, _⟩ := zeroCells_some (hd := hd) (I := I) (w := w) hzs s.next
        obtain ⟨i2, hi2, hisz⟩ := szOf_pos hz
        obtain rfl := Option.some.inj (hi.symm.trans hi2)
        have hibt : i.bytes = byOf P e := by simp [byOf, hi]
        obtain ⟨F1, hr1, hT1, hf1, hs1, hlt1, _⟩ := appX_sound h.heap hx e1
        obtain ⟨F2, news, hr2, hsrc, htll, hf2, hs2, hlt2, hE2⟩ := appY_sound hr1 hy e2
        rw [← hisz] at hsrc
        have hlen : es1.length + es2.length ≤ 140737488355328 := Nat.le_trans (Nat.le_mul_of_pos_right _ (by omega)) hbytes
        have hnl := hsrc.newsLen
        -- the empty header, nothing appended
        have hdisj12 : ∀ b ∈ F1, b ∉ F2 := fun b hb1 hb2 => by
          obtain ⟨_, id, o, ho, hb⟩ := hlt2 b hb2
          exact hf1.disj id o ho b hb hb1
        simp only [T] at hT1
        -- a growing append: the row is new
        have grow : ∀ (A : Option Addr) (cap : Nat) (olds : List Value) (Fs1 : List Nat), u = .slice A es1.length cap → cap < es1.length + es2.length → (Builtin.firstCells i.size es1.length (.slice A es1.length cap)).run P w.drew = .ok olds.toArray w.drew →
            TLL w I es1 olds Fs1 → Fs1.Sublist F1 → Each (szOf P e) es1 → olds.length = es1.length * szOf P e → ∃ r w', (Builtin.append_ #[t, tx] ty #[u, v]).run P w = .ok r w' ∧ OpRes G M I s hd a w K (.value r) w' := by
          intro A cap olds Fs1 hu hg hfc htl1 hss hE1 hol
          subst hu
          have hrun := run_append_grow_src (P := P) w t tx ty e i z (tk_slice ht) hi hiz A es1.length cap olds hfc v es2.length news hsrc hg (by omega) (growslice_fits hg (by rw [hibt]; exact hbytes))
          have hge := grownCap_ge w (es1.length + es2.length) cap e
          have hcm := grownCap_le_maxLen w (es1.length + es2.length) cap e (by simp only [maxLen]; omega)
          have hfree : Free M I h2 Fp (Fs1 ++ F2) := by
            have hfa := (hf1.sub hss).less hs2
            refine ⟨List.nodup_append.2 ⟨hfa.nodup, hf2.nodup, ?_⟩, ?_, ?_, ?_⟩
            · rintro b hb b' hb' rfl
              exact hdisj12 b (hss.subset hb) hb'
            · intro b hb; rcases List.mem_append.1 hb with hb | hb
              · exact hfa.mine b hb
              · exact hf2.mine b hb
            · intro b hb; rcases List.mem_append.1 hb with hb | hb
              · exact hfa.imm b hb
              · exact hf2.imm b hb
            · intro id o ho b hb hm; rcases List.mem_append.1 hm with hm | hm
              · exact hfa.disj id o ho b hb hm
              · exact hf2.disj id o ho b hb hm
          have hzsz : z.cells.size = i.size := by
            rw [hisz]
            have e5 := hE2
            have : zs.length = z.cells.size := by have := hzS.length; simpa using this.symm
            rw [← this]
            exact hzl
          have hll : (olds ++ news).length = (es1.length + es2.length) * szOf P e := by rw [List.length_append, hol, hnl, hisz, Nat.add_mul]
          have hfits : grownCap w (es1.length + es2.length) cap e * szOf P e ≤ ((olds ++ news).toArray ++ Builtin.zeroCells z.cells (grownCap w (es1.length + es2.length) cap e - (es1.length + es2.length))).size := by
            simp only [Array.size_append, List.size_toArray, size_zeroCells, hzsz, hll, hisz, ← Nat.add_mul]
            exact Nat.mul_le_mul_right _ (by omega)
          have htake : TLL w I (es1 ++ es2) (((olds ++ news).toArray ++ Builtin.zeroCells z.cells (grownCap w (es1.length + es2.length) cap e - (es1.length + es2.length))).toList.take ((es1.length + es2.length) * szOf P e)) (Fs1 ++ F2) := by
            rw [Array.toList_append, List.take_append_of_le_length (by simp only [List.length_append] at hll ⊢; omega), List.take_of_length_le (by simp only [List.length_append] at hll ⊢; omega)]
            exact htl1.append htll
          obtain ⟨hd', Fp', g1, g2, g3⟩ := h.newSlice hr2 (w.drew.alloc (.cells ((olds ++ news).toArray ++ Builtin.zeroCells z.cells (grownCap w (es1.length + es2.length) cap e - (es1.length + es2.length))) e)) _ e (szOf P e) (es1.length + es2.length)
            (grownCap w (es1.length + es2.length) cap e) (es1 ++ es2) (Fs1 ++ F2) hfree (fun b hb => by
              rcases List.mem_append.1 hb with hb | hb
              · exact hlt1 b (hss.subset hb)
              · exact (hlt2 b hb).1) (by simp) (fun b hb => heap_alloc_old w.drew _ b hb) (heap_alloc_new w.drew _) rfl rfl rfl (by simp) hge hcm hfits (hE1.append hE2) htake
          have hkill := SR.killed g1 g1.heap (Nat.le_refl _) (fun b hb => ⟨hb, rfl⟩) (fun _ _ => rfl)
          exact ⟨_, _, hrun, _, _, _, I, hd', Fp', .inl rfl, hk, g3, hkill, g2, Nat.le_succ _⟩
        rcases hT1 with ⟨rfl, ⟨A, rfl⟩, rfl⟩ | ⟨b, o, cap, cur, te, vs, Fs, rfl, hh, hcap, hmax, hfitc, hE1, rfl, htl1, rfl⟩
        · by_cases hn0 : es2.length = 0
          · -- nothing
            have he2 : es2 = [] := List.eq_nil_of_length_eq_zero hn0
            subst he2
            have hnews : news = [] := List.eq_nil_of_length_eq_zero (by simpa using hnl)
            subst hnews
            have hrun : (Builtin.append_ #[t, tx] ty #[.slice A 0 0, v]).run P w = .ok (.slice A 0 0) w := by
              have hsrc' : Src P i.size tx v 0 [] w := hsrc
              rcases hsrc'.kind with ⟨e', hk'⟩ | hk' <;> cases A <;> simp [Builtin.append_, run_underlying (tk_slice ht), run_underlying hk', sizeOf, typeInfo, hi, hsrc'.len, hsrc'.cells, storeCells]
            have hr3 := hr2.addFree (.slice (szOf P e) []) (.slice A 0 0) [] (Free.nil _ _ _ _) (fun hd' _ => by simp only [ObjR, T]; exact .inl ⟨trivial, ⟨A, rfl⟩, trivial⟩)
            have hfr := Fr.new I s.next hd w (.slice A 0 0)
            have hkill := SR.killed h hr3 hfr.le hfr.im (fun id hid => upd_ne _ _ (by omega))
            refine ⟨_, _, hrun, _, _, _, I, _, _, .inl rfl, hk, ?_, hkill, ⟨Keep.refl _ _, fun b hb => ⟨hb, rfl⟩, fun id hid => upd_ne _ _ (by omega)⟩, by simp [killSt]⟩
            simp only [S, HdOf, killSt]
            exact ⟨Nat.lt_succ_self _, _, rfl, .inr ⟨rfl, A, rfl⟩⟩
          · exact grow A 0 [] [] rfl (by simp; omega) (by
              cases A with
              | none => exact run_firstCells_none _ _ _ _ _
              | some a0 => exact run_firstCells_some _ _ _ _ _ _ [] (by simp) (by simp)) (by simp [TLL]) (List.Sublist.refl _) trivial (by simp)
        · by_cases hroom : es1.length + es2.length ≤ cap
          · -- in place
            have hoff : o + es1.length * szOf P e + news.length ≤ cur.size := by
              have : (es1.length + es2.length) * szOf P e ≤ cap * szOf P e := Nat.mul_le_mul_right _ hroom
              rw [hnl, hisz]
              rw [Nat.add_mul] at this
              omega
            have hrun := run_append_room_row (P := P) t tx ty e i (tk_slice ht) hi b o es1.length cap v es2.length news hsrc hh hroom (by rw [hisz]; exact hoff)
            rw [hisz] at hrun
            have hbF := (List.nodup_cons.1 hf1.nodup)
            have hIb := hf1.imm b (by simp)
            have hother : ∀ b', b' ≠ b → (w.setRow b (setsA cur.toList (o + es1.length * szOf P e) news).toArray).heap[b']? = w.heap[b']? := fun b' hb' => setRow_other w b b' _ hb'
            have hIm : ∀ b', I b' → I b' ∧ (w.setRow b (setsA cur.toList (o + es1.length * szOf P e) news).toArray).heap[b']? = w.heap[b']? := fun b' hb' => ⟨hb', hother b' (fun e => hIb (e ▸ hb'))⟩
            have hf12 := hf1.less hs2
            have hb2 : b ∉ F2 := hdisj12 b (by simp)
            have hr3 := hr2.killTo (w' := w.setRow b (setsA cur.toList (o + es1.length * szOf P e) news).toArray) hIb (setRow_size _ _ _) hother (fun id o ho hm => hf12.disj id o ho b hm (by simp))
            have htl1' := TLL.frame hIm es1 _ Fs htl1 (fun b' hb' => hother b' (fun e => hbF.1 (e ▸ hb')))
            have htl2' := TLL.frame hIm es2 _ F2 htll (fun b' hb' => hother b' (fun e => hb2 (e ▸ hb')))
            have hfree : Free M I (killH h2) Fp (b :: (Fs ++ F2)) := by
              refine Free.kill ⟨?_, ?_, ?_, ?_⟩
              · refine List.nodup_cons.2 ⟨?_, List.nodup_append.2 ⟨hbF.2, hf2.nodup, ?_⟩⟩
                · intro hm; rcases List.mem_append.1 hm with hm | hm
                  · exact hbF.1 hm
                  · exact hb2 hm
                · rintro x hx y hy' rfl
                  exact hdisj12 x (by simp [hx]) hy'
              · intro x hx; simp only [List.mem_cons, List.mem_append] at hx
                rcases hx with rfl | hx | hx
                · exact hf1.mine _ (by simp)
                · exact hf1.mine x (by simp [hx])
                · exact hf2.mine x hx
              · intro x hx; simp only [List.mem_cons, List.mem_append] at hx
                rcases hx with rfl | hx | hx
                · exact hf1.imm _ (by simp)
                · exact hf1.imm x (by simp [hx])
                · exact hf2.imm x hx
              · intro id q hq b2 hxb hm; simp only [List.mem_cons, List.mem_append] at hm
                rcases hm with hm | hm | hm
                · exact hf12.disj id q hq b2 hxb (by simp [hm])
                · exact hf12.disj id q hq b2 hxb (by simp [hm])
                · exact hf2.disj id q hq b2 hxb hm
            have hr4 := hr3.addFree (.slice (szOf P e) (es1 ++ es2)) (.slice (some ⟨b, o, none⟩) (es1.length + es2.length) cap) (b :: (Fs ++ F2)) hfree (fun hd' _ => by
              simp only [ObjR, T]
              refine .inr ⟨b, o, cap, _, te, _, Fs ++ F2, by rw [List.length_append], setRow_heap w b cur _ te _ hh, by rw [List.length_append]; exact hroom, hmax, by simpa [setsA_length] using hfitc, hE1.append hE2, ?_, htl1'.append htl2', rfl⟩
              have hol : ((cur.toList.drop o).take (es1.length * szOf P e)).length = es1.length * szOf P e := htl1.length hE1
              rw [List.length_append, setsA_eq _ _ _ (by simpa using hoff)]
              simp only
              rw [List.append_assoc, List.drop_append_of_le_length (by simp; omega), List.drop_take, show o + es1.length * szOf P e - o = es1.length * szOf P e by omega, ← List.append_assoc]
              rw [List.take_append_of_le_length (by rw [List.length_append, hol, hnl, hisz, Nat.add_mul]; exact Nat.le_refl _)]
              rw [List.take_of_length_le (by rw [List.length_append, hol, hnl, hisz, Nat.add_mul]; exact Nat.le_refl _)])
            have hkill := SR.killedK (h' := (s.next, .slice (szOf P e) (es1 ++ es2)) :: h2) (n' := s.next + 1) h hr4 (Nat.le_succ _) hIm (fun id hid => upd_ne hd (.slice (some ⟨b, o, none⟩) (es1.length + es2.length) cap) (by omega))
            refine ⟨_, _, hrun, _, _, _, I, _, _, .inl rfl, hk, ?_, hkill, ⟨keep_setRow (hf1.mine b (by simp)), hIm, fun id hid => upd_ne _ _ (by omega)⟩, by simp [killSt]⟩
            simp only [S, HdOf, killSt]
            exact ⟨Nat.lt_succ_self _, _, rfl, .inl ⟨b, o, _, cap, cap, by rw [upd_same], by simp, by omega, hroom, by omega⟩⟩
          · exact grow (some ⟨b, o, none⟩) cap _ Fs rfl (by omega) (run_firstCells_some _ _ _ _ _ _ _ (by rw [hisz]; exact htl1.length hE1) (fun j q hq => by rw [addr_add]; exact at_row hh j q hq)) htl1 (List.sublist_cons_self _ _) hE1 (htl1.length hE1)
      · exact hk.elim
    · exact hk.elim
  · exact hk.elim
end
theorem eqs_appX : True := by
  have := @appX.eq_1
  trivial
theorem eqs_appY : True := by
  have := @appY.eq_1
  trivial
theorem eqs_appendK : True := by
  have := @appendK.eq_1
  trivial
end Go.Proofs.YtlddjlchgibdfaaDoor.X
