import Derived.Test.YtlddjlchgibdfaaDoorXStore2
set_option linter.unusedVariables false
set_option linter.unusedSimpArgs false
namespace Go.Proofs.YtlddjlchgibdfaaDoor.X
open Go

def setS (h : Heap) (id : Nat) (sub : Option (Nat × Nat × Nat)) (es' : List (List AV)) : Heap :=
  match sub, hget h id with
  | none, some (.slice sz _) => hset h id (.slice sz es')
  | some (szo, i, c), some (.slice sz es) => match es[i]? with
    | some e => match e[c]? with
      | some (.ow sz' _) => hset h id (.slice sz (es.set i (e.set c (.ow sz' es'))))
      | _ => h
    | none => h
  | _, _ => h

def storeK (P : Program) (s : St) (t : TypeId) (x v : AV) (K : St → Prop) : Prop :=
  match x, cellsV v with
  | .ptr id sub sz i c, some cs => szOf P t ≠ 0 ∧ cs.length = szOf P t ∧ match sub, hget s.heap id with
    | none, some (.var old) => i = 0 ∧ c + cs.length ≤ old.length ∧
      (if allSc ((old.drop c).take cs.length) then K ⟨s.tmps, hset s.heap id (.var (setsA old c cs)), s.next⟩
       else K (killSt ⟨s.tmps, hset s.heap id (.var (setsA old c cs)), s.next⟩))
    | _, _ => match getS s.heap id sub with
      | some (sz', es) => sz' = sz ∧ match es[i]? with
        | some e => c + cs.length ≤ e.length ∧
          (if allSc cs = true ∧ allSc ((e.drop c).take cs.length) = true then K ⟨s.tmps, setS s.heap id sub (es.set i (setsA e c cs)), s.next⟩
           else sub = none ∧ match conL s.heap cs with
             | some (ys, h') => match hget h' id with
               | some (.slice _ _) => K (killSt ⟨s.tmps, hset h' id (.slice sz (es.set i (setsA e c ys))), s.next⟩)
               | _ => False
             | none => False)
        | none => False
      | none => False
  | _, _ => False

theorem run_storeAt {P : Program} {w : World} {t ty : TypeId} {b p : Nat} {v : Value} {cur : Array Value} (hz : szOf P t ≠ 0) (hv : v.cells.size = szOf P t) (hh : w.heap[b]? = some (.cells cur ty (0, 0))) (hfit : p + v.cells.toList.length ≤ cur.size)
    (h1 : ∀ u ∈ v.cells.toList, u.oneCell' = true) : (Instr.storeAt t (.pointer (some ⟨b, p, none⟩)) v).run P w = .ok () (w.setRow b (setsA cur.toList p v.cells.toList).toArray) := by
  have hst := run_storeCells_at P b p ty v.cells.toList 0 cur w hh (by simpa using hfit) h1
  simp only [Nat.add_zero] at hst
  rw [← setsA_eq v.cells.toList p cur.toList (by simpa using hfit)] at hst
  simp [Instr.storeAt, Instr.sureAddr, storeVar, run_sizeOf hz, hv, hst]

section
variable {P : Program} {G : Glo} {M I : Nat → Prop} {s : St} {hd : Nat → Value} {Fp : Nat → List Nat} {a : Act} {w w' : World}
theorem HR.kill {h : Heap} {n : Nat} (hr : HR G M I h n hd Fp w) : HR G M I (killH h) n hd Fp w := by
  have hg : ∀ j u, hget (killH h) j = some u → ∃ u0, hget h j = some u0 ∧ u = killO u0 := by
    intro j u hu
    rw [hget_kill] at hu
    obtain ⟨u0, h1, h2⟩ := Option.map_eq_some_iff.1 hu
    exact ⟨u0, h1, h2.symm⟩
  refine ⟨fun j u hu => ?_, fun b hb => ⟨(hr.imm b hb).1, fun j u hu => ?_⟩, fun j u hu => ?_, fun j u j' u' hu hu' => ?_, fun j u hu => ?_, fun j u hu => ?_, hr.news, hr.glo⟩
  · obtain ⟨u0, h1, rfl⟩ := hg j u hu
    have := hr.obj j u0 h1
    cases u0 with
    | slice sz es => exact this
    | var cs =>
      obtain ⟨b, cur, e, h2, h3, h4, h5⟩ := this
      exact ⟨b, cur, e, h2, h3, SL.kill (Nat.le_refl _) (fun b hb => ⟨hb, rfl⟩) (fun _ _ => rfl) cs _ h4, h5⟩
  · obtain ⟨u0, h1, rfl⟩ := hg j u hu; exact (hr.imm b hb).2 j u0 h1
  · obtain ⟨u0, h1, rfl⟩ := hg j u hu; exact hr.nodup j u0 h1
  · obtain ⟨u0, h1, rfl⟩ := hg j u hu
    obtain ⟨u0', h1', rfl⟩ := hg j' u' hu'
    exact hr.disj j u0 j' u0' h1 h1'
  · obtain ⟨u0, h1, rfl⟩ := hg j u hu; exact hr.mine j u0 h1
  · obtain ⟨u0, h1, rfl⟩ := hg j u hu; exact hr.next j u0 h1
theorem SR.killedK (h : SR G M I s hd Fp a w) {M' : Nat → Prop} {I' : Nat → Prop} {h' : Heap} {n' : Nat} {hd' : Nat → Value} {Fp' : Nat → List Nat} (hr : HR G M' I' (killH h') n' hd' Fp' w') (hn : s.next ≤ n') (hI : ∀ b, I b → I' b ∧ w'.heap[b]? = w.heap[b]?)
    (hH : ∀ id, id < s.next → hd' id = hd id) : SR G M' I' (killSt ⟨s.tmps, h', n'⟩) hd' Fp' a w' := by
  refine ⟨hr, by simp [killSt, killL_eq, h.len], fun t => ?_, h.defers⟩
  have := S.kill hn hI hH _ _ (h.slots t)
  simp only [killSt, killL_eq, List.getD_eq_getElem?_getD, List.getElem?_map] at this ⊢
  cases hs : s.tmps[t]? with
  | none => simp [S]
  | some x => simpa [hs] using this
/-- All inner references are forgotten; the slots follow to any world in which what is frozen stands. -/
theorem SR.killed (h : SR G M I s hd Fp a w) {M' : Nat → Prop} {I' : Nat → Prop} {h' : Heap} {n' : Nat} {hd' : Nat → Value} {Fp' : Nat → List Nat} (hr : HR G M' I' h' n' hd' Fp' w') (hn : s.next ≤ n') (hI : ∀ b, I b → I' b ∧ w'.heap[b]? = w.heap[b]?)
    (hH : ∀ id, id < s.next → hd' id = hd id) : SR G M' I' (killSt ⟨s.tmps, h', n'⟩) hd' Fp' a w' := by
  refine ⟨hr.kill, by simp [killSt, killL_eq, h.len], fun t => ?_, h.defers⟩
  have := S.kill hn hI hH _ _ (h.slots t)
  simp only [killSt, killL_eq, List.getD_eq_getElem?_getD, List.getElem?_map] at this ⊢
  cases hs : s.tmps[t]? with
  | none => simp [S]
  | some x => simpa [hs] using this

theorem keep_setRow {b : Nat} {cs : Array Value} (hM : M b) : Keep M w (w.setRow b cs) :=
  ⟨rfl, rfl, rfl, by rw [setRow_size]; exact Nat.le_refl _, fun b' hb' hm => setRow_other w b b' _ (fun e => hm (e ▸ hM))⟩

theorem SL.setsA {n : Nat} : ∀ {ys : List AV} {us : List Value} (hy : SL hd n w I ys us) {k : Nat} {xs : List AV} {vs : List Value}, SL hd n w I xs vs → SL hd n w I (X.setsA xs k ys) (X.setsA vs k us)
  | [], us, hy, k, xs, vs, h => by simp only [SL] at hy; subst hy; exact h
  | y :: ys, us, hy, k, xs, vs, h => by
    simp only [SL] at hy
    obtain ⟨u, us', rfl, h1, hu, ht⟩ := hy
    simp only [X.setsA]
    exact SL.setsA ht (h.set k h1 hu)

/-- An object's blocks stay; its content turns. -/
theorem HR.setSame {h : Heap} {n : Nat} (hr : HR G M I h n hd Fp w) {id : Nat} {o : Ob} (ho : hget h id = some o) (o' : Ob) (hs : w'.heap.size = w.heap.size) (hb : ∀ b, b ∉ Fp id → w'.heap[b]? = w.heap[b]?)
    (fr : Fr I I n n hd hd w w') (hno : ObjR hd n w' I o' (hd id) (Fp id)) : ∃ Fp', HR G M I (hset h id o') n hd Fp' w' :=
  ⟨_, hr.set ho o' hs (Fp id) (hr.nodup id o ho) (hr.mine id o ho) (hr.notI ho) (fun j u hu hj b hb' => hr.disj j u id o hu ho hj b hb') hb fr hno⟩

theorem allSc_noSl {n : Nat} : ∀ {xs : List AV} {vs : List Value}, allSc xs = true → SL hd n w I xs vs → ∀ v ∈ vs, noSl v
  | [], vs, _, h, v, hv => by simp only [SL] at h; subst h; cases hv
  | x :: xs, vs, hs, h, v, hv => by
    simp only [allSc, Bool.and_eq_true] at hs
    simp only [SL] at h
    obtain ⟨u, vs', rfl, h1, hx, ht⟩ := h
    rcases List.mem_cons.1 hv with rfl | hv
    · exact (isSc_S hs.1 hx).1
    · exact allSc_noSl hs.2 ht v hv

/-- Scalars are written over scalars in an own slice, or in one that lies in it. -/
theorem setS_sc {h : Heap} {n : Nat} (hr : HR G M I h n hd Fp w) {id : Nat} {sub : Option (Nat × Nat × Nat)} {sz i c b o : Nat} {es : List (List AV)} {e cs : List AV} {hhv : Value} {us : List Value} {cur : Array Value} {ty : TypeId}
    (hg : getS h id sub = some (sz, es)) (he : es[i]? = some e) (hfit : c + cs.length ≤ e.length) (hsc : allSc cs = true) (hold : allSc ((e.drop c).take cs.length) = true) (hcs : SL hd n w I cs us)
    (hh : HdOf hd w id sub hhv) (hb : BaseOf hhv b o) (hhp : w.heap[b]? = some (.cells cur ty (0, 0))) :
    ∃ Fp', HR G M I (setS h id sub (es.set i (setsA e c cs))) n hd Fp' (w.setRow b (setsA cur.toList (o + (i * sz + c)) us).toArray) := by
  have hscs := Scs.of hsc hcs
  have hother : ∀ b', b' ≠ b → (w.setRow b (setsA cur.toList (o + (i * sz + c)) us).toArray).heap[b']? = w.heap[b']? := fun b' hb' => setRow_other w b b' _ hb'
  cases sub with
  | none =>
    simp only [getS] at hg
    split at hg
    · rename_i sz0 es0 ho'
      simp only [Option.some.injEq, Prod.mk.injEq] at hg
      obtain ⟨rfl, rfl⟩ := hg
      simp only [setS, ho']
      simp only [HdOf] at hh
      subst hh
      obtain ⟨g1, g2, g3, g4⟩ := ow_store (hr.obj id _ ho') (hr.nodup id _ ho') (fun b hb => hr.notI ho' b hb) he hfit hold hscs hb hhp
      exact hr.setSame ho' _ (setRow_size _ _ _) (fun b' hb' => hother b' (fun e => hb' (e ▸ g2))) (fr_store hhp (hr.notI ho' b g2) g3 g4) g1
    · cases hg
  | some q =>
    obtain ⟨szo, io, co⟩ := q
    simp only [getS] at hg
    split at hg
    · rename_i sz0 es0 ho'
      split at hg
      · rename_i hsz; subst hsz
        split at hg
        · rename_i sz2 es2 hx2
          simp only [Option.some.injEq, Prod.mk.injEq] at hg
          obtain ⟨rfl, rfl⟩ := hg
          obtain ⟨e0, he0, hx0⟩ := Option.bind_eq_some_iff.1 hx2
          simp only [setS, ho', he0, hx0]
          have hT0 := hr.obj id _ ho'
          have hn0 := hr.nodup id _ ho'
          obtain ⟨b3, o3, cur3, ty3, v3, G3, hb3, hh3, hv3, _, hT3, hs3, hsz3⟩ := ow_cell (hr.obj id _ ho') he0 hx0
          have hv : v3 = hhv := by
            simp only [HdOf] at hh
            obtain ⟨_, b4, o4, hb4, hc4⟩ := hh
            obtain ⟨rfl, rfl⟩ := hb4.uniq hb3
            simp only [World.cell?, hh3, Option.isSome_none, Bool.false_eq_true, if_false] at hc4
            rw [← Array.getElem?_toList, hv3] at hc4
            exact Option.some.inj hc4
          subst hv
          have hG3n : G3.Nodup := ((List.sublist_cons_self _ _).trans hs3).nodup hn0
          obtain ⟨q1, q2, q3, q4⟩ := ow_store hT3 hG3n (fun b hb => hr.notI ho' b (hs3.subset (List.mem_cons_of_mem _ hb))) he hfit hold hscs hb hhp
          have hbF : b ∈ Fp id := hs3.subset (List.mem_cons_of_mem _ q2)
          have hIb := hr.notI ho' b hbF
          refine hr.setSame ho' _ (setRow_size _ _ _) (fun b' hb' => hother b' (fun e => hb' (e ▸ hbF))) (fr_store hhp hIb q3 q4) ?_
          have hbne : b ≠ b3 := by
            rintro rfl
            exact (List.nodup_cons.1 (hs3.nodup hn0)).1 q2
          simp only [ObjR, T] at hT0 ⊢
          rcases hT0 with ⟨rfl, _, _⟩ | ⟨b0, o0, k0, cur0, ty0, vs0, Fs0, hhd0, hh0, hc0, hm0, ho0, hE0, rfl, ht0, hF0⟩
          · simp at he0
          · obtain ⟨rfl, rfl⟩ : b3 = b0 ∧ o3 = o0 := hb3.uniq (hhd0 ▸ .inl ⟨_, _, rfl⟩)
            obtain ⟨rfl, rfl⟩ : cur0 = cur3 ∧ ty0 = ty3 := by
              have := Option.some.inj (hh0.symm.trans hh3)
              simp only [Obj.cells.injEq] at this
              exact ⟨this.1, this.2.1⟩
            have hn1 : (b3 :: Fs0).Nodup := hF0 ▸ hn0
            have hcell : (((cur0.toList.drop o3).take (es0.length * sz0))[io * sz0 + co]?) = some v3 := by
              have hil : io < es0.length := (List.getElem?_eq_some_iff.1 he0).1
              have hel := hE0.mem e0 (List.mem_of_getElem? he0)
              have hcl : co < e0.length := (List.getElem?_eq_some_iff.1 hx0).1
              have hlt : io * sz0 + co < es0.length * sz0 := by
                have : (io + 1) * sz0 ≤ es0.length * sz0 := Nat.mul_le_mul_right _ hil
                rw [Nat.add_mul] at this
                omega
              rw [List.getElem?_take, if_pos hlt, List.getElem?_drop]
              exact hv3
            obtain ⟨g1, g2⟩ := TLL.upd hother hIb ht0 (List.nodup_cons.1 hn1).2 hE0 (y := .ow sz2 (es2.set i (setsA e c cs))) he0 hx0 (fun v Fx hv2 hTx hsx => by
              rw [hcell] at hv2
              obtain rfl := Option.some.inj hv2
              obtain ⟨q1, q2, _⟩ := ow_store hTx (hsx.nodup (List.nodup_cons.1 hn1).2) (fun b hb => hr.notI ho' b (by rw [hF0]; exact List.mem_cons_of_mem _ (hsx.subset hb))) he hfit hold hscs hb hhp
              exact ⟨q1, q2⟩)
            refine .inr ⟨b3, o3, k0, cur0, ty0, _, Fs0, by rw [List.length_set]; exact hhd0, (hother b3 (Ne.symm hbne)).trans hh0, by rw [List.length_set]; exact hc0, hm0, ho0, ?_, by rw [List.length_set], g1, hF0⟩
            exact Each.of_mem fun z hz => by
              rcases List.mem_or_eq_of_mem_set hz with hz | rfl
              · exact hE0.mem z hz
              · simpa using hE0.mem e0 (List.mem_of_getElem? he0)
        · cases hg
      · cases hg
    · cases hg

theorem TL.setsF {w : World} {I : Nat → Prop} {ys : List AV} {us : List Value} {Fy : List Nat} (hy : TL w I ys us Fy) {xs : List AV} {vs : List Value} {F : List Nat} (h : TL w I xs vs F) {k : Nat} (hk : k + ys.length ≤ xs.length) :
    ∃ F1 F2 F3, F = F1 ++ F2 ++ F3 ∧ TL w I (setsA xs k ys) (setsA vs k us) (F1 ++ Fy ++ F3) := by
  have hl := h.length
  have hyl := hy.length
  obtain ⟨F1, Fr, rfl, h1, h2⟩ := h.split k
  obtain ⟨F2, F3, rfl, h3, h4⟩ := h2.split ys.length
  refine ⟨F1, F2, F3, by simp, ?_⟩
  rw [setsA_eq _ _ _ hk, setsA_eq _ _ _ (by omega), hyl]
  rw [List.drop_drop] at h4
  rw [List.drop_drop] at h4
  exact (h1.append hy).append h4
theorem TLL.setsF {w : World} {I : Nat → Prop} {sz : Nat} {ys : List AV} {us : List Value} {Fy : List Nat} (hy : TL w I ys us Fy) : ∀ {es : List (List AV)} {vs : List Value} {F : List Nat} (h : TLL w I es vs F) (hE : Each sz es) {i k : Nat} {e : List AV} (he : es[i]? = some e) (hk : k + ys.length ≤ e.length),
    ∃ F1 F2 F3, F = F1 ++ F2 ++ F3 ∧ TLL w I (es.set i (setsA e k ys)) (setsA vs (i * sz + k) us) (F1 ++ Fy ++ F3)
  | [], vs, F, h, _, i, k, e, he, _ => by simp at he
  | z :: es, vs, F, h, hE, 0, k, e, he, hk => by
    simp only [TLL] at h
    obtain ⟨v1, v2, F1, F2, rfl, rfl, hz, hxs⟩ := h
    simp at he; subst he
    have hl := hz.length
    have hyl := hy.length
    obtain ⟨G1, G2, G3, rfl, h1⟩ := TL.setsF hy hz hk
    refine ⟨G1, G2, G3 ++ F2, by simp, ?_⟩
    simp only [List.set_cons_zero, TLL]
    refine ⟨setsA v1 k us, v2, G1 ++ Fy ++ G3, F2, ?_, by simp, h1, hxs⟩
    rw [Nat.zero_mul, Nat.zero_add, setsA_eq _ _ _ (by simp; omega), setsA_eq _ _ _ (by omega), List.take_append_of_le_length (by omega), List.drop_append_of_le_length (by omega)]
    simp
  | z :: es, vs, F, h, hE, i + 1, k, e, he, hk => by
    simp only [TLL] at h
    obtain ⟨v1, v2, F1, F2, rfl, rfl, hz, hxs⟩ := h
    simp at he
    have hl := hz.length
    have hyl := hy.length
    have hs := hE.1
    obtain ⟨G1, G2, G3, rfl, h1⟩ := TLL.setsF hy hxs hE.2 he hk
    refine ⟨F1 ++ G1, G2, G3, by simp, ?_⟩
    simp only [List.set_cons_succ, TLL]
    refine ⟨v1, setsA v2 (i * sz + k) us, F1, G1 ++ Fy ++ G3, ?_, by simp, hz, h1⟩
    have hv2 := hxs.length hE.2
    have hil : i < es.length := (List.getElem?_eq_some_iff.1 he).1
    have hel := hE.2.mem e (List.mem_of_getElem? he)
    have hb : (i + 1) * sz ≤ es.length * sz := Nat.mul_le_mul_right _ hil
    rw [Nat.add_mul] at hb
    have e1 : (i + 1) * sz + k = v1.length + (i * sz + k) := by rw [Nat.add_mul]; omega
    rw [e1, setsA_eq _ _ _ (by simp; omega), setsA_eq _ _ _ (by omega), List.take_length_add_append, show v1.length + (i * sz + k) + us.length = v1.length + (i * sz + k + us.length) by omega, List.drop_length_add_append]
    simp

/-- Whatever is written into an own slice's element becomes its own. -/
theorem store_own {h h' : Heap} {n : Nat} (hr' : HR G M I h' n hd Fp w) {id : Nat} {sz i c b o : Nat} {es es0 : List (List AV)} {e ys : List AV} {us : List Value} {cur : Array Value} {ty : TypeId} {Fy : List Nat}
    (hg : hget h' id = some (.slice sz es)) (he : es[i]? = some e) (hfit : c + ys.length ≤ e.length) (hy : TL w I ys us Fy) (hf : Free M I h' Fp Fy)
    (hb : BaseOf (hd id) b o) (hhp : w.heap[b]? = some (.cells cur ty (0, 0))) :
    o + (i * sz + c) + us.length ≤ cur.size ∧ b ∈ Fp id ∧ ∃ Fp', HR G M I (killH (hset h' id (.slice sz (es.set i (setsA e c ys))))) n hd Fp' (w.setRow b (setsA cur.toList (o + (i * sz + c)) us).toArray) := by
  have hT := hr'.obj id _ hg
  have hn := hr'.nodup id _ hg
  have hyl := hy.length
  simp only [ObjR, T] at hT
  rcases hT with ⟨rfl, _, _⟩ | ⟨b', o', k, cur', ty', vs, Fs, hhd, hh', hck, hm, ho, hE, rfl, ht, hF⟩
  · simp at he
  · obtain ⟨rfl, rfl⟩ := hb.uniq (show BaseOf (hd id) b' o' from .inl ⟨_, _, hhd⟩)
    obtain ⟨rfl, rfl⟩ : cur = cur' ∧ ty = ty' := by
      have := Option.some.inj (hhp.symm.trans hh')
      simp only [Obj.cells.injEq] at this
      exact ⟨this.1, this.2.1⟩
    have hil : i < es.length := (List.getElem?_eq_some_iff.1 he).1
    have hel := hE.mem e (List.mem_of_getElem? he)
    have hbnd : i * sz + c + us.length ≤ es.length * sz := by
      have : (i + 1) * sz ≤ es.length * sz := Nat.mul_le_mul_right _ hil
      rw [Nat.add_mul] at this
      omega
    have hks : es.length * sz ≤ k * sz := Nat.mul_le_mul_right _ hck
    have hbF : b ∈ Fp id := by rw [hF]; simp
    have hIb := hr'.notI hg b hbF
    have hother : ∀ b', b' ≠ b → (w.setRow b (setsA cur.toList (o + (i * sz + c)) us).toArray).heap[b']? = w.heap[b']? := fun b' hb' => setRow_other w b b' _ hb'
    have hIm : ∀ b', I b' → I b' ∧ (w.setRow b (setsA cur.toList (o + (i * sz + c)) us).toArray).heap[b']? = w.heap[b']? := fun b' hb' => ⟨hb', hother b' (fun e => hIb (e ▸ hb'))⟩
    rw [hF] at hn
    have hbs := (List.nodup_cons.1 hn)
    have hby : b ∉ Fy := fun hx => hf.disj id _ hg b hbF hx
    have ht2 := TLL.frame hIm es _ Fs ht (fun b' hb' => hother b' (fun e => hbs.1 (e ▸ hb')))
    have hy2 := TL.frame hIm ys _ Fy hy (fun b' hb' => hother b' (fun e => hby (e ▸ hb')))
    obtain ⟨F1, F2, F3, rfl, h3⟩ := TLL.setsF hy2 ht2 hE he hfit
    have hmem : ∀ b' ∈ b :: (F1 ++ Fy ++ F3), b' ∈ Fp id ∨ b' ∈ Fy := by
      intro b' hb'
      rw [hF]
      simp only [List.mem_cons, List.mem_append] at hb' ⊢
      rcases hb' with hb' | (hb' | hb') | hb' <;> simp [hb']
    have hn2 : (b :: (F1 ++ Fy ++ F3)).Nodup := by
      have hnf := hbs.2
      rw [List.append_assoc, List.nodup_append] at hnf
      have hn23 := List.nodup_append.1 hnf.2.1
      refine List.nodup_cons.2 ⟨?_, ?_⟩
      · intro hx
        have h1 := hbs.1
        simp only [List.mem_append, not_or] at hx h1
        rcases hx with (hx | hx) | hx
        · exact h1.1.1 hx
        · exact hby hx
        · exact h1.2 hx
      · rw [List.append_assoc, List.nodup_append]
        refine ⟨hnf.1, ?_, ?_⟩
        · rw [List.nodup_append]
          refine ⟨hf.nodup, hn23.2.1, ?_⟩
          rintro x hx y hy' rfl
          exact hf.disj id _ hg x (by rw [hF]; simp [hy']) hx
        · rintro x hx y hy' rfl
          rcases List.mem_append.1 hy' with hy' | hy'
          · exact hf.disj id _ hg x (by rw [hF]; simp [hx]) hy'
          · exact hnf.2.2 x hx x (List.mem_append.2 (.inr hy')) rfl
    refine ⟨by omega, hbF, ?_⟩
    have hgk : hget (killH h') id = some (.slice sz es) := by rw [hget_kill, hg]; rfl
    have hkeq : killH (hset h' id (.slice sz (es.set i (setsA e c ys)))) = hset (killH h') id (.slice sz (es.set i (setsA e c ys))) := by
      have : ∀ (h : Heap), killH (hset h id (.slice sz (es.set i (setsA e c ys)))) = hset (killH h) id (.slice sz (es.set i (setsA e c ys))) := by
        intro h
        induction h with
        | nil => rfl
        | cons p h ih =>
          obtain ⟨j, u⟩ := p
          cases u <;> simp only [hset, killH] <;> split <;> simp_all [killH, hset]
      exact this h'
    rw [hkeq]
    refine ⟨_, hr'.kill.setG hgk _ (setRow_size _ _ _) (b :: (F1 ++ Fy ++ F3)) hn2 (fun b' hb' => ?_) (fun b' hb' => ?_) (fun j u hu hj b' hb' => ?_) (fun j u hu hj => ?_) (fun g gs hgs => T.frame hIm _ _ _ (hr'.glo g gs hgs) (by simp)) ?_⟩
    · rcases hmem b' hb' with hx | hx
      · exact hr'.mine id _ hg b' hx
      · exact hf.mine b' hx
    · rcases hmem b' hb' with hx | hx
      · exact hr'.notI hg b' hx
      · exact hf.imm b' hx
    · intro hx
      have hu' : ∃ u0, hget h' j = some u0 := by
        rw [hget_kill] at hu
        obtain ⟨u0, h1, _⟩ := Option.map_eq_some_iff.1 hu
        exact ⟨u0, h1⟩
      obtain ⟨u0, hu0⟩ := hu'
      rcases hmem b' hx with hx | hx
      · exact hr'.disj j u0 id _ hu0 hg hj b' hb' hx
      · exact hf.disj j u0 hu0 b' hb' hx
    · rw [hget_kill] at hu
      obtain ⟨u0, hu0, rfl⟩ := Option.map_eq_some_iff.1 hu
      have hq := hr'.obj j u0 hu0
      have hoth : ∀ b' ∈ Fp j, (w.setRow b (setsA cur.toList (o + (i * sz + c)) us).toArray).heap[b']? = w.heap[b']? := fun b' hb' => hother b' (fun e => hr'.disj j u0 id _ hu0 hg hj b' hb' (e ▸ hbF))
      cases u0 with
      | slice sz0 es0 => exact T.frame hIm _ _ _ hq hoth
      | var cs0 =>
        obtain ⟨b0, cur0, e0, g1, g2, g3, g4⟩ := hq
        exact ⟨b0, cur0, e0, g1, (hoth b0 (by rw [g4]; simp)).trans g2, SL.kill (Nat.le_refl _) hIm (fun _ _ => rfl) _ _ g3, g4⟩
    · simp only [ObjR, T]
      refine .inr ⟨b, o, k, (setsA cur.toList (o + (i * sz + c)) us).toArray, ty, _, F1 ++ Fy ++ F3, by rw [List.length_set]; exact hhd, setRow_heap w b cur _ ty _ hhp, by rw [List.length_set]; exact hck, hm, by simpa [setsA_length] using ho, ?_, ?_, h3, rfl⟩
      · exact Each.of_mem fun z hz => by
          rcases List.mem_or_eq_of_mem_set hz with hz | rfl
          · exact hE.mem z hz
          · simpa [setsA_length] using hel
      · rw [List.length_set, setsA_drop, setsA_take _ _ _ _ hbnd]

theorem storeK_sound (h : SR G M I s hd Fp a w) {t : TypeId} {x v : AV} {u uv : Value} {K : St → Prop} (hk : storeK P s t x v K) (hx : S hd s.next w I x u) (hv : S hd s.next w I v uv) :
    ∃ w', (Instr.storeAt t u uv).run P w = .ok () w' ∧ ∃ s' I' hd' Fp', K s' ∧ SR G M I' s' hd' Fp' a w' ∧ Ext M I I' s.next hd hd' w w' ∧ s.next ≤ s'.next := by
  unfold storeK at hk
  split at hk
  · rename_i id sub sz i c cs hcv
    obtain ⟨hz, hlen, hk⟩ := hk
    have hcs := cellsV_SL hcv hv
    have hus := hcs.length
    have hsize : uv.cells.size = szOf P t := by rw [← Array.length_toList, hus, hlen]
    simp only [S] at hx
    obtain ⟨hid, hhv, b, o, hh, hb, rfl⟩ := hx
    split at hk
    · rename_i old ho
      obtain ⟨rfl, hfit, hk⟩ := hk
      simp only [HdOf] at hh
      subst hh
      obtain ⟨b', cur, e, hp, hhp, hs, hF⟩ := h.heap.obj id _ ho
      obtain ⟨rfl, rfl⟩ := hb.uniq (.inr hp)
      have hol := hs.length
      rw [show 0 + (0 * sz + c) = c by omega]
      have hfit2 : c + uv.cells.toList.length ≤ cur.size := by rw [hus, ← Array.length_toList, hol]; omega
      have hrun := run_storeAt (P := P) (t := t) hz hsize hhp hfit2 hcs.ones
      have hbF : b ∈ Fp id := by rw [hF]; simp
      have hIb : ¬ I b := h.heap.notI ho b hbF
      have hother : ∀ b', b' ≠ b → (w.setRow b (setsA cur.toList c uv.cells.toList).toArray).heap[b']? = w.heap[b']? := fun b' hb' => setRow_other w b b' _ hb'
      have hIm : ∀ b', I b' → I b' ∧ (w.setRow b (setsA cur.toList c uv.cells.toList).toArray).heap[b']? = w.heap[b']? := fun b' hb' => ⟨hb', hother b' (fun e => hIb (e ▸ hb'))⟩
      have hE : Ext M I I s.next hd hd w (w.setRow b (setsA cur.toList c uv.cells.toList).toArray) := ⟨keep_setRow (h.heap.mine id _ ho b hbF), hIm, fun _ _ => rfl⟩
      split at hk
      · rename_i hsc
        have fr : Fr I I s.next s.next hd hd w (w.setRow b (setsA cur.toList c uv.cells.toList).toArray) := by
          refine fr_store hhp hIb hfit2 (fun j hj => ?_)
          have hseg := (hs.drop c).take cs.length
          have hj2 : j < ((cur.toList.drop c).take cs.length).length := by rw [hseg.length]; simp; omega
          refine ⟨((cur.toList.drop c).take cs.length)[j], ?_, allSc_noSl hsc hseg _ (List.getElem_mem hj2)⟩
          rw [List.getElem_take, List.getElem_drop]
          exact List.getElem?_eq_getElem _
        obtain ⟨Fp', hr'⟩ := h.heap.setSame ho (.var (setsA old c cs)) (setRow_size _ _ _) (fun b' hb' => hother b' (fun e => hb' (e ▸ hbF))) fr ⟨b, _, e, hp, setRow_heap w b cur _ e _ hhp, fr.SL (SL.setsA hcs hs), hF⟩
        exact ⟨_, hrun, _, I, hd, Fp', hk, h.move hr' fr, hE, Nat.le_refl _⟩
      · -- slices are overwritten: inner references are forgotten
        have hslots := SL.setsA (k := c) hcs hs
        have hr1 := h.heap.kill
        have hkl : ∀ (xs : List AV) (vs : List Value), SL hd s.next w I xs vs → SL hd s.next (w.setRow b (setsA cur.toList c uv.cells.toList).toArray) I (killL xs) vs := fun xs vs hx => SL.kill (Nat.le_refl _) hIm (fun _ _ => rfl) xs vs hx
        have hg : ∀ j q, hget (killH (hset s.heap id (.var (setsA old c cs)))) j = some q → (j = id ∧ q = .var (killL (setsA old c cs))) ∨ (j ≠ id ∧ ∃ q0, hget s.heap j = some q0 ∧ q = killO q0) := by
          intro j q hq
          rw [hget_kill, hget_set] at hq
          by_cases hj : id = j
          · subst hj; simp [ho, killO] at hq; exact .inl ⟨rfl, hq.symm⟩
          · simp only [hj, if_false] at hq
            obtain ⟨q0, h1, h2⟩ := Option.map_eq_some_iff.1 hq
            exact .inr ⟨Ne.symm hj, q0, h1, h2.symm⟩
        have hr2 : HR G M I (killH (hset s.heap id (.var (setsA old c cs)))) s.next hd Fp (w.setRow b (setsA cur.toList c uv.cells.toList).toArray) := by
          refine ⟨fun j q hq => ?_, fun b' hb' => ⟨by rw [setRow_size]; exact (h.heap.imm b' hb').1, fun j q hq => ?_⟩, fun j q hq => ?_, fun j q j' q' hq hq' hne => ?_, fun j q hq => ?_, fun j q hq => ?_, fun b' hb' => h.heap.news b' (by rwa [setRow_size] at hb'),
            fun g gs hgs => T.frame hIm _ _ _ (h.heap.glo g gs hgs) (by simp)⟩
          · rcases hg j q hq with ⟨rfl, rfl⟩ | ⟨hj, q0, hq0, rfl⟩
            · exact ⟨b, _, e, hp, setRow_heap w b cur _ e _ hhp, hkl _ _ hslots, hF⟩
            · have hq1 := h.heap.obj j q0 hq0
              have hoth : ∀ b' ∈ Fp j, (w.setRow b (setsA cur.toList c uv.cells.toList).toArray).heap[b']? = w.heap[b']? := fun b' hb' => hother b' (fun e => h.heap.disj j q0 id _ hq0 ho hj b' hb' (e ▸ hbF))
              cases q0 with
              | slice sz0 es0 => exact T.frame hIm _ _ _ hq1 hoth
              | var cs0 =>
                obtain ⟨b0, cur0, e0, g1, g2, g3, g4⟩ := hq1
                exact ⟨b0, cur0, e0, g1, (hoth b0 (by rw [g4]; simp)).trans g2, hkl _ _ g3, g4⟩
          · rcases hg j q hq with ⟨rfl, rfl⟩ | ⟨hj, q0, hq0, rfl⟩
            · exact (h.heap.imm b' hb').2 _ _ ho
            · exact (h.heap.imm b' hb').2 j q0 hq0
          · rcases hg j q hq with ⟨rfl, rfl⟩ | ⟨hj, q0, hq0, rfl⟩
            · exact h.heap.nodup _ _ ho
            · exact h.heap.nodup j q0 hq0
          · rcases hg j q hq with ⟨rfl, rfl⟩ | ⟨hj, q0, hq0, rfl⟩ <;> rcases hg j' q' hq' with ⟨rfl, rfl⟩ | ⟨hj', q0', hq0', rfl⟩
            · exact absurd rfl hne
            · exact h.heap.disj _ _ j' q0' ho hq0' hne
            · exact h.heap.disj j q0 _ _ hq0 ho hne
            · exact h.heap.disj j q0 j' q0' hq0 hq0' hne
          · rcases hg j q hq with ⟨rfl, rfl⟩ | ⟨hj, q0, hq0, rfl⟩
            · exact h.heap.mine _ _ ho
            · exact h.heap.mine j q0 hq0
          · rcases hg j q hq with ⟨rfl, rfl⟩ | ⟨hj, q0, hq0, rfl⟩
            · exact h.heap.next _ _ ho
            · exact h.heap.next j q0 hq0
        refine ⟨_, hrun, _, I, hd, Fp, hk, ⟨hr2, by simp [killSt, killL_eq, h.len], fun t => ?_, h.defers⟩, hE, Nat.le_refl _⟩
        have := S.kill (Nat.le_refl _) hIm (fun _ _ => rfl) _ _ (h.slots t)
        simp only [killSt, killL_eq, List.getD_eq_getElem?_getD, List.getElem?_map] at this ⊢
        cases hs : s.tmps[t]? with
        | none => simp [S]
        | some x => simpa [hs] using this
    · split at hk
      · rename_i sz' es hg
        obtain ⟨rfl, hk⟩ := hk
        obtain ⟨hv', F, ob, ho, hh', hT, hsub⟩ := getS_sound h.heap hg
        obtain rfl := HdOf.uniq hh hh'
        split at hk
        · rename_i e he
          obtain ⟨hfit, hk⟩ := hk
          split at hk
          · rename_i hsc
            have hscs := Scs.of hsc.1 hcs
            obtain ⟨b', o', cur, ty, hb', hhp⟩ : ∃ b' o' cur ty, BaseOf hhv b' o' ∧ w.heap[b']? = some (.cells cur ty (0, 0)) := by
              simp only [T] at hT
              rcases hT with ⟨rfl, _, _⟩ | ⟨b', o', k, cur, ty, vs, Fs, rfl, hhp, _⟩
              · simp at he
              · exact ⟨b', o', cur, ty, .inl ⟨_, _, rfl⟩, hhp⟩
            obtain ⟨rfl, rfl⟩ := hb.uniq hb'
            have hFn : F.Nodup := hsub.nodup (h.heap.nodup id ob ho)
            have hFI : ∀ b ∈ F, ¬ I b := fun b hb => h.heap.notI ho b (hsub.subset hb)
            obtain ⟨h1, h2, h3, h4⟩ := ow_store hT hFn hFI he hfit hsc.2 hscs hb hhp
            have hIb := hFI b h2
            have hbF : b ∈ Fp id := hsub.subset h2
            have fr := fr_store (n := s.next) (hd := hd) hhp hIb h3 h4
            have hother : ∀ b', b' ≠ b → (w.setRow b (setsA cur.toList (o + (i * sz' + c)) uv.cells.toList).toArray).heap[b']? = w.heap[b']? := fun b' hb' => setRow_other w b b' _ hb'
            have hrun := run_storeAt (P := P) (t := t) hz hsize hhp h3 hcs.ones
            have hE : Ext M I I s.next hd hd w (w.setRow b (setsA cur.toList (o + (i * sz' + c)) uv.cells.toList).toArray) := ⟨keep_setRow (h.heap.mine id _ ho b hbF), fr.im, fun _ _ => rfl⟩
            have hset := setS_sc h.heap hg he hfit hsc.1 hsc.2 hcs hh hb hhp
            obtain ⟨Fp', hr'⟩ := hset
            exact ⟨_, hrun, _, I, hd, Fp', hk, h.move hr' fr, hE, Nat.le_refl _⟩
          · obtain ⟨rfl, hk⟩ := hk
            split at hk
            · rename_i ys h' hcon
              obtain ⟨Fy, hr', hTy, hfree, hsubh, hown⟩ := conL_sound h.heap hcs hcon
              have hyl : ys.length = cs.length := by rw [← hTy.length, hus]
              split at hk
              · rename_i sz1 es1 hg1
                have hg0 := hsubh id _ hg1
                simp only [getS, hg0, Option.some.injEq, Prod.mk.injEq] at hg
                obtain ⟨rfl, rfl⟩ := hg
                simp only [HdOf] at hh
                subst hh
                have hT0 := hr'.obj id _ hg1
                obtain ⟨b', o', cur, ty, hb', hhp⟩ : ∃ b' o' cur ty, BaseOf (hd id) b' o' ∧ w.heap[b']? = some (.cells cur ty (0, 0)) := by
                  simp only [ObjR, T] at hT0
                  rcases hT0 with ⟨rfl, _, _⟩ | ⟨b', o', k, cur, ty, vs, Fs, hhd, hhp, _⟩
                  · simp at he
                  · exact ⟨b', o', cur, ty, .inl ⟨_, _, hhd⟩, hhp⟩
                obtain ⟨rfl, rfl⟩ := hb.uniq hb'
                obtain ⟨h3, hbF, Fp', hr2⟩ := store_own (h := s.heap) (es0 := es1) hr' hg1 he (by rw [hyl]; exact hfit) hTy hfree hb hhp
                have hIb := hr'.notI hg1 b hbF
                have hother : ∀ b', b' ≠ b → (w.setRow b (setsA cur.toList (o + (i * sz1 + c)) uv.cells.toList).toArray).heap[b']? = w.heap[b']? := fun b' hb' => setRow_other w b b' _ hb'
                have hIm : ∀ b', I b' → I b' ∧ (w.setRow b (setsA cur.toList (o + (i * sz1 + c)) uv.cells.toList).toArray).heap[b']? = w.heap[b']? := fun b' hb' => ⟨hb', hother b' (fun e => hIb (e ▸ hb'))⟩
                have hrun := run_storeAt (P := P) (t := t) hz hsize hhp h3 hcs.ones
                refine ⟨_, hrun, _, I, hd, Fp', hk, ⟨hr2, by simp [killSt, killL_eq, h.len], fun t => ?_, h.defers⟩, ⟨keep_setRow (h.heap.mine id _ ho b hbF), hIm, fun _ _ => rfl⟩, Nat.le_refl _⟩
                have := S.kill (Nat.le_refl _) hIm (fun _ _ => rfl) _ _ (h.slots t)
                simp only [killSt, killL_eq, List.getD_eq_getElem?_getD, List.getElem?_map] at this ⊢
                cases hs : s.tmps[t]? with
                | none => simp [S]
                | some x => simpa [hs] using this
              · exact hk.elim
            · exact hk.elim
        · exact hk.elim
      · exact hk.elim
  · exact hk.elim
end
theorem eqs_storeK : True := by
  have := @storeK.eq_1
  trivial
end Go.Proofs.YtlddjlchgibdfaaDoor.X
