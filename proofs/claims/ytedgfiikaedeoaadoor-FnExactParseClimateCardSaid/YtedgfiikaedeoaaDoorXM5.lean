/- A part of the proof: lemmas on the machine or on the functions that the law reaches. No condition of its own. -/
import Derived.Test.YtedgfiikaedeoaaDoorXM4
import Derived.Laws.Strings
import Derived.KernelRfl
import Derived.Lib.ItoaNum
import Derived.Lib.LaidTab
set_option linter.unusedVariables false
set_option linter.unusedSimpArgs false
namespace Go.Proofs.YtedgfiikaedeoaaDoor.X
open Go

/-! ### Slots by what was written last -/
def lk (u : AV) : List (Nat × AV) → Nat → AV
  | [], _ => u
  | (i, v) :: l, d => if i = d then v else lk u l d
def tb (n : Nat) (u : AV) (l : List (Nat × AV)) : List AV := (List.range n).map (lk u l)
theorem lk_same {u v : AV} {l : List (Nat × AV)} {d : Nat} : lk u ((d, v) :: l) d = v := by simp [lk]
theorem lk_ne {u v : AV} {l : List (Nat × AV)} {i d : Nat} (h : (i == d) = false) : lk u ((i, v) :: l) d = lk u l d := by
  simp at h; simp [lk, h]
theorem lk_nil {u : AV} {d : Nat} : lk u [] d = u := _root_.id rfl
theorem tb_length {n : Nat} {u : AV} {l : List (Nat × AV)} : (tb n u l).length = n := by simp [tb]
theorem tb_get {n d : Nat} {u : AV} {l : List (Nat × AV)} (h : d < n) : (tb n u l).getD d .any = lk u l d := by
  simp [tb, List.getD, h]
theorem tb_set {n d : Nat} {u v : AV} {l : List (Nat × AV)} : (tb n u l).set d v = tb n u ((d, v) :: l) := by
  apply List.ext_getElem
  · simp [tb]
  · intro i h1 h2
    simp only [tb, List.length_map, List.length_range, List.length_set] at h1 h2
    rw [List.getElem_set]
    split
    · rename_i h; subst h; simp [tb, lk]
    · rename_i h; simp [tb, lk, h]
def killA : List (Nat × AV) → List (Nat × AV)
  | [] => []
  | (i, v) :: l => (i, killS v) :: killA l
theorem killL_map {α : Type} (f : α → AV) : ∀ l : List α, killL (l.map f) = l.map fun i => killS (f i)
  | [] => rfl
  | x :: l => by simp only [List.map_cons, killL, killL_map f l]
theorem kill_lk {u : AV} (hu : killS u = u) : ∀ (l : List (Nat × AV)) (d : Nat), killS (lk u l d) = lk u (killA l) d
  | [], d => hu
  | (i, v) :: l, d => by
    simp only [lk, killA]
    split
    · rfl
    · exact kill_lk hu l d
theorem tb_kill {n : Nat} {u : AV} {l : List (Nat × AV)} (hu : killS u = u) : killL (tb n u l) = tb n u (killA l) := by
  simp only [tb, killL_map, kill_lk hu]
theorem tb_kill_u {n : Nat} {l : List (Nat × AV)} {h : Heap} {m : Nat} : killSt ⟨tb n (.con undef) l, h, m⟩ = ⟨tb n (.con undef) (killA l), killH h, m⟩ := by
  simp only [killSt, tb_kill (show killS (.con undef) = .con undef from rfl)]
theorem tb_kill_a {n : Nat} {l : List (Nat × AV)} {h : Heap} {m : Nat} : killSt ⟨tb n .any l, h, m⟩ = ⟨tb n .any (killA l), killH h, m⟩ := by
  simp only [killSt, tb_kill (show killS .any = .any from rfl)]
def argA : Nat → List AV → List (Nat × AV)
  | _, [] => []
  | k, x :: xs => (k, x) :: argA (k + 1) xs
theorem lk_arg {u : AV} : ∀ (xs : List AV) (k d : Nat), lk u (argA k xs) d = if k ≤ d then xs.getD (d - k) u else u
  | [], k, d => by simp [argA, lk]
  | x :: xs, k, d => by
    simp only [argA, lk]
    rcases Nat.lt_trichotomy k d with h | h | h
    · rw [if_neg (by omega), lk_arg xs, if_pos (by omega), if_pos (by omega), show d - k = (d - (k + 1)) + 1 by omega, List.getD_cons_succ]
    · subst h; simp
    · rw [if_neg (by omega), lk_arg xs, if_neg (by omega), if_neg (by omega)]
theorem tb_arg {u : AV} {xs : List AV} {n : Nat} (h : xs.length ≤ n) : xs ++ List.replicate (n - xs.length) u = tb n u (argA 0 xs) := by
  apply List.ext_getElem
  · simp [tb]; omega
  · intro i h1 h2
    simp only [List.length_append, List.length_replicate] at h1
    simp only [tb, List.getElem_map, List.getElem_range, lk_arg, Nat.zero_le, if_true, Nat.sub_zero]
    rw [List.getElem_append]
    split
    · rename_i h; simp [List.getD, h]
    · rename_i h; simp [List.getD, show xs[i]? = none by simp; omega]
section
variable {P : Program} {G : Glo} {C : CT} {md : FuncId → Bool}
theorem Ev.runT (hC : Closed P G md C) {f : FuncId} {fn : Func} {ts : List AV} {r : AV} {x : XC} {n : Nat} {rs : List ResultVar} (hf : P.funcs[f]? = some fn) (hx : compF md fn = x) (hn : fn.ntmps = n) (hrs : fn.results.toList = rs) (hne : fn.name ≠ "runtime.NumGoroutine") (hl : ts.length ≤ n) (ho : ownR r = true)
    (hr : R P G C md 0 x ⟨tb n (.con undef) (argA 0 ts), [], 0⟩ (bodyQ P rs fun v h _ => RetTo h v r)) : Ev C f ts r := by
  subst hn; subst hrs
  refine Ev.run hC hf hx hne ho ?_
  rw [tb_arg hl]; exact hr
theorem Closed.runT (hC : Closed P G md C) {f : FuncId} {fn : Func} {ts : List AV} {x : XC} {n m : Nat} {h : Heap} {K : AV → Heap → Nat → Prop} {rs : List ResultVar} (hf : P.funcs[f]? = some fn) (hx : compF md fn = x) (hn : fn.ntmps = n) (hrs : fn.results.toList = rs) (hne : fn.name ≠ "runtime.NumGoroutine") (hl : ts.length ≤ n)
    (hr : R P G C md m x ⟨tb n (.con undef) (argA 0 ts), h, m⟩ (bodyQ P rs K)) : C f ts h m K := by
  subst hn; subst hrs
  refine hC.run hf hx hne ?_
  rw [tb_arg hl]; exact hr
end
/-! heads -/
def Head (B : Nat) (s s' : St) : Prop := ∃ acts ρ nx, rhoOk B ρ (objIds acts) nx = true ∧ canon B acts ρ nx s = s'
def keptV (B : Nat) (ρ : List (Nat × Nat)) (t : List AV) : List (Nat × AV) → Prop
  | [] => True
  | (k, v) :: r => ren B ρ (t.getD k .any) = v ∧ keptV B ρ t r
theorem keptV_nil {B : Nat} {ρ : List (Nat × Nat)} {t : List AV} : keptV B ρ t [] = True := _root_.id rfl
theorem keptV_cons {B : Nat} {ρ : List (Nat × Nat)} {t : List AV} {k : Nat} {v : AV} {r : List (Nat × AV)} : keptV B ρ t ((k, v) :: r) = (ren B ρ (t.getD k .any) = v ∧ keptV B ρ t r) := _root_.id rfl
theorem keptV_lk {B : Nat} {ρ : List (Nat × Nat)} {t : List AV} : ∀ {V : List (Nat × AV)}, keptV B ρ t V → ∀ i, i ∈ V.map (·.1) → ren B ρ (t.getD i .any) = lk .any V i
  | [], _, i, hi => by simp at hi
  | (k, v) :: r, ⟨h1, h2⟩, i, hi => by
    simp only [lk]
    split
    · rename_i h; subst h; exact h1
    · rename_i h
      simp only [List.map_cons, List.mem_cons] at hi
      rcases hi with hi | hi
      · exact absurd hi.symm h
      · exact keptV_lk h2 i hi
theorem lk_out {u : AV} : ∀ {V : List (Nat × AV)} {i : Nat}, i ∉ V.map (·.1) → lk u V i = u
  | [], i, _ => rfl
  | (k, v) :: r, i, h => by
    simp only [List.map_cons, List.mem_cons, not_or] at h
    simp only [lk]
    rw [if_neg (fun e => h.1 e.symm)]
    exact lk_out h.2
theorem canSlots_map {α : Type} {B : Nat} {ρ : List (Nat × Nat)} (a : α → Keepd) (x y : α → AV) : ∀ (l : List α), (∀ i ∈ l, canSlots B ρ [a i] [x i] = [y i]) → canSlots B ρ (l.map a) (l.map x) = l.map y
  | [], _ => by simp [canSlots]
  | i :: l, h => by
    have h0 := h i (by simp)
    have ih := canSlots_map a x y l fun j hj => h j (by simp [hj])
    simp only [List.map_cons]
    cases ha : a i <;> rw [ha] at h0
    · simp only [canSlots, List.cons.injEq, and_true] at h0 ⊢
      exact ⟨h0, ih⟩
    · simp only [canSlots, List.cons.injEq, and_true] at h0 ⊢
      exact ⟨h0, ih⟩
    · cases hx : x i <;> rw [hx] at h0 <;> simp only [canSlots, List.cons.injEq, and_true] at h0 ⊢ <;> exact ⟨h0, ih⟩
theorem canObjs_no : ∀ (as : List Keepd) (xs : List AV), (∀ a ∈ as, ∀ id sz, a ≠ .obj id sz) → canObjs as xs = []
  | [], xs, _ => by cases xs <;> simp [canObjs]
  | a :: as, [], _ => by cases a <;> simp [canObjs]
  | a :: as, x :: xs, h => by
    have := h a (by simp)
    cases a with
    | obj id sz => exact absurd rfl (this id sz)
    | drop => simp only [canObjs]; exact canObjs_no as xs fun b hb => h b (by simp [hb])
    | keep => simp only [canObjs]; exact canObjs_no as xs fun b hb => h b (by simp [hb])
theorem objIds_no : ∀ (as : List Keepd), (∀ a ∈ as, ∀ id sz, a ≠ .obj id sz) → objIds as = []
  | [], _ => rfl
  | a :: as, h => by
    have := h a (by simp)
    cases a with
    | obj id sz => exact absurd rfl (this id sz)
    | drop => simp only [objIds]; exact objIds_no as fun b hb => h b (by simp [hb])
    | keep => simp only [objIds]; exact objIds_no as fun b hb => h b (by simp [hb])
def actK (V : List (Nat × AV)) (i : Nat) : Keepd := if i ∈ V.map (·.1) then .keep else .drop
theorem head_tb {B n m nx : Nat} {u : AV} {l V : List (Nat × AV)} {h h' : Heap} (ρ : List (Nat × Nat)) (h1 : rhoOk B ρ [] nx = true) (hV : keptV B ρ (tb n u l) V) (hh : canR B ρ h ρ ++ canB B ρ h = h') : Head B ⟨tb n u l, h, m⟩ ⟨tb n .any V, h', nx⟩ := by
  have hno : ∀ a ∈ (List.range n).map (actK V), ∀ id sz, a ≠ Keepd.obj id sz := by
    intro a ha id sz e
    simp only [List.mem_map] at ha
    obtain ⟨i, _, rfl⟩ := ha
    unfold actK at e
    split at e <;> cases e
  refine ⟨(List.range n).map (actK V), ρ, nx, by rw [objIds_no _ hno]; exact h1, ?_⟩
  simp only [canon, canObjs_no _ _ hno, List.nil_append, hh]
  congr 1
  refine canSlots_map _ _ _ _ fun i hi => ?_
  simp only [List.mem_range] at hi
  unfold actK
  split
  · rename_i hm
    have := keptV_lk hV i hm
    rw [tb_get hi] at this
    simp only [canSlots, this]
  · rename_i hm
    simp only [canSlots, lk_out hm]
theorem filterMap_one {α : Type} {g : Nat → Option α} {k n : Nat} {x : α} (hk : k < n) (h1 : g k = some x) (h2 : ∀ i, i ≠ k → g i = none) : (List.range n).filterMap g = [x] := by
  induction n with
  | zero => omega
  | succ n ih =>
    rw [List.range_succ, List.filterMap_append]
    by_cases h : k = n
    · subst h
      have : (List.range k).filterMap g = [] := by
        rw [List.filterMap_eq_nil_iff]
        intro a ha
        simp only [List.mem_range] at ha
        exact h2 a (by omega)
      rw [this]; simp [h1]
    · rw [ih (by omega)]
      simp [h2 n (fun e => h e.symm)]
theorem canObjs_map (a : Nat → Keepd) (x : Nat → AV) : ∀ l : List Nat, canObjs (l.map a) (l.map x) = l.filterMap fun i => match a i, x i with | .obj id sz, .nil => some (id, .slice sz []) | _, _ => none
  | [] => rfl
  | i :: l => by
    simp only [List.map_cons, List.filterMap_cons, ← canObjs_map a x l]
    cases a i <;> cases x i <;> simp [canObjs]
theorem objIds_map (a : Nat → Keepd) : ∀ l : List Nat, objIds (l.map a) = l.filterMap fun i => match a i with | .obj id sz => some id | _ => none
  | [] => rfl
  | i :: l => by
    simp only [List.map_cons, List.filterMap_cons, ← objIds_map a l]
    cases a i <;> simp [objIds]
theorem head_obj {B n m nx : Nat} {u : AV} {l V : List (Nat × AV)} {h h' : Heap} (k id sz : Nat) (ρ : List (Nat × Nat)) (h1 : rhoOk B ρ [id] nx = true) (hk : (tb n u l).getD k .any = .nil) (hkn : k < n) (hV : keptV B ρ (tb n u l) V) (hkV : k ∉ V.map (·.1)) (hh : (id, .slice sz []) :: (canR B ρ h ρ ++ canB B ρ h) = h') : Head B ⟨tb n u l, h, m⟩ ⟨tb n .any ((k, .ref id none sz 0 0) :: V), h', nx⟩ := by
  rw [tb_get hkn] at hk
  refine ⟨(List.range n).map (fun i => if i = k then .obj id sz else actK V i), ρ, nx, ?_, ?_⟩
  · rw [objIds_map, filterMap_one (k := k) (x := id) hkn (by simp)]
    · exact h1
    · intro i hi
      simp only [hi, if_false]
      unfold actK
      by_cases hm : i ∈ V.map (·.1) <;> simp only [hm, if_true, if_false]
  · simp only [canon]
    congr 1
    · refine canSlots_map _ _ _ _ fun i hi => ?_
      simp only [List.mem_range] at hi
      by_cases hik : i = k
      · subst hik
        simp only [if_true, hk, canSlots, lk]
      · rw [if_neg hik]
        unfold actK
        simp only [lk, if_neg (fun e : k = i => hik e.symm)]
        split
        · rename_i hm
          have := keptV_lk hV i hm
          rw [tb_get hi] at this
          simp only [canSlots, this]
        · rename_i hm
          simp only [canSlots, lk_out hm]
    · rw [← hh]
      have : canObjs ((List.range n).map (fun i => if i = k then .obj id sz else actK V i)) (tb n u l) = [(id, .slice sz [])] := by
        unfold tb
        rw [canObjs_map]
        refine filterMap_one hkn (by simp [hk]) fun i hi => ?_
        simp only [hi, if_false]
        unfold actK
        by_cases hm : i ∈ V.map (·.1) <;> simp only [hm, if_true, if_false]
      rw [this]; rfl
section
variable {P : Program} {G : Glo} {C : CT} {md : FuncId → Bool} {B : Nat} {c : XC} {s : St} {Q : XE → St → Prop}
theorem RL_ind (H : Nat → St → Prop) (k0 : Nat) (s0 : St) (h0 : Head B s s0) (hH : H k0 s0)
    (h : ∀ k s', H k s' → ∀ J : St → Prop, (∀ k' s s'', k' < k → H k' s'' → Head B s s'' → J s) → R P G C md B c s' (thenX J Q)) : R P G C md B (.loop c) s Q := by
  simp only [R]
  intro J hJ
  have key : ∀ k s s', H k s' → Head B s s' → J s := by
    intro k
    induction k using Nat.strongRecOn with
    | ind k ih =>
      intro s s' hk ⟨acts, ρ, nx, h1, h2⟩
      refine hJ s ⟨acts, ρ, nx, h1, ?_⟩
      rw [h2]
      exact h k s' hk J fun k' s s'' hlt h3 h4 => ih k' hlt s s'' h3 h4
  exact key k0 s s0 hH h0
theorem RL_count (S : Nat → St) (I : Nat → Prop) (n i0 : Nat) (h0 : Head B s (S i0)) (hle : i0 ≤ n) (hI : I i0)
    (h : ∀ i, i ≤ n → I i → ∀ J : St → Prop, (i < n → I (i + 1) → ∀ s, Head B s (S (i + 1)) → J s) → R P G C md B c (S i) (thenX J Q)) : R P G C md B (.loop c) s Q := by
  refine RL_ind (fun k s' => ∃ i, i + k = n ∧ s' = S i ∧ I i) (n - i0) (S i0) h0 ⟨i0, by omega, rfl, hI⟩ ?_
  rintro k s' ⟨i, hi, rfl, hIi⟩ J hJ
  exact h i (by omega) hIi J fun hlt hI' s hs => hJ (k - 1) s _ (by omega) ⟨i + 1, by omega, rfl, hI'⟩ hs
end
/-! what an argument of a type is -/
def sty (P : Program) (t : TypeId) : Option (List TypeId) := match P.underlying t with
  | some (.struct fs) => some (fs.toList.map (·.type))
  | _ => none
theorem sty_und {P : Program} {t : TypeId} {ts : List TypeId} (h : sty P t = some ts) : ∃ fs, P.underlying t = some (.struct fs) ∧ fs.toList.map (·.type) = ts := by
  unfold sty at h
  split at h
  · rename_i fs e
    simp only [Option.some.injEq] at h
    exact ⟨fs, e, h⟩
  · cases h
theorem has_struct {P : Program} {k : Nat} {t : TypeId} {ts : List TypeId} {xs : List AV} (e : sty P t = some ts) (h : Has P (k + 1) t xs) : HasE P k ts xs := by
  obtain ⟨fs, hu, rfl⟩ := sty_und e
  simp only [Has, hu] at h
  exact h
theorem has_int {P : Program} {k : Nat} {t : TypeId} {kd : IntKind} {xs : List AV} (e : tk P t = .int kd) (h : Has P (k + 1) t xs) : ∃ n, xs = [.int kd n] ∧ (Lit.int kd n).wf = true := by
  simp only [Has, tk_int e] at h
  exact h
theorem has_bool {P : Program} {k : Nat} {t : TypeId} {xs : List AV} (e : tk P t = .bool) (h : Has P (k + 1) t xs) : ∃ b, xs = [.bool b] := by
  simp only [Has, tk_bool e] at h
  exact h
theorem has_str {P : Program} {k : Nat} {t : TypeId} {xs : List AV} (e : tk P t = .str) (h : Has P (k + 1) t xs) : ∃ s, xs = [.str s] ∧ s.size ≤ reachBytes := by
  simp only [Has, tk_str e] at h
  exact h
theorem has_slice {P : Program} {k : Nat} {t e : TypeId} {xs : List AV} (he : tk P t = .slice e) (h : Has P (k + 1) t xs) : ∃ es, xs = [.sl es] ∧ es.length ≤ maxLen ∧ es.length * P.bytesOf e ≤ reachBytes ∧ ∀ el ∈ es, el.length = P.cellsOf e ∧ Has P k e el := by
  simp only [Has, tk_slice he] at h
  exact h
theorem hasE_cons {P : Program} {k : Nat} {t : TypeId} {ts : List TypeId} {xs : List AV} (h : HasE P (k + 1) (t :: ts) xs) : ∃ x1 x2, xs = x1 ++ x2 ∧ x1.length = P.cellsOf t ∧ Has P k t x1 ∧ HasE P k ts x2 := by
  simpa only [HasE] using h
theorem hasE_nil {P : Program} {k : Nat} {xs : List AV} (h : HasE P (k + 1) [] xs) : xs = [] := by
  simpa only [HasE] using h
theorem hasV_struct {P : Program} {k : Nat} {t : TypeId} {ts : List TypeId} {x : AV} (e : sty P t = some ts) (h : HasV P (k + 1) t x) : ∃ xs, x = .agg xs ∧ HasE P k ts xs := by
  obtain ⟨fs, hu, hts⟩ := sty_und e
  unfold HasV at h
  simp only [hu] at h
  obtain ⟨xs, rfl, h⟩ := h
  exact ⟨xs, rfl, has_struct e h⟩
theorem hasV_int {P : Program} {k : Nat} {t : TypeId} {kd : IntKind} {x : AV} (e : tk P t = .int kd) (h : HasV P (k + 1) t x) : ∃ n, x = .int kd n ∧ (Lit.int kd n).wf = true := by
  unfold HasV at h
  simp only [tk_int e] at h
  obtain ⟨n, h1, h2⟩ := has_int e h
  exact ⟨n, by simpa using h1, h2⟩
theorem hasV_bool {P : Program} {k : Nat} {t : TypeId} {x : AV} (e : tk P t = .bool) (h : HasV P (k + 1) t x) : ∃ b, x = .bool b := by
  unfold HasV at h
  simp only [tk_bool e] at h
  obtain ⟨n, h1⟩ := has_bool e h
  exact ⟨n, by simpa using h1⟩
theorem hasV_str {P : Program} {k : Nat} {t : TypeId} {x : AV} (e : tk P t = .str) (h : HasV P (k + 1) t x) : ∃ s, x = .str s ∧ s.size ≤ reachBytes := by
  unfold HasV at h
  simp only [tk_str e] at h
  obtain ⟨n, h1, h2⟩ := has_str e h
  exact ⟨n, by simpa using h1, h2⟩
theorem hasV_slice {P : Program} {k : Nat} {t e : TypeId} {x : AV} (he : tk P t = .slice e) (h : HasV P (k + 1) t x) : ∃ es, x = .sl es ∧ es.length ≤ maxLen ∧ es.length * P.bytesOf e ≤ reachBytes ∧ ∀ el ∈ es, el.length = P.cellsOf e ∧ Has P k e el := by
  unfold HasV at h
  simp only [tk_slice he] at h
  obtain ⟨n, h1, h2⟩ := has_slice he h
  exact ⟨n, by simpa using h1, h2⟩
theorem wf64 {n : Int} (h : (Lit.int .i64 n).wf = true) : -9223372036854775808 ≤ n ∧ n ≤ 9223372036854775807 := by
  simp [Lit.wf, IntKind.min, IntKind.max, IntKind.bits, IntKind.signed] at h
  omega
theorem all_map {α β : Type} {f : β → α} {es : List α} (h : ∀ e ∈ es, ∃ p, e = f p) : ∃ l : List β, es = l.map f := by
  induction es with
  | nil => exact ⟨[], rfl⟩
  | cons e es ih =>
    obtain ⟨l, hl⟩ := ih fun x hx => h x (by simp [hx])
    obtain ⟨p, hp⟩ := h e (by simp)
    exact ⟨p :: l, by rw [hl, hp]; rfl⟩
theorem RetTo_sc {h : Heap} {xs : List AV} (hs : allSc xs = true) : RetTo h (.tup xs) (.tup xs) := by
  have key : ∀ (xs : List AV), allSc xs = true → conRL 7 h xs = some (xs, h) := by
    intro xs
    induction xs with
    | nil => intro _; simp [conRL]
    | cons x xs ih =>
      intro hs
      simp only [allSc, Bool.and_eq_true] at hs
      have h1 : conR 7 h x = some (x, h) := by
        have := hs.1
        cases x <;> simp [isSc] at this <;> simp [conR, isF]
      simp [conRL, h1, ih hs.2]
  exact RetTo_of (h2 := h) (by simp only [conR, key xs hs])
theorem RetTo_ib {h : Heap} {k k' : IntKind} {a c : Int} {b d : Bool} : RetTo h (.tup [.int k a, .bool b]) (.tup [.int k' c, .bool d]) = (k = k' ∧ a = c ∧ b = d) := by
  apply propext
  constructor
  · rintro ⟨r0, h2, e1, e2⟩
    simp [conR, conRL, isF] at e1
    obtain ⟨rfl, rfl⟩ := e1
    simp [NilTo, NilToL] at e2
    exact ⟨e2.1.1.symm, e2.1.2.symm, e2.2.symm⟩
  · rintro ⟨rfl, rfl, rfl⟩
    exact RetTo_sc rfl
theorem RetTo_ii {h : Heap} {k k' j j' : IntKind} {a b c d : Int} : RetTo h (.tup [.int k a, .int j b]) (.tup [.int k' c, .int j' d]) = (k = k' ∧ a = c ∧ j = j' ∧ b = d) := by
  apply propext
  constructor
  · rintro ⟨r0, h2, e1, e2⟩
    simp [conR, conRL, isF] at e1
    obtain ⟨rfl, rfl⟩ := e1
    simp [NilTo, NilToL] at e2
    exact ⟨e2.1.1.symm, e2.1.2.symm, e2.2.1.symm, e2.2.2.symm⟩
  · rintro ⟨rfl, rfl, rfl, rfl⟩
    exact RetTo_sc rfl
/-! the rules of the evaluation, by one name -/
attribute [push_cast] o_field conv_bytes convB_some bytesV_one fldC_some fldO_some fldV_one fldV_agg
attribute [push_cast] R_done R_exit R_ret R_block R_fork R_cond cK_true cK_false cK_bool R_op R_guard gX_tt
  gX_ft gX_tf gX_ff gX_t gX_f gX_u put_none put_int put_bool put_str put_nil put_any
  put_con put_sl put_pf put_agg put_tup put_fn put_ref put_ptr know_tmp ev_tmp ev_int ev_bool
  ev_str ev_nil ev_func o_move o_assign o_pick pick_true pick_false o_bin o_un o_extr extrK
  o_min o_max o_call o_mkfn evL opK.allCells load_eq p_faddr p_iaddr p_idx p_slice p_load
  p_store p_alloc p_box p_build p_buildS p_make p_conv p_len p_append field_some fa_ptr fa_pf
  el_some ia_ref ia_sl ia_aptr ia_apf ix_str sl_ref sl_sl sl_nil sl_str slR_int slF_int
  slN_int slS_int okV_some okL_some ld_pfa ld_pf ld_ptr ld_sub ldV_var ldV_slice ldS_some ldE_agg
  ldE_one ldC_agg ldC_one stIf_true stIf_false st_ptr st_sub stV_var stV_slice stG_some stE_some stC_some
  stD_some al_some cv_agg cv_int cv_bool cv_str cv_nil cv_sl cv_pf cv_ref cv_ptr cv_fn
  okAgg_some bu_some fill_nil fill_cons fill1_some mkE_some mk_slice bs_slice bsZ_some bsF_some bsC_some len_ref
  len_sl len_nil len_str conv_int ap_slice apX_some apY_some appX_nil appX_ref apXR_some appY_nil appY_ref
  appY_sl appY_str bi_add bi_sub bi_mul bi_quo bi_rem bi_eql bi_neq bi_lss bi_leq bi_gtr
  bi_geq bi_shl bi_shr bi_str bi_bool bb_eql bb_neq bi_sln bi_refn bi_niln nn_eql nn_neq
  sn_eql sn_neq ifB_not tb_get tb_set lk_same lk_ne lk_nil tb_kill_u tb_kill_a killA argA
  List.set_cons_zero List.set_cons_succ unK thenX inBlockX bodyQ resK oneOr List.cons_append List.nil_append List.length_cons List.length_nil
  List.replicate minK maxK callK frzA frzAL isF List.map_cons List.map_nil frzOkL frzOk Bool.and_true
  Bool.true_and true_and and_true Bool.false_eq_true if_false if_true Bool.and_self Option.some.injEq List.append_nil cellS cellsS getS
  hget hdel killL killS killH imp impL setS setsA hset List.drop_zero List.take_length
  List.drop_succ_cons List.take_succ_cons List.take_zero List.getElem?_cons_zero List.getElem?_cons_succ Nat.add_zero Nat.zero_add ne_eq not_false_eq_true not_true_eq_false allSc isSc
  Bool.not_eq_true' Option.getD_some Option.getD_none Option.map_some Option.map_none Option.bind_some Nat.lt_irrefl Nat.zero_le Nat.le_refl isCell Bool.not_true Bool.not_false
  false_implies true_implies forall_const implies_true RetTo_bool RetTo_int RetTo_str RetTo_ib RetTo_ii decide_eq_true_eq decide_eq_false_iff_not exists_const
  Bool.true_eq_false ge_iff_le gt_iff_lt allF Bool.and_false Bool.false_and Bool.or_false Bool.false_or Bool.or_true Bool.true_or conL conC
  chunk List.flatten_cons List.flatten_nil beq_self_eq_true decide_true allScs apYR_sc
end Go.Proofs.YtedgfiikaedeoaaDoor.X
set_option linter.unusedVariables false
namespace Go.Proofs.YtedgfiikaedeoaaDoor.X
open Go
theorem str_eq (a b : ByteArray) : (a.toList == b.toList) = decide (a = b) := by
  rw [Bool.eq_iff_iff, beq_iff_eq, decide_eq_true_eq, ByteArray.toList_eq, ByteArray.toList_eq]
  constructor
  · intro h; exact ByteArray.ext (Array.toList_inj.mp h)
  · rintro rfl; rfl
theorem bs_eql {a b : ByteArray} {K : AV → Prop} : strK .eql a b K = K (.bool (decide (a = b))) := by
  rw [← str_eq]; rfl
theorem bs_neq {a b : ByteArray} {K : AV → Prop} : strK .neq a b K = K (.bool (!decide (a = b))) := by
  rw [← str_eq]; rfl
theorem bs_add {a b : ByteArray} {K : AV → Prop} : strK .add a b K = (((a.size + b.size : Nat) : Int) ≤ 9223372036854775807 ∧ K (.str (a ++ b))) := _root_.id rfl
theorem bt_lo (s : ByteArray) (i : Int) : 0 ≤ bt s i ∧ bt s i ≤ 255 := by
  unfold bt
  have := (s.data.toList.getD i.toNat 0).toNat_lt
  omega
attribute [push_cast] bs_eql bs_neq bs_add
end Go.Proofs.YtedgfiikaedeoaaDoor.X
set_option linter.unusedVariables false
set_option linter.unusedSimpArgs false
open Nat renaming reduceBEq → N1, reduceAdd → N2, reduceSub → N3, reduceMul → N4, reduceEqDiff → N5, reduceLeDiff → N6, reduceLT → N7
open Int renaming reduceLE → I1, reduceLT → I2, reduceToNat → I3
namespace Go.Proofs.YtedgfiikaedeoaaDoor.X
open Go
/-! Short words for code. -/
namespace K
def t (n : Nat) : Operand := .tmp n
def z (n : Int) : Operand := .const (.int .i64 n)
def b1 : Operand := .const (.bool true)
def b0 : Operand := .const (.bool false)
def o (d : Nat) (x : Op) (r : XC) : XC := .op (some d) x none r
def y (d g : Nat) (x : Op) (r : XC) : XC := .op (some d) x (some (g, true)) r
def w (d g : Nat) (x : Op) (r : XC) : XC := .op (some d) x (some (g, false)) r
def s (T a b : Nat) (r : XC) : XC := .op none (.store T (.tmp a) (.tmp b)) none r
def k (c : Nat) (a b r : XC) : XC := .cond (.tmp c) a b r
def m (s : Nat) : Op := .move (.tmp s)
def a (s : Nat) : Op := .assign (.tmp s)
def l (T s : Nat) : Op := .load T (.tmp s)
def f (T s j : Nat) : Op := .fieldAddr T (.tmp s) j
def i (T s j : Nat) : Op := .indexAddr T (.tmp s) (.tmp j)
def b (op : BinOp) (T x y : Nat) : Op := .binOp op T (.tmp x) (.tmp y) T
def c (op : BinOp) (T x : Nat) (n : Int) : Op := .binOp op T (.tmp x) (.const (.int .i64 n)) T
def n (s T : Nat) : Op := .call ⟨.builtin .len, ⟨[.tmp s]⟩, ⟨[T]⟩⟩
def g (F : Nat) (xs : List Operand) (ts : List Nat) : Op := .call ⟨.value (.func F), ⟨xs⟩, ⟨ts⟩⟩
def x (T s : Nat) : Op := .box T (.tmp s)
def q (T s : Nat) : Op := .unOp .not T (.tmp s)
def p (c : Nat) (a b : Operand) : Op := .pick (.tmp c) a b
section
variable {N F T S J C G : Nat} {n : Int} {u v : Operand} {O : Op} {A B R : XC} {us : List Operand} {ts : List Nat} {e : BinOp}
theorem e1 : t N = .tmp N := _root_.id rfl
theorem e2 : z n = .const (.int .i64 n) := _root_.id rfl
theorem e3 : b1 = .const (.bool true) := _root_.id rfl
theorem e4 : b0 = .const (.bool false) := _root_.id rfl
theorem e5 : o N O R = .op (some N) O none R := _root_.id rfl
theorem e6 : y N G O R = .op (some N) O (some (G, true)) R := _root_.id rfl
theorem e7 : w N G O R = .op (some N) O (some (G, false)) R := _root_.id rfl
theorem e8 : s T N S R = .op none (.store T (.tmp N) (.tmp S)) none R := _root_.id rfl
theorem e9 : k N A B R = .cond (.tmp N) A B R := _root_.id rfl
theorem f1 : m S = .move (.tmp S) := _root_.id rfl
theorem f2 : a S = .assign (.tmp S) := _root_.id rfl
theorem f3 : l T S = .load T (.tmp S) := _root_.id rfl
theorem f4 : f T S J = .fieldAddr T (.tmp S) J := _root_.id rfl
theorem f5 : i T S J = .indexAddr T (.tmp S) (.tmp J) := _root_.id rfl
theorem f6 : b e T S J = .binOp e T (.tmp S) (.tmp J) T := _root_.id rfl
theorem f7 : c e T S n = .binOp e T (.tmp S) (.const (.int .i64 n)) T := _root_.id rfl
theorem f8 : K.n S T = .call ⟨.builtin .len, ⟨[.tmp S]⟩, ⟨[T]⟩⟩ := _root_.id rfl
theorem f9 : g F us ts = .call ⟨.value (.func F), ⟨us⟩, ⟨ts⟩⟩ := _root_.id rfl
theorem g1 : x T S = .box T (.tmp S) := _root_.id rfl
theorem g2 : q T S = .unOp .not T (.tmp S) := _root_.id rfl
theorem g3 : p C u v = .pick (.tmp C) u v := _root_.id rfl
end
attribute [push_cast] e1 e2 e3 e4 e5 e6 e7 e8 e9 f1 f2 f3 f4 f5 f6 f7 f8 f9 g1 g2 g3
end K
def FnP (P : Program) (md : FuncId → Bool) (f : FuncId) (x : XC) (n : Nat) (rs : List ResultVar) : Prop :=
  ∃ fn, P.funcs[f]? = some fn ∧ compF md fn = x ∧ fn.ntmps = n ∧ fn.results.toList = rs ∧ fn.name ≠ "runtime.NumGoroutine"
theorem FnP.of {P : Program} {md : FuncId → Bool} {f : FuncId} {fn : Func} {x : XC} {n : Nat} {rs : List ResultVar} (h : P.funcs[f]? = some fn) (h1 : compF md fn = x := by kernel_rfl) (h2 : fn.ntmps = n := by kernel_rfl) (h3 : fn.results.toList = rs := by kernel_rfl) (h4 : fn.name ≠ "runtime.NumGoroutine" := by decide) : FnP P md f x n rs :=
  ⟨fn, h, h1, h2, h3, h4⟩
section
variable {P : Program} {G : Glo} {C : CT} {md : FuncId → Bool}
theorem rT (hC : Closed P G md C) {f : FuncId} {ts : List AV} {r : AV} {x : XC} {n : Nat} {rs : List ResultVar} (hq : FnP P md f x n rs)
    (hr : R P G C md 0 x ⟨tb n (.con undef) (argA 0 ts), [], 0⟩ (bodyQ P rs fun v h _ => RetTo h v r)) (ho : ownR r = true := by rfl) (hl : ts.length ≤ n := by exact Nat.le_of_ble_eq_true rfl) : Ev C f ts r := by
  obtain ⟨fn, h1, h2, h3, h4, h5⟩ := hq
  exact Ev.runT hC h1 h2 h3 h4 h5 hl ho hr
theorem Closed.rT (hC : Closed P G md C) {f : FuncId} {ts : List AV} {x : XC} {n m : Nat} {h : Heap} {K : AV → Heap → Nat → Prop} {rs : List ResultVar} (hq : FnP P md f x n rs)
    (hr : R P G C md m x ⟨tb n (.con undef) (argA 0 ts), h, m⟩ (bodyQ P rs K)) (hl : ts.length ≤ n := by exact Nat.le_of_ble_eq_true rfl) : C f ts h m K := by
  obtain ⟨fn, h1, h2, h3, h4, h5⟩ := hq
  exact Closed.runT hC h1 h2 h3 h4 h5 hl hr
end
attribute [push_cast] Bool.not_true Bool.not_false decide_true
theorem J1 {A B : Prop} : ifB true A B = A := ifB_true
theorem J2 {A B : Prop} : ifB false A B = B := ifB_false
theorem hdA {B n m nx : Nat} {u : AV} {l V : List (Nat × AV)} {h h' : Heap} (ρ : List (Nat × Nat)) (h1 : rhoOk B ρ [] nx = true := by rfl)
    (hV : keptV B ρ (tb n u l) V := by (simp only [keptV_cons, keptV_nil, tb_get, lk_same, lk_ne, lk_nil, ren, renL, lkp, N7, N1, N5, reduceIte, and_true, true_and, Nat.not_lt_zero, if_false, if_true, Nat.add_zero, Nat.zero_add]; (try rw [wrap64 (by omega) (by omega)]); (first | done | (simp; done) | (simp [*]; done) | (simp; omega) | (and_intros <;> rfl))))
    (hh : canR B ρ h ρ ++ canB B ρ h = h' := by (simp only [canR, canB, renO, renL, ren, lkp, hget, N7, N5, Nat.not_lt_zero, if_false, if_true, reduceIte, List.append_nil, List.nil_append]; (first | done | rfl))) : Head B ⟨tb n u l, h, m⟩ ⟨tb n .any V, h', nx⟩ := head_tb ρ h1 hV hh
theorem hdO {B n m nx : Nat} {u : AV} {l V : List (Nat × AV)} {h h' : Heap} (k id sz : Nat) (ρ : List (Nat × Nat)) (h1 : rhoOk B ρ [id] nx = true := by rfl) (hk : (tb n u l).getD k .any = .nil := by (simp only [keptV_cons, keptV_nil, tb_get, lk_same, lk_ne, lk_nil, ren, renL, lkp, N7, N1, N5, reduceIte, and_true, true_and])) (hkn : k < n := by decide)
    (hV : keptV B ρ (tb n u l) V := by (simp only [keptV_cons, keptV_nil, tb_get, lk_same, lk_ne, lk_nil, ren, renL, lkp, N7, N1, N5, reduceIte, and_true, true_and, Nat.not_lt_zero, if_false, if_true, Nat.add_zero, Nat.zero_add]; (first | done | (simp; done) | (and_intros <;> rfl)))) (hkV : k ∉ V.map (·.1) := by simp)
    (hh : (id, .slice sz []) :: (canR B ρ h ρ ++ canB B ρ h) = h' := by (simp only [canR, canB, renO, renL, ren, lkp, hget, N7, N5, Nat.not_lt_zero, if_false, if_true, reduceIte, List.append_nil, List.nil_append]; rfl)) : Head B ⟨tb n u l, h, m⟩ ⟨tb n .any ((k, .ref id none sz 0 0) :: V), h', nx⟩ := head_obj k id sz ρ h1 hk hkn hV hkV hh
theorem rtA {h h2 : Heap} {v r : AV} (hc : conR 8 h v = some (r, h2) := by (simp only [conR, conRL, isF, hget, hdel, List.drop_zero, List.take_length, if_true, if_false, reduceIte, N5, reduceCtorEq]; rfl)) : RetTo h v r := RetTo_of hc
end Go.Proofs.YtedgfiikaedeoaaDoor.X
set_option linter.unusedVariables false
set_option linter.unusedSimpArgs false
namespace Go.Proofs.YtedgfiikaedeoaaDoor.X
open Go Go.RowKit

/-! ### A library function of which it is known that it hands back a scalar and leaves all older blocks alone -/
theorem TV_of {hd : Nat → Value} {n : Nat} {w : World} {I : Nat → Prop} {J : Nat → Prop} (hI : ∀ b, I b → J b) : ∀ {ts : List AV} {vs : List Value}, ts.all isF = true → SV hd n w I ts vs → TV w J ts vs []
  | [], vs, _, h => by simp only [SV] at h; simp only [TV]; exact ⟨h, trivial⟩
  | x :: xs, vs, hf, h => by
    simp only [List.all_cons, Bool.and_eq_true] at hf
    simp only [SV] at h
    obtain ⟨v, vs', rfl, hx, hxs⟩ := h
    simp only [TV]
    exact ⟨v, vs', [], [], rfl, rfl, T.frame (fun b hb => ⟨hI b hb, rfl⟩) _ _ _ (isF_T hf.1 hx) (by simp), TV_of hI hf.2 hxs⟩
theorem ev_below {P : Program} {G : Glo} {f : FuncId} {ts : List AV} {s : ByteArray} (hE : Enters P f) (hF : ts.all isF = true)
    (hw : ∀ (w : World) (vals : List Value), TV w (fun b => b < w.heap.size) ts vals [] → Calls P f vals.toArray w fun e w' => e = .returned (.string s) ∧ Below w.heap.size w w') : Ev (CS P G) f ts (.str s) := by
  refine ⟨fun v h' n' => v = .str s, ⟨hE, fun M I hd Fp w vals hr hv => ?_⟩, rfl, ?_⟩
  · have hT := TV_of (fun b hb => (hr.imm b hb).1) hF hv
    refine (hw w vals hT).mono ?_
    rintro e w' ⟨rfl, hB⟩
    have hr' := hr.grown hB.size hB.block
    refine ⟨_, .str s, [], 0, I, hd, Fp, rfl, rfl, hr', by simp [S], ⟨⟨hB.os, hB.tape, hB.output, hB.size, fun b hb _ => hB.block b hb⟩, fun b hb => ⟨hb, hB.block b (hr.imm b hb).1⟩, fun _ _ => rfl⟩, Nat.le_refl _⟩
  · rintro v h' n' rfl
    exact ⟨.str s, h', by simp [conR, isF], NilTo.refl _⟩
def strs (l : List ByteArray) : List (List AV) := l.map fun s => [.str s]
theorem strs_cells {w : World} {I : Nat → Prop} : ∀ {l : List ByteArray} {vs : List Value} {F : List Nat}, TLL w I (strs l) vs F → vs = l.map .string
  | [], vs, F, h => by simp only [strs, List.map_nil, TLL] at h; simp [h.1]
  | x :: l, vs, F, h => by
    simp only [strs, List.map_cons, TLL, TL, T] at h
    obtain ⟨v1, v2, F1, F2, rfl, rfl, ⟨v, vs', G1, G2, rfl, rfl, _, ⟨rfl, rfl⟩, rfl, rfl⟩, hr⟩ := h
    rw [strs_cells hr]; rfl
theorem strs_at {w : World} {l : List ByteArray} {v : Value} {I : Nat → Prop} (h : T w I (.sl (strs l)) v []) (hne : l ≠ []) (hI : ∀ b, I b → b < w.heap.size) : ∃ b o c, v = .slice (some ⟨b, o, none⟩) l.length c ∧ l.length ≤ c ∧ b < w.heap.size ∧ ∀ (j : Nat) x, l[j]? = some x → w.cell? ⟨b, o + j, none⟩ = some (.string x) := by
  simp only [T] at h
  obtain ⟨_, A, c, rfl, hc, _, h⟩ := h
  rcases h with h | ⟨b, o, sz, vs, rfl, hb, hE, hat, ht⟩
  · exact absurd (by simpa [strs] using h) hne
  · have hv := strs_cells ht
    subst hv
    refine ⟨b, o, c, by simp [strs], by simpa [strs] using hc, hI b hb, fun j x hx => hat j _ (by simp [hx])⟩
end Go.Proofs.YtedgfiikaedeoaaDoor.X
set_option linter.unusedVariables false
set_option linter.unusedSimpArgs false
namespace Go.Proofs.YtedgfiikaedeoaaDoor.X
open Go Go.RowKit
def Gp (m : Int) (e1 e2 : Value) : Glo := fun g => if g = 0 then some [.int .i64 m] else if g = 1 then some [.con e1] else if g = 2 then some [.con e2] else if g = 3 then some (Lib.pow10Tab.map fun z => AV.int .u64 z) else none
def gv : AV → Value
  | .int k n => .int k n
  | .con u => u
  | _ => undef
def gS : AV → Bool
  | .int _ _ => true
  | .con _ => true
  | _ => false
theorem gv_TL {w : World} {I : Nat → Prop} : ∀ {cs : List AV} {vs : List Value} {F : List Nat}, cs.all gS = true → TL w I cs vs F → vs = cs.map gv
  | [], vs, F, _, h => by simp only [TL] at h; simp [h.1]
  | x :: cs, vs, F, hs, h => by
    simp only [List.all_cons, Bool.and_eq_true] at hs
    simp only [TL] at h
    obtain ⟨v, vs', F1, F2, rfl, _, _, hx, hr⟩ := h
    rw [gv_TL hs.2 hr, List.map_cons]
    cases x <;> simp only [gS, Bool.false_eq_true, false_and] at hs
    all_goals (simp only [T] at hx; rw [hx.1]; rfl)
theorem cell_of_row {w : World} {b off : Nat} {cs : Array Value} {t : TypeId} {fr : Nat × Nat} (h : w.heap[b]? = some (.cells cs t fr)) : w.cell? ⟨b, off, none⟩ = cs[off]? := by
  simp only [World.cell?, h]
  rfl
theorem glo_row {w : World} {I : Nat → Prop} {g : Nat} {cs : List AV} (h : GloT w I g cs) (hs : cs.all gS = true) : ∃ t fr, w.heap[g]? = some (.cells (cs.map gv).toArray t fr) := by
  obtain ⟨h1, vs, t, fr, h2, h3⟩ := h
  refine ⟨t, fr, ?_⟩
  rw [h2]
  simp only [T] at h1
  obtain ⟨_, b, o, us, e, _, hat, ht⟩ := h1
  cases e
  have hu := gv_TL hs ht
  subst hu
  congr 2
  apply Array.ext
  · simp [h3]
  · intro i i1 i2
    have := hat i ((cs.map gv)[i]'(by simpa using i2)) (List.getElem?_eq_getElem (by simpa using i2))
    rw [Nat.zero_add, cell_of_row h2] at this
    have h4 : vs[i]? = some vs[i] := by simp [i1]
    rw [h4] at this
    simpa using Option.some.inj this
theorem lt_of_row {w : World} {g : Nat} {o : Obj} (h : w.heap[g]? = some o) : g < w.heap.size := by
  rcases Nat.lt_or_ge g w.heap.size with hl | hl
  · exact hl
  · rw [Array.getElem?_eq_none hl] at h; cases h
theorem tab_of_row {P : Program} {w : World} {n : String} {g : Nat} {k : IntKind} {zs : List Int} {t : TypeId} {fr : Nat × Nat} (hg : P.globalNamed n = some g) (h : w.heap[g]? = some (.cells ((zs.map fun z => AV.int k z).map gv).toArray t fr)) : Lib.TabIs P w n k zs := by
  unfold Lib.TabIs
  simp only [World.var?, hg, Option.bind_some, h]
  simp [gv, Function.comp_def]
theorem ev_belowG {P : Program} {G : Glo} {f : FuncId} {ts : List AV} {n : Int} {b : Bool} (hE : Enters P f) (hF : ts.all isF = true)
    (hw : ∀ (w : World) (vals : List Value), (∀ g cs, G g = some cs → GloT w (fun b => b < w.heap.size) g cs) → TV w (fun b => b < w.heap.size) ts vals [] → Calls P f vals.toArray w fun e w' => e = .returned (.tuple #[.int .i64 n, .bool b]) ∧ Below w.heap.size w w') : Ev (CS P G) f ts (.tup [.int .i64 n, .bool b]) := by
  refine ⟨fun v h' n' => v = .tup [.int .i64 n, .bool b], ⟨hE, fun M I hd Fp w vals hr hv => ?_⟩, rfl, ?_⟩
  · have hT := TV_of (fun b hb => (hr.imm b hb).1) hF hv
    refine (hw w vals (fun g cs hg => (hr.glo g cs hg).frame fun b hb => ⟨(hr.imm b hb).1, rfl⟩) hT).mono ?_
    rintro e w' ⟨rfl, hB⟩
    have hr' := hr.grown hB.size hB.block
    refine ⟨_, .tup [.int .i64 n, .bool b], [], 0, I, hd, Fp, rfl, rfl, hr', ?_, ⟨⟨hB.os, hB.tape, hB.output, hB.size, fun b hb _ => hB.block b hb⟩, fun b hb => ⟨hb, hB.block b (hr.imm b hb).1⟩, fun _ _ => rfl⟩, Nat.le_refl _⟩
    simp only [S]
    exact ⟨_, rfl, by simp [SV, S]⟩
  · rintro v h' n' rfl
    exact ⟨.tup [.int .i64 n, .bool b], h', by simp [conR, conRL, isF], NilTo.refl _⟩
end Go.Proofs.YtedgfiikaedeoaaDoor.X
