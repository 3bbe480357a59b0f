import Derived.Test.YtlddjlchgibdfaaDoorXCon
set_option linter.unusedVariables false
set_option linter.unusedSimpArgs false
namespace Go.Proofs.YtlddjlchgibdfaaDoor.X
open Go

/-! ### Addresses -/
def faddrK (P : Program) (t : TypeId) (x : AV) (j : Nat) (K : AV → Prop) : Prop :=
  match tk P t with
  | .struct fs => match fs[j]? with
    | some (off, sz') => sz' ≠ 0 ∧ match x with
      | .ptr id sub sz i c => K (.ptr id sub sz i (c + off))
      | .pf cs => K (.pf (cs.drop off))
      | _ => False
    | none => False
  | _ => False
def iaddrK (P : Program) (t : TypeId) (x ix : AV) (K : AV → Prop) : Prop :=
  match tk P t, x, ix with
  | .slice e, .ref id sub sz off len, .int _ i => sz = szOf P e ∧ szOf P e ≠ 0 ∧ 0 ≤ i ∧ i < len ∧ K (.ptr id sub sz (off + i.toNat) 0)
  | .slice e, .sl es, .int _ i => szOf P e ≠ 0 ∧ 0 ≤ i ∧ match es[i.toNat]? with
    | some el => el.length = szOf P e ∧ K (.pf el)
    | none => False
  | .array m e, .ptr id sub sz i0 c, .int _ i => szOf P e ≠ 0 ∧ 0 ≤ i ∧ i < m ∧ K (.ptr id sub sz i0 (c + i.toNat * szOf P e))
  | .array m e, .pf cs, .int _ i => szOf P e ≠ 0 ∧ 0 ≤ i ∧ i < m ∧ K (.pf (cs.drop (i.toNat * szOf P e)))
  | _, _, _ => False
def bt (s : ByteArray) (i : Int) : Int := ((s.data.toList.getD i.toNat 0).toNat : Int)
def idxK (P : Program) (t : TypeId) (x ix : AV) (K : AV → Prop) : Prop :=
  match tk P t, x, ix with
  | .str, .str s, .int _ i => 0 ≤ i ∧ i < s.size ∧ K (.int .u8 (bt s i))
  | _, _, _ => False
def sliceK (P : Program) (t : TypeId) (x : AV) (lo hi : Option AV) (K : AV → Prop) : Prop :=
  match tk P t, x, lo.getD (.int .i64 0) with
  | .slice e, .ref id sub sz off len, .int _ l => match hi.getD (.int .i64 len) with
    | .int _ r => sz = szOf P e ∧ szOf P e ≠ 0 ∧ 0 ≤ l ∧ l ≤ r ∧ r ≤ len ∧ K (.ref id sub sz (off + l.toNat) (r - l).toNat)
    | _ => False
  | .slice e, .sl es, .int _ l => match hi.getD (.int .i64 es.length) with
    | .int _ r => szOf P e ≠ 0 ∧ (∀ el ∈ es, el.length = szOf P e) ∧ 0 ≤ l ∧ l ≤ r ∧ r ≤ es.length ∧ K (.sl ((es.drop l.toNat).take (r - l).toNat))
    | _ => False
  | .slice e, .nil, .int _ l => match hi.getD (.int .i64 0) with
    | .int _ r => szOf P e ≠ 0 ∧ l = 0 ∧ r = 0 ∧ K .nil
    | _ => False
  | .str, .str s, .int _ l => match hi.getD (.int .i64 s.size) with
    | .int _ r => 0 ≤ l ∧ l ≤ r ∧ r ≤ s.size ∧ K (.str (s.extract l.toNat r.toNat))
    | _ => False
  | _, _, _ => False

section
variable {P : Program} {G : Glo} {M I : Nat → Prop} {s : St} {hd : Nat → Value} {w : World} {K : AV → Prop} {n : Nat}
theorem run_sizeOf {P : Program} {t : TypeId} {w : World} (h : szOf P t ≠ 0) : (sizeOf t).run P w = .ok (szOf P t) w := by
  obtain ⟨i, hi, hs⟩ := szOf_pos h
  simp [sizeOf, typeInfo, hi, hs]
theorem TL.dropAt {w : World} {I : Nat → Prop} {b o : Nat} {cs : List AV} {vs : List Value} (m : Nat) (hat : At w b o vs) (h : TL w I cs vs []) : At w b (o + m) (vs.drop m) ∧ TL w I (cs.drop m) (vs.drop m) [] := by
  refine ⟨fun j u hu => ?_, ?_⟩
  · rw [List.getElem?_drop] at hu
    rw [Nat.add_assoc]
    exact hat _ _ hu
  · obtain ⟨F', h1, h2⟩ := h.drop m
    rwa [List.sublist_nil.1 h2] at h1
theorem faddrK_sound {t : TypeId} {x : AV} {j : Nat} {u : Value} (hk : faddrK P t x j K) (hx : S hd n w I x u) : ∃ v av, (∀ w : World, (Instr.fieldAt t u j).run P w = .ok v w) ∧ K av ∧ S hd n w I av v := by
  unfold faddrK at hk
  split at hk
  · rename_i fs ht
    obtain ⟨f, hf, rfl⟩ := tk_struct ht
    split at hk
    · rename_i off sz' hj
      obtain ⟨hz, hk⟩ := hk
      rw [List.getElem?_map] at hj
      obtain ⟨fd, hfd, he⟩ := Option.map_eq_some_iff.1 hj
      simp only [Prod.mk.injEq] at he
      obtain ⟨rfl, rfl⟩ := he
      have hfd' : f[j]? = some fd := by simpa using hfd
      have hrun : ∀ b o, ∀ w : World, (Instr.fieldAt t (.pointer (some ⟨b, o, none⟩)) j).run P w = .ok (.pointer (some ⟨b, o + fd.offset, none⟩)) w := by
        intro b o w
        simp only [Instr.fieldAt, Sem.run_bind, run_underlying hf, Result.andThen_ok, hfd', Instr.sureAddr, Sem.run_pure, fieldPlace, run_sizeOf hz, if_neg hz, addr_add]
      split at hk
      · rename_i id sub sz i c
        simp only [S] at hx
        obtain ⟨hid, h0, b, o, h1, h2, rfl⟩ := hx
        refine ⟨_, _, hrun _ _, hk, ?_⟩
        simp only [S]
        exact ⟨hid, h0, b, o, h1, h2, by simp only [Nat.add_assoc]⟩
      · rename_i cs
        simp only [S, T] at hx
        obtain ⟨_, b, o, vs, rfl, hb, hat, hT⟩ := hx
        obtain ⟨h1, h2⟩ := TL.dropAt fd.offset hat hT
        refine ⟨_, _, hrun _ _, hk, ?_⟩
        simp only [S, T]
        exact ⟨trivial, b, _, _, rfl, hb, h1, h2⟩
      · exact hk.elim
    · exact hk.elim
  · exact hk.elim
theorem run_indexAt_slice {t e : TypeId} (ht : P.underlying t = some (.slice e)) (hz : szOf P e ≠ 0) {b o len c : Nat} {k : IntKind} {i : Int} (h0 : 0 ≤ i) (h1 : i < len) :
    (Instr.indexAt t (.slice (some ⟨b, o, none⟩) len c) (.int k i)).run P w = .ok (.pointer (some ⟨b, o + i.toNat * szOf P e, none⟩)) w := by
  simp only [Instr.indexAt, asIntOf, Sem.run_bind, Sem.run_pure, Result.andThen_ok, run_underlying ht]
  rw [if_pos ⟨h0, h1⟩]
  simp only [Sem.run_bind, run_sizeOf hz, Result.andThen_ok, addr_add]
  rfl
theorem run_indexAt_array {t e : TypeId} {m : Nat} (ht : P.underlying t = some (.array m e)) (hz : szOf P e ≠ 0) {b o : Nat} {k : IntKind} {i : Int} (h0 : 0 ≤ i) (h1 : i < m) :
    (Instr.indexAt t (.pointer (some ⟨b, o, none⟩)) (.int k i)).run P w = .ok (.pointer (some ⟨b, o + i.toNat * szOf P e, none⟩)) w := by
  simp only [Instr.indexAt, asIntOf, Sem.run_bind, Sem.run_pure, Result.andThen_ok, run_underlying ht, Instr.sureAddr]
  rw [if_pos ⟨h0, h1⟩]
  simp only [Sem.run_bind, run_sizeOf hz, Result.andThen_ok, addr_add]
  rfl
theorem iaddrK_sound {t : TypeId} {x ix : AV} {u v : Value} (hk : iaddrK P t x ix K) (hx : S hd n w I x u) (hi : S hd n w I ix v) : ∃ r av, (∀ w : World, (Instr.indexAt t u v).run P w = .ok r w) ∧ K av ∧ S hd n w I av r := by
  unfold iaddrK at hk
  split at hk
  · rename_i e id sub sz off len k i ht
    obtain ⟨rfl, hz, h0, h1, hk⟩ := hk
    simp only [S] at hx hi
    subst hi
    obtain ⟨hid, hv, hh, hw⟩ := hx
    rcases hw with ⟨b, o, m, c, c', rfl, rfl, h2, h3, h4⟩ | ⟨rfl, A, rfl⟩
    · refine ⟨_, _, fun _ => run_indexAt_slice (tk_slice ht) hz h0 h1, hk, ?_⟩
      simp only [S]
      exact ⟨hid, _, b, o, hh, .inl ⟨_, _, rfl⟩, by simp only [Nat.add_mul, Nat.add_zero, Nat.add_assoc]⟩
    · omega
  · rename_i e es k i ht
    obtain ⟨hz, h0, hk⟩ := hk
    split at hk
    · rename_i el he
      obtain ⟨hl, hk⟩ := hk
      simp only [S] at hi
      subst hi
      simp only [S, T] at hx
      obtain ⟨_, A, c, rfl, hc, hm, hx⟩ := hx
      rcases hx with rfl | ⟨b, o, sz, vs, rfl, hb, hEach, hat, hT⟩
      · simp at he
      · have hsz : sz = szOf P e := by rw [← hl]; exact (hEach.mem el (List.mem_of_getElem? he)).symm
        subst hsz
        have hlt : i.toNat < es.length := (List.getElem?_eq_some_iff.1 he).1
        obtain ⟨F', h1, h2⟩ := hT.get hEach he
        rw [List.sublist_nil.1 h2] at h1
        refine ⟨_, _, fun _ => run_indexAt_slice (tk_slice ht) hz h0 (by omega), hk, ?_⟩
        simp only [S, T]
        refine ⟨trivial, b, _, _, rfl, hb, ?_, h1⟩
        intro j r hr
        rw [List.getElem?_take] at hr
        split at hr
        · rw [List.getElem?_drop] at hr
          rw [Nat.add_assoc]
          exact hat _ _ hr
        · cases hr
    · exact hk.elim
  · rename_i m e id sub sz i0 c k i ht
    obtain ⟨hz, h0, h1, hk⟩ := hk
    simp only [S] at hx hi
    subst hi
    obtain ⟨hid, h0', b, o, h2, h3, rfl⟩ := hx
    refine ⟨_, _, fun _ => run_indexAt_array (tk_array ht) hz h0 h1, hk, ?_⟩
    simp only [S]
    exact ⟨hid, h0', b, o, h2, h3, by simp only [Nat.add_assoc]⟩
  · rename_i m e cs k i ht
    obtain ⟨hz, h0, h1, hk⟩ := hk
    simp only [S] at hi
    subst hi
    simp only [S, T] at hx
    obtain ⟨_, b, o, vs, rfl, hb, hat, hT⟩ := hx
    obtain ⟨h2, h3⟩ := TL.dropAt (i.toNat * szOf P e) hat hT
    refine ⟨_, _, fun _ => run_indexAt_array (tk_array ht) hz h0 h1, hk, ?_⟩
    simp only [S, T]
    exact ⟨trivial, b, _, _, rfl, hb, h2, h3⟩
  · exact hk.elim
theorem idxK_sound {t : TypeId} {x ix : AV} {u v : Value} (hk : idxK P t x ix K) (hx : S hd n w I x u) (hi : S hd n w I ix v) : ∃ r av, (Instr.index t u v).run P w = .ok r w ∧ K av ∧ S hd n w I av r := by
  unfold idxK at hk
  split at hk
  · rename_i s k i ht
    obtain ⟨h0, h1, hk⟩ := hk
    simp only [S] at hx hi
    subst hx; subst hi
    refine ⟨_, _, ?_, hk, S_int⟩
    have hb : s[i.toNat]? = some (s.data.toList.getD i.toNat 0) := by
      have hlt : i.toNat < s.size := by omega
      rw [getElem?_pos s i.toNat hlt]
      congr 1
      have : i.toNat < s.data.toList.length := by simpa using hlt
      simp [List.getD_eq_getElem?_getD, List.getElem?_eq_getElem this]
      rfl
    simp only [Instr.index, asIntOf, Sem.run_bind, Sem.run_pure, Result.andThen_ok, run_underlying (tk_str ht), if_pos h0, hb]
    rfl
  · exact hk.elim
theorem run_bound {v : Value} {y : Nat} {k : IntKind} {i : Int} {c : BoundsCode} (h0 : 0 ≤ i) (h1 : i ≤ y) : (Instr.sliceBound (.int k i) y c).run P w = .ok i.toNat w := by
  simp only [Instr.sliceBound, asIntOf, Sem.run_bind, Sem.run_pure, Result.andThen_ok, if_pos (And.intro h0 h1)]
/-- The bounds of s[l:h], each given or not. -/
def OptInt (x : Option AV) (v : Option Value) (d : Nat) (i : Int) : Prop := (x = none ∧ v = none ∧ i = d) ∨ ∃ y k, x = some y ∧ y = .int k i ∧ v = some (.int k i)
theorem run_bounds {isS : Bool} {len cap : Nat} {lo hi : Option Value} {xl xh : Option AV} {l r : Int} (hl : OptInt xl lo 0 l) (hh : OptInt xh hi len r) (h0 : 0 ≤ l) (h1 : l ≤ r) (h2 : r ≤ cap) :
    (Instr.sliceBounds isS len cap lo hi none).run P w = .ok (l.toNat, r.toNat, cap) w := by
  have hb : ∀ (k : IntKind) (i : Int) (y : Nat) (c : BoundsCode), 0 ≤ i → i ≤ y → (Instr.sliceBound (.int k i) y c).run P w = .ok i.toNat w := fun k i y c g0 g1 => run_bound (v := undef) g0 g1
  rcases hl with ⟨_, rfl, rfl⟩ | ⟨yl, kl, _, _, rfl⟩ <;> rcases hh with ⟨_, rfl, rfl⟩ | ⟨yh, kh, _, _, rfl⟩
  · simp [Instr.sliceBounds]
  · simp [Instr.sliceBounds, hb kh r cap _ (by omega) h2]
  · simp [Instr.sliceBounds, hb kl l len _ h0 h1]
  · simp [Instr.sliceBounds, hb kh r cap _ (by omega) h2, hb kl l r.toNat _ h0 (by omega)]
theorem optInt_of {x : Option AV} {v : Option Value} {d : Nat} {i : Int} {k : IntKind} (h : x.getD (.int .i64 d) = .int k i) (hv : ∀ y, x = some y → ∃ u, v = some u ∧ S hd n w I y u) (hn : x = none → v = none) : OptInt x v d i := by
  cases x with
  | none =>
    simp only [Option.getD_none, AV.int.injEq] at h
    exact .inl ⟨rfl, hn rfl, h.2.symm⟩
  | some y =>
    simp only [Option.getD_some] at h
    subst h
    obtain ⟨u, rfl, hu⟩ := hv _ rfl
    simp only [S] at hu
    subst hu
    exact .inr ⟨_, k, rfl, rfl, rfl⟩

theorem run_slice_slice {t e : TypeId} (ht : P.underlying t = some (.slice e)) (hz : szOf P e ≠ 0) {A : Option Addr} {len cap : Nat} {lo hi : Option Value} {xl xh : Option AV} {l r : Int} (hl : OptInt xl lo 0 l) (hh : OptInt xh hi len r)
    (h0 : 0 ≤ l) (h1 : l ≤ r) (h2 : r ≤ cap) :
    (Instr.sliceAt t (.slice A len cap) lo hi none).run P w = .ok (.slice (if cap = l.toNat then A else A.map (·.add (l.toNat * szOf P e))) (r.toNat - l.toNat) (cap - l.toNat)) w := by
  simp only [Instr.sliceAt, Sem.run_bind, run_underlying ht, Result.andThen_ok, Instr.slice, run_bounds hl hh h0 h1 h2, run_sizeOf hz]
  rfl
theorem run_slice_str {t : TypeId} (ht : P.underlying t = some .string) {s : ByteArray} {lo hi : Option Value} {xl xh : Option AV} {l r : Int} (hl : OptInt xl lo 0 l) (hh : OptInt xh hi s.size r)
    (h0 : 0 ≤ l) (h1 : l ≤ r) (h2 : r ≤ s.size) : (Instr.sliceAt t (.string s) lo hi none).run P w = .ok (.string (s.extract l.toNat r.toNat)) w := by
  simp only [Instr.sliceAt, Sem.run_bind, run_underlying ht, Result.andThen_ok, Instr.slice, run_bounds hl hh h0 h1 h2, Option.isSome_none, Bool.false_eq_true, if_false, Sem.run_pure]
theorem sliceK_sound {t : TypeId} {x : AV} {lo hi : Option AV} {u : Value} {vl vh : Option Value} (hk : sliceK P t x lo hi K) (hx : S hd n w I x u) (hl : ∀ y, lo = some y → ∃ u, vl = some u ∧ S hd n w I y u) (hln : lo = none → vl = none)
    (hh : ∀ y, hi = some y → ∃ u, vh = some u ∧ S hd n w I y u) (hhn : hi = none → vh = none) : ∃ r av, (Instr.sliceAt t u vl vh none).run P w = .ok r w ∧ K av ∧ S hd n w I av r := by
  unfold sliceK at hk
  split at hk
  · rename_i e id sub sz off len k l ht hlo
    have hL : OptInt lo vl 0 l := optInt_of (by simpa using hlo) hl hln
    split at hk
    · rename_i k2 r hr
      have hR : OptInt hi vh len r := optInt_of hr hh hhn
      obtain ⟨rfl, hz, h0, h1, h2, hk⟩ := hk
      simp only [S] at hx
      obtain ⟨hid, hv, hh0, hw⟩ := hx
      rcases hw with ⟨b, o, m, c, c', rfl, rfl, h3, h4, h5⟩ | ⟨rfl, A, rfl⟩
      · refine ⟨_, _, run_slice_slice (tk_slice ht) hz hL hR h0 h1 (by omega), hk, ?_⟩
        simp only [S]
        refine ⟨hid, _, hh0, ?_⟩
        have e1 : r.toNat - l.toNat = (r - l).toNat := by omega
        by_cases hc : c' = l.toNat
        · refine .inr ⟨by omega, ?_⟩
          rw [e1, show (r - l).toNat = 0 by omega, hc, Nat.sub_self]
          exact ⟨_, rfl⟩
        · rw [if_neg hc, e1]
          refine .inl ⟨b, o, m, c, c' - l.toNat, rfl, ?_, by omega, by omega, by omega⟩
          simp only [Option.map_some, addr_add, Nat.add_mul, Nat.add_assoc]
      · refine ⟨_, _, run_slice_slice (tk_slice ht) hz hL hR h0 h1 (by omega), hk, ?_⟩
        simp only [S]
        refine ⟨hid, _, hh0, .inr ⟨by omega, ?_⟩⟩
        rw [show r.toNat = 0 by omega, show l.toNat = 0 by omega]
        exact ⟨_, rfl⟩
    · exact hk.elim
  · rename_i e es k l ht hlo
    have hL : OptInt lo vl 0 l := optInt_of (by simpa using hlo) hl hln
    split at hk
    · rename_i k2 r hr
      have hR : OptInt hi vh es.length r := optInt_of hr hh hhn
      obtain ⟨hz, hel, h0, h1, h2, hk⟩ := hk
      simp only [S, T] at hx
      obtain ⟨_, A, c, rfl, hc, hm, hx⟩ := hx
      refine ⟨_, _, run_slice_slice (tk_slice ht) hz hL hR h0 h1 (by omega), hk, ?_⟩
      have hlen : ((es.drop l.toNat).take (r - l).toNat).length = r.toNat - l.toNat := by simp; omega
      simp only [S, T]
      refine ⟨trivial, _, _, by rw [hlen], by rw [hlen]; omega, by rw [hlen]; omega, ?_⟩
      by_cases hnil : (es.drop l.toNat).take (r - l).toNat = []
      · exact .inl hnil
      · have hpos : 0 < r.toNat - l.toNat := by rw [← hlen]; exact List.length_pos_iff.2 hnil
        rcases hx with rfl | ⟨b, o, sz, vs, rfl, hb, hEach, hat, hT⟩
        · simp at hnil
        · have hsz : sz = szOf P e := by
            cases es with
            | nil => simp at hnil
            | cons e0 es0 => rw [← hel e0 (by simp)]; exact hEach.1.symm
          subst hsz
          obtain ⟨F1, hT1, hs1⟩ := hT.drop l.toNat hEach
          obtain ⟨F2, hT2, hs2⟩ := hT1.take (r - l).toNat (hEach.drop l.toNat)
          obtain rfl := List.sublist_nil.1 hs1
          obtain rfl := List.sublist_nil.1 hs2
          rw [if_neg (by omega)]
          refine .inr ⟨b, o + l.toNat * szOf P e, szOf P e, _, by simp only [Option.map_some, addr_add], hb, (hEach.drop _).take _, ?_, hT2⟩
          intro j q hq
          rw [List.getElem?_take] at hq
          split at hq
          · rw [List.getElem?_drop] at hq
            rw [Nat.add_assoc]
            exact hat _ _ hq
          · cases hq
    · exact hk.elim
  · rename_i e k l ht hlo
    have hL : OptInt lo vl 0 l := optInt_of (by simpa using hlo) hl hln
    split at hk
    · rename_i k2 r hr
      have hR : OptInt hi vh 0 r := optInt_of (by simpa using hr) hh hhn
      obtain ⟨hz, rfl, rfl, hk⟩ := hk
      simp only [S] at hx
      subst hx
      refine ⟨_, _, run_slice_slice (tk_slice ht) hz hL hR (by omega) (by omega) (by omega), hk, ?_⟩
      simp [S]
    · exact hk.elim
  · rename_i s k l ht hlo
    have hL : OptInt lo vl 0 l := optInt_of (by simpa using hlo) hl hln
    split at hk
    · rename_i k2 r hr
      have hR : OptInt hi vh s.size r := optInt_of hr hh hhn
      obtain ⟨h0, h1, h2, hk⟩ := hk
      simp only [S] at hx
      subst hx
      exact ⟨_, _, run_slice_str (tk_str ht) hL hR h0 h1 h2, hk, S_str⟩
    · exact hk.elim
  · exact hk.elim
end
theorem eqs_faddrK : True := by
  have := @faddrK.eq_1
  trivial
theorem eqs_iaddrK : True := by
  have := @iaddrK.eq_1
  trivial
theorem eqs_sliceK : True := by
  have := @sliceK.eq_1
  trivial
end Go.Proofs.YtlddjlchgibdfaaDoor.X
