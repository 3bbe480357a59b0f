import Derived.Test.YtlddjlchgibdfaaDoorXEv
set_option linter.unusedVariables false
set_option linter.unusedSimpArgs false
namespace Go.Proofs.YtlddjlchgibdfaaDoor.X
open Go

/-! ### Operations, the layout an argument: rules that fire at what is written out -/
def fieldK : Option (Nat × Nat) → (Nat → Prop) → Prop
  | some (off, _ + 1), K => K off
  | _, _ => False
theorem field_some {off n : Nat} {K : Nat → Prop} : fieldK (some (off, n + 1)) K = K off := _root_.id rfl
def faddrT (k : TK) (x : AV) (j : Nat) (K : AV → Prop) : Prop :=
  match k with
  | .struct fs => match fs[j]? with
    | some (off, sz') => sz' ≠ 0 ∧ match x with
      | .ptr id sub sz i c => K (.ptr id sub sz i (c + off))
      | .pf cs => K (.pf (cs.drop off))
      | _ => False
    | none => False
  | _ => False
theorem fa_ptr {fs : List (Nat × Nat)} {id : Nat} {sub : Option (Nat × Nat × Nat)} {sz i c j : Nat} {K : AV → Prop} : faddrT (.struct fs) (.ptr id sub sz i c) j K = fieldK fs[j]? fun off => K (.ptr id sub sz i (c + off)) := by
  simp only [faddrT]
  rcases fs[j]? with _ | ⟨off, _ | n⟩ <;> simp [fieldK]
theorem fa_pf {fs : List (Nat × Nat)} {cs : List AV} {j : Nat} {K : AV → Prop} : faddrT (.struct fs) (.pf cs) j K = fieldK fs[j]? fun off => K (.pf (cs.drop off)) := by
  simp only [faddrT]
  rcases fs[j]? with _ | ⟨off, _ | n⟩ <;> simp [fieldK]
def elK (z : Nat) (K : AV → Prop) : Option (List AV) → Prop
  | some el => el.length = z ∧ K (.pf el)
  | none => False
theorem el_some {z : Nat} {K : AV → Prop} {el : List AV} : elK z K (some el) = (el.length = z ∧ K (.pf el)) := _root_.id rfl
def iaddrT (P : Program) (k : TK) (x ix : AV) (K : AV → Prop) : Prop :=
  match k, x, ix with
  | .slice e, .ref id sub sz off len, .int _ i => sz = szOf P e ∧ szOf P e ≠ 0 ∧ 0 ≤ i ∧ i < len ∧ K (.ptr id sub sz (off + i.toNat) 0)
  | .slice e, .sl es, .int _ i => szOf P e ≠ 0 ∧ 0 ≤ i ∧ match es[i.toNat]? with
    | some el => el.length = szOf P e ∧ K (.pf el)
    | none => False
  | .array m e, .ptr id sub sz i0 c, .int _ i => szOf P e ≠ 0 ∧ 0 ≤ i ∧ i < m ∧ K (.ptr id sub sz i0 (c + i.toNat * szOf P e))
  | .array m e, .pf cs, .int _ i => szOf P e ≠ 0 ∧ 0 ≤ i ∧ i < m ∧ K (.pf (cs.drop (i.toNat * szOf P e)))
  | _, _, _ => False
section
variable {P : Program} {G : Glo} {C : CT} {md : FuncId → Bool} {t : List AV} {h : Heap} {n m : Nat} {K : AV → Prop} {KS : AV → St → Prop} {s : St} {e ty ty' : TypeId} {k k' : IntKind} {i a b : Int} {es : List (List AV)} {cs : List AV} {id sz off len c i0 : Nat} {sub : Option (Nat × Nat × Nat)}
theorem ia_ref : iaddrT P (.slice e) (.ref id sub sz off len) (.int k i) K = (sz = szOf P e ∧ szOf P e ≠ 0 ∧ 0 ≤ i ∧ i < len ∧ K (.ptr id sub sz (off + i.toNat) 0)) := _root_.id rfl
theorem ia_sl : iaddrT P (.slice e) (.sl es) (.int k i) K = (szOf P e ≠ 0 ∧ 0 ≤ i ∧ elK (szOf P e) K es[i.toNat]?) := by
  simp only [iaddrT]
  cases es[i.toNat]? <;> rfl
theorem ia_aptr : iaddrT P (.array m e) (.ptr id sub sz i0 c) (.int k i) K = (szOf P e ≠ 0 ∧ 0 ≤ i ∧ i < m ∧ K (.ptr id sub sz i0 (c + i.toNat * szOf P e))) := _root_.id rfl
theorem ia_apf : iaddrT P (.array m e) (.pf cs) (.int k i) K = (szOf P e ≠ 0 ∧ 0 ≤ i ∧ i < m ∧ K (.pf (cs.drop (i.toNat * szOf P e)))) := _root_.id rfl
end
def idxT (k : TK) (x ix : AV) (K : AV → Prop) : Prop :=
  match k, x, ix with
  | .str, .str s, .int _ i => 0 ≤ i ∧ i < s.size ∧ K (.int .u8 (bt s i))
  | _, _, _ => False
theorem ix_str {s : ByteArray} {k : IntKind} {i : Int} {K : AV → Prop} : idxT .str (.str s) (.int k i) K = (0 ≤ i ∧ i < s.size ∧ K (.int .u8 (bt s i))) := _root_.id rfl
/-- A slice of a place, of a tree, of a string; the limits are known. -/
def slR (P : Program) (e : TypeId) (id : Nat) (sub : Option (Nat × Nat × Nat)) (sz off len : Nat) (K : AV → Prop) : AV → AV → Prop
  | .int _ l, .int _ r => sz = szOf P e ∧ szOf P e ≠ 0 ∧ 0 ≤ l ∧ l ≤ r ∧ r ≤ len ∧ K (.ref id sub sz (off + l.toNat) (r - l).toNat)
  | _, _ => False
def slF (P : Program) (e : TypeId) (es : List (List AV)) (K : AV → Prop) : AV → AV → Prop
  | .int _ l, .int _ r => szOf P e ≠ 0 ∧ (∀ el ∈ es, el.length = szOf P e) ∧ 0 ≤ l ∧ l ≤ r ∧ r ≤ es.length ∧ K (.sl ((es.drop l.toNat).take (r - l).toNat))
  | _, _ => False
def slN (P : Program) (e : TypeId) (K : AV → Prop) : AV → AV → Prop
  | .int _ l, .int _ r => szOf P e ≠ 0 ∧ l = 0 ∧ r = 0 ∧ K .nil
  | _, _ => False
def slS (s : ByteArray) (K : AV → Prop) : AV → AV → Prop
  | .int _ l, .int _ r => 0 ≤ l ∧ l ≤ r ∧ r ≤ s.size ∧ K (.str (s.extract l.toNat r.toNat))
  | _, _ => False
def sliceT (P : Program) (k : TK) (x : AV) (lo hi : Option AV) (K : AV → Prop) : Prop :=
  match k, x with
  | .slice e, .ref id sub sz off len => slR P e id sub sz off len K (lo.getD (.int .i64 0)) (hi.getD (.int .i64 len))
  | .slice e, .sl es => slF P e es K (lo.getD (.int .i64 0)) (hi.getD (.int .i64 es.length))
  | .slice e, .nil => slN P e K (lo.getD (.int .i64 0)) (hi.getD (.int .i64 0))
  | .str, .str s => slS s K (lo.getD (.int .i64 0)) (hi.getD (.int .i64 s.size))
  | _, _ => False
section
variable {P : Program} {K : AV → Prop} {e : TypeId} {k k' : IntKind} {l r : Int} {es : List (List AV)} {id sz off len : Nat} {sub : Option (Nat × Nat × Nat)} {lo hi : Option AV} {b : ByteArray}
theorem sl_ref : sliceT P (.slice e) (.ref id sub sz off len) lo hi K = slR P e id sub sz off len K (lo.getD (.int .i64 0)) (hi.getD (.int .i64 len)) := _root_.id rfl
theorem sl_sl : sliceT P (.slice e) (.sl es) lo hi K = slF P e es K (lo.getD (.int .i64 0)) (hi.getD (.int .i64 es.length)) := _root_.id rfl
theorem sl_nil : sliceT P (.slice e) .nil lo hi K = slN P e K (lo.getD (.int .i64 0)) (hi.getD (.int .i64 0)) := _root_.id rfl
theorem sl_str : sliceT P .str (.str b) lo hi K = slS b K (lo.getD (.int .i64 0)) (hi.getD (.int .i64 b.size)) := _root_.id rfl
theorem slR_int : slR P e id sub sz off len K (.int k l) (.int k' r) = (sz = szOf P e ∧ szOf P e ≠ 0 ∧ 0 ≤ l ∧ l ≤ r ∧ r ≤ len ∧ K (.ref id sub sz (off + l.toNat) (r - l).toNat)) := _root_.id rfl
theorem slF_int : slF P e es K (.int k l) (.int k' r) = (szOf P e ≠ 0 ∧ (∀ el ∈ es, el.length = szOf P e) ∧ 0 ≤ l ∧ l ≤ r ∧ r ≤ es.length ∧ K (.sl ((es.drop l.toNat).take (r - l).toNat))) := _root_.id rfl
theorem slN_int : slN P e K (.int k l) (.int k' r) = (szOf P e ≠ 0 ∧ l = 0 ∧ r = 0 ∧ K .nil) := _root_.id rfl
theorem slS_int : slS b K (.int k l) (.int k' r) = (0 ≤ l ∧ l ≤ r ∧ r ≤ b.size ∧ K (.str (b.extract l.toNat r.toNat))) := _root_.id rfl
end
/-- Loading: what is at the place? -/
def ldC (ag : Option Nat) (cs : List AV) (c : Nat) (K : AV → Prop) : Prop :=
  match ag with
  | some n => c + n ≤ cs.length ∧ K (.agg ((cs.drop c).take n))
  | none => match cs[c]? with
    | some y => K y
    | none => False
def okV (K : AV → Prop) : Option AV → Prop
  | some y => K y
  | none => False
theorem okV_some {K : AV → Prop} {y : AV} : okV K (some y) = K y := _root_.id rfl
def okL (K : List AV → Prop) : Option (List AV) → Prop
  | some y => K y
  | none => False
theorem okL_some {K : List AV → Prop} {y : List AV} : okL K (some y) = K y := _root_.id rfl
def ldE (id : Nat) (sub : Option (Nat × Nat × Nat)) (sz i c : Nat) (K : AV → Prop) : Option Nat → Option (List AV) → Prop
  | some n, some e => c + n ≤ e.length ∧ okL (fun ys => K (.agg ys)) (cellsS id sub sz i c ((e.drop c).take n))
  | none, some e => okV K ((e[c]?).bind (cellS id sub sz i c))
  | _, none => False
def ldS (id : Nat) (sub : Option (Nat × Nat × Nat)) (sz i c : Nat) (K : AV → Prop) (ag : Option Nat) : Option (Nat × List (List AV)) → Prop
  | some (sz', es) => sz' = sz ∧ ldE id sub sz i c K ag es[i]?
  | none => False
def ldV (h : Heap) (id sz i c : Nat) (K : AV → Prop) (ag : Option Nat) : Option Ob → Prop
  | some (.var cs) => i = 0 ∧ ldC ag cs c K
  | some (.slice sz' es) => sz' = sz ∧ ldE id none sz i c K ag es[i]?
  | none => False
def loadT (ag : Option (Option Nat)) (h : Heap) (x : AV) (K : AV → Prop) : Prop :=
  match x, ag with
  | .pf cs, some (some n) => n ≤ cs.length ∧ allF (cs.take n) = true ∧ K (.agg (cs.take n))
  | .pf cs, some none => match cs with
    | y :: _ => isF y = true ∧ K y
    | [] => False
  | .ptr id none sz i c, some ag => ldV h id sz i c K ag (hget h id)
  | .ptr id (some u) sz i c, some ag => ldS id (some u) sz i c K ag (getS h id (some u))
  | _, _ => False
theorem load_eq {P : Program} {h : Heap} {ty : TypeId} {x : AV} {K : AV → Prop} : loadK P h ty x K = loadT (agT P ty) h x K := by
  unfold loadK loadT
  cases x <;> try rfl
  case pf cs => rcases agT P ty with _ | _ | n <;> rfl
  case ptr id sub sz i c =>
    rcases agT P ty with _ | ag
    · cases sub <;> rfl
    cases sub with
    | none =>
      simp only [getS, ldV]
      rcases hget h id with _ | ⟨sz', es⟩ | cs
      · rfl
      · simp only
        rcases es[i]? with _ | e
        · simp [ldE]
        rcases ag with _ | n
        · simp only [ldE]
          rcases e[c]? with _ | y
          · rfl
          · simp only [Option.bind_some]
            rcases cellS id none sz i c y with _ | z <;> rfl
        · simp only [ldE]
          rcases cellsS id none sz i c _ with _ | z <;> rfl
      · simp only [ldC]
        cases ag <;> rfl
    | some u =>
      simp only [ldS]
      rcases hq : getS h id (some u) with _ | ⟨sz', es⟩
      · simp
      · simp only
        rcases es[i]? with _ | e
        · simp [ldE]
        rcases ag with _ | n
        · simp only [ldE]
          rcases e[c]? with _ | y
          · rfl
          · simp only [Option.bind_some]
            rcases cellS id (some u) sz i c y with _ | z <;> rfl
        · simp only [ldE]
          rcases cellsS id (some u) sz i c _ with _ | z <;> rfl
section
variable {h : Heap} {id sz sz' i c n : Nat} {sub : Option (Nat × Nat × Nat)} {u : Nat × Nat × Nat} {K : AV → Prop} {ag : Option Nat} {cs e : List AV} {es : List (List AV)} {y : AV}
theorem ld_pfa : loadT (some (some n)) h (.pf cs) K = (n ≤ cs.length ∧ allF (cs.take n) = true ∧ K (.agg (cs.take n))) := _root_.id rfl
theorem ld_pf : loadT (some none) h (.pf (y :: cs)) K = (isF y = true ∧ K y) := _root_.id rfl
theorem ld_ptr : loadT (some ag) h (.ptr id none sz i c) K = ldV h id sz i c K ag (hget h id) := _root_.id rfl
theorem ld_sub : loadT (some ag) h (.ptr id (some u) sz i c) K = ldS id (some u) sz i c K ag (getS h id (some u)) := _root_.id rfl
theorem ldV_var : ldV h id sz i c K ag (some (.var cs)) = (i = 0 ∧ ldC ag cs c K) := _root_.id rfl
theorem ldV_slice : ldV h id sz i c K ag (some (.slice sz' es)) = (sz' = sz ∧ ldE id none sz i c K ag es[i]?) := _root_.id rfl
theorem ldS_some : ldS id sub sz i c K ag (some (sz', es)) = (sz' = sz ∧ ldE id sub sz i c K ag es[i]?) := _root_.id rfl
theorem ldE_agg : ldE id sub sz i c K (some n) (some e) = (c + n ≤ e.length ∧ okL (fun ys => K (.agg ys)) (cellsS id sub sz i c ((e.drop c).take n))) := _root_.id rfl
theorem ldE_one : ldE id sub sz i c K none (some e) = okV K ((e[c]?).bind (cellS id sub sz i c)) := _root_.id rfl
theorem ldC_agg : ldC (some n) cs c K = (c + n ≤ cs.length ∧ K (.agg ((cs.drop c).take n))) := _root_.id rfl
theorem ldC_one : ldC none cs c K = okV K cs[c]? := by simp only [ldC]; cases cs[c]? <;> rfl
end
/-! storing -/
def stIf (b : Bool) (K : St → Prop) (s : St) : Prop := if b = true then K s else K (killSt s)
theorem stIf_true {K : St → Prop} {s : St} : stIf true K s = K s := _root_.id rfl
theorem stIf_false {K : St → Prop} {s : St} : stIf false K s = K (killSt s) := _root_.id rfl
def stC (s : St) (id sz i : Nat) (es : List (List AV)) (K : St → Prop) (f : List AV → List AV) : Option (List AV × Heap) → Prop
  | some (ys, h') => match hget h' id with
    | some (.slice _ _) => K (killSt ⟨s.tmps, hset h' id (.slice sz (es.set i (f ys))), s.next⟩)
    | _ => False
  | none => False
def stE (s : St) (id : Nat) (sub : Option (Nat × Nat × Nat)) (sz i c : Nat) (cs : List AV) (es : List (List AV)) (K : St → Prop) : Option (List AV) → Prop
  | some e => c + cs.length ≤ e.length ∧ ifB (allSc cs && allSc ((e.drop c).take cs.length)) (K ⟨s.tmps, setS s.heap id sub (es.set i (setsA e c cs)), s.next⟩)
      (sub = none ∧ stC s id sz i es K (setsA e c) (conL s.heap cs))
  | none => False
def stG (s : St) (id : Nat) (sub : Option (Nat × Nat × Nat)) (sz i c : Nat) (cs : List AV) (K : St → Prop) : Option (Nat × List (List AV)) → Prop
  | some (sz', es) => sz' = sz ∧ stE s id sub sz i c cs es K es[i]?
  | none => False
def stV (s : St) (id sz i c : Nat) (cs : List AV) (K : St → Prop) : Option Ob → Prop
  | some (.var old) => i = 0 ∧ c + cs.length ≤ old.length ∧ stIf (allSc ((old.drop c).take cs.length)) K ⟨s.tmps, hset s.heap id (.var (setsA old c cs)), s.next⟩
  | some (.slice sz' es) => sz' = sz ∧ stE s id none sz i c cs es K es[i]?
  | none => False
def storeT (z : Nat) (s : St) (x : AV) (K : St → Prop) : Option (List AV) → Prop
  | some cs => z ≠ 0 ∧ cs.length = z ∧ match x with
    | .ptr id none sz i c => stV s id sz i c cs K (hget s.heap id)
    | .ptr id (some u) sz i c => stG s id (some u) sz i c cs K (getS s.heap id (some u))
    | _ => False
  | none => False
theorem stE_eq {s : St} {id : Nat} {sub : Option (Nat × Nat × Nat)} {sz i c : Nat} {cs : List AV} {es : List (List AV)} {K : St → Prop} : stE s id sub sz i c cs es K es[i]? = match es[i]? with
        | some e => c + cs.length ≤ e.length ∧
          (if allSc cs = true ∧ allSc ((e.drop c).take cs.length) = true then K ⟨s.tmps, setS s.heap id sub (es.set i (setsA e c cs)), s.next⟩
           else sub = none ∧ match conL s.heap cs with
             | some (ys, h') => match hget h' id with
               | some (.slice _ _) => K (killSt ⟨s.tmps, hset h' id (.slice sz (es.set i (setsA e c ys))), s.next⟩)
               | _ => False
             | none => False)
        | none => False := by
  rcases es[i]? with _ | e
  · rfl
  simp only [stE, stC]
  cases h1 : allSc cs <;> cases h2 : allSc ((e.drop c).take cs.length) <;> simp [ifB] <;>
    (rcases conL s.heap cs with _ | ⟨ys, h'⟩ <;> simp)
theorem store_eq {P : Program} {s : St} {ty : TypeId} {x v : AV} {K : St → Prop} : storeK P s ty x v K = storeT (szOf P ty) s x K (cellsV v) := by
  unfold storeK storeT
  cases x <;> (try (rcases cellsV v with _ | cs <;> simp; done))
  case ptr id sub sz i c =>
    rcases cellsV v with _ | cs
    · rfl
    cases sub with
    | none =>
      simp only [getS, stV]
      rcases hget s.heap id with _ | ⟨sz', es⟩ | old
      · rfl
      · simp only [stE_eq]; rfl
      · simp only [stIf]
    | some u =>
      simp only [stG]
      rcases getS s.heap id (some u) with _ | ⟨sz', es⟩
      · rfl
      · simp only [stE_eq]; rfl
section
variable {s : St} {h' : Heap} {id z sz sz' i c : Nat} {sub : Option (Nat × Nat × Nat)} {u : Nat × Nat × Nat} {K : St → Prop} {cs e old ys : List AV} {es : List (List AV)} {f : List AV → List AV}
theorem st_ptr : storeT z s (.ptr id none sz i c) K (some cs) = (z ≠ 0 ∧ cs.length = z ∧ stV s id sz i c cs K (hget s.heap id)) := _root_.id rfl
theorem st_sub : storeT z s (.ptr id (some u) sz i c) K (some cs) = (z ≠ 0 ∧ cs.length = z ∧ stG s id (some u) sz i c cs K (getS s.heap id (some u))) := _root_.id rfl
theorem stV_var : stV s id sz i c cs K (some (.var old)) = (i = 0 ∧ c + cs.length ≤ old.length ∧ stIf (allSc ((old.drop c).take cs.length)) K ⟨s.tmps, hset s.heap id (.var (setsA old c cs)), s.next⟩) := _root_.id rfl
theorem stV_slice : stV s id sz i c cs K (some (.slice sz' es)) = (sz' = sz ∧ stE s id none sz i c cs es K es[i]?) := _root_.id rfl
theorem stG_some : stG s id sub sz i c cs K (some (sz', es)) = (sz' = sz ∧ stE s id sub sz i c cs es K es[i]?) := _root_.id rfl
theorem stE_some : stE s id sub sz i c cs es K (some e) = (c + cs.length ≤ e.length ∧ ifB (allSc cs && allSc ((e.drop c).take cs.length)) (K ⟨s.tmps, setS s.heap id sub (es.set i (setsA e c cs)), s.next⟩)
      (sub = none ∧ stC s id sz i es K (setsA e c) (conL s.heap cs))) := _root_.id rfl
def stD (s : St) (id sz i : Nat) (es : List (List AV)) (K : St → Prop) (ys' : List AV) (h' : Heap) : Option Ob → Prop
  | some (.slice _ _) => K (killSt ⟨s.tmps, hset h' id (.slice sz (es.set i ys')), s.next⟩)
  | _ => False
theorem stC_some : stC s id sz i es K f (some (ys, h')) = stD s id sz i es K (f ys) h' (hget h' id) := by
  simp only [stC, stD]

theorem stD_some {es' : List (List AV)} : stD s id sz i es K ys h' (some (.slice sz' es')) = K (killSt ⟨s.tmps, hset h' id (.slice sz (es.set i ys)), s.next⟩) := _root_.id rfl
end
/-! variables and slices that are made -/
def allocT (z : Option (List AV)) (s : St) (K : AV → St → Prop) : Prop :=
  match z with
  | some cs => K (.ptr s.next none 0 0 0) ⟨s.tmps, (s.next, .var cs) :: s.heap, s.next + 1⟩
  | none => False
theorem al_some {cs : List AV} {t : List AV} {h : Heap} {n : Nat} {K : AV → St → Prop} : allocT (some cs) ⟨t, h, n⟩ K = K (.ptr n none 0 0 0) ⟨t, (n, .var cs) :: h, n + 1⟩ := _root_.id rfl
theorem box_eq {s : St} {v : AV} {K : AV → St → Prop} : boxK s v K = allocT (cellsV v) s K := by
  unfold boxK allocT; cases cellsV v <;> rfl
theorem cv_agg {cs : List AV} : cellsV (.agg cs) = some cs := _root_.id rfl
theorem cv_int {k : IntKind} {i : Int} : cellsV (.int k i) = some [.int k i] := _root_.id rfl
theorem cv_bool {b : Bool} : cellsV (.bool b) = some [.bool b] := _root_.id rfl
theorem cv_str {b : ByteArray} : cellsV (.str b) = some [.str b] := _root_.id rfl
theorem cv_nil : cellsV .nil = some [.nil] := _root_.id rfl
theorem cv_sl {es : List (List AV)} : cellsV (.sl es) = some [.sl es] := _root_.id rfl
theorem cv_pf {es : List AV} : cellsV (.pf es) = some [.pf es] := _root_.id rfl
theorem cv_ref {id : Nat} {sub : Option (Nat × Nat × Nat)} {a b c : Nat} : cellsV (.ref id sub a b c) = some [.ref id sub a b c] := _root_.id rfl
theorem cv_ptr {id : Nat} {sub : Option (Nat × Nat × Nat)} {a b c : Nat} : cellsV (.ptr id sub a b c) = some [.ptr id sub a b c] := _root_.id rfl
theorem cv_fn {f : FuncId} {cs : List AV} : cellsV (.fn f cs) = some [.fn f cs] := _root_.id rfl
def okAgg (K : AV → Prop) : Option (List AV) → Prop
  | some cs => K (.agg cs)
  | none => False
theorem okAgg_some {K : AV → Prop} {cs : List AV} : okAgg K (some cs) = K (.agg cs) := _root_.id rfl
def buildT (pl : Option (List (Nat × Nat))) (z : Option (List AV)) (parts : List (Nat × AV)) (K : AV → Prop) : Prop :=
  match pl, z with
  | some pl, some zs => okAgg K (fillA (pl[·]?) zs parts)
  | _, _ => False
theorem build_eq {P : Program} {ty : TypeId} {parts : List (Nat × AV)} {K : AV → Prop} : buildK P ty parts K = buildT (places P ty) (zeroCells P ty) parts K := by
  unfold buildK buildT
  rcases places P ty with _ | pl <;> rcases zeroCells P ty with _ | zs <;> try rfl


theorem bu_some {pl : List (Nat × Nat)} {zs : List AV} {parts : List (Nat × AV)} {K : AV → Prop} : buildT (some pl) (some zs) parts K = okAgg K (fillA (pl[·]?) zs parts) := _root_.id rfl
theorem fill_nil {p : Nat → Option (Nat × Nat)} {cs : List AV} : fillA p cs [] = some cs := _root_.id rfl
def fill1 (p : Nat → Option (Nat × Nat)) (cells : List AV) (rest : List (Nat × AV)) : Option (Nat × Nat) → Option (List AV) → Option (List AV)
  | some (off, size), some cs => if cs.length = size ∧ off + cs.length ≤ cells.length then fillA p (setsA cells off cs) rest else none
  | _, _ => none
theorem fill_cons {p : Nat → Option (Nat × Nat)} {cs : List AV} {i : Nat} {v : AV} {rest : List (Nat × AV)} : fillA p cs ((i, v) :: rest) = fill1 p cs rest (p i) (cellsV v) := by
  simp only [fillA]
  rcases p i with _ | ⟨_, _⟩ <;> rcases cellsV v with _ | _ <;> rfl
theorem fill1_some {p : Nat → Option (Nat × Nat)} {cells cs : List AV} {rest : List (Nat × AV)} {off size : Nat} : fill1 p cells rest (some (off, size)) (some cs) = if cs.length = size ∧ off + cs.length ≤ cells.length then fillA p (setsA cells off cs) rest else none := _root_.id rfl
def mkE (s : St) (z : Nat) (l : Int) (K : AV → St → Prop) : Option (List AV) → Prop
  | some zs => zs.length = z ∧ allF zs = true ∧ K (.ref s.next none z 0 l.toNat) ⟨s.tmps, (s.next, .slice z (List.replicate l.toNat zs)) :: s.heap, s.next + 1⟩
  | none => False
theorem mkE_some {t : List AV} {h : Heap} {n z : Nat} {l : Int} {K : AV → St → Prop} {zs : List AV} : mkE ⟨t, h, n⟩ z l K (some zs) = (zs.length = z ∧ allF zs = true ∧ K (.ref n none z 0 l.toNat) ⟨t, (n, .slice z (List.replicate l.toNat zs)) :: h, n + 1⟩) := _root_.id rfl
def makeT (P : Program) (k : TK) (s : St) (l c : AV) (K : AV → St → Prop) : Prop :=
  match k, l, c with
  | .slice e, .int _ l, .int _ c => szOf P e ≠ 0 ∧ 0 ≤ l ∧ l ≤ c ∧ (byOf P e : Int) * c ≤ 140737488355328 ∧ c ≤ 9223372036854775807 ∧ mkE s (szOf P e) l K (zeroCells P e)
  | _, _, _ => False
theorem make_eq {P : Program} {s : St} {ty : TypeId} {l c : AV} {K : AV → St → Prop} : makeSliceK P s ty l c K = makeT P (tk P ty) s l c K := by
  unfold makeSliceK makeT
  rcases tk P ty with _ | _ | _ | _ | _ | _ | _ | _ <;> cases l <;> cases c <;> try rfl



theorem mk_slice {P : Program} {e : TypeId} {s : St} {k k' : IntKind} {l c : Int} {K : AV → St → Prop} : makeT P (.slice e) s (.int k l) (.int k' c) K = (szOf P e ≠ 0 ∧ 0 ≤ l ∧ l ≤ c ∧ (byOf P e : Int) * c ≤ 140737488355328 ∧ c ≤ 9223372036854775807 ∧ mkE s (szOf P e) l K (zeroCells P e)) := _root_.id rfl
def bsC (s : St) (z len : Nat) (K : AV → St → Prop) : Option (List AV × Heap) → Prop
  | some (ts, h') => K (.ref s.next none z 0 len) ⟨s.tmps, (s.next, .slice z (chunk z len ts)) :: h', s.next + 1⟩
  | none => False
def bsF (s : St) (z len : Nat) (K : AV → St → Prop) : Option (List AV) → Prop
  | some cs => bsC s z len K (conL s.heap cs)
  | none => False
def bsZ (s : St) (z len : Nat) (parts : List (Nat × AV)) (K : AV → St → Prop) : Option (List AV) → Prop
  | some zs => zs.length = z ∧ bsF s z len K (fillA (fun i => some (i * z, z)) ((List.replicate len zs).flatten) parts)
  | none => False
def buildST (P : Program) (k : TK) (s : St) (len : Nat) (parts : List (Nat × AV)) (K : AV → St → Prop) : Prop :=
  match k with
  | .slice e => szOf P e ≠ 0 ∧ len * szOf P e ≤ 16777216 ∧ if len = 0 then K (.ref s.next none (szOf P e) 0 0) ⟨s.tmps, (s.next, .slice (szOf P e) []) :: s.heap, s.next + 1⟩ else bsZ s (szOf P e) len parts K (zeroCells P e)
  | _ => False
theorem buildS_eq {P : Program} {s : St} {ty : TypeId} {len : Nat} {parts : List (Nat × AV)} {K : AV → St → Prop} : buildSliceK P s ty len parts K = buildST P (tk P ty) s len parts K := by
  unfold buildSliceK buildST
  rcases tk P ty with e | _ | _ | _ | _ | _ | _ | _ <;> try rfl




theorem bs_slice {P : Program} {e : TypeId} {s : St} {len : Nat} {parts : List (Nat × AV)} {K : AV → St → Prop} : buildST P (.slice e) s len parts K = (szOf P e ≠ 0 ∧ len * szOf P e ≤ 16777216 ∧ if len = 0 then K (.ref s.next none (szOf P e) 0 0) ⟨s.tmps, (s.next, .slice (szOf P e) []) :: s.heap, s.next + 1⟩ else bsZ s (szOf P e) len parts K (zeroCells P e)) := _root_.id rfl
theorem bsZ_some {s : St} {z len : Nat} {parts : List (Nat × AV)} {K : AV → St → Prop} {zs : List AV} : bsZ s z len parts K (some zs) = (zs.length = z ∧ bsF s z len K (fillA (fun i => some (i * z, z)) ((List.replicate len zs).flatten) parts)) := _root_.id rfl
theorem bsF_some {s : St} {z len : Nat} {K : AV → St → Prop} {cs : List AV} : bsF s z len K (some cs) = bsC s z len K (conL s.heap cs) := _root_.id rfl
theorem bsC_some {t : List AV} {h h' : Heap} {n : Nat} {z len : Nat} {K : AV → St → Prop} {ts : List AV} : bsC ⟨t, h, n⟩ z len K (some (ts, h')) = K (.ref n none z 0 len) ⟨t, (n, .slice z (chunk z len ts)) :: h', n + 1⟩ := _root_.id rfl
def lenT (k : TK) (x : AV) (K : AV → Prop) : Prop :=
  match k, x with
  | .slice _, .ref _ _ _ _ len => K (.int .i64 len)
  | .slice _, .sl es => K (.int .i64 es.length)
  | .slice _, .nil => K (.int .i64 0)
  | .str, .str s => K (.int .i64 s.size)
  | _, _ => False
theorem len_eq {P : Program} {ty : TypeId} {x : AV} {K : AV → Prop} : lenK P ty x K = lenT (tk P ty) x K := _root_.id rfl
theorem len_ref {e : TypeId} {id sz off len : Nat} {sub : Option (Nat × Nat × Nat)} {K : AV → Prop} : lenT (.slice e) (.ref id sub sz off len) K = K (.int .i64 len) := _root_.id rfl
theorem len_sl {e : TypeId} {es : List (List AV)} {K : AV → Prop} : lenT (.slice e) (.sl es) K = K (.int .i64 es.length) := _root_.id rfl
theorem len_nil {e : TypeId} {K : AV → Prop} : lenT (.slice e) .nil K = K (.int .i64 0) := _root_.id rfl
theorem len_str {b : ByteArray} {K : AV → Prop} : lenT .str (.str b) K = K (.int .i64 b.size) := _root_.id rfl
def convT (k k' : TK) (x : AV) (K : AV → Prop) : Prop :=
  match k, k', x with
  | .int _, .int k, .int _ n => K (.int k (k.wrap n))
  | _, _, _ => False
theorem conv_eq {P : Program} {ty ty' : TypeId} {x : AV} {K : AV → Prop} : convK P ty ty' x K = convT (tk P ty) (tk P ty') x K := _root_.id rfl
theorem conv_int {k k' k2 : IntKind} {n : Int} {K : AV → Prop} : convT (.int k) (.int k') (.int k2 n) K = K (.int k' (k'.wrap n)) := _root_.id rfl
/-! appending -/
def apY (s : St) (z by' : Nat) (es1 : List (List AV)) (K : AV → St → Prop) : Option (List (List AV) × Heap) → Prop
  | some (es2, h2) => (es1.length + es2.length) * by' ≤ 140737488355328 ∧ K (.ref s.next none z 0 (es1.length + es2.length)) (killSt ⟨s.tmps, (s.next, .slice z (es1 ++ es2)) :: h2, s.next + 1⟩)
  | none => False
def apX (P : Program) (s : St) (tx : TypeId) (z by' : Nat) (y : AV) (K : AV → St → Prop) : Option (List (List AV) × Heap) → Prop
  | some (es1, h1) => apY s z by' es1 K (appY P h1 z tx y)
  | none => False
def appendT (P : Program) (k : TK) (s : St) (tx : TypeId) (x y : AV) (K : AV → St → Prop) : Prop :=
  match k with
  | .slice e => szOf P e ≠ 0 ∧ byOf P e ≠ 0 ∧ (zeroCells P e).map (·.length) = some (szOf P e) ∧ apX P s tx (szOf P e) (byOf P e) y K (appX P s.heap (szOf P e) x)
  | _ => False
theorem append_eq {P : Program} {s : St} {ty tx : TypeId} {x y : AV} {K : AV → St → Prop} : appendK P s ty tx x y K = appendT P (tk P ty) s tx x y K := by
  unfold appendK appendT
  rcases tk P ty with e | _ | _ | _ | _ | _ | _ | _ <;> try rfl



def apXR (z z' off len : Nat) (h : Heap) (id : Nat) : Option Ob → Option (List (List AV) × Heap)
  | some (.slice sz2 es) => if z' = sz2 ∧ z' = z then some ((es.drop off).take len, hdel h id) else none
  | _ => none
def apYR (z z' off len : Nat) (h : Heap) (id : Nat) (sub : Option (Nat × Nat × Nat)) : Option (Nat × List (List AV)) → Option (List (List AV) × Heap)
  | some (sz2, es) => if z' = sz2 ∧ z' = z then (if allScs ((es.drop off).take len) then some ((es.drop off).take len, h) else match sub with | none => some ((es.drop off).take len, hdel h id) | some _ => none) else none
  | _ => none
def appYT (h : Heap) (sz : Nat) (k : TK) : AV → Option (List (List AV) × Heap)
  | .nil => match k with | .slice _ => some ([], h) | _ => none
  | .ref id sub sz' off len => match k with | .slice _ => apYR sz sz' off len h id sub (getS h id sub) | _ => none
  | .sl es => match k with | .slice _ => if es.all (fun e => e.length == sz) then some (es, h) else none | _ => none
  | .str s => match k with | .str => if sz = 1 then some (s.data.toList.map fun b => [.int .u8 b.toNat], h) else none | _ => none
  | _ => none
theorem appY_eq {P : Program} {h : Heap} {sz : Nat} {tx : TypeId} {y : AV} : appY P h sz tx y = appYT h sz (tk P tx) y := by
  cases y <;> try rfl
  rename_i id sub sz' off len
  simp only [appY, appYT]
  rcases tk P tx with e | _ | _ | _ | _ | _ | _ | _ <;> try rfl
  simp only
  rcases getS h id sub with _ | ⟨a, b⟩ <;> rfl
section
variable {P : Program} {e tx : TypeId} {s : St} {t : List AV} {h h1 h2 : Heap} {n z z' by' id off len sz2 : Nat} {x y : AV} {K : AV → St → Prop} {es es1 es2 : List (List AV)} {sub : Option (Nat × Nat × Nat)} {b : ByteArray}
theorem ap_slice : appendT P (.slice e) s tx x y K = (szOf P e ≠ 0 ∧ byOf P e ≠ 0 ∧ (zeroCells P e).map (·.length) = some (szOf P e) ∧ apX P s tx (szOf P e) (byOf P e) y K (appX P s.heap (szOf P e) x)) := _root_.id rfl
theorem apX_some : apX P s tx z by' y K (some (es1, h1)) = apY s z by' es1 K (appYT h1 z (tk P tx) y) := by rw [← appY_eq]; rfl
theorem apY_some : apY ⟨t, h, n⟩ z by' es1 K (some (es2, h2)) = ((es1.length + es2.length) * by' ≤ 140737488355328 ∧ K (.ref n none z 0 (es1.length + es2.length)) (killSt ⟨t, (n, .slice z (es1 ++ es2)) :: h2, n + 1⟩)) := _root_.id rfl
theorem appX_nil : appX P h z .nil = some ([], h) := _root_.id rfl
theorem appX_ref : appX P h z (.ref id none z' off len) = apXR z z' off len h id (hget h id) := by
  simp only [appX, apXR]
  rcases hget h id with _ | ⟨_, _⟩ | _ <;> rfl
theorem apXR_some : apXR z z' off len h id (some (.slice sz2 es)) = if z' = sz2 ∧ z' = z then some ((es.drop off).take len, hdel h id) else none := _root_.id rfl
theorem appY_nil : appYT h z (.slice e) .nil = some ([], h) := _root_.id rfl
theorem appY_ref : appYT h z (.slice e) (.ref id sub z' off len) = apYR z z' off len h id sub (getS h id sub) := _root_.id rfl
theorem appY_sl : appYT h z (.slice e) (.sl es) = if es.all (fun e => e.length == z) then some (es, h) else none := _root_.id rfl
theorem appY_str : appYT h z .str (.str b) = if z = 1 then some (b.data.toList.map fun b => [.int .u8 b.toNat], h) else none := _root_.id rfl
theorem apYR_sc (hs : allScs ((es.drop off).take len) = true) : apYR z z' off len h id sub (some (sz2, es)) = if z' = sz2 ∧ z' = z then some ((es.drop off).take len, h) else none := by
  simp [apYR, hs]
theorem apYR_ns (hs : allScs ((es.drop off).take len) = false) : apYR z z' off len h id none (some (sz2, es)) = if z' = sz2 ∧ z' = z then some ((es.drop off).take len, hdel h id) else none := by
  simp [apYR, hs]
theorem getS_none : getS h id none = (match hget h id with | some (.slice sz es) => some (sz, es) | _ => none) := _root_.id rfl
end
/-! the operations by their layouts -/
section
variable {P : Program} {G : Glo} {C : CT} {md : FuncId → Bool} {s : St} {K : AV → St → Prop} {ty ty' : TypeId} {x y i v l c : Operand} {j : Nat}
theorem p_faddr : opK P G C md (.fieldAddr ty x j) s K = faddrT (tk P ty) (ev G s x) j (fun v => K v s) := _root_.id rfl
theorem p_iaddr : opK P G C md (.indexAddr ty x i) s K = iaddrT P (tk P ty) (ev G s x) (ev G s i) (fun v => K v s) := _root_.id rfl
theorem p_idx : opK P G C md (.index ty x i) s K = idxT (tk P ty) (ev G s x) (ev G s i) (fun v => K v s) := _root_.id rfl
theorem p_slice {lo hi : Option Operand} : opK P G C md (.slice ty x lo hi none) s K = sliceT P (tk P ty) (ev G s x) (lo.map (ev G s)) (hi.map (ev G s)) (fun v => K v s) := by
  simp only [opK, sliceK, sliceT]
  rcases tk P ty with e | _ | _ | _ | _ | _ | _ | _ <;> cases ev G s x <;> (try rfl) <;>
  cases (lo.map (ev G s)).getD (.int .i64 0) <;> (try rfl) <;> simp only [slR, slF, slN, slS] <;>
  (generalize Option.getD _ _ = z; cases z <;> rfl)
theorem p_load : opK P G C md (.load ty x) s K = loadT (agT P ty) s.heap (ev G s x) (fun v => K v s) := (_root_.id rfl : _ = loadK P s.heap ty (ev G s x) (fun v => K v s)).trans load_eq
theorem p_store : opK P G C md (.store ty x v) s K = storeT (szOf P ty) s (ev G s x) (fun s' => K .any s') (cellsV (ev G s v)) := store_eq
theorem p_alloc : opK P G C md (.alloc ty) s K = allocT (zeroCells P ty) s K := _root_.id rfl
theorem p_box : opK P G C md (.box ty x) s K = allocT (cellsV (ev G s x)) s K := box_eq
theorem p_build {ps : Array (Nat × Operand)} : opK P G C md (.build ty ps) s K = buildT (places P ty) (zeroCells P ty) (ps.toList.map fun p => (p.1, ev G s p.2)) (fun v => K v s) := (_root_.id rfl : _ = buildK P ty (ps.toList.map fun p => (p.1, ev G s p.2)) (fun v => K v s)).trans build_eq
theorem p_buildS {m : Nat} {ps : Array (Nat × Operand)} : opK P G C md (.buildSlice ty m ps) s K = ((m = 0 → ps.toList = []) ∧ buildST P (tk P ty) s m (ps.toList.map fun p => (p.1, ev G s p.2)) K) := by
  rw [o_buildS, buildS_eq]
theorem p_make : opK P G C md (.makeSlice ty l c) s K = makeT P (tk P ty) s (ev G s l) (ev G s c) K := make_eq
theorem p_conv : opK P G C md (.convert ty ty' x) s K = convT (tk P ty) (tk P ty') (ev G s x) (fun v => K v s) := _root_.id rfl
theorem p_len : opK P G C md (.call ⟨.builtin .len, ⟨[x]⟩, ⟨[ty]⟩⟩) s K = lenT (tk P ty) (ev G s x) (fun v => K v s) := _root_.id rfl
theorem p_append : opK P G C md (.call ⟨.builtin .append, ⟨[x, y]⟩, ⟨[ty, ty']⟩⟩) s K = appendT P (tk P ty) s ty' (ev G s x) (ev G s y) K := append_eq
end
/-! binary operators -/
section
variable {P : Program} {ty : TypeId} {k k' : IntKind} {a b : Int} {K : AV → Prop} {u v : ByteArray} {p q : Bool}
theorem bi_add : binK P .add ty (.int k a) (.int k' b) K = (k = k' ∧ K (.int k (k.wrap (a + b)))) := _root_.id rfl
theorem bi_sub : binK P .sub ty (.int k a) (.int k' b) K = (k = k' ∧ K (.int k (k.wrap (a - b)))) := _root_.id rfl
theorem bi_mul : binK P .mul ty (.int k a) (.int k' b) K = (k = k' ∧ K (.int k (k.wrap (a * b)))) := _root_.id rfl
theorem bi_quo : binK P .quo ty (.int k a) (.int k' b) K = (k = k' ∧ b ≠ 0 ∧ K (.int k (k.wrap (a.tdiv b)))) := _root_.id rfl
theorem bi_rem : binK P .rem ty (.int k a) (.int k' b) K = (k = k' ∧ b ≠ 0 ∧ K (.int k (a.tmod b))) := _root_.id rfl
theorem bi_eql : binK P .eql ty (.int k a) (.int k' b) K = (k = k' ∧ K (.bool (decide (a = b)))) := by
  simp only [binK, intK]; rw [show (a == b) = decide (a = b) from rfl]
theorem bi_neq : binK P .neq ty (.int k a) (.int k' b) K = (k = k' ∧ K (.bool (!decide (a = b)))) := by
  simp only [binK, intK]; rw [show (a != b) = !decide (a = b) from rfl]
theorem bi_lss : binK P .lss ty (.int k a) (.int k' b) K = (k = k' ∧ K (.bool (decide (a < b)))) := _root_.id rfl
theorem bi_leq : binK P .leq ty (.int k a) (.int k' b) K = (k = k' ∧ K (.bool (decide (a ≤ b)))) := _root_.id rfl
theorem bi_gtr : binK P .gtr ty (.int k a) (.int k' b) K = (k = k' ∧ K (.bool (decide (b < a)))) := _root_.id rfl
theorem bi_geq : binK P .geq ty (.int k a) (.int k' b) K = (k = k' ∧ K (.bool (decide (b ≤ a)))) := _root_.id rfl
theorem bi_shl : binK P .shl ty (.int k a) (.int k' b) K = (0 ≤ b ∧ K (.int k (k.wrap (a * 2 ^ (min b.toNat k.bits))))) := _root_.id rfl
theorem bi_shr : binK P .shr ty (.int k a) (.int k' b) K = (0 ≤ b ∧ K (.int k (a.fdiv (2 ^ (min b.toNat k.bits))))) := _root_.id rfl
theorem bi_str {op : BinOp} : binK P op ty (.str u) (.str v) K = strK op u v K := by cases op <;> rfl
def bbT (k : TK) (op : BinOp) (a b : Bool) (K : AV → Prop) : Prop :=
  match k, op with
  | .bool, .eql => K (.bool (a == b))
  | .bool, .neq => K (.bool (!(a == b)))
  | _, _ => False
theorem bi_bool {op : BinOp} : binK P op ty (.bool p) (.bool q) K = bbT (tk P ty) op p q K := by cases op <;> rfl
theorem bb_eql : bbT .bool .eql p q K = K (.bool (p == q)) := _root_.id rfl
theorem bb_neq : bbT .bool .neq p q K = K (.bool (!(p == q))) := _root_.id rfl
def snT (k : TK) (op : BinOp) (e : Prop) (K : AV → Prop) : Prop :=
  match k, op with
  | .slice _, .eql => ∀ b : Bool, (b = true → e) → K (.bool b)
  | .slice _, .neq => ∀ b : Bool, (b = false → e) → K (.bool b)
  | _, _ => False
theorem bi_sln {op : BinOp} {es : List (List AV)} : binK P op ty (.sl es) .nil K = snT (tk P ty) op (es = []) K := by cases op <;> rfl
theorem bi_refn {op : BinOp} {id sz off len : Nat} : binK P op ty (.ref id none sz off len) .nil K = snT (tk P ty) op (len = 0) K := by cases op <;> rfl
def nnT (k : TK) (op : BinOp) (K : AV → Prop) : Prop :=
  match k, op with
  | .slice _, .eql => K (.bool true)
  | .slice _, .neq => K (.bool false)
  | _, _ => False
theorem bi_niln {op : BinOp} : binK P op ty .nil .nil K = nnT (tk P ty) op K := by cases op <;> rfl
theorem nn_eql {e : TypeId} : nnT (.slice e) .eql K = K (.bool true) := _root_.id rfl
theorem nn_neq {e : TypeId} : nnT (.slice e) .neq K = K (.bool false) := _root_.id rfl
theorem sn_eql {e : TypeId} {z : Prop} : snT (.slice e) .eql z K = ∀ b : Bool, (b = true → z) → K (.bool b) := _root_.id rfl
theorem sn_neq {e : TypeId} {z : Prop} : snT (.slice e) .neq z K = ∀ b : Bool, (b = false → z) → K (.bool b) := _root_.id rfl
end
/-! loops -/
section
variable {P : Program} {G : Glo} {C : CT} {md : FuncId → Bool} {B : Nat} {c : XC} {s : St} {Q : XE → St → Prop}
/-- A loop by what its heads may be; k: how many rounds are still to come at most. -/
theorem R_ind (acts : List Keepd) (H : Nat → St → Prop) (k0 : Nat) (s0 : St) (h0 : HeadAt B acts s s0) (hH : H k0 s0)
    (h : ∀ k s', H k s' → ∀ J : St → Prop, (∀ k' s s'', k' < k → H k' s'' → HeadAt B acts s s'' → J s) → R P G C md B c s' (thenX J Q)) : R P G C md B (.loop c) s Q := by
  refine R_loop acts fun J hJ => ?_
  have key : ∀ k s s', H k s' → HeadAt B acts s s' → J s := by
    intro k
    induction k using Nat.strongRecOn with
    | ind k ih =>
      intro s s' hk hs
      exact hJ s s' hs (h k s' hk J fun k' s s'' hlt h2 h3 => ih k' hlt s s'' h2 h3)
  exact key k0 s s0 hH h0
/-- A loop that counts: its heads are a function of the count. -/
theorem R_count (acts : List Keepd) (S : Nat → St) (I : Nat → Prop) (n i0 : Nat) (h0 : HeadAt B acts s (S i0)) (hle : i0 ≤ n) (hI : I i0)
    (h : ∀ i, i ≤ n → I i → ∀ J : St → Prop, (i < n → I (i + 1) → ∀ s, HeadAt B acts s (S (i + 1)) → J s) → R P G C md B c (S i) (thenX J Q)) : R P G C md B (.loop c) s Q := by
  refine R_ind acts (fun k s' => ∃ i, i + k = n ∧ s' = S i ∧ I i) (n - i0) (S i0) h0 ⟨i0, by omega, rfl, hI⟩ ?_
  rintro k s' ⟨i, hi, rfl, hIi⟩ J hJ
  exact h i (by omega) hIi J fun hlt hI' s hs => hJ (k - 1) s _ (by omega) ⟨i + 1, by omega, rfl, hI'⟩ hs
end
end Go.Proofs.YtlddjlchgibdfaaDoor.X
