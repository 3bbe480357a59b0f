/- A part of the proof: lemmas on the machine or on the functions that the law reaches. No condition of its own. -/
import Derived.Test.YthggfnefjbckeaaGreatDoorXM2
import GoSem.Dispatch
import Derived.Orders
import Derived.OrdersHeld
import Derived.Laws.Sem
import Derived.DataReads
import Derived.ChangeArms
import GoSem.ClaimJoined
import Derived.ChangeShapes
import Derived.ChangeOld
import Derived.Carry
import Derived.Below
set_option linter.unusedVariables false
set_option linter.unusedSimpArgs false
namespace Go.Proofs.YthggfnefjbckeaaGreatDoor.X
open Go
def fldP(P:Program)(t:TypeId)(j:Nat):Option (TypeId×Nat):=
 match P.underlying t with
 | some (.struct fs)=>(fs[j]?).map fun f=>(f.type,f.offset)
 | _=>none
def fldV(ag:Option (Option Nat))(off:Nat)(x:AV)(K:AV→Prop):Prop:=
 match ag,x with
 | some (some n),.agg cs=>off+n≤cs.length∧K (.agg ((cs.drop off).take n))
 | some none,.agg cs=>match cs[off]? with
  | some y=>K y
  | none=>False
 | _,_=>False
def fldO(P:Program)(o:Option (TypeId×Nat))(x:AV)(K:AV→Prop):Prop:=
 match o with
 | some (ft,off)=>fldV (agT P ft) off x K
 | none=>False
def fldK(P:Program)(t:TypeId)(x:AV)(j:Nat)(K:AV→Prop):Prop:=fldO P (fldP P t j) x K
def byteL:List (List AV)→Option (List UInt8)
 | []=>some []
 | [.int .u8 n]::r=>(byteL r).map (UInt8.ofNat n.toNat:: ·)
 | _=>none
def bytesV(es:List (List AV))(K:AV→Prop):Prop:=match byteL es with
 | some l=>K (.str ⟨l.toArray⟩)
 | none=>False
def convB(k:TK)(o:Option Ob)(sz off len:Nat)(K:AV→Prop):Prop:=
 match k,o with
 | .int .u8,some (.slice sz2 es)=>sz=sz2∧sz=1∧bytesV ((es.drop off).take len) K
 | _,_=>False
def convHT(a b:TK)(P:Program)(h:Heap)(x:AV)(K:AV→Prop):Prop:=
 match a,b,x with
 | .int _,.int k,.int _ n=>K (.int k (k.wrap n))
 | .slice e,.str,.ref id none sz off len=>convB (tk P e) (hget h id) sz off len K
 | _,_,_=>False
def convH(P:Program)(h:Heap)(src dst:TypeId)(x:AV)(K:AV→Prop):Prop:=convHT (tk P src) (tk P dst) P h x K
section
variable{P:Program}{G:Glo}{M I:Nat→Prop}{s:St}{hd:Nat→Value}{Fp:Nat→List Nat}{a:Act}{w:World}
theorem fldK_sound{t:TypeId}{x:AV}{u:Value}{j:Nat}{K:AV→Prop}{n:Nat}(hk:fldK P t x j K)(hx:S hd n w I x u): ∃r av,(∀w:World,(Instr.field t u j).run P w= .ok r w)∧K av∧S hd n w I av r:=by
 unfold fldK fldO at hk
 split at hk
 ·rename_i ft off e
  unfold fldP at e
  split at e
  ·rename_i fs hu
   simp only[Option.map_eq_some_iff,Prod.mk.injEq] at e
   obtain⟨f,hf,rfl,rfl⟩:=e
   unfold fldV at hk
   split at hk
   ·rename_i m cs ha
    obtain⟨hn,hk⟩:=hk
    simp only[S] at hx
    obtain⟨vs,rfl,hs⟩:=hx
    have hl:=hs.length
    refine⟨.agg (vs.extract f.offset (f.offset+m)),_,fun w=>?_,hk,?_⟩
    ·obtain⟨h1,h2,_⟩:=agT_some (w:=w) ha
     simp[Instr.field,run_underlying hu,hf,asAgg,part,h1,h2]
    ·simp only[S]
     refine⟨_,rfl,?_⟩
     have e1:(vs.extract f.offset (f.offset+m)).toList=(vs.toList.drop f.offset).take m:=by
      rw[Array.toList_extract,List.extract_eq_take_drop,Nat.add_sub_cancel_left]
     rw[e1]
     exact(hs.drop f.offset).take m
   ·rename_i cs ha
    simp only[S] at hx
    obtain⟨vs,rfl,hs⟩:=hx
    split at hk
    ·rename_i y hy
     obtain⟨v,hv,_,hS⟩:=hs.get hy
     refine⟨v,y,fun w=>?_,hk,hS⟩
     have h1:=agT_none (w:=w) ha
     have hv':vs[f.offset]?=some v:=by simpa using hv
     simp[Instr.field,run_underlying hu,hf,asAgg,part,h1,hv']
    ·exact hk.elim
   ·exact hk.elim
  ·cases e
 ·exact hk.elim
theorem push_loop(w:World): ∀(l:List Int) (s:ByteArray),(forIn (l.map fun n=>Value.int .u8 n) s fun c (r:ByteArray)=>(match c with
   | .int .u8 n=>pure (ForInStep.yield (r.push (UInt8.ofNat n.toNat)))
   | _=>(do stuck "bytesToString: byte expected";pure (ForInStep.yield r)):Sem (ForInStep ByteArray))).run P w= .ok (l.foldl (fun s n=>s.push (UInt8.ofNat n.toNat)) s) w
 | [],s=>by simp
 | n::l,s=>by
  simp only[List.map_cons,List.forIn_cons,Sem.run_bind,Sem.run_pure,Result.andThen_ok,List.foldl_cons]
  exact push_loop w l _
theorem push_all(l:List Int): ∀s:ByteArray,l.foldl (fun s n=>s.push (UInt8.ofNat n.toNat)) s=⟨s.data++(l.map fun n=>UInt8.ofNat n.toNat).toArray⟩:=by
 induction l with
 | nil=>intro s;simp
 | cons n l ih=>
  intro s
  rw[List.foldl_cons,ih]
  simp only[ByteArray.push,List.map_cons]
  congr 1
  apply Array.ext'
  simp
theorem bytes_run{w:World}{b:Addr}{len c:Nat}{l:List Int}(h:(loadCells b len).run P w= .ok (l.map fun n=>Value.int .u8 n).toArray w):(Conv.bytesToString (.slice (some b) len c)).run P w= .ok (.string ⟨(l.map fun n=>UInt8.ofNat n.toNat).toArray⟩) w:=by
 have hp:=push_loop (P:=P) w l ByteArray.empty
 have ha:=push_all l ByteArray.empty
 simp only[Conv.bytesToString,Sem.run_bind,h,Result.andThen_ok,List.forIn_toArray]
 rw[ha] at hp
 have e:(ByteArray.empty.data++(l.map fun n=>UInt8.ofNat n.toNat).toArray)=(l.map fun n=>UInt8.ofNat n.toNat).toArray:=by
  simp[ByteArray.empty,ByteArray.emptyWithCapacity]
  rfl
 rw[e] at hp
 exact congrArg (fun r=>r.andThen fun a w'=>Sem.run P (pure (Value.string a)) w') hp
theorem byteL_vals: ∀{es:List (List AV)} {l:List UInt8} {vs:List Value} {F:List Nat},byteL es=some l→TLL w I es vs F→ ∃ns:List Int,vs=ns.map (fun n=>Value.int .u8 n)∧l=ns.map (fun n=>UInt8.ofNat n.toNat)
 | [],l,vs,F,hb,h=>by
  simp only[byteL,Option.some.injEq] at hb
  simp only[TLL] at h
  exact⟨[],h.1,hb.symm⟩
 | e::es,l,vs,F,hb,h=>by
  unfold byteL at hb
  split at hb
  ·rename_i heq;cases heq
  ·rename_i n r heq
   cases heq
   obtain⟨l',hl',rfl⟩:=Option.map_eq_some_iff.1 hb
   simp only[TLL,TL] at h
   obtain⟨v1,v2,F1,F2,rfl,rfl,⟨v,v',F3,F4,rfl,_,_,hv,rfl,_⟩,h2⟩:=h
   simp only[T] at hv
   obtain⟨rfl,_⟩:=hv
   obtain⟨ns,rfl,rfl⟩:=byteL_vals hl' h2
   exact⟨n::ns,rfl,rfl⟩
  ·cases hb
theorem convH_sound(h:SR G M I s hd Fp a w){t t':TypeId}{x:AV}{u:Value}{K:AV→Prop}(hk:convH P s.heap t t' x K)(hx:S hd s.next w I x u): ∃r av,(∀w',SameB w w'→(convert t t' u).run P w'= .ok r w')∧K av∧S hd s.next w I av r:=by
 unfold convH convHT at hk
 split at hk
 ·rename_i k1 k2 k3 m h1 h2
  simp only[S] at hx
  subst hx
  refine⟨_,_,fun w' _=>?_,hk,S_int⟩
  simp[convert,run_underlying (tk_int h1),run_underlying (tk_int h2),Conv.intToInt]
 ·rename_i e id sz off len h1 h2
  unfold convB at hk
  split at hk
  ·rename_i sz2 es he ho
   obtain⟨rfl,rfl,hk⟩:=hk
   unfold bytesV at hk
   split at hk
   ·rename_i l hl
    have hobj:=h.heap.obj id _ ho
    simp only[ObjR] at hobj
    simp only[S] at hx
    obtain⟨hid,hv,hh,hw⟩:=hx
    simp only[HdOf] at hh
    subst hh
    obtain⟨F',hT2,_,hlen⟩:=ow_win hobj hw
    have hconv: ∀(r:Value) (w':World),(Conv.bytesToString u).run P w'= .ok r w'→(∃A n c,u= .slice A n c)→(convert t t' u).run P w'= .ok r w':=by
     rintro r w' hr ⟨A,n,c,rfl⟩
     simp[convert,run_underlying (tk_slice h1),run_underlying (tk_str h2),run_underlying (tk_int he),hr]
    simp only[T] at hT2
    rcases hT2 with ⟨e0,⟨A,rfl⟩,_⟩ | ⟨b,o,c,cur,te,vs,Fs,rfl,hhp,hc,hm,hfit,hE,hvs,ht,rfl⟩
    ·rw[e0] at hl
     simp only[byteL,Option.some.injEq] at hl
     subst hl
     refine⟨.string ⟨#[]⟩,_,fun w' _=>hconv _ _ ?_ ⟨A,0,0,rfl⟩,hk,by simp only[S]⟩
     cases A with
     | none=>rfl
     | some a0=>exact bytes_run (l:=[]) (by simp[loadCells];rfl)
    ·obtain⟨ns,hns,rfl⟩:=byteL_vals hl ht
     have hn:vs.length=((es.drop off).take len).length:=by
      have:=ht.length hE
      simpa using this
     refine⟨.string ⟨(ns.map fun n=>UInt8.ofNat n.toNat).toArray⟩,_,fun w' hS=>hconv _ _ ?_ ⟨_,_,_,rfl⟩,hk,by simp only[S]⟩
     refine bytes_run ?_
     have hat:At w' b o vs:=fun j u hu=>by
      have h3:At w b o vs:=by rw[←hvs];exact at_row hhp
      exact hS.cell (h3 j u hu)
     have:=At.loads (P:=P) hat
     rw[hn] at this
     rw[←hns]
     exact this
   ·exact hk.elim
  ·exact hk.elim
 ·exact hk.elim
end
end Go.Proofs.YthggfnefjbckeaaGreatDoor.X
set_option linter.unusedVariables false
set_option linter.unusedSimpArgs false
namespace Go.Proofs.YthggfnefjbckeaaGreatDoor.X
open Go
inductive Keepd where
 | drop
 | keep
 | obj (id sz:Nat)
def lkp(ρ:List (Nat×Nat))(id:Nat):Option Nat:=
 match ρ with
 | []=>none
 | (o,n)::r=>if o=id then some n else lkp r id
mutual
def ren(B:Nat)(ρ:List (Nat×Nat)):AV→AV
 | .ref id sub sz off len=>if id<B then .ref id sub sz off len else match lkp ρ id with | some j=> .ref j sub sz off len | none=> .any
 | .ptr id sub sz i c=>if id<B then .ptr id sub sz i c else match lkp ρ id with | some j=> .ptr j sub sz i c | none=> .any
 | .fn f caps=> .fn f (renL B ρ caps)
 | .agg cs=> .agg (renL B ρ cs)
 | .tup cs=> .tup (renL B ρ cs)
 | x=>x
def renL(B:Nat)(ρ:List (Nat×Nat)):List AV→List AV
 | []=>[]
 | x::xs=>ren B ρ x::renL B ρ xs
end
def minK(x y:AV)(K:AV→Prop):Prop:=
 match x,y with
 | .int k a,.int _ b=>K (.int k (if b<a then b else a))
 | _,_=>False
def maxK(x y:AV)(K:AV→Prop):Prop:=
 match x,y with
 | .int k a,.int _ b=>K (.int k (if b>a then b else a))
 | _,_=>False
def lenK(P:Program)(t:TypeId)(x:AV)(K:AV→Prop):Prop:=
 match tk P t,x with
 | .slice _,.ref _ _ _ _ len=>K (.int .i64 len)
 | .slice _,.sl es=>K (.int .i64 es.length)
 | .slice _,.nil=>K (.int .i64 0)
 | .str,.str s=>K (.int .i64 s.size)
 | _,_=>False
def evL(G:Glo)(s:St)(xs:Array Operand):List AV:=xs.toList.map (ev G s)
mutual
def frzOk:AV→Bool
 | .any | .con _ | .int .. | .bool _ | .str _ | .nil | .sl _ | .pf _=>true
 | .fn _ caps=>frzOkL caps
 | .agg cs=>frzOkL cs
 | _=>false
def frzOkL:List AV→Bool
 | []=>true
 | x::xs=>frzOk x&&frzOkL xs
end
def Ev(C:CT)(f:FuncId)(ts:List AV)(r:AV):Prop:=
 ∃K0:AV→Heap→Nat→Prop,C f ts [] 0 K0∧ownR r=true∧ ∀v h' n',K0 v h' n'→ ∃r0 h2,conR 8 h' v=some (r0,h2)∧NilTo r0 r
def callK(C:CT)(md:FuncId→Bool)(s:St)(f:AV)(args:List AV)(K:AV→St→Prop):Prop:=
 match f with
 | .fn g caps=>if md g then(∃K0:AV→Heap→Nat→Prop,C g (args++caps) s.heap s.next K0∧ ∀v h' n',K0 v h' n'→s.next≤n'→K v (killSt ⟨s.tmps,h',n'⟩))
  else match frzAL s.heap 8 (args++caps) with
   | some ts=>frzOkL ts=true∧ ∃r,Ev C g ts r∧K (imp s.next r).1 ⟨s.tmps,(imp s.next r).2.1++s.heap,(imp s.next r).2.2⟩
   | none=>False
 | _=>False
def opK(P:Program)(G:Glo)(C:CT)(md:FuncId→Bool)(op:Op)(s:St)(K:AV→St→Prop):Prop:=
 match op with
 | .move x=>K (ev G s x) s
 | .assign x=>K (ev G s x) s
 | .pick c a b=>match ev G s c with
  | .bool true=>K (ev G s a) s
  | .bool false=>K (ev G s b) s
  | _=>False
 | .binOp op t x y _=>binK P op t (ev G s x) (ev G s y) (fun v=>K v s)
 | .unOp op _ x=>unK op (ev G s x) (fun v=>K v s)
 | .convert src dst x=>convH P s.heap src dst (ev G s x) (fun v=>K v s)
 | .extract x i=>match ev G s x with
  | .tup vs=>match vs[i]? with
   | some v=>K v s
   | none=>False
  | _=>False
 | .nilCheck x=>match ev G s x with
  | .ptr id sub sz i c=>K (.ptr id sub sz i c) s
  | .pf cs=>K (.pf cs) s
  | _=>False
 | .makeFunc (.func f) first caps=>first.size=0∧K (.fn f (evL G s caps)) s∧allCells (evL G s caps)=true
 | .fieldAddr t x j=>faddrK P t (ev G s x) j (fun v=>K v s)
 | .indexAddr t x i=>iaddrK P t (ev G s x) (ev G s i) (fun v=>K v s)
 | .index t x i=>idxK P t (ev G s x) (ev G s i) (fun v=>K v s)
 | .slice t x lo hi none=>sliceK P t (ev G s x) (lo.map (ev G s)) (hi.map (ev G s)) (fun v=>K v s)
 | .load t x=>loadK P s.heap t (ev G s x) (fun v=>K v s)
 | .store t x v=>storeK P s t (ev G s x) (ev G s v) (fun s'=>K .any s')
 | .alloc t=>allocK P s t K
 | .box t x=>boxK s (ev G s x) K
 | .build t ps=>buildK P t (ps.toList.map fun p=>(p.1,ev G s p.2)) (fun v=>K v s)
 | .buildSlice t n ps=>(n=0→ps.toList=[])∧buildSliceK P s t n (ps.toList.map fun p=>(p.1,ev G s p.2)) K
 | .makeSlice t l c=>makeSliceK P s t (ev G s l) (ev G s c) K
 | .call c=>match c.callee,c.args.toList,c.argTypes.toList with
  | .builtin .len,[x],t::_=>lenK P t (ev G s x) (fun v=>K v s)
  | .builtin .append,[x,y],[t,tx]=>appendK P s t tx (ev G s x) (ev G s y) K
  | .builtin .min,[x,y],_=>minK (ev G s x) (ev G s y) (fun v=>K v s)
  | .builtin .max,[x,y],_=>maxK (ev G s x) (ev G s y) (fun v=>K v s)
  | .value f,xs,_=>callK C md s (ev G s f) (xs.map (ev G s)) K
  | _,_,_=>False
 | .field t x j=>fldK P t (ev G s x) j (fun v=>K v s)
 | _=>False
where
 allCells:List AV→Bool
 | []=>true
 | x::xs=>isCell x&&allCells xs
def Enters(P:Program)(f:FuncId):Prop:= ∃fn,P.funcs[f]?=some fn∧fn.body≠none∧fn.name≠ "runtime.NumGoroutine"
def Sound(P:Program)(G:Glo)(C:CT):Prop:=
 ∀f args h n K,C f args h n K→Enters P f∧ ∀(M I:Nat→Prop) (hd:Nat→Value) (Fp:Nat→List Nat) (w:World) (vals:List Value),HR G M I h n hd Fp w→SV hd n w I args vals→
  Calls P f vals.toArray w fun e w'=> ∃v av h' n' I' hd' Fp',e= .returned v∧K av h' n'∧HR G M I' h' n' hd' Fp' w'∧S hd' n' w' I' av v∧Ext M I I' n hd hd' w w'∧n≤n'
theorem run_callFunc{P:Program}{f:FuncId}{args:Array Value}{w:World}(h:Enters P f):(callFunc f args).run P w= .ok (.enter f args) w:=by
 obtain⟨fn,hf,hb,hn⟩:=h
 simp[callFunc,program,Sem.run,hf,hn,hb]
section
variable{P:Program}{G:Glo}{C:CT}{md:FuncId→Bool}{M I:Nat→Prop}{s:St}{hd:Nat→Value}{Fp:Nat→List Nat}{a:Act}{w:World}
theorem run_min{w:World}{k j:IntKind}{x y:Int}{ts:Array TypeId}{ty:TypeId}:(Builtin.min_ ts ty #[.int k x,.int j y]).run P w= .ok (.int k (if y<x then y else x)) w:=by
 simp[Builtin.min_,Builtin.min2]
theorem run_max{w:World}{k j:IntKind}{x y:Int}{ts:Array TypeId}{ty:TypeId}:(Builtin.max_ ts ty #[.int k x,.int j y]).run P w= .ok (.int k (if y>x then y else x)) w:=by
 simp[Builtin.max_,Builtin.max2]
theorem lenK_sound{t:TypeId}{x:AV}{u:Value}{K:AV→Prop}{n:Nat}{ts:Array TypeId}{ty:TypeId}(ht:ts[0]?=some t)(hk:lenK P t x K)(hx:S hd n w I x u): ∃r av,(∀w:World,(Builtin.len_ ts ty #[u]).run P w= .ok r w)∧K av∧S hd n w I av r:=by
 unfold lenK at hk
 split at hk
 ·rename_i e id sub sz off len h
  simp only[S] at hx
  obtain⟨_,h0,_,hw⟩:=hx
  have hu: ∃A c,u= .slice A len c:=by
   rcases hw with ⟨b,o,m,c,c',_,rfl,_⟩ | ⟨rfl,A,rfl⟩
   ·exact⟨_,_,rfl⟩
   ·exact⟨_,_,rfl⟩
  obtain⟨A,c,rfl⟩:=hu
  refine⟨_,_,fun w=>?_,hk,S_int⟩
  simp[Builtin.len_,ht,run_underlying (tk_slice h),goInt]
 ·rename_i e es h
  simp only[S,T] at hx
  obtain⟨_,A,c,rfl,_⟩:=hx
  refine⟨_,_,fun w=>?_,hk,S_int⟩
  simp[Builtin.len_,ht,run_underlying (tk_slice h),goInt]
 ·rename_i e h
  simp only[S] at hx
  subst hx
  refine⟨_,_,fun w=>?_,hk,S_int⟩
  simp[Builtin.len_,ht,run_underlying (tk_slice h),goInt]
 ·rename_i s h
  simp only[S] at hx
  subst hx
  refine⟨_,_,fun w=>?_,hk,S_int⟩
  simp[Builtin.len_,ht,run_underlying (tk_str h),goInt]
 ·exact hk.elim
theorem evL_SV(h:SR G M I s hd Fp a w): ∀(xs:List Operand),SV hd s.next w I (xs.map (ev G s)) (xs.map a.eval)
 | []=>by simp[SV]
 | x::xs=>by
  simp only[List.map_cons,SV]
  exact⟨_,_,rfl,ev_sound h x,evL_SV h xs⟩
theorem SV.append{n:Nat}: ∀{xs ys:List AV} {us vs:List Value},SV hd n w I xs us→SV hd n w I ys vs→SV hd n w I (xs++ys) (us++vs)
 | [],ys,us,vs,h,h'=>by simp only[SV] at h;subst h;simpa using h'
 | x::xs,ys,us,vs,h,h'=>by
  simp only[SV] at h
  obtain⟨v,us',rfl,hx,hxs⟩:=h
  simp only[List.cons_append,SV]
  exact⟨v,us'++vs,rfl,hx,hxs.append h'⟩
theorem SL.SV{n:Nat}: ∀{xs:List AV} {us:List Value},SL hd n w I xs us→X.SV hd n w I xs us
 | [],us,h=>by simpa only[SL,X.SV] using h
 | x::xs,us,h=>by
  simp only[SL] at h
  obtain⟨v,us',rfl,h1,hx,hxs⟩:=h
  simp only[X.SV]
  exact⟨v,us',rfl,hx,hxs.SV⟩
theorem SV.SL{n:Nat}: ∀{xs:List AV} {us:List Value},opK.allCells xs=true→X.SV hd n w I xs us→X.SL hd n w I xs us
 | [],us,_,h=>by simpa only[X.SL,X.SV] using h
 | x::xs,us,hc,h=>by
  simp only[opK.allCells,Bool.and_eq_true] at hc
  simp only[X.SV] at h
  obtain⟨v,us',rfl,hx,hxs⟩:=h
  simp only[X.SL]
  exact⟨v,us',rfl,(isCell_one hc.1 hx).1,hx,SV.SL hc.2 hxs⟩
theorem frzV_sound{h:Heap}{n:Nat}(hr:HR G M I h n hd Fp w)(k:Nat): ∀{xs ys:List AV} {vs:List Value},X.SV hd n w I xs vs→frzAL h k xs=some ys→TV w (fun b=>b<w.heap.size) ys vs []
 | [],ys,vs,hx,hy=>by
  simp only[frzAL,Option.some.injEq] at hy
  subst hy
  simp only[X.SV] at hx
  simp only[TV];exact⟨hx,trivial⟩
 | x::xs,ys,vs,hx,hy=>by
  simp only[X.SV] at hx
  obtain⟨v,vs',rfl,hxv,hxs⟩:=hx
  simp only[frzAL] at hy
  split at hy
  ·rename_i y ys' e1 e2
   simp only[Option.some.injEq] at hy
   subst hy
   simp only[TV]
   exact⟨v,vs',[],[],rfl,rfl,(frz_sound hr k).1 x y v hxv e1,frzV_sound hr k hxs e2⟩
  ·cases hy
mutual
theorem T.toS{n:Nat}: ∀(x:AV) (v:Value),frzOk x=true→T w I x v []→S hd n w I x v
 | .any,v,_,h=>by simp only[S]
 | .con u,v,_,h=>by simp only[T,S] at h⊢;exact h.1
 | .int k m,v,_,h=>by simp only[T,S] at h⊢;exact h.1
 | .bool b,v,_,h=>by simp only[T,S] at h⊢;exact h.1
 | .str s,v,_,h=>by simp only[T,S] at h⊢;exact h.1
 | .nil,v,_,h=>by simp only[T,S] at h⊢;exact h.1
 | .sl es,v,_,h=>by simp only[S];exact h
 | .pf cs,v,_,h=>by simp only[S];exact h
 | .fn f caps,v,hf,h=>by
  simp only[frzOk] at hf
  simp only[T,S] at h⊢
  obtain⟨vs,rfl,ht⟩:=h
  exact⟨vs,rfl,TL.toS caps _ hf ht⟩
 | .agg cs,v,hf,h=>by
  simp only[frzOk] at hf
  simp only[T,S] at h⊢
  obtain⟨vs,rfl,ht⟩:=h
  exact⟨vs,rfl,TL.toS cs _ hf ht⟩
 | .tup _,v,hf,h=>by simp[frzOk] at hf
 | .ow _ _,v,hf,h=>by simp[frzOk] at hf
 | .op _,v,hf,h=>by simp[frzOk] at hf
 | .ref _ _ _ _ _,v,hf,h=>by simp[frzOk] at hf
 | .ptr _ _ _ _ _,v,hf,h=>by simp[frzOk] at hf
theorem TL.toS{n:Nat}: ∀(xs:List AV) (vs:List Value),frzOkL xs=true→TL w I xs vs []→SL hd n w I xs vs
 | [],vs,_,h=>by simp only[TL,SL] at h⊢;exact h.1
 | x::xs,vs,hf,h=>by
  simp only[frzOkL,Bool.and_eq_true] at hf
  simp only[TL] at h
  obtain⟨v,vs',F1,F2,rfl,hF,h1,hx,hxs⟩:=h
  obtain⟨rfl,rfl⟩:=List.append_eq_nil_iff.1 hF.symm
  simp only[SL]
  exact⟨v,vs',rfl,h1,T.toS x v hf.1 hx,TL.toS xs vs' hf.2 hxs⟩
end
end
theorem eqs_minK:True:=by
 have:= @minK.eq_1
 trivial
theorem eqs_maxK:True:=by
 have:= @maxK.eq_1
 trivial
theorem eqs_lenK:True:=by
 have:= @lenK.eq_1
 trivial
theorem eqs_frzOk:True:=by
 have:= @frzOk.eq_1
 trivial
theorem eqs_frzOkL:True:=by
 have:= @frzOkL.eq_1
 trivial
theorem eqs_callK:True:=by
 have:= @callK.eq_1
 trivial
theorem eqs_evL:True:=by
 have:= @evL.eq_1
 trivial
end Go.Proofs.YthggfnefjbckeaaGreatDoor.X
set_option linter.unusedVariables false
set_option linter.unusedSimpArgs false
namespace Go.Proofs.YthggfnefjbckeaaGreatDoor.X
open Go
def StepQ(G:Glo)(M I:Nat→Prop)(s:St)(hd:Nat→Value)(w:World)(dst:Option Nat)(K:AV→St→Prop)(a':Act)(w':World):Prop:=
 ∃av s' I' hd' Fp',K av s'∧SR G M I' (s'.put dst av) hd' Fp' a' w'∧Ext M I I' s.next hd hd' w w'∧s.next≤s'.next
section
variable{P:Program}{G:Glo}{C:CT}{md:FuncId→Bool}{M I:Nat→Prop}{s:St}{hd:Nat→Value}{Fp:Nat→List Nat}{a:Act}{w:World}{K:AV→St→Prop}{o:Oper}{Q:Exit→Act→World→Prop}
theorem wp_of_res{r:Next}{w':World}(hr:(execOp a.eval o).run P w= .ok r w')(h:OpRes G M I s hd a w K r w'):o.wp P a w (StepQ G M I s hd w o.dst K) Q:=by
 unfold Oper.wp
 rw[hr]
 obtain⟨v,av,s',I',hd',Fp',hrv,hK,hv,hs,hE,hn⟩:=h
 rcases hrv with rfl | ⟨rfl,rfl⟩
 ·exact⟨av,s',I',hd',Fp',hK,hs.put o.dst hv,hE,hn⟩
 ·exact⟨av,s',I',hd',Fp',hK,hs.put o.dst hv,hE,hn⟩
theorem wp_of_val(h:SR G M I s hd Fp a w){m:Sem Value}(he:execOp a.eval o=(do pure (.value (←m))))(hm: ∃v av,m.run P w= .ok v w∧K av s∧S hd s.next w I av v):o.wp P a w (StepQ G M I s hd w o.dst K) Q:=by
 obtain⟨v,av,h1,h2,h3⟩:=hm
 refine wp_of_res (r:= .value v) (w':=w) (by rw[he];simp[h1]) ⟨v,av,s,I,hd,Fp,.inl rfl,h2,h3,h,Ext.refl _ _ _ _ _,Nat.le_refl _⟩
theorem wp_of_val'(h:SR G M I s hd Fp a w){m:Sem Value}(he:execOp a.eval o=(do pure (.value (←m))))(hm: ∃v w',m.run P w= .ok v w'∧OpRes G M I s hd a w K (.value v) w'):o.wp P a w (StepQ G M I s hd w o.dst K) Q:=by
 obtain⟨v,w',h1,h2⟩:=hm
 exact wp_of_res (r:= .value v) (w':=w') (by rw[he];simp[h1]) h2
theorem atW{m:Sem Value}{w:World}{A:AV→Prop}{B:AV→Value→Prop}(h: ∃r av,(∀w:World,m.run P w= .ok r w)∧A av∧B av r): ∃r av,m.run P w= .ok r w∧A av∧B av r:=
 let ⟨r,av,h1,h2⟩:=h;⟨r,av,h1 w,h2⟩
theorem atS{m:Sem Value}{w:World}{A:AV→Prop}{B:AV→Value→Prop}(h: ∃r av,(∀w':World,SameB w w'→m.run P w'= .ok r w')∧A av∧B av r): ∃r av,m.run P w= .ok r w∧A av∧B av r:=
 let ⟨r,av,h1,h2⟩:=h;⟨r,av,h1 w (.refl w),h2⟩
theorem no3{m:Sem Value}{w:World}{A:Value→World→Prop}{B:World→Prop}(h: ∃v w',m.run P w= .ok v w'∧A v w'∧B w'): ∃v w',m.run P w= .ok v w'∧A v w':=
 let ⟨v,w',h1,h2,_⟩:=h;⟨v,w',h1,h2⟩
theorem parts_of(h:SR G M I s hd Fp a w): ∀(ps:List (Nat×Operand)),Parts hd s.next w I (ps.map fun p=>(p.1,ev G s p.2)) (ps.map fun p=>(p.1,a.eval p.2))
 | []=> .nil
 | p::ps=> .cons (ev_sound h p.2) (parts_of h ps)
theorem call_open(h:SR G M I s hd Fp a w)(hC:Sound P G C){g:FuncId}{xs:List AV}{vals:Array Value}{K0:AV→Heap→Nat→Prop}(hk:C g xs s.heap s.next K0)(hK: ∀v h' n',K0 v h' n'→s.next≤n'→K v (killSt ⟨s.tmps,h',n'⟩))(hx:SV hd s.next w I xs vals.toList)
  (hrun:(execOp a.eval o).run P w=(callFunc g vals).run P w):o.wp P a w (StepQ G M I s hd w o.dst K) Q:=by
 obtain⟨hent,hcall⟩:=hC g xs _ _ K0 hk
 unfold Oper.wp
 rw[hrun,run_callFunc hent,Oper.upon_enter]
 refine(hcall M I hd Fp w vals.toList h.heap hx).mono ?_
 rintro e w' ⟨v,av,h',n',I',hd',Fp',rfl,hK0,hr',hv,hE,hn⟩
 have hsr:=SR.killed (h':=h') (n':=n') h hr' hn hE.im (fun id hid=>hE.hds id hid)
 refine⟨av,_,I',hd',Fp',hK av h' n' hK0 hn,hsr.put o.dst ?_,hE,hn⟩
 exact hv
theorem call_pure'(h:SR G M I s hd Fp a w)(hC:Sound P G C){g:FuncId}{xs ts:List AV}{vals:Array Value}{r:AV}(hk:Ev C g ts r)(hfz:frzAL s.heap 8 xs=some ts)(hok:frzOkL ts=true)
  (hK:K (imp s.next r).1 ⟨s.tmps,(imp s.next r).2.1++s.heap,(imp s.next r).2.2⟩) (hx:SV hd s.next w I xs vals.toList)
  (hrun:(execOp a.eval o).run P w=(callFunc g vals).run P w):o.wp P a w (fun a' w'=>StepQ G M I s hd w o.dst K a' w'∧SameB w w') Q:=by
 obtain⟨K0,hc,hown,hres⟩:=hk
 obtain⟨hent,hcall⟩:=hC g ts _ _ K0 hc
 unfold Oper.wp
 rw[hrun,run_callFunc hent,Oper.upon_enter]
 have hr0:HR G (fun b=>w.heap.size≤b) (fun b=>b<w.heap.size) [] 0 hd Fp w:=
  ⟨fun id o ho=>by simp[hget] at ho,fun b hb=>⟨hb,fun id o ho=>by simp[hget] at ho⟩,fun id o ho=>by simp[hget] at ho,fun id o id' o' ho=>by simp[hget] at ho,fun id o ho=>by simp[hget] at ho,fun id o ho=>by simp[hget] at ho,fun b hb=>hb,
   fun g cs hg=>(h.heap.glo g cs hg).frame (fun b hb=>⟨(h.heap.imm b hb).1,rfl⟩)⟩
 have hargs:SV hd 0 w (fun b=>b<w.heap.size) ts vals.toList:=by
  have ht:=frzV_sound h.heap 8 hx hfz
  have: ∀(ts:List AV) (vs:List Value),frzOkL ts=true→TV w (fun b=>b<w.heap.size) ts vs []→SV hd 0 w (fun b=>b<w.heap.size) ts vs:=by
   intro ts
   induction ts with
   | nil=>intro vs _ h;simp only[TV,SV] at h⊢;exact h.1
   | cons x ts ih=>
    intro vs hf h
    simp only[frzOkL,Bool.and_eq_true] at hf
    simp only[TV] at h
    obtain⟨v,vs',F1,F2,rfl,hF,hx,hxs⟩:=h
    obtain⟨rfl,rfl⟩:=List.append_eq_nil_iff.1 hF.symm
    simp only[SV]
    exact⟨v,vs',rfl,T.toS x v hf.1 hx,ih vs' hf.2 hxs⟩
  exact this ts _ hok ht
 refine(hcall _ _ hd Fp w vals.toList hr0 hargs).mono ?_
 rintro e w' ⟨v,av,h',n',I',hd',Fp',rfl,hK0,hr',hv,hE,hn⟩
 obtain⟨r0,h2,hcon,hnil⟩:=hres av h' n' hK0
 obtain⟨F,hT,hr2,hfree,hsub,_⟩:=(conR_sound 8).1 h' hr' av r0 h2 v hv hcon
 have hT2:=T.anyI (I':=I) r v F hown (T.nilTo r0 r v F hT hnil)
 have hnewF: ∀b∈F,w.heap.size≤b:=fun b hb=>hfree.mine b hb
 have hold: ∀b,b<w.heap.size→w'.heap[b]?=w.heap[b]?:=fun b hb=>(hE.im b hb).2
 have hrw:HR G M I s.heap s.next hd Fp w':=h.heap.grown hE.keep.size hold
 have hfr0:Fr I I s.next s.next hd hd w w':=h.heap.fr hE.keep.size hold
 have hfree2:Free M I s.heap Fp F:=⟨hfree.nodup,fun b hb=>h.heap.news b (hnewF b hb),fun b hb hi=>by have:=(h.heap.imm b hi).1;have:=hnewF b hb;omega,fun id o ho b hb hm=>by have:=h.heap.ltB ho b hb;have:=hnewF b hm;omega⟩
 obtain⟨hn1,hd1,Fp1,hr1,fr1,hx1,_,hS1⟩:=imp_sound r s.heap s.next hd Fp v F hrw hT2 hfree2
 have hsr:=h.move hr1 (hfr0.trans fr1)
 exact⟨⟨_,_,I,hd1,Fp1,hK,hsr.put o.dst hS1,⟨⟨hE.keep.os,hE.keep.tape,hE.keep.output,hE.keep.size,fun b hb _=>hold b hb⟩,fun b hb=>⟨hb,hold b (h.heap.imm b hb).1⟩,hx1,fun _ h=> .inl h⟩,hn1⟩,hE.keep.size,hold⟩
theorem call_pure(h:SR G M I s hd Fp a w)(hC:Sound P G C){g:FuncId}{xs ts:List AV}{vals:Array Value}{r:AV}(hk:Ev C g ts r)(hfz:frzAL s.heap 8 xs=some ts)(hok:frzOkL ts=true)
  (hK:K (imp s.next r).1 ⟨s.tmps,(imp s.next r).2.1++s.heap,(imp s.next r).2.2⟩) (hx:SV hd s.next w I xs vals.toList)
  (hrun:(execOp a.eval o).run P w=(callFunc g vals).run P w):o.wp P a w (StepQ G M I s hd w o.dst K) Q:=
 Oper.wp_mono (fun _ _ h=>h.1) (call_pure' h hC hk hfz hok hK hx hrun)
theorem opK_sound(h:SR G M I s hd Fp a w)(hC:Sound P G C)(hk:opK P G C md o.op s K):o.wp P a w (StepQ G M I s hd w o.dst K) Q:=by
 unfold opK at hk
 split at hk
 case h_1 x ho=>exact wp_of_res (r:= .value (a.eval x)) (w':=w) (by simp[execOp,ho]) ⟨_,_,s,I,hd,Fp,.inl rfl,hk,ev_sound h x,h,Ext.refl _ _ _ _ _,Nat.le_refl _⟩
 case h_2 x ho=>exact wp_of_res (r:= .value (a.eval x)) (w':=w) (by simp[execOp,ho]) ⟨_,_,s,I,hd,Fp,.inl rfl,hk,ev_sound h x,h,Ext.refl _ _ _ _ _,Nat.le_refl _⟩
 case h_3 c x y ho=>
  have hc:=ev_sound h c
  split at hk
  ·rename_i e;rw[e] at hc;simp only[S] at hc
   exact wp_of_res (r:= .value (a.eval x)) (w':=w) (by simp[execOp,ho,hc,asBool]) ⟨_,_,s,I,hd,Fp,.inl rfl,hk,ev_sound h x,h,Ext.refl _ _ _ _ _,Nat.le_refl _⟩
  ·rename_i e;rw[e] at hc;simp only[S] at hc
   exact wp_of_res (r:= .value (a.eval y)) (w':=w) (by simp[execOp,ho,hc,asBool]) ⟨_,_,s,I,hd,Fp,.inl rfl,hk,ev_sound h y,h,Ext.refl _ _ _ _ _,Nat.le_refl _⟩
  ·exact hk.elim
 case h_4 op t x y t2 ho=>
  obtain⟨v,av,h1,h2,h3⟩:=binK_sound hk (ev_sound h x) (ev_sound h y)
  refine wp_of_val h (m:=do eqGuard op t x y (a.eval x) (a.eval y);binOp op t (a.eval x) (a.eval y)) (by simp only[execOp,ho]) ⟨v,av,?_,h2,h3⟩
  have hg:(eqGuard op t x y (a.eval x) (a.eval y)).run P w= .ok () w:=binK_guard hk (ev_sound h x) (ev_sound h y) x y w
  simp[hg,h1]
 case h_5 op t x ho=>
  exact wp_of_val h (m:=Op.unary op (a.eval x)) (by simp only[execOp,ho]) (atW (unK_sound hk (ev_sound h x)))
 case h_6 t t' x ho=>
  exact wp_of_val h (m:=convert t t' (a.eval x)) (by simp only[execOp,ho]) (atS (convH_sound h hk (ev_sound h x)))
 case h_7 x i ho=>
  have hx:=ev_sound h x
  split at hk
  ·rename_i vs e
   rw[e] at hx
   simp only[S] at hx
   obtain⟨us,hu,hs⟩:=hx
   split at hk
   ·rename_i y hy
    obtain⟨v,hv,hS⟩:=hs.get hy
    refine wp_of_val h (m:=Instr.extract (a.eval x) i) (by simp only[execOp,ho]) ⟨v,y,?_,hk,hS⟩
    have:us[i]?=some v:=by simpa using hv
    simp[Instr.extract,hu,this]
   ·exact hk.elim
  ·exact hk.elim
 case h_8 x ho=>
  have hx:=ev_sound h x
  split at hk
  ·rename_i id sub sz i c e
   rw[e] at hx
   have hx':=hx
   simp only[S] at hx
   obtain⟨_,h0,b,o',_,_,hu⟩:=hx
   exact wp_of_res (r:= .value (a.eval x)) (w':=w) (by simp[execOp,ho,hu]) ⟨_,_,s,I,hd,Fp,.inl rfl,hk,hx',h,Ext.refl _ _ _ _ _,Nat.le_refl _⟩
  ·rename_i cs e
   rw[e] at hx
   have hx':=hx
   simp only[S,T] at hx
   obtain⟨_,b,o',vs,hu,_⟩:=hx
   exact wp_of_res (r:= .value (a.eval x)) (w':=w) (by simp[execOp,ho,hu]) ⟨_,_,s,I,hd,Fp,.inl rfl,hk,hx',h,Ext.refl _ _ _ _ _,Nat.le_refl _⟩
  ·exact hk.elim
 case h_9 f first caps ho=>
  obtain⟨hf,hk,hc⟩:=hk
  have hfe:first= #[]:=Array.eq_empty_of_size_eq_zero hf
  subst hfe
  refine wp_of_val h (m:=Instr.makeFunc (.func f) (#[].map a.eval) (caps.map a.eval)) (by simp only[execOp,ho]) ⟨.func (.func f) #[] (caps.map a.eval),_,by simp[Instr.makeFunc],hk,?_⟩
  simp only[S]
  refine⟨_,rfl,SV.SL hc ?_⟩
  rw[Array.toList_map]
  exact evL_SV h caps.toList
 case h_10 t x j ho=>exact wp_of_val h (m:=Instr.fieldAt t (a.eval x) j) (by simp only[execOp,ho]) (atW (faddrK_sound hk (ev_sound h x)))
 case h_11 t x i ho=>exact wp_of_val h (m:=Instr.indexAt t (a.eval x) (a.eval i)) (by simp only[execOp,ho]) (atW (iaddrK_sound hk (ev_sound h x) (ev_sound h i)))
 case h_12 t x i ho=>exact wp_of_val h (m:=Instr.index t (a.eval x) (a.eval i)) (by simp only[execOp,ho]) (idxK_sound hk (ev_sound h x) (ev_sound h i))
 case h_13 t x lo hi ho=>
  refine wp_of_val h (m:=Instr.sliceAt t (a.eval x) (lo.map a.eval) (hi.map a.eval) none) (by simp only[execOp,ho,Option.map_none]) (sliceK_sound hk (ev_sound h x) ?_ ?_ ?_ ?_)
  ·intro y hy;obtain⟨z,rfl,rfl⟩:=Option.map_eq_some_iff.1 hy;exact⟨_,rfl,ev_sound h z⟩
  ·intro hy;rw[Option.map_eq_none_iff] at hy⊢;exact hy
  ·intro y hy;obtain⟨z,rfl,rfl⟩:=Option.map_eq_some_iff.1 hy;exact⟨_,rfl,ev_sound h z⟩
  ·intro hy;rw[Option.map_eq_none_iff] at hy⊢;exact hy
 case h_14 t x ho=>exact wp_of_val h (m:=Instr.loadAt t (a.eval x)) (by simp only[execOp,ho]) (atS (loadK_sound h hk (ev_sound h x)))
 case h_15 t x v ho=>
  obtain⟨w',h1,s',I',hd',Fp',h2,h3,h4,h5⟩:=storeK_sound h hk (ev_sound h x) (ev_sound h v)
  exact wp_of_res (r:= .skip) (w':=w') (by simp[execOp,ho,h1]) ⟨undef,.any,s',I',hd',Fp',.inr ⟨rfl,rfl⟩,h2,by simp only[S],h3,h4,h5⟩
 case h_16 t ho=>exact wp_of_val' h (m:=Instr.alloc t true (.tuple #[])) (by simp only[execOp,ho]) (no3 (allocK_sound h hk))
 case h_17 t x ho=>exact wp_of_val' h (m:=Instr.box t (a.eval x)) (by simp only[execOp,ho]) (no3 (boxK_sound h hk (ev_sound h x)))
 case h_18 t ps ho=>
  refine wp_of_val h (m:=Instr.build t (ps.map fun(i,x)=>(i,a.eval x))) (by simp only[execOp,ho]) ?_
  have:=buildK_sound (P:=P) (t:=t) hk (parts_of h ps.toList)
  have e:(ps.toList.map fun p=>(p.1,a.eval p.2)).toArray=ps.map fun(i,x)=>(i,a.eval x):=by apply Array.ext';simp
  rw[e] at this
  exact this
 case h_19 t n ps ho=>
  refine wp_of_val' h (m:=Instr.buildSlice t n (ps.map fun(i,x)=>(i,a.eval x))) (by simp only[execOp,ho]) ?_
  have:=buildSliceK_sound (P:=P) (t:=t) h hk.2 (parts_of h ps.toList) (fun h0=>by rw[hk.1 h0];rfl)
  have e:(ps.toList.map fun p=>(p.1,a.eval p.2)).toArray=ps.map fun(i,x)=>(i,a.eval x):=by apply Array.ext';simp
  rw[e] at this
  exact no3 this
 case h_20 t l c ho=>exact wp_of_val' h (m:=Instr.makeSlice t (a.eval l) (a.eval c)) (by simp only[execOp,ho]) (no3 (makeSliceK_sound h hk (ev_sound h l) (ev_sound h c)))
 case h_21 c ho=>
  obtain⟨callee,args,argTypes⟩:=c
  simp only at hk
  split at hk
  ·rename_i x t ts e2 e3
   have ea:args= #[x]:=by apply Array.ext';simpa using e2
   subst ea
   exact wp_of_val h (m:=Builtin.len_ argTypes o.type #[a.eval x]) (by simp[execOp,ho,resolve,invoke,builtin]) (atW (lenK_sound (by rw[←Array.getElem?_toList,e3];rfl) hk (ev_sound h x)))
  ·rename_i x y t tx e2 e3
   have ea:args= #[x,y]:=by apply Array.ext';simpa using e2
   have et:argTypes= #[t,tx]:=by apply Array.ext';simpa using e3
   subst ea;subst et
   exact wp_of_val' h (m:=Builtin.append_ #[t,tx] o.type #[a.eval x,a.eval y]) (by simp[execOp,ho,resolve,invoke,builtin]) (appendK_sound h hk (ev_sound h x) (ev_sound h y))
  ·rename_i x y e2
   have ea:args= #[x,y]:=by apply Array.ext';simpa using e2
   subst ea
   have hx:=ev_sound h x
   have hy:=ev_sound h y
   unfold minK at hk
   split at hk
   ·rename_i k1 n1 k2 n2 q1 q2
    rw[q1] at hx;rw[q2] at hy
    simp only[S] at hx hy
    exact wp_of_val h (m:=Builtin.min_ argTypes o.type #[a.eval x,a.eval y]) (by simp[execOp,ho,resolve,invoke,builtin]) ⟨_,_,by rw[hx,hy];exact run_min,hk,S_int⟩
   ·exact hk.elim
  ·rename_i x y e2
   have ea:args= #[x,y]:=by apply Array.ext';simpa using e2
   subst ea
   have hx:=ev_sound h x
   have hy:=ev_sound h y
   unfold maxK at hk
   split at hk
   ·rename_i k1 n1 k2 n2 q1 q2
    rw[q1] at hx;rw[q2] at hy
    simp only[S] at hx hy
    exact wp_of_val h (m:=Builtin.max_ argTypes o.type #[a.eval x,a.eval y]) (by simp[execOp,ho,resolve,invoke,builtin]) ⟨_,_,by rw[hx,hy];exact run_max,hk,S_int⟩
   ·exact hk.elim
  ·rename_i f
   have hf:=ev_sound h f
   unfold callK at hk
   split at hk
   ·rename_i g caps ef
    rw[ef] at hf
    simp only[S] at hf
    obtain⟨vs,hvf,hcaps⟩:=hf
    have hrun:(execOp a.eval o).run P w=(callFunc g (args.map a.eval++vs)).run P w:=by
     simp[execOp,ho,resolve,hvf,Deferred.ofValue,invoke]
    have hx:SV hd s.next w I (args.toList.map (ev G s)++caps) (args.map a.eval++vs).toList:=by
     rw[Array.toList_append,Array.toList_map]
     exact(evL_SV h args.toList).append hcaps.SV
    split at hk
    ·obtain⟨K0,hc,hK⟩:=hk
     exact call_open h hC hc hK hx hrun
    ·split at hk
     ·rename_i ts hfz
      obtain⟨hok,r,hev,hK⟩:=hk
      exact call_pure h hC hev hfz hok hK hx hrun
     ·exact hk.elim
   ·exact hk.elim
  ·exact hk.elim
 case h_22 t x j ho=>exact wp_of_val h (m:=Instr.field t (a.eval x) j) (by simp only[execOp,ho]) (atW (fldK_sound hk (ev_sound h x)))
 case h_23=>exact hk.elim
end
end Go.Proofs.YthggfnefjbckeaaGreatDoor.X
set_option linter.unusedVariables false
set_option linter.unusedSimpArgs false
namespace Go.Proofs.YthggfnefjbckeaaGreatDoor.X
open Go
def renO(B:Nat)(ρ:List (Nat×Nat)):Ob→Ob
 | .var cs=> .var (renL B ρ cs)
 | o=>o
def canSlots(B:Nat)(ρ:List (Nat×Nat)):List Keepd→List AV→List AV
 | _,[]=>[]
 | [],_::xs=> .any::canSlots B ρ [] xs
 | .drop::as,_::xs=> .any::canSlots B ρ as xs
 | .keep::as,x::xs=>ren B ρ x::canSlots B ρ as xs
 | .obj id sz::as,.nil::xs=> .ref id none sz 0 0::canSlots B ρ as xs
 | .obj _ _::as,x::xs=>ren B ρ x::canSlots B ρ as xs
def canObjs:List Keepd→List AV→Heap
 | .obj id sz::as,.nil::xs=>(id,.slice sz [])::canObjs as xs
 | _::as,_::xs=>canObjs as xs
 | _,_=>[]
def canR(B:Nat)(ρ0:List (Nat×Nat))(h:Heap):List (Nat×Nat)→Heap
 | []=>[]
 | (o,n)::r=>match hget h o with
  | some ob=>(n,renO B ρ0 ob)::canR B ρ0 h r
  | none=>canR B ρ0 h r
def canB(B:Nat)(ρ:List (Nat×Nat)):Heap→Heap
 | []=>[]
 | (i,o)::h=>if i<B then(i,renO B ρ o)::canB B ρ h else canB B ρ h
def objIds:List Keepd→List Nat
 | []=>[]
 | .obj id _::as=>id::objIds as
 | _::as=>objIds as
def rhoOk(B:Nat)(ρ:List (Nat×Nat))(ids:List Nat)(nx:Nat):Bool:=
 decide (B≤nx)&&ρ.all (fun p=>decide (B≤p.1)&&decide (B≤p.2)&&decide (p.2<nx))&&decide ((ρ.map (·.2)).Nodup)&&decide ((ρ.map (·.1)).Nodup)&&ids.all (fun i=>decide (B≤i)&&decide (i<nx)&&!(ρ.map (·.2)).contains i)
def canon(B:Nat)(acts:List Keepd)(ρ:List (Nat×Nat))(nx:Nat)(s:St):St:=
 ⟨canSlots B ρ acts s.tmps,canObjs acts s.tmps++(canR B ρ s.heap ρ++canB B ρ s.heap),nx⟩
theorem hget_append(h1 h2:Heap)(j:Nat):hget (h1++h2) j=match hget h1 j with | some o=>some o | none=>hget h2 j:=by
 induction h1 with
 | nil=>rfl
 | cons p h1 ih=>
  obtain⟨i,o⟩:=p
  simp only[List.cons_append,hget]
  split
  ·rfl
  ·exact ih
def lkr(ρ:List (Nat×Nat))(j:Nat):Option Nat:=
 match ρ with
 | []=>none
 | (o,n)::r=>if n=j then some o else lkr r j
def srcOf(B:Nat)(ρ:List (Nat×Nat))(j:Nat):Option Nat:=if j<B then some j else lkr ρ j
theorem lkr_mem{ρ:List (Nat×Nat)}{j o:Nat}(h:lkr ρ j=some o):(o,j)∈ρ:=by
 induction ρ with
 | nil=>simp[lkr] at h
 | cons p ρ ih=>
  obtain⟨o',n⟩:=p
  simp only[lkr] at h
  split at h
  ·rename_i hn;simp only[Option.some.injEq] at h;subst hn;subst h;simp
  ·simp[ih h]
theorem lkr_of_mem{ρ:List (Nat×Nat)}(hn:(ρ.map (·.2)).Nodup){j o:Nat}(h:(o,j)∈ρ):lkr ρ j=some o:=by
 induction ρ with
 | nil=>simp at h
 | cons p ρ ih=>
  obtain⟨o',n⟩:=p
  simp only[List.map_cons,List.nodup_cons] at hn
  simp only[lkr]
  rcases List.mem_cons.1 h with h | h
  ·simp only[Prod.mk.injEq] at h;obtain⟨rfl,rfl⟩:=h;simp
  ·have:n≠j:=by rintro rfl;exact hn.1 (List.mem_map.2 ⟨_,h,rfl⟩)
   rw[if_neg this];exact ih hn.2 h
theorem lkp_mem{ρ:List (Nat×Nat)}{j o:Nat}(h:lkp ρ o=some j):(o,j)∈ρ:=by
 induction ρ with
 | nil=>simp[lkp] at h
 | cons p ρ ih=>
  obtain⟨o',n⟩:=p
  simp only[lkp] at h
  split at h
  ·rename_i hn;simp only[Option.some.injEq] at h;subst hn;subst h;simp
  ·simp[ih h]
theorem lkr_none{ρ:List (Nat×Nat)}{j:Nat}(h:j∉ρ.map (·.2)):lkr ρ j=none:=by
 cases e:lkr ρ j with
 | none=>rfl
 | some o=>exact absurd (List.mem_map.2 ⟨_,lkr_mem e,rfl⟩) h
theorem inj_of_mem{ρ:List (Nat×Nat)}(hn:(ρ.map (·.1)).Nodup){o j1 j2:Nat}(h1:(o,j1)∈ρ)(h2:(o,j2)∈ρ):j1=j2:=by
 induction ρ with
 | nil=>simp at h1
 | cons p ρ ih=>
  obtain⟨o',n⟩:=p
  simp only[List.map_cons,List.nodup_cons] at hn
  rcases List.mem_cons.1 h1 with g1 | g1<;>rcases List.mem_cons.1 h2 with g2 | g2
  ·simp only[Prod.mk.injEq] at g1 g2;rw[g1.2,g2.2]
  ·simp only[Prod.mk.injEq] at g1;exact(hn.1 (g1.1▸List.mem_map_of_mem (f:=fun x:Nat×Nat=>x.1) g2)).elim
  ·simp only[Prod.mk.injEq] at g2;exact(hn.1 (g2.1▸List.mem_map_of_mem (f:=fun x:Nat×Nat=>x.1) g1)).elim
  ·exact ih hn.2 g1 g2
section
variable{B:Nat}{ρ:List (Nat×Nat)}{ids:List Nat}{nx:Nat}
theorem rho_spec(h:rhoOk B ρ ids nx=true):B≤nx∧(∀o n,(o,n)∈ρ→B≤o∧B≤n∧n<nx)∧(ρ.map (·.2)).Nodup∧(ρ.map (·.1)).Nodup∧(∀i∈ids,B≤i∧i<nx∧i∉ρ.map (·.2)):=by
 simp only[rhoOk,Bool.and_eq_true,decide_eq_true_eq,List.all_eq_true,Bool.not_eq_true',List.contains_eq_mem,decide_eq_false_iff_not] at h
 obtain⟨⟨⟨⟨h1,h2⟩,h3⟩,h4⟩,h5⟩:=h
 exact⟨h1,fun o n hm=>⟨(h2 _ hm).1.1,(h2 _ hm).1.2,(h2 _ hm).2⟩,h3,h4,fun i hi=>⟨(h5 i hi).1.1,(h5 i hi).1.2,(h5 i hi).2⟩⟩
theorem canObjs_get{j:Nat}{o:Ob}: ∀{acts:List Keepd} {xs:List AV},hget (canObjs acts xs) j=some o→j∈objIds acts∧ ∃sz,o= .slice sz []
 | [],xs,h=>by cases xs<;>simp[canObjs,hget] at h
 | .drop::as,[],h=>by simp[canObjs,hget] at h
 | .keep::as,[],h=>by simp[canObjs,hget] at h
 | .obj id sz::as,[],h=>by simp[canObjs,hget] at h
 | .drop::as,x::xs,h=>by simp only[canObjs] at h;simpa only[objIds] using canObjs_get h
 | .keep::as,x::xs,h=>by simp only[canObjs] at h;simpa only[objIds] using canObjs_get h
 | .obj id sz::as,x::xs,h=>by
  have hrec:hget (canObjs as xs) j=some o→j∈objIds (.obj id sz::as)∧ ∃sz,o= .slice sz []:=fun h=>by
   obtain⟨h1,h2⟩:=canObjs_get h
   exact⟨by simp[objIds,h1],h2⟩
  cases x
  case nil=>
   simp only[canObjs,hget] at h
   split at h
   ·rename_i hj;simp only[Option.some.injEq] at h;exact⟨by simp[objIds,hj],sz,h.symm⟩
   ·exact hrec h
  all_goals (simp only[canObjs] at h;exact hrec h)
theorem canR_get{h:Heap}{j:Nat}{o:Ob}: ∀{r:List (Nat×Nat)},hget (canR B ρ h r) j=some o→ ∃id u,(id,j)∈r∧hget h id=some u∧o=renO B ρ u
 | [],he=>by simp[canR,hget] at he
 | (q,n)::r,he=>by
  simp only[canR] at he
  split at he
  ·rename_i ob hob
   simp only[hget] at he
   split at he
   ·rename_i hj;simp only[Option.some.injEq] at he;subst hj;exact⟨q,ob,by simp,hob,he.symm⟩
   ·obtain⟨id,u,h1,h2,h3⟩:=canR_get he;exact⟨id,u,by simp[h1],h2,h3⟩
  ·obtain⟨id,u,h1,h2,h3⟩:=canR_get he;exact⟨id,u,by simp[h1],h2,h3⟩
theorem canB_get{j:Nat}{o:Ob}: ∀{h:Heap},hget (canB B ρ h) j=some o→j<B∧ ∃u,hget h j=some u∧o=renO B ρ u
 | [],he=>by simp[canB,hget] at he
 | (i,u)::h,he=>by
  simp only[canB] at he
  split at he
  ·rename_i hi
   simp only[hget] at he⊢
   split at he
   ·rename_i hj;simp only[Option.some.injEq] at he;subst hj;exact⟨hi,u,by simp,he.symm⟩
   ·rename_i hj
    obtain⟨h1,u',h2,h3⟩:=canB_get he;exact⟨h1,u',by rw[if_neg hj];exact h2,h3⟩
  ·rename_i hi
   obtain⟨h1,u',h2,h3⟩:=canB_get he
   refine⟨h1,u',?_,h3⟩
   simp only[hget]
   rw[if_neg (by omega)];exact h2
variable{hd hd':Nat→Value}{n:Nat}{w:World}{I:Nat→Prop}
theorem HdOf.at{hd hd':Nat→Value}{i j:Nat}(e:hd' j=hd i): ∀{sub:Option (Nat×Nat×Nat)} {h:Value},HdOf hd w i sub h→HdOf hd' w j sub h
 | none,h,hh=>by simp only[HdOf] at hh⊢;rw[e];exact hh
 | some (a,b,c),h,hh=>by simp only[HdOf] at hh⊢;rw[e];exact hh
mutual
theorem S.ren(hB: ∀id,id<B→hd' id=hd id)(hBn:B≤nx)(hρ: ∀o j,lkp ρ o=some j→hd' j=hd o∧j<nx): ∀(x:AV) (v:Value),S hd n w I x v→S hd' nx w I (X.ren B ρ x) v
 | .ref id sub sz off len,v,h=>by
  simp only[S] at h
  obtain⟨hid,h0,h1,h2⟩:=h
  simp only[X.ren]
  split
  ·rename_i hlt
   simp only[S]
   exact⟨Nat.lt_of_lt_of_le hlt hBn,h0,h1.at (hB id hlt),h2⟩
  ·split
   ·rename_i j e
    simp only[S]
    exact⟨(hρ _ _ e).2,h0,h1.at (hρ _ _ e).1,h2⟩
   ·simp only[S]
 | .ptr id sub sz i c,v,h=>by
  simp only[S] at h
  obtain⟨hid,h0,b,o,h1,h2,h3⟩:=h
  simp only[X.ren]
  split
  ·rename_i hlt
   simp only[S]
   exact⟨Nat.lt_of_lt_of_le hlt hBn,h0,b,o,h1.at (hB id hlt),h2,h3⟩
  ·split
   ·rename_i j e
    simp only[S]
    exact⟨(hρ _ _ e).2,h0,b,o,h1.at (hρ _ _ e).1,h2,h3⟩
   ·simp only[S]
 | .fn f caps,v,h=>by
  simp only[S,X.ren] at h⊢
  obtain⟨vs,hv,ht⟩:=h
  exact⟨vs,hv,SL.ren hB hBn hρ caps _ ht⟩
 | .agg cs,v,h=>by
  simp only[S,X.ren] at h⊢
  obtain⟨vs,hv,ht⟩:=h
  exact⟨vs,hv,SL.ren hB hBn hρ cs _ ht⟩
 | .tup xs,v,h=>by
  simp only[S,X.ren] at h⊢
  obtain⟨vs,hv,ht⟩:=h
  exact⟨vs,hv,SV.ren hB hBn hρ xs _ ht⟩
 | .ow _ _,v,h=>by simp only[S] at h
 | .op _,v,h=>by simp only[S] at h
 | .any,v,h=>by simp only[S,X.ren]
 | .con u,v,h=>by simpa only[S,X.ren] using h
 | .int k m,v,h=>by simpa only[S,X.ren] using h
 | .bool b,v,h=>by simpa only[S,X.ren] using h
 | .str s,v,h=>by simpa only[S,X.ren] using h
 | .nil,v,h=>by simpa only[S,X.ren] using h
 | .sl es,v,h=>by simpa only[S,X.ren] using h
 | .pf cs,v,h=>by simpa only[S,X.ren] using h
theorem SL.ren(hB: ∀id,id<B→hd' id=hd id)(hBn:B≤nx)(hρ: ∀o j,lkp ρ o=some j→hd' j=hd o∧j<nx): ∀(xs:List AV) (vs:List Value),SL hd n w I xs vs→SL hd' nx w I (renL B ρ xs) vs
 | [],vs,h=>by simpa only[SL,renL] using h
 | x::xs,vs,h=>by
  simp only[SL,renL] at h⊢
  obtain⟨v,vs',rfl,h1,hx,hxs⟩:=h
  exact⟨v,vs',rfl,h1,S.ren hB hBn hρ x v hx,SL.ren hB hBn hρ xs vs' hxs⟩
theorem SV.ren(hB: ∀id,id<B→hd' id=hd id)(hBn:B≤nx)(hρ: ∀o j,lkp ρ o=some j→hd' j=hd o∧j<nx): ∀(xs:List AV) (vs:List Value),SV hd n w I xs vs→SV hd' nx w I (renL B ρ xs) vs
 | [],vs,h=>by simpa only[SV,renL] using h
 | x::xs,vs,h=>by
  simp only[SV,renL] at h⊢
  obtain⟨v,vs',rfl,hx,hxs⟩:=h
  exact⟨v,vs',rfl,S.ren hB hBn hρ x v hx,SV.ren hB hBn hρ xs vs' hxs⟩
end
theorem canSlots_S(hS: ∀(x:AV) (v:Value),S hd n w I x v→S hd' nx w I (X.ren B ρ x) v)(ho: ∀id∈ids,hd' id= .slice none 0 0∧id<nx): ∀(acts:List Keepd) (xs:List AV) (vs:Nat→Value),(∀i∈objIds acts,i∈ids)→(∀t,S hd n w I (xs.getD t .any) (vs t))→
  ∀t,S hd' nx w I ((canSlots B ρ acts xs).getD t .any) (vs t)
 | _,[],vs,_,_,t=>by simp[canSlots,S]
 | [],x::xs,vs,hi,h,0=>by simp[canSlots,S]
 | [],x::xs,vs,hi,h,t+1=>by
  have:=canSlots_S hS ho [] xs (fun t=>vs (t+1)) hi (fun t=>by simpa using h (t+1)) t
  simpa [canSlots] using this
 | .drop::as,x::xs,vs,hi,h,0=>by simp[canSlots,S]
 | .drop::as,x::xs,vs,hi,h,t+1=>by
  have:=canSlots_S hS ho as xs (fun t=>vs (t+1)) hi (fun t=>by simpa using h (t+1)) t
  simpa [canSlots] using this
 | .keep::as,x::xs,vs,hi,h,0=>by
  have:=hS x (vs 0) (by simpa using h 0)
  simpa [canSlots] using this
 | .keep::as,x::xs,vs,hi,h,t+1=>by
  have:=canSlots_S hS ho as xs (fun t=>vs (t+1)) hi (fun t=>by simpa using h (t+1)) t
  simpa [canSlots] using this
 | .obj id sz::as,x::xs,vs,hi,h,0=>by
  have h0:S hd n w I x (vs 0):=by simpa using h 0
  have h1:=hS x (vs 0) h0
  cases x
  case nil=>
   simp only[S] at h0
   obtain⟨e,hlt⟩:=ho id (hi id (by simp[objIds]))
   simp only[canSlots,List.getD_cons_zero,S,HdOf]
   exact⟨hlt,_,rfl,.inr ⟨rfl,none,h0⟩⟩
  all_goals (simpa [canSlots] using h1)
 | .obj id sz::as,x::xs,vs,hi,h,t+1=>by
  have:=canSlots_S hS ho as xs (fun t=>vs (t+1)) (fun i hi'=>hi i (by simp[objIds,hi'])) (fun t=>by simpa using h (t+1)) t
  cases x<;>simpa [canSlots] using this
theorem canSlots_length: ∀(acts:List Keepd) (xs:List AV),(canSlots B ρ acts xs).length=xs.length
 | _,[]=>by simp[canSlots]
 | [],x::xs=>by simp[canSlots,canSlots_length [] xs]
 | .drop::as,x::xs=>by simp[canSlots,canSlots_length as xs]
 | .keep::as,x::xs=>by simp[canSlots,canSlots_length as xs]
 | .obj id sz::as,x::xs=>by cases x<;>simp[canSlots,canSlots_length as xs]
end
section
variable{G:Glo}{M I:Nat→Prop}{s:St}{hd:Nat→Value}{Fp:Nat→List Nat}{a:Act}{w:World}
theorem SR.canon(h:SR G M I s hd Fp a w){B:Nat}{acts:List Keepd}{ρ:List (Nat×Nat)}{nx:Nat}(hok:rhoOk B ρ (objIds acts) nx=true):
  ∃hd' Fp',SR G M I (X.canon B acts ρ nx s) hd' Fp' a w∧ ∀id,id<B→hd' id=hd id:=by
 obtain⟨h1,h2,h3,h4,h5⟩:=rho_spec hok
 let hd':Nat→Value:=fun j=>match srcOf B ρ j with | some id=>hd id | none=> .slice none 0 0
 let Fp':Nat→List Nat:=fun j=>match srcOf B ρ j with | some id=>Fp id | none=>[]
 have hB: ∀id,id<B→hd' id=hd id:=fun id hid=>by simp only[hd',srcOf,if_pos hid]
 have hρ: ∀o j,lkp ρ o=some j→hd' j=hd o∧j<nx:=fun o j e=>by
  have hm:=lkp_mem e
  obtain⟨g1,g2,g3⟩:=h2 o j hm
  refine⟨?_,g3⟩
  simp only[hd',srcOf,if_neg (Nat.not_lt.2 g2),lkr_of_mem h3 hm]
 have hobj: ∀id∈objIds acts,hd' id= .slice none 0 0∧id<nx:=fun id hid=>by
  obtain⟨g1,g2,g3⟩:=h5 id hid
  exact⟨by simp only[hd',srcOf,if_neg (Nat.not_lt.2 g1),lkr_none g3],g2⟩
 have hS:=fun x v hx=>S.ren (B:=B) (ρ:=ρ) (hd:=hd) (hd':=hd') (n:=s.next) (w:=w) (I:=I) hB h1 hρ x v hx
 have hget2: ∀j u,hget (canObjs acts s.tmps++(canR B ρ s.heap ρ++canB B ρ s.heap)) j=some u→(srcOf B ρ j=none∧j<nx∧ ∃sz,u= .slice sz [])∨ ∃id u0,srcOf B ρ j=some id∧j<nx∧hget s.heap id=some u0∧u=renO B ρ u0:=by
  intro j u hu
  rw[hget_append] at hu
  split at hu
  ·rename_i o e
   simp only[Option.some.injEq] at hu;subst hu
   obtain⟨g1,sz,g2⟩:=canObjs_get e
   obtain⟨q1,q2,q3⟩:=h5 j g1
   exact .inl ⟨by simp only[srcOf,if_neg (Nat.not_lt.2 q1),lkr_none q3],q2,sz,g2⟩
  ·rw[hget_append] at hu
   split at hu
   ·rename_i o e
    simp only[Option.some.injEq] at hu;subst hu
    obtain⟨id,u0,g1,g2,g3⟩:=canR_get e
    obtain⟨q1,q2,q3⟩:=h2 id j g1
    exact .inr ⟨id,u0,by simp only[srcOf,if_neg (Nat.not_lt.2 q2),lkr_of_mem h3 g1],q3,g2,g3⟩
   ·obtain⟨g1,u0,g2,g3⟩:=canB_get hu
    exact .inr ⟨j,u0,by simp only[srcOf,if_pos g1],Nat.lt_of_lt_of_le g1 h1,g2,g3⟩
 have hinj: ∀j1 j2 id,srcOf B ρ j1=some id→srcOf B ρ j2=some id→j1=j2:=by
  intro j1 j2 id e1 e2
  simp only[srcOf] at e1 e2
  split at e1<;>split at e2
  ·simp only[Option.some.injEq] at e1 e2;omega
  ·simp only[Option.some.injEq] at e1
   have:=(h2 _ _ (lkr_mem e2)).1
   omega
  ·simp only[Option.some.injEq] at e2
   have:=(h2 _ _ (lkr_mem e1)).1
   omega
  ·exact inj_of_mem h4 (lkr_mem e1) (lkr_mem e2)
 have hfp: ∀j u,hget (canObjs acts s.tmps++(canR B ρ s.heap ρ++canB B ρ s.heap)) j=some u→ ∀b∈Fp' j,∃id u0,srcOf B ρ j=some id∧hget s.heap id=some u0∧b∈Fp id:=by
  intro j u hu b hb
  rcases hget2 j u hu with ⟨e,_,_⟩ | ⟨id,u0,e,_,hu0,_⟩
  ·simp only[Fp',e] at hb;cases hb
  ·simp only[Fp',e] at hb;exact⟨id,u0,e,hu0,hb⟩
 refine⟨hd',Fp',⟨⟨fun j u hu=>?_,fun b hb=>⟨(h.heap.imm b hb).1,fun j u hu hm=>?_⟩,fun j u hu=>?_,fun j u j' u' hu hu' hne b hb hb'=>?_,fun j u hu b hb=>?_,fun j u hu=>?_,h.heap.news,h.heap.glo⟩,by simp[X.canon,canSlots_length,h.len],fun t=>?_,h.defers⟩,hB⟩
 ·rcases hget2 j u hu with ⟨e,_,sz,rfl⟩ | ⟨id,u0,e,_,hu0,rfl⟩
  ·simp only[hd',Fp',e,ObjR,T]
   exact .inl ⟨trivial,⟨none,rfl⟩,trivial⟩
  ·have hq:=h.heap.obj id u0 hu0
   simp only[hd',Fp',e]
   cases u0 with
   | slice sz es=>exact hq
   | var cs=>
    obtain⟨b,cur,e0,g1,g2,g3,g4⟩:=hq
    exact⟨b,cur,e0,g1,g2,SL.ren hB h1 hρ _ _ g3,g4⟩
 ·obtain⟨id,u0,_,hu0,hb'⟩:=hfp j u hu b hm
  exact(h.heap.imm b hb).2 id u0 hu0 hb'
 ·rcases hget2 j u hu with ⟨e,_,_⟩ | ⟨id,u0,e,_,hu0,_⟩
  ·simp only[Fp',e];exact List.nodup_nil
  ·simp only[Fp',e];exact h.heap.nodup id u0 hu0
 ·obtain⟨id,u0,e,hu0,hbi⟩:=hfp j u hu b hb
  obtain⟨id',u0',e',hu0',hbi'⟩:=hfp j' u' hu' b hb'
  by_cases hid:id=id'
  ·subst hid;exact hne (hinj j j' id e e')
  ·exact h.heap.disj id u0 id' u0' hu0 hu0' hid b hbi hbi'
 ·obtain⟨id,u0,e,hu0,hbi⟩:=hfp j u hu b hb
  exact h.heap.mine id u0 hu0 b hbi
 ·rcases hget2 j u hu with ⟨_,hl,_⟩ | ⟨id,u0,e,hl,_⟩
  ·exact hl
  ·exact hl
 ·exact canSlots_S (ids:=objIds acts) hS hobj acts s.tmps (fun t=>a.tmps.getD t undef) (fun i hi=>hi) h.slots t
end
theorem eqs_canon:True:=by
 have:= @canon.eq_1
 trivial
theorem eqs_canSlots:True:=by
 have:= @canSlots.eq_1
 trivial
theorem eqs_canObjs:True:=by
 have:= @canObjs.eq_1
 trivial
theorem eqs_canR:True:=by
 have:= @canR.eq_1
 trivial
theorem eqs_canB:True:=by
 have:= @canB.eq_1
 trivial
end Go.Proofs.YthggfnefjbckeaaGreatDoor.X
set_option linter.unusedVariables false
set_option linter.unusedSimpArgs false
namespace Go.Proofs.YthggfnefjbckeaaGreatDoor.X
open Go
def quietOp:Op→Bool
 | .move _ | .assign _ | .pick .. | .binOp .. | .unOp .. | .convert .. | .extract .. | .nilCheck _ | .fieldAddr .. | .indexAddr .. | .load .. | .field ..=>true
 | .call c=>match c.callee with | .builtin .len=>true | _=>false
 | _=>false
def isLoad:Op→Bool
 | .load .. | .convert ..=>true
 | _=>false
def keepOp(md:FuncId→Bool):Op→Bool
 | .alloc _ | .box .. | .buildSlice .. | .makeSlice .. | .makeFunc .. | .index .. | .build ..=>true
 | .call c=>match c.callee with | .builtin .len=>true | .value (.func g)=>!md g | _=>false
 | o=>quietOp o
section
variable{P:Program}{G:Glo}{C:CT}{md:FuncId→Bool}{M I:Nat→Prop}{s:St}{hd:Nat→Value}{Fp:Nat→List Nat}{a:Act}{w:World}{K:AV→St→Prop}{o:Oper}{Q:Exit→Act→World→Prop}
theorem run_val{m:Sem Value}{v:Value}{w:World}(h:m.run P w= .ok v w):(do pure (Next.value (←m)):Sem Next).run P w= .ok (.value v) w:=by simp[h]
theorem opK_quiet(h:SR G M I s hd Fp a w)(hq:quietOp o.op=true)(hk:opK P G C md o.op s K):
  ∃v av,(∀w',(isLoad o.op=true→SameB w w')→(execOp a.eval o).run P w'= .ok (.value v) w')∧K av s∧S hd s.next w I av v:=by
 unfold opK at hk
 split at hk
 case h_1 x ho=>exact⟨_,_,fun w' _=>by simp[execOp,ho],hk,ev_sound h x⟩
 case h_2 x ho=>exact⟨_,_,fun w' _=>by simp[execOp,ho],hk,ev_sound h x⟩
 case h_3 c x y ho=>
  have hc:=ev_sound h c
  split at hk
  ·rename_i e;rw[e] at hc;simp only[S] at hc
   exact⟨a.eval x,_,fun w' _=>by simp[execOp,ho,hc,asBool],hk,ev_sound h x⟩
  ·rename_i e;rw[e] at hc;simp only[S] at hc
   exact⟨a.eval y,_,fun w' _=>by simp[execOp,ho,hc,asBool],hk,ev_sound h y⟩
  ·exact hk.elim
 case h_4 op t x y t2 ho=>
  obtain⟨v,av,h1,h2,h3⟩:=binK_sound hk (ev_sound h x) (ev_sound h y)
  refine⟨v,av,fun w' _=>?_,h2,h3⟩
  have hg:(eqGuard op t x y (a.eval x) (a.eval y)).run P w'= .ok () w':=binK_guard hk (ev_sound h x) (ev_sound h y) x y w'
  simp[execOp,ho,hg,h1]
 case h_5 op t x ho=>
  obtain⟨v,av,h1,h2,h3⟩:=unK_sound (P:=P) hk (ev_sound h x)
  exact⟨v,av,fun w' _=>by simp[execOp,ho,h1],h2,h3⟩
 case h_6 t t' x ho=>
  obtain⟨v,av,h1,h2,h3⟩:=convH_sound h hk (ev_sound h x)
  exact⟨v,av,fun w' hw=>by simp[execOp,ho,h1 w' (hw (by rw[ho];rfl))],h2,h3⟩
 case h_7 x i ho=>
  have hx:=ev_sound h x
  split at hk
  ·rename_i vs e
   rw[e] at hx
   simp only[S] at hx
   obtain⟨us,hu,hs⟩:=hx
   split at hk
   ·rename_i y hy
    obtain⟨v,hv,hS⟩:=hs.get hy
    have:us[i]?=some v:=by simpa using hv
    exact⟨v,y,fun w' _=>by simp[execOp,ho,Instr.extract,hu,this],hk,hS⟩
   ·exact hk.elim
  ·exact hk.elim
 case h_8 x ho=>
  have hx:=ev_sound h x
  split at hk
  ·rename_i id sub sz i c e
   rw[e] at hx
   have hx':=hx
   simp only[S] at hx
   obtain⟨_,h0,b,o',_,_,hu⟩:=hx
   exact⟨a.eval x,_,fun w' _=>by simp[execOp,ho,hu],hk,hx'⟩
  ·rename_i cs e
   rw[e] at hx
   have hx':=hx
   simp only[S,T] at hx
   obtain⟨_,b,o',vs,hu,_⟩:=hx
   exact⟨a.eval x,_,fun w' _=>by simp[execOp,ho,hu],hk,hx'⟩
  ·exact hk.elim
 case h_10 t x j ho=>
  obtain⟨v,av,h1,h2,h3⟩:=faddrK_sound hk (ev_sound h x)
  exact⟨v,av,fun w' _=>by simp[execOp,ho,h1],h2,h3⟩
 case h_11 t x i ho=>
  obtain⟨v,av,h1,h2,h3⟩:=iaddrK_sound hk (ev_sound h x) (ev_sound h i)
  exact⟨v,av,fun w' _=>by simp[execOp,ho,h1],h2,h3⟩
 case h_14 t x ho=>
  obtain⟨v,av,h1,h2,h3⟩:=loadK_sound h hk (ev_sound h x)
  exact⟨v,av,fun w' hw=>by simp[execOp,ho,h1 w' (hw (by rw[ho];rfl))],h2,h3⟩
 case h_21 c ho=>
  obtain⟨callee,args,argTypes⟩:=c
  simp only at hk
  split at hk
  ·rename_i x t ts e2 e3
   have ea:args= #[x]:=by apply Array.ext';simpa using e2
   subst ea
   obtain⟨v,av,h1,h2,h3⟩:=lenK_sound (ts:=argTypes) (ty:=o.type) (by rw[←Array.getElem?_toList,e3];rfl) hk (ev_sound h x)
   exact⟨v,av,fun w' _=>by simp[execOp,ho,resolve,invoke,builtin,h1],h2,h3⟩
  all_goals first | exact hk.elim | (simp[ho,quietOp] at hq;done)
 case h_22 t x j ho=>
  obtain⟨v,av,h1,h2,h3⟩:=fldK_sound hk (ev_sound h x)
  exact⟨v,av,fun w' _=>by simp[execOp,ho,h1],h2,h3⟩
 all_goals (rename_i ho;simp[ho,quietOp] at hq)
theorem opK_keeps(h:SR G M I s hd Fp a w)(hC:Sound P G C)(hq:keepOp md o.op=true)(hk:opK P G C md o.op s K):o.wp P a w (fun a' w'=>StepQ G M I s hd w o.dst K a' w'∧SameB w w') Q:=by
 have quiet:quietOp o.op=true→o.wp P a w (fun a' w'=>StepQ G M I s hd w o.dst K a' w'∧SameB w w') Q:=by
  intro hq
  obtain⟨v,av,h1,h2,h3⟩:=opK_quiet h hq hk
  unfold Oper.wp
  rw[h1 w (fun _=> .refl w)]
  exact⟨⟨av,s,I,hd,Fp,h2,h.put o.dst h3,Ext.refl _ _ _ _ _,Nat.le_refl _⟩,.refl w⟩
 by_cases hq':quietOp o.op=true
 ·exact quiet hq'
 have step: ∀{v:Value},(execOp a.eval o).run P w= .ok (.value v) w→o.wp P a w (StepQ G M I s hd w o.dst K) Q→o.wp P a w (fun a' w'=>StepQ G M I s hd w o.dst K a' w'∧SameB w w') Q:=by
  intro v hr hw
  unfold Oper.wp at hw⊢
  rw[hr] at hw⊢
  exact⟨hw,.refl w⟩
 have grow: ∀{m:Sem Value},execOp a.eval o=(do pure (.value (←m)))→(∃v w',m.run P w= .ok v w'∧OpRes G M I s hd a w K (.value v) w'∧SameB w w')→o.wp P a w (fun a' w'=>StepQ G M I s hd w o.dst K a' w'∧SameB w w') Q:=by
  intro m he ⟨v,w',h1,h2,h3⟩
  have hr:(execOp a.eval o).run P w= .ok (.value v) w':=by rw[he];simp[h1]
  have:=wp_of_res (P:=P) (Q:=Q) hr h2
  unfold Oper.wp at this⊢
  rw[hr] at this⊢
  exact⟨this,h3⟩
 have hw:=opK_sound (Q:=Q) h hC hk
 have hk':=hk
 unfold opK at hk
 split at hk
 case h_9 f first caps ho=>
  obtain⟨hf,hk,hc⟩:=hk
  have hfe:first= #[]:=Array.eq_empty_of_size_eq_zero hf
  subst hfe
  exact step (v:= .func (.func f) #[] (caps.map a.eval)) (by simp[execOp,ho,Instr.makeFunc]) hw
 case h_12 t x i ho=>
  obtain⟨v,av,h1,h2,h3⟩:=idxK_sound hk (ev_sound h x) (ev_sound h i)
  exact step (v:=v) (by simp[execOp,ho,h1]) hw
 case h_16 t ho=>exact grow (m:=Instr.alloc t true (.tuple #[])) (by simp only[execOp,ho]) (allocK_sound h hk)
 case h_17 t x ho=>exact grow (m:=Instr.box t (a.eval x)) (by simp only[execOp,ho]) (boxK_sound h hk (ev_sound h x))
 case h_18 t ps ho=>
  obtain⟨v,av,h1,h2,h3⟩:=buildK_sound (P:=P) (t:=t) hk (parts_of h ps.toList)
  have e:(ps.toList.map fun p=>(p.1,a.eval p.2)).toArray=ps.map fun(i,x)=>(i,a.eval x):=by apply Array.ext';simp
  rw[e] at h1
  exact step (v:=v) (by simp only[execOp,ho];exact run_val h1) hw
 case h_19 t n ps ho=>
  refine grow (m:=Instr.buildSlice t n (ps.map fun(i,x)=>(i,a.eval x))) (by simp only[execOp,ho]) ?_
  have:=buildSliceK_sound (P:=P) (t:=t) h hk.2 (parts_of h ps.toList) (fun h0=>by rw[hk.1 h0];rfl)
  have e:(ps.toList.map fun p=>(p.1,a.eval p.2)).toArray=ps.map fun(i,x)=>(i,a.eval x):=by apply Array.ext';simp
  rw[e] at this
  exact this
 case h_20 t l c ho=>exact grow (m:=Instr.makeSlice t (a.eval l) (a.eval c)) (by simp only[execOp,ho]) (makeSliceK_sound h hk (ev_sound h l) (ev_sound h c))
 case h_21 c ho=>
  obtain⟨callee,args,argTypes⟩:=c
  simp only at hk
  cases callee with
  | invoke r m=>simp[ho,keepOp] at hq
  | builtin b=>cases b<;>simp[ho,keepOp,quietOp] at hq hq'
  | value f=>
   cases f with
   | func g=>
    have hmd:md g=false:=by simpa [ho,keepOp] using hq
    split at hk
    ·rename_i e _ _;simp at e
    ·rename_i e _ _;simp at e
    ·rename_i e _;simp at e
    ·rename_i e _;simp at e
    ·rename_i f' e
     simp only[Callee.value.injEq] at e
     subst e
     have hne: ¬md g=true:=by rw[hmd];simp
     simp only[ev,callK] at hk
     rw[if_neg hne] at hk
     simp only[List.append_nil] at hk
     have hrun:(execOp a.eval o).run P w=(callFunc g (args.map a.eval)).run P w:=by
      simp[execOp,ho,resolve,Act.eval,Deferred.ofValue,invoke]
     have hx:SV hd s.next w I (args.toList.map (ev G s)) (args.map a.eval).toList:=by
      rw[Array.toList_map];exact evL_SV h args.toList
     split at hk
     ·rename_i ts hfz
      obtain⟨hok,r,hev,hK⟩:=hk
      exact call_pure' h hC hev hfz hok hK hx hrun
     ·exact hk.elim
    ·rename_i h1 h2 h3 h4 h5
     first | exact(h1 _ rfl).elim | exact(h2 _ rfl).elim | exact(h3 _ rfl).elim | exact(h4 _ rfl).elim | exact(h5 _ rfl).elim
   | tmp t=>simp[ho,keepOp] at hq
   | const v=>simp[ho,keepOp] at hq
   | global g=>simp[ho,keepOp] at hq
 all_goals first | exact hk.elim | (rename_i ho;simp[ho,keepOp,quietOp] at hq hq')
end
end Go.Proofs.YthggfnefjbckeaaGreatDoor.X
set_option linter.unusedVariables false
set_option linter.unusedSimpArgs false
namespace Go.Proofs.YthggfnefjbckeaaGreatDoor.X
open Go
inductive Plan where
 | done
 | fail
 | op (i:Nat) (rest:Plan)
 | both (p q:Plan)
def Plan.text:List Nat→Plan
 | []=> .done
 | i::r=> .op i (Plan.text r)
def Plan.join:List Plan→Plan
 | []=> .done
 | p::ps=>match ps with
  | []=>p
  | _=> .both p (Plan.join ps)
def awaits(ops:Array Oper)(i:Nat)(W:List Nat)(j:Nat):Bool:=
 match ops[j]? with
 | some o=>o.after.any fun e=>Region.binds .any e&&(e.on==i||W.contains e.on)
 | none=>false
def waitSet(ops:Array Oper)(listed:Array Bool)(i:Nat):List Nat:=
 (List.range ops.size).foldl (fun W j=>if !listed.getD j true&&awaits ops i W j then j::W else W) []
def freeOk(md:FuncId→Bool)(ops:Array Oper)(listed:Array Bool)(i:Nat):Bool:=
 match ops[i]? with
 | none=>false
 | some oi=>quietOp oi.op&&Region.noSelect ops&&((waitSet ops listed i).all fun j=>!listed.getD j true&&awaits ops i (waitSet ops listed i) j)&&
   (List.range ops.size).all fun j=>j==i||listed.getD j true||(waitSet ops listed i).contains j||match ops[j]? with
    | some oj=>oi.apart ops oj&&(!isLoad oi.op||keepOp md oj.op)
    | none=>true
def mkPlan(md:FuncId→Bool)(ops:Array Oper):Nat→Array Bool→Plan
 | 0,listed=>if(Region.ready .any ops listed).isEmpty then .done else .fail
 | fuel+1,listed=>
  match (Region.ready .any ops listed).find? (freeOk md ops listed) with
  | some i=> .op i (mkPlan md ops fuel (listed.setIfInBounds i true))
  | none=>Plan.join ((Region.ready .any ops listed).map fun i=> .op i (mkPlan md ops fuel (listed.setIfInBounds i true)))
def planOf(md:FuncId→Bool)(ops:Array Oper)(draw:Bool):Plan:=
 if draw then mkPlan md ops ops.size (Array.replicate ops.size false) else Plan.text (List.range ops.size)
def opX(P:Program)(G:Glo)(C:CT)(md:FuncId→Bool)(ops:Array Oper)(o:Oper)(s:St)(K:St→Prop):Prop:=
 match o.guard with
 | none=>opK P G C md o.op s fun v s'=>K (s'.put o.dst v)
 | some (j,want)=>match (ops[j]?).bind (·.dst) with
  | none=>False
  | some d=>match s.tmps.getD d .any with
   | .bool b=>(b=want→opK P G C md o.op (s.put (some d) (.bool want)) fun v s'=>K (s'.put o.dst v))∧(b=!want→K ((s.put (some d) (.bool !want)).put o.dst (.con undef)))
   | .con (.tuple a)=>a= #[]∧K (s.put o.dst (.con undef))
   | _=>False
def runPlan(P:Program)(G:Glo)(C:CT)(md:FuncId→Bool)(ops:Array Oper):Plan→St→(St→Prop)→Prop
 | .done,s,K=>K s
 | .fail,_,_=>False
 | .op i r,s,K=>match ops[i]? with
  | some o=>opX P G C md ops o s fun s'=>runPlan P G C md ops r s' K
  | none=>False
 | .both p q,s,K=>runPlan P G C md ops p s K∧runPlan P G C md ops q s K
def Post(G:Glo)(M I:Nat→Prop)(n:Nat)(hd:Nat→Value)(w:World)(K:St→Prop)(a':Act)(w':World):Prop:=
 ∃s' I' hd' Fp',K s'∧SR G M I' s' hd' Fp' a' w'∧Ext M I I' n hd hd' w w'∧n≤s'.next
section
variable{P:Program}{G:Glo}{C:CT}{md:FuncId→Bool}{M I:Nat→Prop}{s:St}{hd:Nat→Value}{Fp:Nat→List Nat}{a:Act}{w:World}{K:St→Prop}{o:Oper}{Q:Exit→Act→World→Prop}{ops:Array Oper}
theorem Post.from{M I I':Nat→Prop}{n n':Nat}{hd hd':Nat→Value}{w w':World}{K:St→Prop}{a2:Act}{w2:World}(hE:Ext M I I' n hd hd' w w')(hn:n≤n')(h:Post G M I' n' hd' w' K a2 w2):Post G M I n hd w K a2 w2:=by
 obtain⟨s',I2,hd2,Fp2,h1,h2,h3,h4⟩:=h
 exact⟨s',I2,hd2,Fp2,h1,h2,hE.trans (h3.less hn),Nat.le_trans hn h4⟩
theorem SR.know(h:SR G M I s hd Fp a w){d:Nat}{b:Bool}(hb:a.tmps.getD d undef= .bool b):SR G M I (s.put (some d) (.bool b)) hd Fp a w:=by
 refine⟨h.heap,by simp[St.put,h.len],fun t=>?_,h.defers⟩
 simp only[St.put,getD_set_eq]
 split
 ·rename_i ht
  obtain⟨rfl,_⟩:=ht
  simp only[S];exact hb
 ·exact h.slots t
theorem yield_bool{j d:Nat}{b:Bool}(hj:(ops[j]?).bind (·.dst)=some d)(hb:a.tmps.getD d undef= .bool b):yielded ops a.tmps j=some b:=by
 have:a.tmps[d]?=some (.bool b):=by
  rw[Array.getD_eq_getD_getElem?] at hb
  cases e:a.tmps[d]? with
  | none=>rw[e] at hb;simp[undef] at hb
  | some v=>rw[e] at hb;simp only[Option.getD_some] at hb;rw[hb]
 simp[yielded,hj,this]
theorem yield_undef{j d:Nat}(hj:(ops[j]?).bind (·.dst)=some d)(hb:a.tmps.getD d undef=undef):yielded ops a.tmps j=none:=by
 have: ∀b,a.tmps[d]?≠some (.bool b):=by
  intro b e
  rw[Array.getD_eq_getD_getElem?,e] at hb
  simp[undef] at hb
 simp only[yielded,hj,Option.bind_some]
 try split
 all_goals simp_all
theorem S_bool_inv{n:Nat}{b:Bool}{v:Value}(h:S hd n w I (.bool b) v):v= .bool b:=by simpa only[S] using h
theorem opX_cases(h:SR G M I s hd Fp a w)(hk:opX P G C md ops o s K):
  (Region.wanted o (yielded ops a.tmps)=true∧ ∃s0,s0.next=s.next∧SR G M I s0 hd Fp a w∧opK P G C md o.op s0 fun v s'=>K (s'.put o.dst v))∨
  (Region.wanted o (yielded ops a.tmps)=false∧ ∃s0,s0.next=s.next∧SR G M I s0 hd Fp (a.put o.dst undef) w∧K s0):=by
 have hu: ∀{s0:St},SR G M I s0 hd Fp a w→SR G M I (s0.put o.dst (.con undef)) hd Fp (a.put o.dst undef) w:=fun h0=>h0.put o.dst (by simp only[S])
 unfold opX at hk
 split at hk
 ·rename_i hg
  exact .inl ⟨by simp[Region.wanted,hg],s,rfl,h,hk⟩
 ·rename_i j want hg
  split at hk
  ·exact hk.elim
  ·rename_i d hd'
   split at hk
   ·rename_i b e
    have hb:=h.slots d
    rw[e] at hb
    have hb:=S_bool_inv hb
    have hy:=yield_bool hd' hb
    by_cases hbw:b=want
    ·subst hbw
     exact .inl ⟨by simp[Region.wanted,hg,hy],s.put (some d) (.bool b),rfl,h.know hb,hk.1 rfl⟩
    ·have hbn:b=!want:=by cases b<;>cases want<;>simp_all
     exact .inr ⟨by simp[Region.wanted,hg,hy,hbw],(s.put (some d) (.bool !want)).put o.dst (.con undef),rfl,hu (h.know (hbn▸hb)),hk.2 hbn⟩
   ·rename_i arr e
    obtain⟨rfl,hk⟩:=hk
    have hb:=h.slots d
    rw[e] at hb
    simp only[S] at hb
    have hy:=yield_undef hd' hb
    exact .inr ⟨by simp[Region.wanted,hg,hy],s.put o.dst (.con undef),rfl,hu h,hk⟩
   ·exact hk.elim
theorem opX_sound(h:SR G M I s hd Fp a w)(hC:Sound P G C){i:Nat}(hi:ops[i]?=some o)(hk:opX P G C md ops o s K):
  wpOp P ops Q i (fun a' w'=>Post G M I s.next hd w K a' w'∧(keepOp md o.op=true→SameB w w')) a w:=by
 unfold wpOp
 simp only[hi]
 rcases opX_cases h hk with ⟨hw,s0,hn,h0,hk0⟩ | ⟨hw,s0,hn,h0,hk0⟩
 ·rw[if_pos hw]
  left
  have key: ∀{a' w'},StepQ G M I s0 hd w o.dst (fun v s'=>K (s'.put o.dst v)) a' w'→Post G M I s.next hd w K a' w':=by
   rintro a' w' ⟨av,s',I',hd',Fp',h1,h2,h3,h4⟩
   rw[hn] at h3 h4
   refine⟨_,I',hd',Fp',h1,h2,h3,h4⟩
  by_cases hkp:keepOp md o.op=true
  ·exact Oper.wp_mono (fun a' w' hh=>⟨key hh.1,fun _=>hh.2⟩) (opK_keeps h0 hC hkp hk0)
  ·exact Oper.wp_mono (fun a' w' hh=>⟨key hh,fun e=>absurd e hkp⟩) (opK_sound h0 hC hk0)
 ·rw[if_neg (by rw[hw];simp)]
  exact⟨⟨s0,I,hd,Fp,hk0,h0,Ext.refl _ _ _ _ _,by omega⟩,fun _=> .refl w⟩
theorem opX_quiet(h:SR G M I s hd Fp a w)(hq:quietOp o.op=true)(hk:opX P G C md ops o s K):
  ∃v s',YieldsIf P ops (fun w'=>isLoad o.op=true→SameB w w') o v a∧K s'∧SR G M I s' hd Fp (a.put o.dst v) w∧s'.next=s.next:=by
 rcases opX_cases h hk with ⟨hw,s0,hn,h0,hk0⟩ | ⟨hw,s0,hn,h0,hk0⟩
 ·obtain⟨v,av,h1,h2,h3⟩:=opK_quiet h0 hq hk0
  refine⟨v,s0.put o.dst av,.inl ⟨hw,h1⟩,h2,h0.put o.dst h3,?_⟩
  simpa [St.put] using hn
 ·exact⟨undef,s0,.inr ⟨hw,rfl⟩,hk0,h0,hn⟩
def wpAnyR(P:Program)(md:FuncId→Bool)(ops:Array Oper)(Q:Exit→Act→World→Prop):Nat→Array Bool→Act→World→Prop
 | 0,listed,a,w=>Region.ready .any ops listed=[]∧Q .normal a w
 | fuel+1,listed,a,w=>
  (Region.ready .any ops listed=[]→Q .normal a w)∧
  ∀i∈Region.ready .any ops listed,wpOp P ops Q i (fun a' w'=>(∀o,ops[i]?=some o→keepOp md o.op=true→SameB w w')∧wpAnyR P md ops Q fuel (listed.setIfInBounds i true) a' w') a w
theorem wpAny_of_R: ∀(fuel:Nat) (listed:Array Bool) (a:Act) (w:World),wpAnyR P md ops Q fuel listed a w→wpAny P .any ops Q fuel listed a w
 | 0,_,_,_,h=>h
 | fuel+1,_,_,_,h=>⟨h.1,fun i hi=>wpOp_mono (fun a' w' h'=>wpAny_of_R fuel _ a' w' h'.2) (h.2 i hi)⟩
theorem listed_no{listed:Array Bool}{i:Nat}(h0:listed.getD i true=false)(h1:listed.getD i false=true):False:=by
 rcases Nat.lt_or_ge i listed.size with h' | h'
 ·simp[h'] at h0 h1;rw[h0] at h1;cases h1
 ·simp[Array.getElem?_eq_none h'] at h1
theorem wpAnyR_first{i:Nat}{oi:Oper}{v:Value}{S:World→Prop}(W:List Nat)(hi:ops[i]?=some oi)(hsel: ∀(j:Nat) (o:Oper) cs b,ops[j]?=some o→o.op≠ .select cs b)
  (hQ: ∀c a w,¬Q (.panic c) a w) (hW: ∀j∈W,awaits ops i W j=true):
  ∀(fuel:Nat) (listed:Array Bool) (a:Act) (w:World),(∀j∈W,listed.getD j true=false)→
   (∀j oj,ops[j]?=some oj→j≠i→listed.getD j true=false→j∉W→oi.apart ops oj=true∧ ∀w w',S w→(keepOp md oj.op=true→SameB w w')→S w')→
   i∈Region.ready .any ops listed→YieldsIf P ops S oi v a→S w→
   wpAnyR P md ops Q fuel (listed.setIfInBounds i true) (a.put oi.dst v) w→wpAnyR P md ops Q (fuel+1) listed a w:=by
 intro fuel
 induction fuel with
 | zero=>
  intro listed a w _ _ hr hy hS H
  refine⟨fun h=>(by rw[h] at hr;cases hr),fun j hj=>?_⟩
  by_cases hji:j=i
  ·subst hji;exact hy.wpOp hi hS ⟨fun _ _ _=> .refl w,H⟩
  ·have:=ready_mono hj hji
   rw[H.1] at this
   cases this
 | succ fuel ih=>
  intro listed a w hWl hfree hr hy hS H
  refine⟨fun h=>(by rw[h] at hr;cases hr),fun j hj=>?_⟩
  by_cases hji:j=i
  ·subst hji;exact hy.wpOp hi hS ⟨fun _ _ _=> .refl w,H⟩
  ·have h1:=H.2 j (ready_mono hj hji)
   obtain⟨hjun,oj,hoj,hall⟩:=mem_ready.1 hj
   have hjW:j∉W:=by
    intro hm
    have:=hW j hm
    simp only[awaits,hoj] at this
    obtain⟨e,he,hb⟩:=Array.any_eq_true'.1 this
    simp only[Bool.and_eq_true,Bool.or_eq_true,beq_iff_eq,List.contains_eq_mem,decide_eq_true_eq] at hb
    have hl:=hall e he hb.1
    rcases hb.2 with hb2 | hb2
    ·rw[hb2] at hl;exact listed_no (mem_ready.1 hr).1 hl
    ·exact listed_no (hWl _ hb2) hl
   obtain⟨hap,hkeep⟩:=hfree j oj hoj hji hjun hjW
   have h2:=wpOp_putIf hoj hap (fun cs b=>hsel i oi cs b hi) (fun cs b=>hsel j oj cs b hoj) (fun c a w hq=>(hQ c _ _ hq).elim) hy h1
   have hun': ∀{k:Nat},(listed.setIfInBounds j true).getD k true=false→listed.getD k true=false:=fun{k} hun=>by
    by_cases hjk:j=k
    ·subst hjk;exact hjun
    ·rw[getD_set_ne true hjk] at hun;exact hun
   refine wpOp_mono (fun a' w' h3=>⟨fun o ho hk=>h3.2.1 o ho hk,ih (listed.setIfInBounds j true) a' w' ?_ (fun k ok hk hki hun hno=>hfree k ok hk hki (hun' hun) hno) (ready_mono hr (Ne.symm hji)) h3.1 (hkeep w w' hS (fun e=>h3.2.1 oj hoj e)) ?_⟩) h2
   ·intro k hk
    have hne:j≠k:=by rintro rfl;exact hjW hk
    rw[getD_set_ne true hne];exact hWl k hk
   ·rw[Array.setIfInBounds_comm _ _ hji]
    exact h3.2.2
theorem Plan.join_run: ∀{ps:List Plan} {p:Plan},p∈ps→ ∀{s:St} {K:St→Prop},runPlan P G C md ops (Plan.join ps) s K→runPlan P G C md ops p s K
 | [],p,h,_,_,_=>by cases h
 | [q],p,h,s,K,hr=>by
  simp only[List.mem_singleton] at h;subst h
  simpa only[Plan.join] using hr
 | q::q2::ps,p,h,s,K,hr=>by
  simp only[Plan.join,runPlan] at hr
  rcases List.mem_cons.1 h with rfl | h
  ·exact hr.1
  ·exact Plan.join_run h hr.2
theorem plan_any(hC:Sound P G C){n:Nat}{hd0:Nat→Value}{w0:World}{I0:Nat→Prop}(hQ: ∀c a w,¬Q (.panic c) a w)(hK: ∀a' w',Post G M I0 n hd0 w0 K a' w'→Q .normal a' w'):
  ∀(fuel:Nat) (listed:Array Bool) (s:St) (I:Nat→Prop) (hd:Nat→Value) (Fp:Nat→List Nat) (a:Act) (w:World),SR G M I s hd Fp a w→Ext M I0 I n hd0 hd w0 w→n≤s.next→
   runPlan P G C md ops (mkPlan md ops fuel listed) s K→wpAnyR P md ops Q fuel listed a w:=by
 intro fuel
 induction fuel with
 | zero=>
  intro listed s I hd Fp a w h hE hn hp
  simp only[mkPlan] at hp
  split at hp
  ·rename_i he
   exact⟨List.isEmpty_iff.1 he,hK _ _ ⟨s,I,hd,Fp,hp,h,hE,hn⟩⟩
  ·exact hp.elim
 | succ fuel ih=>
  intro listed s I hd Fp a w h hE hn hp
  simp only[mkPlan] at hp
  split at hp
  ·rename_i i hfind
   have hmem:=List.mem_of_find?_eq_some hfind
   have hfree:=List.find?_some hfind
   simp only[freeOk] at hfree
   split at hfree
   ·cases hfree
   ·rename_i oi hoi
    simp only[Bool.and_eq_true] at hfree
    obtain⟨⟨⟨hq,hns⟩,hWs⟩,hall⟩:=hfree
    simp only[runPlan,hoi] at hp
    obtain⟨v,s',hy,hK',h',hn'⟩:=opX_quiet h hq hp
    have hWs': ∀j∈waitSet ops listed i,listed.getD j true=false∧awaits ops i (waitSet ops listed i) j=true:=fun j hj=>by
     have:=List.all_eq_true.1 hWs j hj
     simpa only[Bool.and_eq_true,Bool.not_eq_true'] using this
    refine wpAnyR_first (S:=fun w'=>isLoad oi.op=true→SameB w w') (waitSet ops listed i) hoi (Region.noSelect_spec hns) hQ (fun j hj=>(hWs' j hj).2) fuel listed a w (fun j hj=>(hWs' j hj).1) ?_ hmem hy (fun _=> .refl w)
     (ih _ s' I hd Fp _ w h' hE (by omega) hK')
    intro j oj hoj hji hun hnW
    have:=List.all_eq_true.1 hall j (List.mem_range.2 (Array.getElem?_eq_some_iff.1 hoj).1)
    simp only[hoj,hun,Bool.or_eq_true,beq_iff_eq,List.contains_eq_mem,decide_eq_true_eq,Bool.and_eq_true,Bool.not_eq_true'] at this
    rcases this with ((h1 | h1) | h1) | ⟨h1,h2⟩
    ·exact absurd h1 hji
    ·cases h1
    ·exact absurd h1 hnW
    ·refine⟨h1,fun w1 w2 hS hk hl=>?_⟩
     rcases h2 with h2 | h2
     ·rw[hl] at h2;cases h2
     ·exact(hS hl).trans (hk h2)
  ·rename_i hfind
   refine⟨fun hr=>?_,fun i hi=>?_⟩
   ·rw[hr] at hp
    simp only[List.map_nil,Plan.join,runPlan] at hp
    exact hK _ _ ⟨s,I,hd,Fp,hp,h,hE,hn⟩
   ·have hp':=Plan.join_run (List.mem_map_of_mem (f:=fun i=>Plan.op i (mkPlan md ops fuel (listed.setIfInBounds i true))) hi) hp
    simp only[runPlan] at hp'
    split at hp'
    ·rename_i o ho
     refine wpOp_mono (fun a' w' hh=>?_) (opX_sound (Q:=Q) h hC ho hp')
     obtain⟨⟨s',I',hd',Fp',g1,g2,g3,g4⟩,hkp⟩:=hh
     refine⟨fun o' ho' hk=>hkp (by rw[ho] at ho';cases ho';exact hk),ih _ s' I' hd' Fp' a' w' g2 (hE.trans (g3.less hn)) (Nat.le_trans hn g4) g1⟩
    ·exact hp'.elim
theorem plan_text(hC:Sound P G C){n:Nat}{hd0:Nat→Value}{w0:World}{I0:Nat→Prop}(hK: ∀a' w',Post G M I0 n hd0 w0 K a' w'→Q .normal a' w'):
  ∀(l:List Nat) (s:St) (I:Nat→Prop) (hd:Nat→Value) (Fp:Nat→List Nat) (a:Act) (w:World),SR G M I s hd Fp a w→Ext M I0 I n hd0 hd w0 w→n≤s.next→
   runPlan P G C md ops (Plan.text l) s K→wpOps P ops Q l a w:=by
 intro l
 induction l with
 | nil=>intro s I hd Fp a w h hE hn hp;exact hK _ _ ⟨s,I,hd,Fp,hp,h,hE,hn⟩
 | cons i l ih=>
  intro s I hd Fp a w h hE hn hp
  rw[wpOps_cons]
  simp only[Plan.text,runPlan] at hp
  split at hp
  ·rename_i o ho
   refine wpOp_mono (fun a' w' hh=>?_) (opX_sound (Q:=Q) h hC ho hp)
   obtain⟨⟨s',I',hd',Fp',g1,g2,g3,g4⟩,_⟩:=hh
   exact ih s' I' hd' Fp' a' w' g2 (hE.trans (g3.less hn)) (Nat.le_trans hn g4) g1
  ·exact hp.elim
theorem SR.drew{w1:World}(h:SR G M I s hd Fp a w)(hh:w1.heap=w.heap):SR G M I s hd Fp a w1:=
 h.move (h.heap.grown (by rw[hh];exact Nat.le_refl _) (fun b _=>by rw[hh])) (h.heap.fr (by rw[hh];exact Nat.le_refl _) (fun b _=>by rw[hh]))
end
end Go.Proofs.YthggfnefjbckeaaGreatDoor.X
set_option linter.unusedVariables false
set_option linter.unusedSimpArgs false
namespace Go.Proofs.YthggfnefjbckeaaGreatDoor.X
open Go
inductive XE where
 | normal
 | exit (id:Nat)
 | ret
def thenX(K:St→Prop)(Q:XE→St→Prop):XE→St→Prop
 | .normal,s=>K s
 | e,s=>Q e s
def inBlockX(id:Nat)(Q:XE→St→Prop):XE→St→Prop
 | .exit i,s=>if i=id then Q .normal s else Q (.exit i) s
 | e,s=>Q e s
def know(s:St)(c:Operand)(b:Bool):St:=
 match c with
 | .tmp d=>s.put (some d) (.bool b)
 | _=>s
def X(P:Program)(G:Glo)(C:CT)(md:FuncId→Bool)(B:Nat):Code→St→(XE→St→Prop)→Prop
 | .skip,s,Q=>Q .normal s
 | .label _,s,Q=>Q .normal s
 | .region _ ops draw,s,Q=>runPlan P G C md ops (planOf md ops draw) s (Q .normal)
 | .seq x y,s,Q=>X P G C md B x s (thenX (fun s'=>X P G C md B y s' Q) Q)
 | .cond c x y,s,Q=>match ev G s c with
  | .bool b=>(b=true→X P G C md B x (know s c true) Q)∧(b=false→X P G C md B y (know s c false) Q)
  | _=>False
 | .block id c,s,Q=>X P G C md B c s (inBlockX id Q)
 | .loop c,s,Q=> ∀J:St→Prop,(∀s,(∃acts ρ nx,rhoOk B ρ (objIds acts) nx=true∧X P G C md B c (canon B acts ρ nx s) (thenX J Q))→J s)→J s
 | .exit id,s,Q=>Q (.exit id) s
 | .ret,s,Q=>Q .ret s
 | _,_,_=>False
def resK(P:Program)(s:St):List ResultVar→(List AV→Prop)→Prop
 | [],K=>K []
 | .tmp t::r,K=>resK P s r fun vs=>K (s.tmps.getD t .any::vs)
 | .cell a t::r,K=>loadK P s.heap t (s.tmps.getD a .any) fun v=>resK P s r fun vs=>K (v::vs)
def oneOr(K:AV→Prop):List AV→Prop
 | [x]=>K x
 | xs=>K (.tup xs)
def bodyQ(P:Program)(rs:List ResultVar)(K:AV→Heap→Nat→Prop):XE→St→Prop
 | .exit _,_=>False
 | _,s=>resK P s rs (oneOr fun v=>K v s.heap s.next)
def BodyX(P:Program)(G:Glo)(C:CT)(md:FuncId→Bool)(f:FuncId)(args:List AV)(h:Heap)(n:Nat)(K:AV→Heap→Nat→Prop):Prop:=
 ∃fn c,P.funcs[f]?=some fn∧fn.body=some c∧fn.name≠ "runtime.NumGoroutine" ∧X P G C md n c ⟨args++List.replicate (fn.ntmps-args.length) (.con undef),h,n⟩ (bodyQ P fn.results.toList K)
def Closed(P:Program)(G:Glo)(md:FuncId→Bool)(C:CT):Prop:= ∀f args h n K,BodyX P G C md f args h n K→C f args h n K
def codeQ(G:Glo)(M I:Nat→Prop)(n:Nat)(hd:Nat→Value)(w:World)(Q:XE→St→Prop):Exit→Act→World→Prop
 | .normal,a,w'=>Post G M I n hd w (Q .normal) a w'
 | .exit id,a,w'=>Post G M I n hd w (Q (.exit id)) a w'
 | .ret,a,w'=>Post G M I n hd w (Q .ret) a w'
 | _,_,_=>False
section
variable{P:Program}{G:Glo}{C:CT}{md:FuncId→Bool}{M I I0:Nat→Prop}{s:St}{hd hd0:Nat→Value}{Fp:Nat→List Nat}{a:Act}{w w0:World}{n0:Nat}
def loopWp(P:Program)(c:Code)(Q:Exit→Act→World→Prop)(a:Act)(w:World):Prop:=
 ∀(b:Frame) (k:List Item) (cs:List Frame),∃e a' w',Q e a' w'∧Arrives P (lone (b.at a (.code c:: .inLoop c::k)) cs w) b k cs e a' w'
theorem loopWp_unroll{c:Code}{Q:Exit→Act→World→Prop}(h:c.wp P (Exit.then (loopWp P c Q) Q) a w):loopWp P c Q a w:=by
 intro b k cs
 obtain⟨e,a₁,w₁,hq,harr⟩:=h b (.inLoop c::k) cs
 cases e with
 | normal=>
  obtain⟨e₂,a₂,w₂,hq₂,harr₂⟩:=hq b k cs
  exact⟨e₂,a₂,w₂,hq₂,.of_steps (Steps.trans harr (.one step_inLoop)) harr₂⟩
 | exit id=>exact⟨_,a₁,w₁,hq,.pass (x:= .inLoop c) rfl (fun _ _=> .inl (by simp)) harr⟩
 | goto l=>exact⟨_,a₁,w₁,hq,.pass (x:= .inLoop c) rfl (fun _ _=> .inl (by simp)) harr⟩
 | ret=>exact⟨_,a₁,w₁,hq,.pass (x:= .inLoop c) rfl (fun _ _=> .inl (by simp)) harr⟩
 | panic ch=>exact⟨_,a₁,w₁,hq,.pass (x:= .inLoop c) rfl (fun _ _=> .inl (by simp)) harr⟩
 | outgrown=>exact⟨_,a₁,w₁,hq,.pass (x:= .inLoop c) rfl (fun _ _=> .inl (by simp)) harr⟩
theorem loopWp_wp{c:Code}{Q:Exit→Act→World→Prop}(h:loopWp P c Q a w):(Code.loop c).wp P Q a w:=by
 intro b k cs
 obtain⟨e,a',w',hq,harr⟩:=h b k cs
 exact⟨e,a',w',hq,.of_steps (.one step_loop) harr⟩
theorem know_SR(h:SR G M I s hd Fp a w){c:Operand}{b:Bool}(hb:a.eval c= .bool b):SR G M I (know s c b) hd Fp a w:=by
 cases c with
 | tmp d=>exact h.know hb
 | _=>exact h
theorem know_next(s:St)(c:Operand)(b:Bool):(know s c b).next=s.next:=by cases c<;>rfl
theorem X_sound(hm:P.follows .mixedOrders=true)(hC:Sound P G C): ∀(c:Code) (s:St) (Q:XE→St→Prop) (I:Nat→Prop) (hd:Nat→Value) (Fp:Nat→List Nat) (a:Act) (w:World),SR G M I s hd Fp a w→Ext M I0 I n0 hd0 hd w0 w→n0≤s.next→
  X P G C md n0 c s Q→c.wp P (codeQ G M I0 n0 hd0 w0 Q) a w:=by
 intro c
 induction c with
 | skip=>intro s Q I hd Fp a w h hE hn hx;exact wp_skip ⟨s,I,hd,Fp,hx,h,hE,hn⟩
 | label l=>intro s Q I hd Fp a w h hE hn hx;exact wp_label ⟨s,I,hd,Fp,hx,h,hE,hn⟩
 | exit id=>intro s Q I hd Fp a w h hE hn hx;exact wp_exit ⟨s,I,hd,Fp,hx,h,hE,hn⟩
 | ret=>intro s Q I hd Fp a w h hE hn hx;exact wp_ret ⟨s,I,hd,Fp,hx,h,hE,hn⟩
 | region id ops draw=>
  intro s Q I hd Fp a w h hE hn hx
  simp only[X,planOf] at hx
  cases draw with
  | false=>
   simp only[Bool.false_eq_true,if_false] at hx
   exact wp_region (plan_text (K:=Q .normal) hC (fun _ _ h=>h) _ s I hd Fp a w h hE hn hx)
  | true=>
   simp only[if_true] at hx
   have hE':Ext M I0 I n0 hd0 hd w0 {w with drawn:=w.drawn+1}:=
    hE.trans ⟨⟨rfl,rfl,rfl,Nat.le_refl _,fun _ _ _=>rfl⟩,fun b hb=>⟨hb,rfl⟩,fun _ _=>rfl,fun _ h=> .inl h⟩
   refine wp_region_any hm (wpAny_of_R (md:=md) _ _ _ _ ?_)
   exact plan_any (K:=Q .normal) hC (fun _ _ _ h=>h) (fun _ _ h=>h) _ _ s I hd Fp a _ (h.drew rfl) hE' hn hx
 | seq x y ihx ihy=>
  intro s Q I hd Fp a w h hE hn hx
  simp only[X] at hx
  refine wp_seq (wp_mono (ihx s _ I hd Fp a w h hE hn hx) ?_)
  intro e a' w' hq
  cases e with
  | normal=>
   obtain⟨s',I',hd',Fp',h1,h2,h3,h4⟩:=hq
   exact ihy s' Q I' hd' Fp' a' w' h2 h3 h4 h1
  | exit id=>exact hq
  | ret=>exact hq
  | goto l=>exact hq
  | panic ch=>exact hq
  | outgrown=>exact hq
 | cond c x y ihx ihy=>
  intro s Q I hd Fp a w h hE hn hx
  simp only[X] at hx
  have hc:=ev_sound h c
  split at hx
  ·rename_i b e
   rw[e] at hc
   have hb:=S_bool_inv hc
   refine wp_cond hb ?_
   cases b with
   | true=>exact ihx _ Q I hd Fp a w (know_SR h hb) hE (by rw[know_next];exact hn) (hx.1 rfl)
   | false=>exact ihy _ Q I hd Fp a w (know_SR h hb) hE (by rw[know_next];exact hn) (hx.2 rfl)
  ·exact hx.elim
 | block id c ih=>
  intro s Q I hd Fp a w h hE hn hx
  simp only[X] at hx
  refine wp_block (wp_mono (ih s _ I hd Fp a w h hE hn hx) ?_)
  intro e a' w' hq
  cases e with
  | normal=>exact hq
  | exit i=>
   obtain⟨s',I',hd',Fp',h1,h2⟩:=hq
   simp only[inBlockX] at h1
   simp only[Exit.inBlock]
   split at h1
   ·rename_i hi;rw[if_pos hi];exact⟨s',I',hd',Fp',h1,h2⟩
   ·rename_i hi;rw[if_neg hi];exact⟨s',I',hd',Fp',h1,h2⟩
  | ret=>exact hq
  | goto l=>exact hq
  | panic ch=>exact hq
  | outgrown=>exact hq
 | loop c ih=>
  intro s Q I hd Fp a w h hE hn hx
  simp only[X] at hx
  refine loopWp_wp (hx (fun s=> ∀(I:Nat→Prop) (hd:Nat→Value) (Fp:Nat→List Nat) (a:Act) (w:World),SR G M I s hd Fp a w→Ext M I0 I n0 hd0 hd w0 w→n0≤s.next→loopWp P c (codeQ G M I0 n0 hd0 w0 Q) a w) ?_ I hd Fp a w h hE hn)
  rintro s ⟨acts,ρ,nx,hok,hx⟩ I hd Fp a w h hE hn
  obtain⟨hd',Fp',h',hB⟩:=h.canon hok
  have hE':Ext M I0 I n0 hd0 hd' w0 w:=⟨hE.keep,hE.im,fun id hid=>(hB id hid).trans (hE.hds id hid),hE.old⟩
  refine loopWp_unroll (wp_mono (ih _ _ I hd' Fp' a w h' hE' (rho_spec hok).1 hx) ?_)
  intro e a' w' hq
  cases e with
  | normal=>
   obtain⟨s',I',hd',Fp',h1,h2,h3,h4⟩:=hq
   exact h1 I' hd' Fp' a' w' h2 h3 h4
  | exit id=>exact hq
  | ret=>exact hq
  | goto l=>exact hq
  | panic ch=>exact hq
  | outgrown=>exact hq
 | _=>intro s Q I hd Fp a w h hE hn hx;simp only[X] at hx
def resF(tmps:Array Value):ResultVar→Sem Value
 | .tmp t=>pure (tmps.getD t undef)
 | .cell x t=>do loadVar t (←asAddr (tmps.getD x undef))
theorem run_resF_tmp{tmps:Array Value}{t:Tmp}:(resF tmps (.tmp t)).run P w= .ok (tmps.getD t undef) w:=rfl
theorem run_resF_cell{tmps:Array Value}{x t:Nat}{v:Value}(h1:(Instr.loadAt t (tmps.getD x undef)).run P w= .ok v w):(resF tmps (.cell x t)).run P w= .ok v w:=by
 show(do loadVar t (←asAddr (tmps.getD x undef)):Sem Value).run P w=_
 generalize tmps.getD x undef=u at h1⊢
 unfold Instr.loadAt at h1
 cases u with
 | pointer p=>cases p with
  | some ad=>simpa [Instr.sureAddr,asAddr] using h1
  | none=>simp[Instr.sureAddr,stuck] at h1
 | _=>simp[Instr.sureAddr,stuck] at h1
theorem run_mapM_cons{α:Type}{f:α→Sem Value}{x:α}{xs:List α}{v:Value}{vs:List Value}(h1:(f x).run P w= .ok v w)(h2:(xs.mapM f).run P w= .ok vs w):((x::xs).mapM f).run P w= .ok (v::vs) w:=by
 rw[List.mapM_cons]
 simp[h1,h2]
theorem resK_sound(h:SR G M I s hd Fp a w): ∀(rs:List ResultVar) (K:List AV→Prop),resK P s rs K→ ∃vs avs,(rs.mapM (resF a.tmps)).run P w= .ok vs w∧K avs∧SV hd s.next w I avs vs
 | [],K,hk=>⟨[],[],by simp,hk,by simp[SV]⟩
 | .tmp t::r,K,hk=>by
  obtain⟨vs,avs,h1,h2,h3⟩:=resK_sound h r _ hk
  refine⟨a.tmps.getD t undef::vs,_,run_mapM_cons run_resF_tmp h1,h2,?_⟩
  simp only[SV];exact⟨_,_,rfl,h.slots t,h3⟩
 | .cell x t::r,K,hk=>by
  simp only[resK] at hk
  obtain⟨v,av,h1,h2,h3⟩:=loadK_sound h hk (h.slots x)
  obtain⟨vs,avs,g1,g2,g3⟩:=resK_sound h r _ h2
  refine⟨v::vs,_,run_mapM_cons (run_resF_cell (h1 w (.refl w))) g1,g2,?_⟩
  simp only[SV];exact⟨_,_,rfl,h3,g3⟩
theorem SV_single{n:Nat}{av:AV}{vs:List Value}(h:SV hd n w I [av] vs): ∃v,vs=[v]∧S hd n w I av v:=by
 simp only[SV] at h
 obtain⟨v,vs',rfl,h1,rfl⟩:=h
 exact⟨v,rfl,h1⟩
theorem SV_length{n:Nat}: ∀{avs:List AV} {vs:List Value},SV hd n w I avs vs→vs.length=avs.length
 | [],vs,h=>by simp only[SV] at h;rw[h];rfl
 | _::_,vs,h=>by
  simp only[SV] at h
  obtain⟨v,vs',rfl,_,h2⟩:=h
  simp[SV_length h2]
theorem results_sound(h:SR G M I s hd Fp a w){fn:Func}{K:AV→Prop}(hk:resK P s fn.results.toList (oneOr K)): ∃v av,(results fn a.tmps).run P w= .ok v w∧K av∧S hd s.next w I av v:=by
 obtain⟨vs,avs,h1,h2,h3⟩:=resK_sound h _ _ hk
 have hr:(results fn a.tmps).run P w= .ok (if h:vs.toArray.size=1 then vs.toArray[0] else .tuple vs.toArray) w:=by
  have e:results fn a.tmps=(do let vs←fn.results.mapM (resF a.tmps);pure (if h:vs.size=1 then vs[0] else .tuple vs)):=rfl
  rw[e,Array.mapM_eq_mapM_toList]
  simp only[Sem.run_bind,Sem.run_map,h1]
  rfl
 match avs,h3,h2 with
 | [x],h3,h2=>
  obtain⟨v,rfl,hv⟩:=SV_single h3
  exact⟨v,x,by rw[hr];rfl,h2,hv⟩
 | [],h3,h2=>
  simp only[SV] at h3
  subst h3
  exact⟨.tuple #[],.tup [],by rw[hr];rfl,h2,by simp[S,SV]⟩
 | x::y::r,h3,h2=>
  have hl:=SV_length h3
  refine⟨.tuple vs.toArray,.tup (x::y::r),?_,h2,?_⟩
  ·rw[hr,dif_neg (by simp[hl])]
  ·simp only[S];exact⟨_,rfl,h3⟩
def CS(P:Program)(G:Glo):CT:=fun f args h n K=>Enters P f∧ ∀(M I:Nat→Prop) (hd:Nat→Value) (Fp:Nat→List Nat) (w:World) (vals:List Value),HR G M I h n hd Fp w→SV hd n w I args vals→
  Calls P f vals.toArray w fun e w'=> ∃v av h' n' I' hd' Fp',e= .returned v∧K av h' n'∧HR G M I' h' n' hd' Fp' w'∧S hd' n' w' I' av v∧Ext M I I' n hd hd' w w'∧n≤n'
theorem CS_sound:Sound P G (CS P G):=fun f args h n K hc=>hc
theorem SV_getD{n:Nat}: ∀{avs:List AV} {vs:List Value},SV hd n w I avs vs→ ∀t,S hd n w I (avs.getD t .any) (vs.getD t undef)
 | [],vs,h,t=>by simp only[SV] at h;subst h;simp[S]
 | x::xs,vs,h,t=>by
  simp only[SV] at h
  obtain⟨v,vs',rfl,h1,h2⟩:=h
  cases t with
  | zero=>exact h1
  | succ t=>simpa using SV_getD h2 t
theorem CS_closed(hm:P.follows .mixedOrders=true):Closed P G md (CS P G):=by
 rintro f args h n K ⟨fn,c,hf,hb,hne,hx⟩
 refine⟨⟨fn,hf,by rw[hb];simp,hne⟩,?_⟩
 intro M I hd Fp w vals hr hargs
 refine calls_of_wp hf hb ?_
 have hl:=SV_length hargs
 have hsr:SR G M I ⟨args++List.replicate (fn.ntmps-args.length) (.con undef),h,n⟩ hd Fp ⟨vals.toArray++Array.replicate (fn.ntmps-vals.toArray.size) undef,[]⟩ w:=by
  refine⟨hr,by simp[hl],fun t=>?_,rfl⟩
  have e:(vals.toArray++Array.replicate (fn.ntmps-vals.toArray.size) undef).getD t undef=(vals++List.replicate (fn.ntmps-vals.length) undef).getD t undef:=by
   rw[Array.getD_eq_getD_getElem?,List.getD_eq_getElem?_getD,←Array.getElem?_toList]
   simp
  rw[e]
  have hrep: ∀k,SV hd n w I (List.replicate k (.con undef)) (List.replicate k undef):=by
   intro k
   induction k with
   | zero=>simp[SV]
   | succ k ih=>simp only[List.replicate_succ,SV];exact⟨_,_,rfl,by simp[S],ih⟩
  rw[hl]
  exact SV_getD (hargs.append (hrep _)) t
 refine wp_mono (X_sound (I0:=I) (hd0:=hd) (w0:=w) hm CS_sound c _ _ I hd Fp _ w hsr (Ext.refl _ _ _ _ _) (Nat.le_refl _) hx) ?_
 have fin: ∀(e:XE) a' w',(∀id,e≠ .exit id)→Post G M I n hd w (bodyQ P fn.results.toList K e) a' w'→a'.defers=[]∧ ∃v,(results fn a'.tmps).run P w'= .ok v w'∧ ∃v' av h' n' I' hd' Fp',Ending.returned v= .returned v'∧K av h' n'∧HR G M I' h' n' hd' Fp' w'∧S hd' n' w' I' av v'∧Ext M I I' n hd hd' w w'∧n≤n':=by
  rintro e a' w' hne ⟨s',I',hd',Fp',h1,h2,h3,h4⟩
  have hk:resK P s' fn.results.toList (oneOr fun v=>K v s'.heap s'.next):=by
   cases e with
   | normal=>exact h1
   | ret=>exact h1
   | exit id=>exact absurd rfl (hne id)
  obtain⟨v,av,g1,g2,g3⟩:=results_sound h2 hk
  exact⟨h2.defers,v,g1,v,av,s'.heap,s'.next,I',hd',Fp',rfl,g2,h2.heap,g3,h3,h4⟩
 intro e a' w' hq
 cases e with
 | normal=>exact fin .normal a' w' (by simp) hq
 | ret=>exact fin .ret a' w' (by simp) hq
 | exit id=>
  obtain⟨s',I',hd',Fp',h1,_⟩:=hq
  exact h1.elim
 | goto l=>exact hq.elim
 | panic ch=>exact hq.elim
 | outgrown=>exact hq.elim
end
theorem eqs_thenX:True:=by
 have:= @thenX.eq_1
 trivial
theorem eqs_inBlockX:True:=by
 have:= @inBlockX.eq_1
 trivial
theorem eqs_resK:True:=by
 have:= @resK.eq_1
 trivial
theorem eqs_oneOr:True:=by
 have:= @oneOr.eq_1
 trivial
theorem eqs_bodyQ:True:=by
 have:= @bodyQ.eq_1
 trivial
end Go.Proofs.YthggfnefjbckeaaGreatDoor.X
set_option linter.unusedVariables false
set_option linter.unusedSimpArgs false
namespace Go.Proofs.YthggfnefjbckeaaGreatDoor.X
open Go
inductive XC where
 | done
 | op (dst:Option Nat) (o:Op) (g:Option (Nat×Bool)) (r:XC)
 | fork (p q r:XC)
 | cond (c:Operand) (a b r:XC)
 | block (id:Nat) (a r:XC)
 | loop (a:XC)
 | exit (id:Nat)
 | ret
 | fail
def guardG(s:St)(o:Op)(dst:Option Nat)(P:Program)(G:Glo)(C:CT)(md:FuncId→Bool)(K:St→Prop):Option (Nat×Bool)→Prop
 | none=>opK P G C md o s fun v s'=>K (s'.put dst v)
 | some (d,want)=>match s.tmps.getD d .any with
  | .bool b=>(b=want→opK P G C md o (s.put (some d) (.bool want)) fun v s'=>K (s'.put dst v))∧(b=!want→K ((s.put (some d) (.bool !want)).put dst (.con undef)))
  | .con (.tuple a)=>a= #[]∧K (s.put dst (.con undef))
  | _=>False
def R(P:Program)(G:Glo)(C:CT)(md:FuncId→Bool)(B:Nat):XC→St→(XE→St→Prop)→Prop
 | .done,s,Q=>Q .normal s
 | .op dst o g r,s,Q=>guardG s o dst P G C md (fun s'=>R P G C md B r s' Q) g
 | .fork p q r,s,Q=>R P G C md B p s (thenX (fun s'=>R P G C md B r s' Q) Q)∧R P G C md B q s (thenX (fun s'=>R P G C md B r s' Q) Q)
 | .cond c x y r,s,Q=>match ev G s c with
  | .bool b=>(b=true→R P G C md B x (know s c true) (thenX (fun s'=>R P G C md B r s' Q) Q))∧(b=false→R P G C md B y (know s c false) (thenX (fun s'=>R P G C md B r s' Q) Q))
  | _=>False
 | .block id c r,s,Q=>R P G C md B c s (inBlockX id (thenX (fun s'=>R P G C md B r s' Q) Q))
 | .loop c,s,Q=> ∀J:St→Prop,(∀s,(∃acts ρ nx,rhoOk B ρ (objIds acts) nx=true∧R P G C md B c (canon B acts ρ nx s) (thenX J Q))→J s)→J s
 | .exit id,s,Q=>Q (.exit id) s
 | .ret,s,Q=>Q .ret s
 | .fail,_,_=>False
def compPlan(ops:Array Oper):Plan→XC→XC
 | .done,r=>r
 | .fail,_=> .fail
 | .op i p,r=>match ops[i]? with
  | none=> .fail
  | some o=>match o.guard with
   | none=> .op o.dst o.op none (compPlan ops p r)
   | some (j,want)=>match (ops[j]?).bind (·.dst) with
    | none=> .fail
    | some d=> .op o.dst o.op (some (d,want)) (compPlan ops p r)
 | .both p q,r=> .fork (compPlan ops p .done) (compPlan ops q .done) r
def comp(md:FuncId→Bool):Code→XC→XC
 | .skip,r=>r
 | .label _,r=>r
 | .region _ ops draw,r=>compPlan ops (planOf md ops draw) r
 | .seq x y,r=>comp md x (comp md y r)
 | .cond c x y,r=> .cond c (comp md x .done) (comp md y .done) r
 | .block id c,r=> .block id (comp md c .done) r
 | .loop c,_=> .loop (comp md c .done)
 | .exit id,_=> .exit id
 | .ret,_=> .ret
 | _,_=> .fail
def compF(md:FuncId→Bool)(fn:Func):XC:=match fn.body with
 | some c=>comp md c .done
 | none=> .fail
section
variable{P:Program}{G:Glo}{C:CT}{md:FuncId→Bool}{B:Nat}{ops:Array Oper}
theorem thenX_thenX(K K':St→Prop)(Q:XE→St→Prop):thenX K (thenX K' Q)=thenX K Q:=by
 funext e;cases e<;>rfl
theorem guardG_opX{o:Oper}{s:St}{K:St→Prop}:opX P G C md ops o s K=(match o.guard with
  | none=>guardG s o.op o.dst P G C md K none
  | some (j,want)=>match (ops[j]?).bind (·.dst) with
   | none=>False
   | some d=>guardG s o.op o.dst P G C md K (some (d,want))):=by
 unfold opX
 cases o.guard with
 | none=>rfl
 | some g=>
  obtain⟨j,want⟩:=g
  simp only
  cases (ops[j]?).bind (·.dst)<;>rfl
theorem compPlan_run: ∀(p:Plan) (r:XC) (s:St) (Q:XE→St→Prop),R P G C md B (compPlan ops p r) s Q=runPlan P G C md ops p s (fun s'=>R P G C md B r s' Q)
 | .done,r,s,Q=>rfl
 | .fail,r,s,Q=>rfl
 | .op i p,r,s,Q=>by
  simp only[compPlan,runPlan]
  cases hi:ops[i]? with
  | none=>rfl
  | some o=>
   simp only
   rw[guardG_opX]
   cases hg:o.guard with
   | none=>
    simp only[R]
    congr 1
    funext s'
    exact compPlan_run p r s' Q
   | some g=>
    obtain⟨j,want⟩:=g
    simp only
    cases hd:(ops[j]?).bind (·.dst) with
    | none=>rfl
    | some d=>
     simp only[R]
     congr 1
     funext s'
     exact compPlan_run p r s' Q
 | .both p q,r,s,Q=>by
  simp only[compPlan,runPlan,R]
  rw[compPlan_run p,compPlan_run q]
  rfl
theorem comp_run: ∀(c:Code) (r:XC) (s:St) (Q:XE→St→Prop),R P G C md B (comp md c r) s Q=X P G C md B c s (thenX (fun s'=>R P G C md B r s' Q) Q):=by
 intro c
 induction c with
 | skip=>intros;rfl
 | label l=>intros;rfl
 | exit id=>intros;rfl
 | ret=>intros;rfl
 | region id ops draw=>intro r s Q;simp only[comp,X];exact compPlan_run _ r s Q
 | seq x y ihx ihy=>
  intro r s Q
  simp only[comp,X]
  rw[ihx,thenX_thenX]
  congr 2<;>(funext s';exact ihy r s' Q)
 | cond c x y ihx ihy=>
  intro r s Q
  have ex: ∀s,R P G C md B (comp md x .done) s (thenX (fun s'=>R P G C md B r s' Q) Q)=X P G C md B x s (thenX (fun s'=>R P G C md B r s' Q) Q):=by
   intro s
   rw[ihx]
   congr 1<;>(funext e;cases e<;>rfl)
  have ey: ∀s,R P G C md B (comp md y .done) s (thenX (fun s'=>R P G C md B r s' Q) Q)=X P G C md B y s (thenX (fun s'=>R P G C md B r s' Q) Q):=by
   intro s
   rw[ihy]
   congr 1<;>(funext e;cases e<;>rfl)
  simp only[comp,X,R,ex,ey]
  all_goals (cases ev G s c<;>rfl)
 | block id c ih=>
  intro r s Q
  simp only[comp,X,R]
  rw[ih]
  congr 1<;>(funext e;cases e<;>rfl)
 | loop c ih=>
  intro r s Q
  simp only[comp,X,R]
  apply propext
  refine forall_congr' fun J=>?_
  have e: ∀s,R P G C md B (comp md c .done) s (thenX J Q)=X P G C md B c s (thenX J (thenX (fun s'=>R P G C md B r s' Q) Q)):=by
   intro s
   rw[ih]
   congr 1<;>(funext e;cases e<;>rfl)
  simp only[e]
 | _=>intros;rfl
end
end Go.Proofs.YthggfnefjbckeaaGreatDoor.X
set_option linter.unusedVariables false
namespace Go.Proofs.YthggfnefjbckeaaGreatDoor.X
open Go
def RetTo(h:Heap)(v r:AV):Prop:= ∃r0 h2,conR 8 h v=some (r0,h2)∧NilTo r0 r
theorem Closed.run{P:Program}{G:Glo}{C:CT}{md:FuncId→Bool}(hC:Closed P G md C){f:FuncId}{fn:Func}{args:List AV}{h:Heap}{n:Nat}{K:AV→Heap→Nat→Prop}{x:XC}(hf:P.funcs[f]?=some fn)(hx:compF md fn=x)(hne:fn.name≠ "runtime.NumGoroutine")
  (hr:R P G C md n x ⟨args++List.replicate (fn.ntmps-args.length) (.con undef),h,n⟩ (bodyQ P fn.results.toList K)):C f args h n K:=by
 cases hb:fn.body with
 | none=>
  simp only[compF,hb] at hx
  subst hx
  exact hr.elim
 | some c=>
  simp only[compF,hb] at hx
  subst hx
  rw[comp_run] at hr
  refine hC f args h n K ⟨fn,c,hf,hb,hne,?_⟩
  have e:(thenX (fun s'=>R P G C md n .done s' (bodyQ P fn.results.toList K)) (bodyQ P fn.results.toList K))=bodyQ P fn.results.toList K:=by funext e;cases e<;>rfl
  rwa [e] at hr
theorem Ev.run{P:Program}{G:Glo}{C:CT}{md:FuncId→Bool}(hC:Closed P G md C){f:FuncId}{fn:Func}{ts:List AV}{r:AV}{x:XC}(hf:P.funcs[f]?=some fn)(hx:compF md fn=x)(hne:fn.name≠ "runtime.NumGoroutine")(ho:ownR r=true)
  (hr:R P G C md 0 x ⟨ts++List.replicate (fn.ntmps-ts.length) (.con undef),[],0⟩ (bodyQ P fn.results.toList fun v h _=>RetTo h v r)):Ev C f ts r:=
 ⟨_,hC.run hf hx hne hr,ho,fun v h n hk=>hk⟩
end Go.Proofs.YthggfnefjbckeaaGreatDoor.X
set_option linter.unusedVariables false
set_option linter.unusedSimpArgs false
namespace Go.Proofs.YthggfnefjbckeaaGreatDoor.X
open Go
mutual
def Has(P:Program):Nat→TypeId→List AV→Prop
 | 0,_,_=>False
 | k+1,t,xs=>match P.underlying t with
  | some .bool=> ∃b,xs=[.bool b]
  | some (.int kd)=> ∃n,xs=[.int kd n]∧(Lit.int kd n).wf=true
  | some .string=> ∃s,xs=[.str s]∧s.size≤reachBytes
  | some (.slice e)=> ∃es,xs=[.sl es]∧es.length≤maxLen∧es.length*P.bytesOf e≤reachBytes∧ ∀el∈es,el.length=P.cellsOf e∧Has P k e el
  | some (.struct fs)=>HasE P k (fs.toList.map (·.type)) xs
  | _=>False
def HasE(P:Program):Nat→List TypeId→List AV→Prop
 | 0,_,_=>False
 | _,[],xs=>xs=[]
 | k+1,t::ts,xs=> ∃x1 x2,xs=x1++x2∧x1.length=P.cellsOf t∧Has P k t x1∧HasE P k ts x2
end
mutual
def okT(P:Program):Nat→TypeId→Bool
 | 0,_=>false
 | k+1,t=>match P.underlying t with
  | some .bool | some (.int _) | some .string=>P.cellsOf t==1
  | some (.slice e)=>P.cellsOf t==1&&decide (0<P.cellsOf e)&&okT P k e
  | some (.struct fs)=>okE P k 0 (P.cellsOf t) fs.toList
  | _=>false
def okE(P:Program):Nat→Nat→Nat→List Field→Bool
 | 0,_,_,_=>false
 | _,off,total,[]=>off==total
 | k+1,off,total,f::fs=>f.offset==off&&okT P k f.type&&okE P k (off+P.cellsOf f.type) total fs
end
theorem At.append{w:World}{b o:Nat}{v1 v2:List Value}(h1:At w b o v1)(h2:At w b (o+v1.length) v2):At w b o (v1++v2):=by
 intro j u hu
 rcases Nat.lt_or_ge j v1.length with hj | hj
 ·rw[List.getElem?_append_left hj] at hu;exact h1 j u hu
 ·rw[List.getElem?_append_right hj] at hu
  have:=h2 _ u hu
  rwa [show o+v1.length+(j-v1.length)=o+j by omega] at this
section
variable{H:Type}{enc:TypeId×Value→H}{P:Program}{w:World}{base:Nat}{spare:Nat→Bool}{held:Bool}
abbrev Old(w:World):Nat→Prop:=fun b=>b<w.heap.size
theorem row_open{k:Nat}{e:TypeId}(hA: ∀(fuel:Nat) (cs:List Value) (d:DataW H×List MemPlace),DataW.trod enc P w base spare held fuel e cs=some d→(DataW.weights P e d.1).all (· ≤reachBytes)=true→ ∃xs,TL w (Old w) xs cs []∧Has P k e xs∧xs.length=P.cellsOf e)
  {fuel:Nat} {a:Addr} (hsz:0<P.cellsOf e): ∀(s:Nat) (r:List (DataW H×List MemPlace)),
  (∀i,i<r.length→(w.cells? base (a.add ((s+i)*P.cellsOf e)) (P.cellsOf e)).bind (DataW.trod enc P w base spare held fuel e)=r[i]?)→(DataW.weightsAll P e (r.map (·.1))).all (· ≤reachBytes)=true→(a.spot=none∨s=0)→
  ∃es vs,TLL w (Old w) es vs []∧Each (P.cellsOf e) es∧(∀el∈es,el.length=P.cellsOf e∧Has P k e el)∧es.length=r.length∧At w a.block (a.off+s*P.cellsOf e) vs∧(r≠[]→a.block<w.heap.size∧a.spot=none)
 | s,[],h,hw,_=>⟨[],[],by simp[TLL],trivial,by simp,rfl,by simp[At],by simp⟩
 | s,(d,ps)::r,h,hw,hsp=>by
  simp only[List.map_cons,DataW.weightsAll,List.all_append,Bool.and_eq_true] at hw
  have h0:=h 0 (by simp)
  simp only[Nat.add_zero,List.getElem?_cons_zero] at h0
  obtain⟨cs,hc1,hc2⟩:=Option.bind_eq_some_iff.1 h0
  obtain⟨hb,hl,hcell⟩:=World.cells?_some hc1
  have hspot:a.spot=none∧a.block<w.heap.size:=by
   have:=hcell 0 hsz
   have hne:cs[0]?≠none:=by rw[Ne,List.getElem?_eq_none_iff];omega
   rw[←this] at hne
   have hbl:((a.add (s*P.cellsOf e)).add 0).block=a.block:=by unfold Addr.add;split<;>split<;>rfl
   refine⟨?_,?_⟩
   ·rcases hsp with hsp | rfl
    ·exact hsp
    ·cases hs:a.spot with
     | none=>rfl
     | some q=>
      exfalso;apply hne
      simp only[Nat.zero_mul,Addr.add,if_true]
      unfold World.cell?
      split
      ·simp[hs]
      ·rfl
   ·rcases Nat.lt_or_ge a.block w.heap.size with g | g
    ·exact g
    ·exfalso;apply hne
     unfold World.cell?
     rw[hbl,Array.getElem?_eq_none g]
  obtain⟨hspn,hlt⟩:=hspot
  obtain⟨el,g1,g2,g3⟩:=hA fuel cs (d,ps) hc2 hw.1
  obtain⟨es,vs,k1,k2,k3,k4,k5,_⟩:=row_open hA (fuel:=fuel) (a:=a) hsz (s+1) r (fun i hi=>by
   have:=h (i+1) (by simpa using hi)
   rw[List.getElem?_cons_succ] at this
   rw[←this,show s+1+i=s+(i+1) by omega]) hw.2 (.inl hspn)
  have hadd: ∀j,(a.add (s*P.cellsOf e)).add j=⟨a.block,a.off+s*P.cellsOf e+j,none⟩:=by
   intro j
   obtain⟨ab,ao,as⟩:=a
   simp only at hspn
   subst hspn
   rw[addr_add,addr_add]
  have hat:At w a.block (a.off+s*P.cellsOf e) cs:=by
   intro j u hu
   have hj:j<P.cellsOf e:=by rw[←hl];exact(List.getElem?_eq_some_iff.1 hu).1
   have:=hcell j hj
   rw[hadd] at this
   rw[this,hu]
  refine⟨el::es,cs++vs,?_,⟨g3,k2⟩,?_,by simp[k4],hat.append ?_,fun _=>⟨hlt,hspn⟩⟩
  ·simp only[TLL];exact⟨cs,vs,[],[],rfl,rfl,g1,k1⟩
  ·intro x hx
   rcases List.mem_cons.1 hx with rfl | hx
   ·exact⟨g3,g2⟩
   ·exact k3 x hx
  ·rw[hl,show a.off+s*P.cellsOf e+P.cellsOf e=a.off+(s+1)*P.cellsOf e by rw[Nat.add_mul];omega];exact k5
theorem TL_one{w:World}{I:Nat→Prop}{x:AV}{v:Value}(h1:v.oneCell'=true)(h:T w I x v []):TL w I [x] [v] []:=by
 simp only[TL];exact⟨v,[],[],[],rfl,rfl,h1,h,rfl,rfl⟩
theorem open_both: ∀(K:Nat),(∀(t:TypeId) (fuel:Nat) (cs:List Value) (d:DataW H×List MemPlace),okT P K t=true→DataW.trod enc P w base spare held fuel t cs=some d→(DataW.weights P t d.1).all (· ≤reachBytes)=true→ ∃xs,TL w (Old w) xs cs []∧Has P K t xs∧xs.length=P.cellsOf t)∧
  (∀(fs:List Field) (off total fuel:Nat) (cs:List Value) (r:List (DataW H×List MemPlace)),okE P K off total fs=true→cs.length=total→r.length=fs.length→(∀(i:Nat) (f:Field),fs[i]?=some f→DataW.trod enc P w base spare held fuel f.type ((cs.drop f.offset).take (P.cellsOf f.type))=r[i]?)→(DataW.weightsEach P (fs.map (·.type)) (r.map (·.1))).all (· ≤reachBytes)=true→
   ∃xs,TL w (Old w) xs (cs.drop off) []∧HasE P K (fs.map (·.type)) xs∧off+xs.length=total):=by
 intro K
 induction K with
 | zero=>exact⟨fun t fuel cs d h=>by simp[okT] at h,fun fs off total fuel cs r h=>by simp[okE] at h⟩
 | succ K ih=>
  obtain⟨ihA,ihB⟩:=ih
  refine⟨fun t fuel cs d hok h hw=>?_,fun fs off total fuel cs r hok hl hrl h hw=>?_⟩
  ·simp only[okT] at hok
   simp only[Has]
   cases ht:P.underlying t with
   | none=>simp[ht] at hok
   | some u=>
    rw[ht] at hok
    cases u<;>simp only[Bool.false_eq_true] at hok
    case bool=>
     obtain⟨b,rfl,rfl⟩:=DataW.trod_bool ht h
     exact⟨[.bool b],TL_one rfl (by simp[T]),⟨b,rfl⟩,by simpa using (beq_iff_eq.1 hok).symm⟩
    case int kd=>
     obtain⟨n,rfl,rfl,hwf⟩:=DataW.trod_int ht h
     exact⟨[.int kd n],TL_one rfl (by simp[T]),⟨n,rfl,hwf⟩,by simpa using (beq_iff_eq.1 hok).symm⟩
    case string=>
     obtain⟨s,rfl,rfl,hs⟩:=DataW.trod_string ht h
     refine⟨[.str s],TL_one rfl (by simp[T]),⟨s,rfl,?_⟩,by simpa using (beq_iff_eq.1 hok).symm⟩
     simpa [DataW.weights] using hw
    case slice e=>
     simp only[Bool.and_eq_true,beq_iff_eq,decide_eq_true_eq] at hok
     obtain⟨⟨h1,h2⟩,h3⟩:=hok
     rcases DataW.trod_slice ht h with ⟨rfl,rfl⟩ | ⟨a,len,cap,elems,rest,n,rfl,rfl,rfl,hba,hlc,hcm,hel,hread,_,_⟩
     ·exact⟨[.sl []],TL_one rfl (by simp[T]),⟨[],rfl,by simp,by simp,by simp⟩,by simpa using h1.symm⟩
     ·simp only[DataW.weights,ht,List.all_cons,List.all_append,Bool.and_eq_true,decide_eq_true_eq,List.length_map] at hw
      obtain⟨es,vs,k1,k2,k3,k4,k5,k6⟩:=row_open (k:=K) (e:=e) (fun fuel cs d hd hwd=>ihA e fuel cs d h3 hd hwd) (fuel:=n) (a:=a) h2 0 elems (fun i hi=>by rw[Nat.zero_add];exact hread i (by omega)) hw.2.1 (.inr rfl)
      refine⟨[.sl es],TL_one rfl ?_,⟨es,rfl,by omega,?_,k3⟩,by simpa using h1.symm⟩
      ·simp only[T]
       refine⟨trivial,some a,cap,by rw[k4,hel],by omega,by omega,?_⟩
       cases elems with
       | nil=>exact .inl (List.eq_nil_of_length_eq_zero (by simpa using k4))
       | cons x xs=>
        right
        obtain⟨hlt,hsp⟩:=k6 (by simp)
        obtain⟨ab,ao,as⟩:=a
        simp only at hsp hlt k5
        subst hsp
        exact⟨ab,ao,_,vs,rfl,hlt,k2,by simpa using k5,k1⟩
      ·rw[k4]
       exact Nat.le_trans (Nat.mul_le_mul_right _ (Nat.le_add_right _ _)) hw.1
    case struct fs=>
     obtain⟨xs,n,rfl,rfl,hl,hxl,hread⟩:=DataW.trod_struct ht h
     simp only[DataW.weights,ht] at hw
     obtain⟨ys,g1,g2,g3⟩:=ihB fs.toList 0 (P.cellsOf t) n cs xs hok hl (by simpa using hxl) (fun i f hf=>hread i f (by simpa using hf)) hw
     exact⟨ys,by simpa using g1,g2,by simpa using g3⟩
  ·cases fs with
   | nil=>
    simp only[okE,beq_iff_eq] at hok
    subst hok
    refine⟨[],?_,rfl,rfl⟩
    rw[List.drop_eq_nil_of_le (by omega)]
    simp[TL]
   | cons f fs=>
    cases r with
    | nil=>simp at hrl
    | cons x r=>
     simp only[okE,Bool.and_eq_true,beq_iff_eq] at hok
     obtain⟨⟨h1,h2⟩,h3⟩:=hok
     simp only[List.map_cons,DataW.weightsEach,List.all_append,Bool.and_eq_true] at hw
     have hx:=h 0 f rfl
     simp only[List.getElem?_cons_zero] at hx
     rw[h1] at hx
     obtain⟨y1,g1,g2,g3⟩:=ihA f.type fuel _ x h2 hx hw.1
     obtain⟨y2,k1,k2,k3⟩:=ihB fs (off+P.cellsOf f.type) total fuel cs r h3 hl (by simpa using hrl) (fun i f' hf'=>by
      have:=h (i+1) f' (by simpa using hf')
      simpa using this) hw.2
     refine⟨y1++y2,?_,?_,?_⟩
     ·have e:cs.drop off=(cs.drop off).take (P.cellsOf f.type)++cs.drop (off+P.cellsOf f.type):=by
       rw[←List.drop_drop,List.take_append_drop]
      rw[e]
      exact TL.append g1 k1
     ·simp only[List.map_cons,HasE]
      exact⟨y1,y2,rfl,g3,g2,k2⟩
     ·simp only[List.length_append];omega
end
end Go.Proofs.YthggfnefjbckeaaGreatDoor.X
set_option linter.unusedVariables false
set_option linter.unusedSimpArgs false
namespace Go.Proofs.YthggfnefjbckeaaGreatDoor.X
open Go Go.RowKit
def HasV(P:Program)(K:Nat)(t:TypeId)(x:AV):Prop:=match P.underlying t with
 | some (.struct _)=> ∃xs,x= .agg xs∧Has P K t xs
 | _=>Has P K t [x]
def HasVs(P:Program)(K:Nat):List TypeId→List AV→Prop
 | [],xs=>xs=[]
 | t::ts,xs=> ∃x r,xs=x::r∧HasV P K t x∧HasVs P K ts r
theorem has_frz{P:Program}: ∀(K:Nat),(∀t xs,Has P K t xs→frzOkL xs=true)∧(∀ts xs,HasE P K ts xs→frzOkL xs=true):=by
 have happ: ∀xs ys:List AV,frzOkL xs=true→frzOkL ys=true→frzOkL (xs++ys)=true:=by
  intro xs
  induction xs with
  | nil=>intro ys _ h;exact h
  | cons x xs ih=>intro ys h1 h2;simp only[frzOkL,Bool.and_eq_true,List.cons_append] at h1⊢;exact⟨h1.1,ih ys h1.2 h2⟩
 intro K
 induction K with
 | zero=>exact⟨fun t xs h=>by simp[Has] at h,fun ts xs h=>by simp[HasE] at h⟩
 | succ K ih=>
  refine⟨fun t xs h=>?_,fun ts xs h=>?_⟩
  ·simp only[Has] at h
   split at h
   ·obtain⟨b,rfl⟩:=h;rfl
   ·obtain⟨n,rfl,_⟩:=h;rfl
   ·obtain⟨s,rfl,_⟩:=h;rfl
   ·obtain⟨es,rfl,_⟩:=h;rfl
   ·exact ih.2 _ _ h
   ·exact h.elim
  ·cases ts with
   | nil=>simp only[HasE] at h;subst h;rfl
   | cons t ts=>
    simp only[HasE] at h
    obtain⟨x1,x2,rfl,_,h1,h2⟩:=h
    exact happ _ _ (ih.1 _ _ h1) (ih.2 _ _ h2)
section
variable{H:Type}{enc:TypeId×Value→H}{P:Program}{W W':World}{base:Nat}{spare:Nat→Bool}{held:Bool}
theorem open_arg{K b0:Nat}{t:TypeId}{v:Value}{d:DataW H}{p:List MemPlace}(hval:Value.okWide P W .any b0 t v)(h:DataW.Trod enc P W base spare held t v d p)(hok:okT P K t=true)(hw:(DataW.weights P t d).all (· ≤reachBytes)=true):
  ∃x,T W (Old W) x v []∧HasV P K t x∧frzOk x=true:=by
 obtain⟨fuel,hf⟩:=h
 obtain⟨xs,h1,h2,h3⟩:=(open_both K).1 t fuel _ (d,p) hok hf hw
 have hz:=(has_frz K).1 t xs h2
 have single:v.cells.toList=[v]→(∀fs,P.underlying t≠some (.struct fs))→ ∃x,T W (Old W) x v []∧HasV P K t x∧frzOk x=true:=by
  intro hc hs
  rw[hc] at h1
  cases xs with
  | nil=>simp[TL] at h1
  | cons x xs=>
   simp only[TL] at h1
   obtain⟨v',vs',F1,F2,e1,e2,_,hT,hr⟩:=h1
   simp only[List.cons.injEq] at e1
   obtain⟨rfl,rfl⟩:=e1
   obtain⟨rfl,rfl⟩:=List.append_eq_nil_iff.1 e2.symm
   cases xs with
   | cons y ys=>simp[TL] at hr
   | nil=>
    refine⟨x,hT,?_,by simpa [frzOkL] using hz⟩
    unfold HasV
    split
    ·rename_i fs e;exact absurd e (hs fs)
    ·exact h2
 cases K with
 | zero=>simp[okT] at hok
 | succ K=>
  simp only[okT] at hok
  cases ht:P.underlying t with
  | none=>simp[ht] at hok
  | some u=>
   rw[ht] at hok
   cases u<;>simp only[Bool.false_eq_true] at hok
   case struct fs=>
    simp only[Value.okWide,ht] at hval
    obtain⟨cs,rfl,_⟩:=hval
    refine⟨.agg xs,?_,?_,by simpa [frzOk] using hz⟩
    ·simp only[T];exact⟨cs,rfl,by simpa [Value.cells] using h1⟩
    ·unfold HasV;rw[ht];exact⟨xs,rfl,h2⟩
   all_goals
    refine single ?_ (by simp[ht])
    simp only[Value.okWide,ht,Cell.okWide] at hval
    cases v<;>simp_all [Cell.ok,Value.cells]
theorem args_open{K b0:Nat}: ∀{ts:List TypeId} {vs:List Value} {ds:List (DataW H)} {p:List MemPlace},DataW.TrodAll enc P W base spare held ts vs ds p→(∀(j:Nat) t v,ts[j]?=some t→vs[j]?=some v→Value.okWide P W .any b0 t v)→
  ts.all (okT P K)=true→(DataW.weightsEach P ts ds).all (· ≤reachBytes)=true→ ∃xs,TV W (Old W) xs vs []∧HasVs P K ts xs∧frzOkL xs=true
 | [],[],[],p,h,hv,hok,hw=>⟨[],by simp[TV],rfl,rfl⟩
 | t::ts,v::vs,d::ds,p,h,hv,hok,hw=>by
  obtain⟨p1,p2,h1,h2,rfl⟩:=h
  simp only[List.all_cons,Bool.and_eq_true] at hok
  simp only[DataW.weightsEach,List.all_append,Bool.and_eq_true] at hw
  obtain⟨x,g1,g2,g3⟩:=open_arg (hv 0 t v rfl rfl) h1 hok.1 hw.1
  obtain⟨xs,k1,k2,k3⟩:=args_open h2 (fun j t v ht hv'=>hv (j+1) t v (by simpa using ht) (by simpa using hv')) hok.2 hw.2
  refine⟨x::xs,?_,⟨x,xs,rfl,g2,k2⟩,by simp[frzOkL,g3,k3]⟩
  simp only[TV];exact⟨v,vs,[],[],rfl,rfl,g1,k1⟩
 | [],_::_,_,_,h,_,_,_=>by cases h
 | [],[],_::_,_,h,_,_,_=>by cases h
 | _::_,[],_,_,h,_,_,_=>by cases h
 | _::_,_::_,[],_,h,_,_,_=>by cases h
theorem args_back(hl:laidOutB P=true): ∀{ts:List TypeId} {vs:List Value} {ds:List (DataW H)} {p:List MemPlace},(ts.all fun t=>P.readableRec t&&decide (t<P.types.size))=true→DataW.TrodAll enc P W 0 (fun _=>true) true ts vs ds p→Below W.heap.size W W'→
  DataW.TrodAll enc P W' 0 (fun b=>decide (b<W.heap.size)) true ts vs ds p
 | [],[],[],p,hr,h,hb=>h
 | t::ts,v::vs,d::ds,p,hr,h,hb=>by
  obtain⟨p1,p2,h1,h2,rfl⟩:=h
  simp only[List.all_cons,Bool.and_eq_true,decide_eq_true_eq] at hr
  refine⟨p1,p2,Below.trod hl hr.1.1 hr.1.2 h1 hb ?_,args_back hl (by simpa using hr.2) h2 hb,rfl⟩
  obtain⟨m,hm⟩:=h1
  exact DataW.trod_lt m _ _ _ hm
 | [],_::_,_,_,_,h,_=>by cases h
 | [],[],_::_,_,_,h,_=>by cases h
 | _::_,[],_,_,_,h,_=>by cases h
 | _::_,_::_,[],_,_,h,_=>by cases h
end
theorem TV_SV{P:Program}{W:World}{hd:Nat→Value}{n:Nat}: ∀(ts:List AV) (vs:List Value),frzOkL ts=true→TV W (Old W) ts vs []→SV hd n W (Old W) ts vs:=by
 intro ts
 induction ts with
 | nil=>intro vs _ h;simp only[TV,SV] at h⊢;exact h.1
 | cons x ts ih=>
  intro vs hf h
  simp only[frzOkL,Bool.and_eq_true] at hf
  simp only[TV] at h
  obtain⟨v,vs',F1,F2,rfl,hF,hx,hxs⟩:=h
  obtain⟨rfl,rfl⟩:=List.append_eq_nil_iff.1 hF.symm
  simp only[SV]
  exact⟨v,vs',rfl,T.toS x v hf.1 hx,ih vs' hf.2 hxs⟩
end Go.Proofs.YthggfnefjbckeaaGreatDoor.X
set_option linter.unusedVariables false
set_option linter.unusedSimpArgs false
namespace Go.Proofs.YthggfnefjbckeaaGreatDoor.X
open Go Go.RowKit
theorem law_runG{P:Program}{G:Glo}{f:FuncId}{ts:List AV}{vals:List Value}{W:World}(hEv:Ev (CS P G) f ts (.bool true))(hargs:TV W (Old W) ts vals [])(hok:frzOkL ts=true)
  (hG: ∀g cs,G g=some cs→GloT W (Old W) g cs):
  Calls P f vals.toArray W fun e W'=>e= .returned (.bool true)∧Below W.heap.size W W':=by
 obtain⟨K0,⟨_,hcall⟩,_,hres⟩:=hEv
 have hr0:HR G (fun b=>W.heap.size≤b) (Old W) [] 0 (fun _=>undef) (fun _=>[]) W:=
  ⟨fun id o ho=>by simp[hget] at ho,fun b hb=>⟨hb,fun id o ho=>by simp[hget] at ho⟩,fun id o ho=>by simp[hget] at ho,fun id o id' o' ho=>by simp[hget] at ho,fun id o ho=>by simp[hget] at ho,fun id o ho=>by simp[hget] at ho,fun b hb=>hb,hG⟩
 refine(hcall _ _ _ _ W vals hr0 (TV_SV (P:=P) ts vals hok hargs)).mono ?_
 rintro e W' ⟨v,av,h',n',I',hd',Fp',rfl,hK0,hr',hv,hE,hn⟩
 obtain⟨r0,h2,hcon,hnil⟩:=hres av h' n' hK0
 obtain⟨F,hT,_⟩:=(conR_sound 8).1 h' hr' av r0 h2 v hv hcon
 have hT2:=T.nilTo r0 _ v F hT hnil
 simp only[T] at hT2
 refine⟨by rw[hT2.1],hE.keep.os,hE.keep.tape,hE.keep.output,hE.keep.size,fun b hb=>(hE.im b hb).2⟩
def scCells:List AV→List Value
 | []=>[]
 | .int k n::r=> .int k n::scCells r
 | _::r=>scCells r
def allInt:List AV→Bool
 | []=>true
 | .int _ _::r=>allInt r
 | _::_=>false
theorem scCells_int: ∀{cs:List AV} {v:Value},v∈scCells cs→ ∃k n,v= .int k n
 | [],v,h=>by simp[scCells] at h
 | x::r,v,h=>by
  cases x<;>simp only[scCells,List.mem_cons] at h
  case int k n=>
   rcases h with rfl | h
   ·exact⟨k,n,rfl⟩
   ·exact scCells_int h
  all_goals exact scCells_int h
theorem cell_row{w:World}{b off:Nat}{cs:Array Value}{t:TypeId}{fr:Nat×Nat}(h:w.heap[b]?=some (.cells cs t fr)):w.cell? ⟨b,off,none⟩=cs[off]?:=by
 simp only[World.cell?,h]
 rfl
theorem no_iface{w:World}{b off:Nat}{cs:List AV}{t:TypeId}{fr:Nat×Nat}{u:TypeId}{v:Value}(h:w.heap[b]?=some (.cells (scCells cs).toArray t fr))(hc:w.cell? ⟨b,off,none⟩=some (.iface u v)):False:=by
 rw[cell_row h,List.getElem?_toArray] at hc
 obtain⟨k,n,e⟩:=scCells_int (List.mem_of_getElem? hc)
 cases e
theorem TL_ints{w:World}{I:Nat→Prop}: ∀(cs:List AV),allInt cs=true→TL w I cs (scCells cs) []
 | [],_=>by simp[TL,scCells]
 | .int k n::r,h=>by
  simp only[TL,scCells]
  exact⟨.int k n,scCells r,[],[],rfl,rfl,rfl,by simp[T],TL_ints r h⟩
theorem scCells_len: ∀{cs:List AV},allInt cs=true→(scCells cs).length=cs.length
 | [],_=>rfl
 | .int k n::r,h=>by
  simp only[scCells,List.length_cons]
  rw[scCells_len (cs:=r) h]
theorem glo_of_var{P:Program}{W:World}{n:String}{g:Nat}{cs:List AV}(hg:P.globalNamed n=some g)(hi:allInt cs=true)(h:W.var? P n=some (scCells cs).toArray):GloT W (Old W) g cs:=by
 have hlt:g<W.heap.size:=by
  simp only[World.var?,hg,Option.bind_some] at h
  rcases Nat.lt_or_ge g W.heap.size with hl | hl
  ·exact hl
  ·rw[Array.getElem?_eq_none hl] at h;cases h
 refine⟨?_,?_⟩
 ·simp only[T]
  refine⟨trivial,g,0,scCells cs,rfl,hlt,fun j u hu=>?_,TL_ints cs hi⟩
  have:=World.var?_cell hg h j
  rw[Nat.zero_add,this]
  simpa using hu
 ·simp only[World.var?,hg,Option.bind_some] at h
  split at h
  ·rename_i vs t fr e
   cases h
   exact⟨_,t,fr,e,by simp[scCells_len hi]⟩
  ·cases h
theorem int_of_trod{H:Type}{enc:TypeId×Value→H}{P:Program}{w:World}{base:Nat}{sp:Nat→Bool}{held:Bool}{fuel:Nat}{t:TypeId}{k:IntKind}{c:Value}{y:DataW H×List MemPlace}
  (ht:P.underlying t=some (.int k)) (h:DataW.trod enc P w base sp held fuel t [c]=some y): ∃n,c= .int k n∧y=(.lit (.int k n),[]):=by
 cases fuel with
 | zero=>simp[DataW.trod] at h
 | succ fuel=>
  cases c<;>simp[DataW.trod,ht] at h
  rename_i k' n
  obtain⟨⟨rfl,_⟩,rfl⟩:=h
  exact⟨n,rfl,rfl⟩
theorem weights_args{H:Type}{enc:TypeId×Value→H}{P:Program}{W:World}{base:Nat}{spare:Nat→Bool}{held:Bool}{us:List TypeId}{es:List (DataW H)}{f:Nat→Bool}: ∀{ts:List TypeId} {vs:List Value} {ds:List (DataW H)} {p:List MemPlace},DataW.TrodAll enc P W base spare held ts vs ds p→
  (DataW.weightsEach P (ts++us) (ds++es)).all f=true→(DataW.weightsEach P ts ds).all f=true
 | [],[],[],_,_,_=>by simp[DataW.weightsEach]
 | t::ts,v::vs,d::ds,p,h,hw=>by
  obtain⟨p1,p2,h1,h2,rfl⟩:=h
  simp only[List.cons_append,DataW.weightsEach,List.all_append,Bool.and_eq_true] at hw⊢
  exact⟨hw.1,weights_args h2 hw.2⟩
 | [],_::_,_,_,h,_=>by cases h
 | [],[],_::_,_,h,_=>by cases h
 | _::_,[],_,_,h,_=>by cases h
 | _::_,_::_,[],_,h,_=>by cases h
end Go.Proofs.YthggfnefjbckeaaGreatDoor.X
