/- A part of the proof: lemmas on the machine or on the functions that the law reaches. No condition of its own. -/
import Derived.Test.YthggfnefjbckeaaGreatDoorXM1
import Derived.Great.BuildSlice
import Derived.Calls
set_option linter.unusedVariables false
set_option linter.unusedSimpArgs false
namespace Go.Proofs.YthggfnefjbckeaaGreatDoor.X
open Go
def setsA{α:Type}:List α→Nat→List α→List α
 | cells,_,[]=>cells
 | cells,off,c::cs=>setsA (cells.set off c) (off+1) cs
def fillA(place:Nat→Option (Nat×Nat)):List AV→List (Nat×AV)→Option (List AV)
 | cells,[]=>some cells
 | cells,(i,v)::rest=>match place i,cellsV v with
  | some (off,size),some cs=>if cs.length=size∧off+cs.length≤cells.length then fillA place (setsA cells off cs) rest else none
  | _,_=>none
def places(P:Program)(t:TypeId):Option (List (Nat×Nat)):=
 match P.underlying t with
 | some (.struct fields)=>fields.toList.mapM (fun f=>(P.info? f.type).map fun i=>(f.offset,i.size))
 | some (.array n e)=>(P.info? e).map fun i=>(List.range n).map fun j=>(j*i.size,i.size)
 | _=>none
def buildK(P:Program)(t:TypeId)(parts:List (Nat×AV))(K:AV→Prop):Prop:=
 match places P t,zeroCells P t with
 | some pl,some zs=>match fillA (pl[·]?) zs parts with
  | some cs=>K (.agg cs)
  | none=>False
 | _,_=>False
theorem SL.set{hd:Nat→Value}{n:Nat}{w:World}{I:Nat→Prop}: ∀{xs:List AV} {vs:List Value} (h:SL hd n w I xs vs) (k:Nat) {x:AV} {v:Value},v.oneCell'=true→S hd n w I x v→SL hd n w I (xs.set k x) (vs.set k v)
 | [],vs,h,k,x,v,_,_=>by simp only[SL] at h;subst h;simp[SL]
 | y::xs,vs,h,0,x,v,h1,hx=>by
  simp only[SL] at h
  obtain⟨u,vs',rfl,g1,hy,hxs⟩:=h
  simp only[List.set_cons_zero,SL]
  exact⟨v,vs',rfl,h1,hx,hxs⟩
 | y::xs,vs,h,k+1,x,v,h1,hx=>by
  simp only[SL] at h
  obtain⟨u,vs',rfl,g1,hy,hxs⟩:=h
  simp only[List.set_cons_succ,SL]
  exact⟨u,_,rfl,g1,hy,hxs.set k h1 hx⟩
theorem sets_sound{hd:Nat→Value}{n:Nat}{w:World}{I:Nat→Prop}(off:Nat): ∀{cs:List AV} {vs:List Value} (k:Nat) {cells:List AV} {arr:Array Value},SL hd n w I cs vs→SL hd n w I cells arr.toList→
  SL hd n w I (setsA cells (off+k) cs) ((vs.zipIdx k).foldl (fun a (p:Value×Nat)=>a.setIfInBounds (off+p.2) p.1) arr).toList∧((vs.zipIdx k).foldl (fun a (p:Value×Nat)=>a.setIfInBounds (off+p.2) p.1) arr).size=arr.size
 | [],vs,k,cells,arr,h,hc=>by
  simp only[SL] at h;subst h
  simpa [setsA] using hc
 | c::cs,vs,k,cells,arr,h,hc=>by
  simp only[SL] at h
  obtain⟨v,vs',rfl,h1,hv,hxs⟩:=h
  simp only[setsA,List.zipIdx_cons,List.foldl_cons]
  have:=sets_sound off (k+1) hxs (cells:=cells.set (off+k) c) (arr:=arr.setIfInBounds (off+k) v) (by rw[Array.toList_setIfInBounds];exact hc.set _ h1 hv)
  rw[show off+k+1=off+(k+1) by omega]
  exact⟨this.1,by rw[this.2];simp⟩
inductive Parts(hd:Nat→Value)(n:Nat)(w:World)(I:Nat→Prop):List (Nat×AV)→List (Nat×Value)→Prop where
 | nil:Parts hd n w I [] []
 | cons {i:Nat} {x:AV} {v:Value} {xs:List (Nat×AV)} {vs:List (Nat×Value)} (h:S hd n w I x v) (t:Parts hd n w I xs vs):Parts hd n w I ((i,x)::xs) ((i,v)::vs)
theorem fill_sound{hd:Nat→Value}{n:Nat}{w:World}{I:Nat→Prop}{place:Nat→Option (Nat×Nat)}: ∀{parts:List (Nat×AV)} {pv:List (Nat×Value)} {cells cs:List AV} {arr:Array Value},Parts hd n w I parts pv→SL hd n w I cells arr.toList→
  fillA place cells parts=some cs→ ∃r,Instr.fill place arr pv=some r∧SL hd n w I cs r.toList
 | [],pv,cells,cs,arr,hp,hc,hf=>by
  cases hp
  simp only[fillA,Option.some.injEq] at hf
  subst hf
  exact⟨arr,rfl,hc⟩
 | (i,x)::parts,pv,cells,cs,arr,hp,hc,hf=>by
  cases hp with
  | cons hx ht=>
   rename_i v vs
   simp only[fillA] at hf
   split at hf
   ·rename_i off size cc e1 e2
    split at hf
    ·rename_i hcond
     have hs:=cellsV_SL e2 hx
     have hl:=hs.length
     have hl2:=hc.length
     have hset:=sets_sound off 0 hs hc
     obtain⟨r,h1,h2⟩:=fill_sound ht hset.1 hf
     refine⟨r,?_,h2⟩
     simp only[Instr.fill,e1]
     have e3:v.cells.size=size:=by rw[←Array.length_toList,hl];exact hcond.1
     rw[if_neg]
     ·rw[←h1]
      congr 1
      rw[←Array.foldl_toList,Array.toList_zipIdx]
     ·simp only[ne_eq,gt_iff_lt,Bool.or_eq_true,decide_eq_true_eq,not_or,Decidable.not_not,Nat.not_lt,decide_not,Bool.not_eq_true',decide_eq_false_iff_not]
      rw[←Array.length_toList,hl]
      rw[←Array.length_toList,hl2]
      simp only[←Array.length_toList,hl] at e3
      exact⟨e3,hcond.2⟩
    ·cases hf
   ·cases hf
theorem fillA_mono{p q:Nat→Option (Nat×Nat)}(hpq: ∀i x,p i=some x→q i=some x): ∀{parts:List (Nat×AV)} {cells cs:List AV},fillA p cells parts=some cs→fillA q cells parts=some cs
 | [],cells,cs,h=>h
 | (i,x)::parts,cells,cs,h=>by
  simp only[fillA] at h⊢
  split at h
  ·rename_i off size cc e1 e2
   rw[hpq _ _ e1,e2]
   simp only
   split at h
   ·rename_i hc
    rw[if_pos hc]
    exact fillA_mono hpq h
   ·cases h
  ·cases h
section
variable{P:Program}{G:Glo}{M I:Nat→Prop}{s:St}{hd:Nat→Value}{Fp:Nat→List Nat}{a:Act}{w:World}
theorem zeroCells_some{t:TypeId}{cs:List AV}(h:zeroCells P t=some cs)(n:Nat): ∃i z,P.info? t=some i∧i.zero=some z∧SL hd n w I cs z.cells.toList∧cs=z.cells.toList.map ofC:=by
 unfold zeroCells at h
 obtain⟨z,hz1,hz2⟩:=Option.bind_eq_some_iff.1 h
 obtain⟨i,hi,hiz⟩:=Option.bind_eq_some_iff.1 hz1
 split at hz2
 ·rename_i hones
  simp only[Option.some.injEq] at hz2
  subst hz2
  exact⟨i,z,hi,hiz,ofC_SL hd n w I _ (List.all_eq_true.1 hones),rfl⟩
 ·cases hz2
theorem buildK_sound{K:AV→Prop}{t:TypeId}{parts:List (Nat×AV)}{pv:List (Nat×Value)}{n:Nat}(hk:buildK P t parts K)(hp:Parts hd n w I parts pv): ∃r av,(Instr.build t pv.toArray).run P w= .ok r w∧K av∧S hd n w I av r:=by
 unfold buildK at hk
 split at hk
 ·rename_i pl zs e1 e2
  split at hk
  ·rename_i cs hf
   obtain⟨i,z,hi,hz,hs,_⟩:=zeroCells_some (hd:=hd) (I:=I) (w:=w) e2 n
   unfold places at e1
   split at e1
   ·rename_i fields hu
    obtain⟨r,h1,h2⟩:=fill_sound hp hs hf
    refine⟨.agg r,_,run_build w t _ r ?_,hk,?_⟩
    ·simp only[Program.built,hi,hu,hz,e1]
     have hfun:(fun(i:Nat)=>pl[i]?)=(fun(i:Nat)=>pl.toArray[i]?):=by funext i;simp
     rw[←hfun]
     exact h1
    ·simp only[S]
     exact⟨r,rfl,h2⟩
   ·rename_i m e hu
    obtain⟨ie,hie,hpl⟩:=Option.map_eq_some_iff.1 e1
    subst hpl
    have hf2:=fillA_mono (q:=fun i=>some (i*ie.size,ie.size)) (fun i x hx=>by
     simp only[List.getElem?_map,Option.map_eq_some_iff] at hx
     obtain⟨j,hj,rfl⟩:=hx
     obtain⟨_,rfl⟩:=List.getElem?_eq_some_iff.1 hj
     simp) hf
    obtain⟨r,h1,h2⟩:=fill_sound hp hs hf2
    refine⟨.agg r,_,run_build w t _ r ?_,hk,?_⟩
    ·simp only[Program.built,hi,hu,hz,hie]
     exact h1
    ·simp only[S]
     exact⟨r,rfl,h2⟩
   ·cases e1
  ·exact hk.elim
 ·exact hk.elim
end
def chunk(sz:Nat):Nat→List AV→List (List AV)
 | 0,_=>[]
 | n+1,ts=>ts.take sz::chunk sz n (ts.drop sz)
theorem chunk_length(sz:Nat): ∀(n:Nat) (ts:List AV),(chunk sz n ts).length=n
 | 0,_=>rfl
 | n+1,ts=>by simp[chunk,chunk_length sz n]
theorem chunk_each{sz:Nat}: ∀{n:Nat} {ts:List AV},ts.length=n*sz→Each sz (chunk sz n ts)
 | 0,_,_=>trivial
 | n+1,ts,h=>by
  rw[Nat.add_mul,Nat.one_mul] at h
  exact⟨by simp;omega,chunk_each (by simp;omega)⟩
theorem TL.split{w:World}{I:Nat→Prop}: ∀{xs:List AV} {vs:List Value} {F:List Nat} (n:Nat),TL w I xs vs F→ ∃F1 F2,F=F1++F2∧TL w I (xs.take n) (vs.take n) F1∧TL w I (xs.drop n) (vs.drop n) F2
 | [],vs,F,n,h=>by
  simp only[TL] at h
  obtain⟨rfl,rfl⟩:=h
  exact⟨[],[],rfl,by simp[TL],by simp[TL]⟩
 | x::xs,vs,F,0,h=>⟨[],F,rfl,by simp[TL],by simpa using h⟩
 | x::xs,vs,F,n+1,h=>by
  simp only[TL] at h
  obtain⟨v,vs',F1,F2,rfl,rfl,h1,hx,hxs⟩:=h
  obtain⟨G1,G2,rfl,h2,h3⟩:=TL.split n hxs
  refine⟨F1++G1,G2,by simp,?_,by simpa using h3⟩
  simp only[List.take_succ_cons,TL]
  exact⟨v,_,F1,G1,rfl,rfl,h1,hx,h2⟩
theorem TL.chunk{w:World}{I:Nat→Prop}{sz:Nat}: ∀{n:Nat} {ts:List AV} {vs:List Value} {F:List Nat},TL w I ts vs F→ts.length=n*sz→TLL w I (chunk sz n ts) vs F
 | 0,ts,vs,F,h,hl=>by
  have:ts=[]:=List.eq_nil_of_length_eq_zero (by simpa using hl)
  subst this
  simp only[TL] at h
  simp only[X.chunk,TLL]
  exact h
 | n+1,ts,vs,F,h,hl=>by
  rw[Nat.add_mul,Nat.one_mul] at hl
  obtain⟨F1,F2,rfl,h1,h2⟩:=h.split sz
  simp only[X.chunk,TLL]
  exact⟨_,_,F1,F2,(List.take_append_drop sz vs).symm,rfl,h1,TL.chunk h2 (by simp;omega)⟩
def buildSliceK(P:Program)(s:St)(t:TypeId)(len:Nat)(parts:List (Nat×AV))(K:AV→St→Prop):Prop:=
 match tk P t with
 | .slice e=>szOf P e≠0∧len*szOf P e≤16777216∧if len=0 then K (.ref s.next none (szOf P e) 0 0) ⟨s.tmps,(s.next,.slice (szOf P e) [])::s.heap,s.next+1⟩ else match zeroCells P e with
  | some zs=>zs.length=szOf P e∧match fillA (fun i=>some (i*szOf P e,szOf P e)) ((List.replicate len zs).flatten) parts with
   | some cs=>match conL s.heap cs with
    | some (ts,h')=>K (.ref s.next none (szOf P e) 0 len) ⟨s.tmps,(s.next,.slice (szOf P e) (chunk (szOf P e) len ts))::h',s.next+1⟩
    | none=>False
   | none=>False
  | none=>False
 | _=>False
def makeSliceK(P:Program)(s:St)(t:TypeId)(l c:AV)(K:AV→St→Prop):Prop:=
 match tk P t,l,c with
 | .slice e,.int _ l,.int _ c=>szOf P e≠0∧0≤l∧l≤c∧(byOf P e:Int)*c≤140737488355328∧c≤9223372036854775807∧match zeroCells P e with
  | some zs=>zs.length=szOf P e∧allF zs=true∧K (.ref s.next none (szOf P e) 0 l.toNat) ⟨s.tmps,(s.next,.slice (szOf P e) (List.replicate l.toNat zs))::s.heap,s.next+1⟩
  | none=>False
 | _,_,_=>False
theorem flat_rep{α:Type}(zs:List α): ∀(n j:Nat),j<n*zs.length→((List.replicate n zs).flatten)[j]?=zs[j%zs.length]?
 | 0,j,h=>by simp at h
 | n+1,j,h=>by
  rw[Nat.add_mul,Nat.one_mul] at h
  rw[List.replicate_succ,List.flatten_cons]
  by_cases hj:j<zs.length
  ·rw[List.getElem?_append_left hj,Nat.mod_eq_of_lt hj]
  ·rw[List.getElem?_append_right (by omega),flat_rep zs n _ (by omega)]
   congr 1
   exact(Nat.mod_eq_sub_mod (by omega)).symm
theorem flat_rep_length{α:Type}(zs:List α)(n:Nat):((List.replicate n zs).flatten).length=n*zs.length:=by
 induction n with
 | zero=>simp
 | succ n ih=>rw[List.replicate_succ,List.flatten_cons,List.length_append,ih,Nat.add_mul,Nat.one_mul];omega
theorem SL_of_get{hd:Nat→Value}{n:Nat}{w:World}{I:Nat→Prop}: ∀{xs:List AV} {vs:List Value},vs.length=xs.length→(∀(j:Nat) (x:AV),xs[j]?=some x→ ∃v,vs[j]?=some v∧v.oneCell'=true∧S hd n w I x v)→SL hd n w I xs vs
 | [],vs,hl,_=>by simp only[SL];exact List.eq_nil_of_length_eq_zero hl
 | x::xs,vs,hl,h=>by
  cases vs with
  | nil=>simp at hl
  | cons v vs=>
   obtain⟨u,hu,h1,hx⟩:=h 0 x rfl
   simp at hu
   subst hu
   simp only[SL]
   exact⟨v,vs,rfl,h1,hx,SL_of_get (by simpa using hl) (fun j y hy=>by simpa using h (j+1) y (by simpa using hy))⟩
theorem made_get(z:Array Value)(n j:Nat)(hj:j<n):(madeCells z n).toList[j]?=some (z[j%z.size]!):=by
 simp[madeCells,hj]
theorem made_SL{hd:Nat→Value}{n:Nat}{w:World}{I:Nat→Prop}{zs:List AV}{z:Array Value}(h:SL hd n w I zs z.toList)(m:Nat):SL hd n w I ((List.replicate m zs).flatten) (madeCells z (m*zs.length)).toList:=by
 have hl:z.size=zs.length:=by have:=h.length;simpa using this
 refine SL_of_get (by rw[flat_rep_length];simp[madeCells]) (fun j x hx=>?_)
 have hj:j<m*zs.length:=by rw[←flat_rep_length zs m];exact(List.getElem?_eq_some_iff.1 hx).1
 rw[flat_rep zs m j hj] at hx
 obtain⟨v,hv,h1,h2⟩:=h.get hx
 refine⟨v,?_,h1,h2⟩
 rw[made_get _ _ _ hj,hl]
 have hlt:j%zs.length<z.size:=by
  have:=(List.getElem?_eq_some_iff.1 hv).1
  simpa using this
 rw[getElem!_pos z _ hlt]
 have hv':z[j%zs.length]?=some v:=by simpa using hv
 rw[Array.getElem?_eq_getElem hlt] at hv'
 exact hv'
theorem allF_TL{hd:Nat→Value}{n:Nat}{w:World}{I:Nat→Prop}: ∀{xs:List AV} {vs:List Value},allF xs=true→SL hd n w I xs vs→TL w I xs vs []
 | [],vs,_,h=>by simp only[SL] at h;simp only[TL];exact⟨h,trivial⟩
 | x::xs,vs,hf,h=>by
  simp only[allF,Bool.and_eq_true] at hf
  simp only[SL] at h
  obtain⟨v,vs',rfl,h1,hx,hxs⟩:=h
  simp only[TL]
  exact⟨v,vs',[],[],rfl,rfl,h1,isF_T hf.1 hx,allF_TL hf.2 hxs⟩
theorem allF_append{xs ys:List AV}(h:allF xs=true)(h':allF ys=true):allF (xs++ys)=true:=by
 induction xs with
 | nil=>exact h'
 | cons x xs ih=>simp only[allF,Bool.and_eq_true,List.cons_append] at h⊢;exact⟨h.1,ih h.2⟩
theorem allF_rep{zs:List AV}(h:allF zs=true)(m:Nat):allF ((List.replicate m zs).flatten)=true:=by
 induction m with
 | zero=>rfl
 | succ m ih=>rw[List.replicate_succ,List.flatten_cons];exact allF_append h ih
theorem TLL_rep{w:World}{I:Nat→Prop}{zs:List AV}: ∀(m:Nat) {vs:List Value},TL w I ((List.replicate m zs).flatten) vs []→TLL w I (List.replicate m zs) vs []
 | 0,vs,h=>by simpa [TL,TLL] using h
 | m+1,vs,h=>by
  rw[List.replicate_succ,List.flatten_cons] at h
  obtain⟨F1,F2,hF,h1,h2⟩:=h.split zs.length
  obtain⟨rfl,rfl⟩:=List.append_eq_nil_iff.1 hF.symm
  rw[List.take_left] at h1
  rw[List.drop_left] at h2
  rw[List.replicate_succ]
  simp only[TLL]
  exact⟨_,_,[],[],(List.take_append_drop zs.length vs).symm,rfl,h1,TLL_rep m h2⟩
theorem Each_rep{zs:List AV}(m:Nat):Each zs.length (List.replicate m zs):=Each.of_mem fun e he=>by rw[List.eq_of_mem_replicate he]
section
variable{P:Program}{G:Glo}{M I:Nat→Prop}{s:St}{hd:Nat→Value}{Fp:Nat→List Nat}{a:Act}{w:World}{K:AV→St→Prop}
theorem SR.newSlice(h:SR G M I s hd Fp a w){h':Heap}(hr:HR G M I h' s.next hd Fp w)(w1:World)(arr:Array Value)(e:TypeId)(sz len cap:Nat)(es:List (List AV))(Fs:List Nat)(hf:Free M I h' Fp Fs)(hlt: ∀b∈Fs,b<w.heap.size)
  (hs:w1.heap.size=w.heap.size+1) (hold: ∀b,b<w.heap.size→w1.heap[b]?=w.heap[b]?) (hnew:w1.heap[w.heap.size]?=some (.cells arr e (0,0))) (hos:w1.os=w.os) (htape:w1.tape=w.tape) (hout:w1.output=w.output)
  (hlen:es.length=len) (hcap:len≤cap) (hmax:cap≤maxLen) (hsz:cap*sz≤arr.size) (hE:Each sz es) (hT:TLL w I es (arr.toList.take (len*sz)) Fs):
  ∃hd' Fp',SR G M I ⟨s.tmps,(s.next,.slice sz es)::h',s.next+1⟩ hd' Fp' a w1∧Ext M I I s.next hd hd' w w1∧S hd' (s.next+1) w1 I (.ref s.next none sz 0 len) (.slice (some ⟨w.heap.size,0,none⟩) len cap):=by
 subst hlen
 obtain⟨Fp',h1,h2⟩:=h.newObj hr w1 arr e (.slice sz es) (.slice (some ⟨w.heap.size,0,none⟩) es.length cap) Fs hf hlt hs hold hnew hos htape hout (fun hd' n' hn hx fr=>by
  simp only[ObjR,T]
  exact .inr ⟨w.heap.size,0,cap,arr,e,_,Fs,rfl,hnew,hcap,hmax,by omega,hE,by simp,TLL.frame fr.im es _ Fs hT (fun b hb=>hold b (hlt b hb)),rfl⟩)
 refine⟨_,Fp',h1,h2,?_⟩
 simp only[S,HdOf]
 exact⟨Nat.lt_succ_self _,_,rfl,.inl ⟨w.heap.size,0,es.length,cap,cap,by rw[upd_same],by simp,by omega,hcap,by omega⟩⟩
theorem buildSliceK_sound(h:SR G M I s hd Fp a w){t:TypeId}{len:Nat}{parts:List (Nat×AV)}{pv:List (Nat×Value)}(hk:buildSliceK P s t len parts K)(hp:Parts hd s.next w I parts pv)(hp0:len=0→parts=[]):
  ∃v w',(Instr.buildSlice t len pv.toArray).run P w= .ok v w'∧OpRes G M I s hd a w K (.value v) w'∧SameB w w':=by
 unfold buildSliceK at hk
 split at hk
 ·rename_i e ht
  obtain⟨hz,hsmall,hk⟩:=hk
  obtain⟨i,hi,hiz⟩:=szOf_pos hz
  split at hk
  ·rename_i hl0
   subst hl0
   have hpe:=hp0 rfl
   subst hpe
   cases hp
   have hrun:(Instr.buildSlice t 0 #[]).run P w= .ok (.slice (some ⟨w.heap.size,0,none⟩) 0 0) (w.alloc (.cells #[] e)):=by
    simp[Instr.buildSlice,run_underlying (tk_slice ht),sizeOf,typeInfo,hi,Instr.fill,newRow,show Array.range 0= #[] from by simp[Array.range]]
   obtain⟨hd',Fp',h1,h2,h3⟩:=h.newSlice h.heap (w.alloc (.cells #[] e)) #[] e (szOf P e) 0 0 [] [] (Free.nil _ _ _ _) (by simp) (by simp) (fun b hb=>heap_alloc_old w _ b hb) (heap_alloc_new w _) rfl rfl rfl rfl (Nat.le_refl _) (by simp) (by simp) trivial (by simp[TLL])
   exact⟨_,_,hrun,⟨_,_,_,I,hd',Fp',.inl rfl,hk,h3,h1,h2,Nat.le_succ _⟩,sameB_alloc w _⟩
  ·rename_i hl0
   split at hk
   ·rename_i zs e1
    obtain⟨hzl,hk⟩:=hk
    split at hk
    ·rename_i cs hf
     split at hk
     ·rename_i ts h' hcon
      obtain⟨i2,z,hi2,hz2,hs,_⟩:=zeroCells_some (hd:=hd) (I:=I) (w:=w) e1 s.next
      obtain rfl:=Option.some.inj (hi.symm.trans hi2)
      have hzs:z.cells.size=szOf P e:=by have:=hs.length;rw[hzl] at this;simpa using this
      have hm:=made_SL hs len
      rw[hzl] at hm
      obtain⟨r,h1,h2⟩:=fill_sound hp hm hf
      have hrl:r.toList.length=len*szOf P e:=by
       have e4:=h2.length
       have:cs.length=len*szOf P e:=by
        have hx: ∀(place:Nat→Option (Nat×Nat)) (parts:List (Nat×AV)) (cells cs:List AV),fillA place cells parts=some cs→cs.length=cells.length:=by
         intro place parts
         induction parts with
         | nil=>intro cells cs hc;simp only[fillA,Option.some.injEq] at hc;rw[hc]
         | cons p parts ih=>
          intro cells cs hc
          obtain⟨j,y⟩:=p
          simp only[fillA] at hc
          split at hc
          ·split at hc
           ·rw[ih _ _ hc]
            have hy: ∀(cs:List AV) (k:Nat) (cells:List AV),(setsA cells k cs).length=cells.length:=by
             intro cs
             induction cs with
             | nil=>intro k cells;rfl
             | cons c cs ih=>intro k cells;simp[setsA,ih]
            exact hy _ _ _
           ·cases hc
          ·cases hc
        rw[hx _ _ _ _ hf,flat_rep_length,hzl]
       rw[e4,this]
      have hrun:=run_buildSlice (P:=P) w t e len pv.toArray r i z (tk_slice ht) hi hz2 (by rw[hiz];omega) (by rw[hiz];exact Nat.mul_ne_zero hl0 hz) (by rw[hiz];simpa [madeCells] using h1)
      obtain⟨F,hr',hT,hfree,hsub,hown⟩:=conL_sound h.heap h2 hcon
      have htl:ts.length=len*szOf P e:=by rw[←hT.length,hrl]
      have hTL:=TL.chunk (sz:=szOf P e) hT htl
      obtain⟨hd',Fp',g1,g2,g3⟩:=h.newSlice hr' (w.alloc (.cells r e)) r e (szOf P e) len len (chunk (szOf P e) len ts) F hfree (fun b hb=>by obtain⟨id,o,ho,hb'⟩:=hown b hb;exact h.heap.ltB ho b hb') (by simp) (fun b hb=>heap_alloc_old w _ b hb) (heap_alloc_new w _) rfl rfl rfl
       (chunk_length _ _ _) (Nat.le_refl _) (by simp only[maxLen];have:len*1≤len*szOf P e:=Nat.mul_le_mul_left _ (by omega);omega) (by rw[←Array.length_toList,hrl];exact Nat.le_refl _) (chunk_each htl) (by rw[←hrl,List.take_length];exact hTL)
      exact⟨_,_,hrun,⟨_,_,_,I,hd',Fp',.inl rfl,hk,g3,g1,g2,Nat.le_succ _⟩,sameB_alloc w _⟩
     ·exact hk.elim
    ·exact hk.elim
   ·exact hk.elim
 ·exact hk.elim
theorem makeSliceK_sound(h:SR G M I s hd Fp a w){t:TypeId}{l c:AV}{vl vc:Value}(hk:makeSliceK P s t l c K)(hl:S hd s.next w I l vl)(hc:S hd s.next w I c vc):
  ∃v w',(Instr.makeSlice t vl vc).run P w= .ok v w'∧OpRes G M I s hd a w K (.value v) w'∧SameB w w':=by
 unfold makeSliceK at hk
 split at hk
 ·rename_i e k1 l k2 c ht
  obtain⟨hz,h0,h1,hby,h63,hk⟩:=hk
  split at hk
  ·rename_i zs e1
   obtain⟨hzl,hF,hk⟩:=hk
   obtain⟨i,z,hi,hz2,hs,_⟩:=zeroCells_some (hd:=hd) (I:=I) (w:=w) e1 s.next
   obtain⟨i2,hi2,hiz⟩:=szOf_pos hz
   obtain rfl:=Option.some.inj (hi.symm.trans hi2)
   have hbi:byOf P e=i.bytes:=by simp[byOf,hi]
   simp only[S] at hl hc
   subst hl;subst hc
   have hrun:=run_make (P:=P) w t e i z (tk_slice ht) hi hz2 k1 k2 l c h0 h1 (by rw[hbi] at hby;omega) h63
   rw[hiz] at hrun
   have hm:=made_SL hs c.toNat
   rw[hzl] at hm
   have hT:=allF_TL (allF_rep hF l.toNat) ((made_SL hs l.toNat))
   have hlist:(madeCells z.cells (c.toNat*szOf P e)).toList.take (l.toNat*szOf P e)=(madeCells z.cells (l.toNat*szOf P e)).toList:=by
    have hle:l.toNat*szOf P e≤c.toNat*szOf P e:=Nat.mul_le_mul_right _ (by omega)
    apply List.ext_getElem?
    intro j
    rw[List.getElem?_take]
    by_cases hj:j<l.toNat*szOf P e
    ·rw[if_pos hj,made_get _ _ _ (by omega),made_get _ _ _ hj]
    ·rw[if_neg hj]
     rw[List.getElem?_eq_none (by simp[madeCells];omega)]
   rw[hzl] at hT
   obtain⟨hd',Fp',g1,g2,g3⟩:=h.newSlice h.heap (w.alloc (.cells (madeCells z.cells (c.toNat*szOf P e)) e)) _ e (szOf P e) l.toNat c.toNat (List.replicate l.toNat zs) [] (Free.nil _ _ _ _) (by simp) (by simp) (fun b hb=>heap_alloc_old w _ b hb) (heap_alloc_new w _) rfl rfl rfl
    (by simp) (by omega) (by simp only[maxLen];omega) (by simp[madeCells]) (by have:=Each_rep (zs:=zs) l.toNat;rwa [hzl] at this) (by rw[hlist];exact TLL_rep _ hT)
   exact⟨_,_,hrun,⟨_,_,_,I,hd',Fp',.inl rfl,hk,g3,g1,g2,Nat.le_succ _⟩,sameB_alloc w _⟩
  ·exact hk.elim
 ·exact hk.elim
end
theorem eqs_setsA:True:=by
 have:= @setsA.eq_1
 trivial
theorem eqs_buildK:True:=by
 have:= @buildK.eq_1
 trivial
theorem eqs_buildSliceK:True:=by
 have:= @buildSliceK.eq_1
 trivial
theorem eqs_makeSliceK:True:=by
 have:= @makeSliceK.eq_1
 trivial
end Go.Proofs.YthggfnefjbckeaaGreatDoor.X
set_option linter.unusedVariables false
set_option linter.unusedSimpArgs false
namespace Go.Proofs.YthggfnefjbckeaaGreatDoor.X
open Go
section sets
variable{α:Type}
theorem setsA_length: ∀(us:List α) (k:Nat) (l:List α),(setsA l k us).length=l.length
 | [],_,_=>rfl
 | u::us,k,l=>by simp[setsA,setsA_length us]
theorem setsA_eq: ∀(us:List α) (k:Nat) (l:List α),k+us.length≤l.length→setsA l k us=l.take k++us++l.drop (k+us.length)
 | [],k,l,_=>by simp[setsA]
 | u::us,k,l,h=>by
  simp only[List.length_cons] at h
  rw[setsA,setsA_eq us (k+1) (l.set k u) (by simp;omega)]
  have h1:(l.set k u).take (k+1)=l.take k++[u]:=by
   rw[List.take_succ_eq_append_getElem (by simp;omega)]
   simp[List.take_set,List.getElem_set]
   exact List.set_eq_of_length_le (by simp;omega)
  have h2:(l.set k u).drop (k+1+us.length)=l.drop (k+(us.length+1)):=by
   rw[List.drop_set_of_lt (by omega)]
   congr 1
   omega
  rw[h1,h2]
  simp
theorem setsA_drop: ∀(us:List α) (o k:Nat) (l:List α),(setsA l (o+k) us).drop o=setsA (l.drop o) k us
 | [],_,_,_=>rfl
 | u::us,o,k,l=>by
  rw[setsA,setsA,show o+k+1=o+(k+1) by omega,setsA_drop us o (k+1)]
  congr 1
  rw[List.drop_set,if_neg (by omega)]
  congr 1
  omega
theorem setsA_take: ∀(us:List α) (k n:Nat) (l:List α),k+us.length≤n→(setsA l k us).take n=setsA (l.take n) k us
 | [],_,_,_,_=>rfl
 | u::us,k,n,l,h=>by
  simp only[List.length_cons] at h
  rw[setsA,setsA,setsA_take us (k+1) n _ (by omega),List.take_set]
end sets
def isSc:AV→Bool
 | .int .. | .bool _ | .str _=>true
 | _=>false
def allSc:List AV→Bool
 | []=>true
 | x::xs=>isSc x&&allSc xs
def isSn:AV→Bool
 | .int .. | .bool _ | .str _ | .nil=>true
 | _=>false
def allSn:List AV→Bool
 | []=>true
 | x::xs=>isSn x&&allSn xs
def noSl(v:Value):Prop:= ∀A n c,v≠ .slice (some A) n c
theorem isSn_S{hd:Nat→Value}{n:Nat}{w:World}{I:Nat→Prop}{x:AV}{v:Value}(h:isSn x=true)(hS:S hd n w I x v):noSl v:=by
 cases x<;>simp[isSn] at h<;>simp only[S] at hS<;>subst hS<;>exact fun A n c=>by simp
theorem isSc_T{w:World}{I:Nat→Prop}{x:AV}{v:Value}{F:List Nat}(h:isSc x=true)(hT:T w I x v F):F=[]∧noSl v∧v.oneCell'=true:=by
 cases x<;>simp[isSc] at h<;>simp only[T] at hT<;>obtain⟨rfl,rfl⟩:=hT<;>exact⟨rfl,fun A n c=>by simp,rfl⟩
theorem isSc_S{hd:Nat→Value}{n:Nat}{w:World}{I:Nat→Prop}{x:AV}{v:Value}(h:isSc x=true)(hS:S hd n w I x v):noSl v∧ ∀w' I',T w' I' x v []:=by
 cases x<;>simp[isSc] at h<;>simp only[S] at hS<;>subst hS<;>exact⟨fun A n c=>by simp,fun w' I'=>by simp[T]⟩
mutual
def killS:AV→AV
 | .ref id (some _) sz off len=> .any
 | .ptr id (some _) sz i c=> .any
 | .fn f caps=> .fn f (killL caps)
 | .agg cs=> .agg (killL cs)
 | .tup xs=> .tup (killL xs)
 | x=>x
def killL:List AV→List AV
 | []=>[]
 | x::xs=>killS x::killL xs
end
def killH:Heap→Heap
 | []=>[]
 | (i,.var cs)::h=>(i,.var (killL cs))::killH h
 | (i,.slice sz es)::h=>(i,.slice sz es)::killH h
def killSt(s:St):St:=⟨killL s.tmps,killH s.heap,s.next⟩
def killO:Ob→Ob
 | .var cs=> .var (killL cs)
 | o=>o
theorem hget_kill: ∀(h:Heap) (j:Nat),hget (killH h) j=(hget h j).map killO
 | [],_=>rfl
 | (i,.var cs)::h,j=>by
  simp only[killH,hget]
  split<;>simp[killO,hget_kill h]
 | (i,.slice sz es)::h,j=>by
  simp only[killH,hget]
  split<;>simp[killO,hget_kill h]
section
variable{hd hd':Nat→Value}{n n':Nat}{w w':World}{I I':Nat→Prop}
mutual
theorem S.kill(hn:n≤n')(hI: ∀b,I b→I' b∧w'.heap[b]?=w.heap[b]?)(hH: ∀id,id<n→hd' id=hd id):
  ∀(x:AV) (v:Value),S hd n w I x v→S hd' n' w' I' (killS x) v
 | .ref id none sz off len,v,h=>by
  simp only[S,killS,HdOf] at h⊢
  obtain⟨hid,h0,h1,h2⟩:=h
  exact⟨Nat.lt_of_lt_of_le hid hn,h0,by rw[hH id hid];exact h1,h2⟩
 | .ref id (some p) sz off len,v,h=>by simp only[S,killS]
 | .ptr id none sz i c,v,h=>by
  simp only[S,killS,HdOf] at h⊢
  obtain⟨hid,h0,b,o,h1,h2,h3⟩:=h
  exact⟨Nat.lt_of_lt_of_le hid hn,h0,b,o,by rw[hH id hid];exact h1,h2,h3⟩
 | .ptr id (some p) sz i c,v,h=>by simp only[S,killS]
 | .fn f caps,v,h=>by
  simp only[S,killS] at h⊢
  obtain⟨vs,hv,ht⟩:=h
  exact⟨vs,hv,SL.kill hn hI hH caps _ ht⟩
 | .agg cs,v,h=>by
  simp only[S,killS] at h⊢
  obtain⟨vs,hv,ht⟩:=h
  exact⟨vs,hv,SL.kill hn hI hH cs _ ht⟩
 | .tup xs,v,h=>by
  simp only[S,killS] at h⊢
  obtain⟨vs,hv,ht⟩:=h
  exact⟨vs,hv,SV.kill hn hI hH xs _ ht⟩
 | .ow _ _,v,h=>by simp only[S] at h
 | .op _,v,h=>by simp only[S] at h
 | .any,v,h=>by simp only[S,killS]
 | .con u,v,h=>by simpa only[S,killS] using h
 | .int k m,v,h=>by simpa only[S,killS] using h
 | .bool b,v,h=>by simpa only[S,killS] using h
 | .str s,v,h=>by simpa only[S,killS] using h
 | .nil,v,h=>by simpa only[S,killS] using h
 | .sl es,v,h=>by simp only[S,killS] at h⊢;exact T.frame hI _ _ _ h (by simp)
 | .pf cs,v,h=>by simp only[S,killS] at h⊢;exact T.frame hI _ _ _ h (by simp)
theorem SL.kill(hn:n≤n')(hI: ∀b,I b→I' b∧w'.heap[b]?=w.heap[b]?)(hH: ∀id,id<n→hd' id=hd id):
  ∀(xs:List AV) (vs:List Value),SL hd n w I xs vs→SL hd' n' w' I' (killL xs) vs
 | [],vs,h=>by simpa only[SL,killL] using h
 | x::xs,vs,h=>by
  simp only[SL,killL] at h⊢
  obtain⟨v,vs',rfl,h1,hx,hxs⟩:=h
  exact⟨v,vs',rfl,h1,S.kill hn hI hH x v hx,SL.kill hn hI hH xs vs' hxs⟩
theorem SV.kill(hn:n≤n')(hI: ∀b,I b→I' b∧w'.heap[b]?=w.heap[b]?)(hH: ∀id,id<n→hd' id=hd id):
  ∀(xs:List AV) (vs:List Value),SV hd n w I xs vs→SV hd' n' w' I' (killL xs) vs
 | [],vs,h=>by simpa only[SV,killL] using h
 | x::xs,vs,h=>by
  simp only[SV,killL] at h⊢
  obtain⟨v,vs',rfl,hx,hxs⟩:=h
  exact⟨v,vs',rfl,S.kill hn hI hH x v hx,SV.kill hn hI hH xs vs' hxs⟩
end
end
theorem killL_eq: ∀xs:List AV,killL xs=xs.map killS
 | []=>rfl
 | x::xs=>by simp[killL,killL_eq xs]
theorem TL.upd{w w':World}{I:Nat→Prop}{b:Nat}(hb: ∀b',b'≠b→w'.heap[b']?=w.heap[b']?)(hIb: ¬I b): ∀{xs:List AV} {vs:List Value} {F:List Nat},TL w I xs vs F→F.Nodup→ ∀{k:Nat} {x y:AV},xs[k]?=some x→
  (∀v Fx,vs[k]?=some v→T w I x v Fx→Fx.Sublist F→T w' I y v Fx∧b∈Fx)→TL w' I (xs.set k y) vs F∧b∈F
 | [],vs,F,h,_,k,x,y,hx,_=>by simp at hx
 | z::xs,vs,F,h,hn,0,x,y,hx,hT=>by
  simp only[TL] at h
  obtain⟨v,vs',F1,F2,rfl,rfl,h1,hz,hxs⟩:=h
  simp at hx
  subst hx
  obtain⟨h2,h3⟩:=hT v F1 rfl hz (List.sublist_append_left _ _)
  refine⟨?_,by simp[h3]⟩
  simp only[List.set_cons_zero,TL]
  refine⟨v,vs',F1,F2,rfl,rfl,h1,h2,TL.frame (fun b' hI=>⟨hI,hb b' (fun e=>hIb (e▸hI))⟩) xs vs' F2 hxs (fun b' hm=>hb b' ?_)⟩
  rintro rfl
  exact(List.nodup_append.1 hn).2.2 _ h3 _ hm rfl
 | z::xs,vs,F,h,hn,k+1,x,y,hx,hT=>by
  simp only[TL] at h
  obtain⟨v,vs',F1,F2,rfl,rfl,h1,hz,hxs⟩:=h
  simp at hx
  obtain⟨h2,h3⟩:=TL.upd hb hIb hxs (List.nodup_append.1 hn).2.1 hx (fun u Fx hu hTx hs=>hT u Fx (by simpa using hu) hTx (hs.trans (List.sublist_append_right _ _)))
  refine⟨?_,by simp[h3]⟩
  simp only[List.set_cons_succ,TL]
  refine⟨v,vs',F1,F2,rfl,rfl,h1,T.frame (fun b' hI=>⟨hI,hb b' (fun e=>hIb (e▸hI))⟩) z v F1 hz (fun b' hm=>hb b' ?_),h2⟩
  rintro rfl
  exact(List.nodup_append.1 hn).2.2 _ hm _ h3 rfl
theorem TLL.upd{w w':World}{I:Nat→Prop}{b sz:Nat}(hb: ∀b',b'≠b→w'.heap[b']?=w.heap[b']?)(hIb: ¬I b): ∀{es:List (List AV)} {vs:List Value} {F:List Nat},TLL w I es vs F→F.Nodup→Each sz es→ ∀{i k:Nat} {e:List AV} {x y:AV},es[i]?=some e→e[k]?=some x→
  (∀v Fx,vs[i*sz+k]?=some v→T w I x v Fx→Fx.Sublist F→T w' I y v Fx∧b∈Fx)→TLL w' I (es.set i (e.set k y)) vs F∧b∈F
 | [],vs,F,h,_,_,i,k,e,x,y,he,_,_=>by simp at he
 | z::es,vs,F,h,hn,hE,0,k,e,x,y,he,hx,hT=>by
  simp only[TLL] at h
  obtain⟨v1,v2,F1,F2,rfl,rfl,hz,hxs⟩:=h
  simp at he
  subst he
  have hkl:k<v1.length:=by rw[hz.length];exact(List.getElem?_eq_some_iff.1 hx).1
  obtain⟨h2,h3⟩:=TL.upd hb hIb hz (List.nodup_append.1 hn).1 (y:=y) hx (fun v Fx hv hTx hs=>hT v Fx (by rw[Nat.zero_mul,Nat.zero_add,List.getElem?_append_left hkl];exact hv) hTx (hs.trans (List.sublist_append_left _ _)))
  refine⟨?_,by simp[h3]⟩
  simp only[List.set_cons_zero,TLL]
  refine⟨v1,v2,F1,F2,rfl,rfl,h2,TLL.frame (fun b' hI=>⟨hI,hb b' (fun e=>hIb (e▸hI))⟩) es v2 F2 hxs (fun b' hm=>hb b' ?_)⟩
  rintro rfl
  exact(List.nodup_append.1 hn).2.2 _ h3 _ hm rfl
 | z::es,vs,F,h,hn,hE,i+1,k,e,x,y,he,hx,hT=>by
  simp only[TLL] at h
  obtain⟨v1,v2,F1,F2,rfl,rfl,hz,hxs⟩:=h
  simp at he
  have hl:=hz.length
  have h1:=hE.1
  obtain⟨h2,h3⟩:=TLL.upd hb hIb hxs (List.nodup_append.1 hn).2.1 hE.2 (y:=y) he hx (fun v Fx hv hTx hs=>hT v Fx (by
   rw[List.getElem?_append_right (by rw[Nat.add_mul];omega)]
   rw[←hv]
   congr 1
   rw[Nat.add_mul]
   omega) hTx (hs.trans (List.sublist_append_right _ _)))
  refine⟨?_,by simp[h3]⟩
  simp only[List.set_cons_succ,TLL]
  refine⟨v1,v2,F1,F2,rfl,rfl,TL.frame (fun b' hI=>⟨hI,hb b' (fun e=>hIb (e▸hI))⟩) z v1 F1 hz (fun b' hm=>hb b' ?_),h2⟩
  rintro rfl
  exact(List.nodup_append.1 hn).2.2 _ hm _ h3 rfl
theorem eqs_isSn:True:=by
 have:= @isSn.eq_1
 trivial
theorem eqs_allSn:True:=by
 have:= @allSn.eq_1
 trivial
theorem eqs_isSc:True:=by
 have:= @isSc.eq_1
 trivial
theorem eqs_allSc:True:=by
 have:= @allSc.eq_1
 trivial
theorem eqs_killL:True:=by
 have:= @killL.eq_1
 trivial
theorem eqs_killH:True:=by
 have:= @killH.eq_1
 trivial
theorem eqs_killSt:True:=by
 have:= @killSt.eq_1
 trivial
end Go.Proofs.YthggfnefjbckeaaGreatDoor.X
set_option linter.unusedVariables false
set_option linter.unusedSimpArgs false
namespace Go.Proofs.YthggfnefjbckeaaGreatDoor.X
open Go
theorem TL.setsc{w:World}{I:Nat→Prop}: ∀{xs:List AV} {vs:List Value} {F:List Nat},TL w I xs vs F→ ∀{k:Nat} {x y:AV} {u:Value},xs[k]?=some x→isSc x=true→T w I y u []→u.oneCell'=true→TL w I (xs.set k y) (vs.set k u) F
 | [],vs,F,h,k,x,y,u,hx,_,_,_=>by simp at hx
 | z::xs,vs,F,h,0,x,y,u,hx,hs,hy,h1=>by
  simp only[TL] at h
  obtain⟨v,vs',F1,F2,rfl,rfl,g1,hz,hxs⟩:=h
  simp at hx;subst hx
  obtain⟨rfl,_⟩:=isSc_T hs hz
  simp only[List.set_cons_zero,TL]
  exact⟨u,vs',[],F2,rfl,rfl,h1,hy,hxs⟩
 | z::xs,vs,F,h,k+1,x,y,u,hx,hs,hy,h1=>by
  simp only[TL] at h
  obtain⟨v,vs',F1,F2,rfl,rfl,g1,hz,hxs⟩:=h
  simp only[List.set_cons_succ,TL]
  exact⟨v,_,F1,F2,rfl,rfl,g1,hz,TL.setsc hxs (by simpa using hx) hs hy h1⟩
theorem TLL.setsc{w:World}{I:Nat→Prop}{sz:Nat}: ∀{es:List (List AV)} {vs:List Value} {F:List Nat},TLL w I es vs F→Each sz es→ ∀{i k:Nat} {e:List AV} {x y:AV} {u:Value},es[i]?=some e→e[k]?=some x→isSc x=true→T w I y u []→u.oneCell'=true→
  TLL w I (es.set i (e.set k y)) (vs.set (i*sz+k) u) F
 | [],vs,F,h,_,i,k,e,x,y,u,he,_,_,_,_=>by simp at he
 | z::es,vs,F,h,hE,0,k,e,x,y,u,he,hx,hs,hy,h1=>by
  simp only[TLL] at h
  obtain⟨v1,v2,F1,F2,rfl,rfl,hz,hxs⟩:=h
  simp at he;subst he
  have hkl:k<v1.length:=by rw[hz.length];exact(List.getElem?_eq_some_iff.1 hx).1
  simp only[List.set_cons_zero,TLL]
  exact⟨v1.set k u,v2,F1,F2,by rw[Nat.zero_mul,Nat.zero_add,List.set_append_left _ _ hkl],rfl,hz.setsc hx hs hy h1,hxs⟩
 | z::es,vs,F,h,hE,i+1,k,e,x,y,u,he,hx,hs,hy,h1=>by
  simp only[TLL] at h
  obtain⟨v1,v2,F1,F2,rfl,rfl,hz,hxs⟩:=h
  simp at he
  have hl:=hz.length
  have g1:=hE.1
  simp only[List.set_cons_succ,TLL]
  refine⟨v1,v2.set (i*sz+k) u,F1,F2,?_,rfl,hz,TLL.setsc hxs hE.2 he hx hs hy h1⟩
  rw[Nat.add_mul,List.set_append_right _ _ (by omega)]
  congr 2
  omega
def Scs:List AV→List Value→Prop
 | [],us=>us=[]
 | y::ys,us=> ∃u us',us=u::us'∧isSc y=true∧u.oneCell'=true∧noSl u∧(∀w I,T w I y u [])∧Scs ys us'
theorem Scs.length: ∀{ys:List AV} {us:List Value},Scs ys us→us.length=ys.length
 | [],us,h=>by simp only[Scs] at h;simp[h]
 | y::ys,us,h=>by
  simp only[Scs] at h
  obtain⟨u,us',rfl,_,_,_,_,ht⟩:=h
  simp[Scs.length ht]
theorem Scs.ones: ∀{ys:List AV} {us:List Value},Scs ys us→ ∀u∈us,u.oneCell'=true
 | [],us,h,u,hu=>by simp only[Scs] at h;simp[h] at hu
 | y::ys,us,h,u,hu=>by
  simp only[Scs] at h
  obtain⟨v,us',rfl,_,h1,_,_,ht⟩:=h
  rcases List.mem_cons.1 hu with rfl | hu
  ·exact h1
  ·exact Scs.ones ht u hu
theorem Scs.of{hd:Nat→Value}{n:Nat}{w:World}{I:Nat→Prop}: ∀{ys:List AV} {us:List Value},allSc ys=true→SL hd n w I ys us→Scs ys us
 | [],us,_,h=>by simpa only[SL,Scs] using h
 | y::ys,us,hs,h=>by
  simp only[allSc,Bool.and_eq_true] at hs
  simp only[SL] at h
  obtain⟨v,us',rfl,h1,hy,ht⟩:=h
  obtain⟨h2,h3⟩:=isSc_S hs.1 hy
  simp only[Scs]
  exact⟨v,us',rfl,hs.1,h1,h2,h3,Scs.of hs.2 ht⟩
theorem TLL.setsAsc{w:World}{I:Nat→Prop}{sz i:Nat}: ∀{ys:List AV} {us:List Value} (hs:Scs ys us) {k:Nat} {es:List (List AV)} {e:List AV} {vs:List Value} {F:List Nat},TLL w I es vs F→Each sz es→es[i]?=some e→k+ys.length≤e.length→
  allSc ((e.drop k).take ys.length)=true→TLL w I (es.set i (setsA e k ys)) (setsA vs (i*sz+k) us) F∧Each sz (es.set i (setsA e k ys))
 | [],us,hs,k,es,e,vs,F,h,hE,he,_,_=>by
  simp only[Scs] at hs;subst hs
  simp only[setsA]
  have:es.set i e=es:=by
   apply List.ext_getElem?
   intro j
   rw[List.getElem?_set]
   split
   ·rename_i hij;subst hij
    rw[he];simp[(List.getElem?_eq_some_iff.1 he).1]
   ·rfl
  rw[this]
  exact⟨h,hE⟩
 | y::ys,us,hs,k,es,e,vs,F,h,hE,he,hk,hold=>by
  simp only[Scs] at hs
  obtain⟨u,us',rfl,hy,h1,_,hT,hs⟩:=hs
  simp only[List.length_cons] at hk hold
  have hkl:k<e.length:=by omega
  have hx:e[k]?=some e[k]:=List.getElem?_eq_getElem hkl
  have hd:(e.drop k).take (ys.length+1)=e[k]::((e.set k y).drop (k+1)).take ys.length:=by
   rw[List.drop_eq_getElem_cons hkl,List.take_succ_cons,List.drop_set_of_lt (by omega)]
  rw[hd] at hold
  simp only[allSc,Bool.and_eq_true] at hold
  have hilen:i<es.length:=(List.getElem?_eq_some_iff.1 he).1
  have hsz:=hE.mem e (List.mem_of_getElem? he)
  have h2:=h.setsc hE he hx hold.1 (hT w I) h1
  have hE2:Each sz (es.set i (e.set k y)):=Each.of_mem fun z hz=>by
   rcases List.mem_or_eq_of_mem_set hz with hz | rfl
   ·exact hE.mem z hz
   ·simpa using hsz
  have:=TLL.setsAsc (i:=i) hs (k:=k+1) h2 hE2 (e:=e.set k y) (by rw[List.getElem?_set_self hilen]) (by simp;omega) hold.2
  simp only[List.set_set] at this
  simp only[setsA]
  rw[show i*sz+k+1=i*sz+(k+1) by omega]
  exact this
theorem setRow_size(w:World)(b:Nat)(cs:Array Value):(w.setRow b cs).heap.size=w.heap.size:=by simp[World.setRow]
theorem ow_store{w:World}{I:Nat→Prop}{sz i c b o:Nat}{es:List (List AV)}{hv:Value}{F:List Nat}{e:List AV}{ys:List AV}{us:List Value}{cur:Array Value}{ty:TypeId}
  (h:T w I (.ow sz es) hv F) (hn:F.Nodup) (hI: ∀b∈F,¬I b) (he:es[i]?=some e) (hc:c+ys.length≤e.length) (hold:allSc ((e.drop c).take ys.length)=true) (hs:Scs ys us)
  (hb:BaseOf hv b o) (hh:w.heap[b]?=some (.cells cur ty (0,0))):
  T (w.setRow b (setsA cur.toList (o+(i*sz+c)) us).toArray) I (.ow sz (es.set i (setsA e c ys))) hv F∧b∈F∧o+(i*sz+c)+us.length≤cur.size∧(∀j,j<us.length→ ∃v,cur.toList[o+(i*sz+c)+j]?=some v∧noSl v):=by
 have hT:=h
 simp only[T] at h
 rcases h with ⟨rfl,_,_⟩ | ⟨b',o',k,cur',ty',vs,Fs,rfl,hh',hck,hm,ho,hE,rfl,ht,rfl⟩
 ·simp at he
 ·obtain⟨rfl,rfl⟩:=hb.uniq (.inl ⟨_,_,rfl⟩)
  obtain⟨rfl,rfl⟩:cur=cur'∧ty=ty':=by
   have:=Option.some.inj (hh.symm.trans hh')
   simp only[Obj.cells.injEq] at this
   exact⟨this.1,this.2.1⟩
  have hil:i<es.length:=(List.getElem?_eq_some_iff.1 he).1
  have hel:=hE.mem e (List.mem_of_getElem? he)
  have hlen:=hs.length
  have hbnd:i*sz+c+us.length≤es.length*sz:=by
   have:(i+1)*sz≤es.length*sz:=Nat.mul_le_mul_right _ hil
   rw[Nat.add_mul] at this
   omega
  have hks:es.length*sz≤k*sz:=Nat.mul_le_mul_right _ hck
  have hother: ∀b',b'≠b→(w.setRow b (setsA cur.toList (o+(i*sz+c)) us).toArray).heap[b']?=w.heap[b']?:=fun b' hb'=>setRow_other w b b' _ hb'
  have hbF:=(List.nodup_cons.1 hn).1
  have ht2:TLL (w.setRow b (setsA cur.toList (o+(i*sz+c)) us).toArray) I es ((cur.toList.drop o).take (es.length*sz)) Fs:=
   TLL.frame (fun b' hb'=>⟨hb',hother b' (fun e=>hI b (by simp) (e▸hb'))⟩) es _ Fs ht (fun b' hb'=>hother b' (fun e=>hbF (e▸hb')))
  obtain⟨h3,h4⟩:=TLL.setsAsc (i:=i) hs (k:=c) ht2 hE he hc hold
  refine⟨?_,by simp,by omega,?_⟩
  ·simp only[T]
   refine .inr ⟨b,o,k,(setsA cur.toList (o+(i*sz+c)) us).toArray,ty,_,Fs,by rw[List.length_set],setRow_heap w b cur _ ty _ hh,by rw[List.length_set];exact hck,hm,by simpa [setsA_length] using ho,h4,?_,h3,rfl⟩
   rw[List.length_set,setsA_drop,setsA_take _ _ _ _ hbnd]
  ·intro j hj
   have hcj:c+j<e.length:=by omega
   have hx:e[c+j]?=some e[c+j]:=List.getElem?_eq_getElem hcj
   obtain⟨b2,o2,cur2,ty2,v,Gp,hb2,hh2,hv,h1,hTx,_,_⟩:=ow_cell hT he hx
   obtain⟨rfl,rfl⟩:=hb2.uniq (.inl ⟨_,_,rfl⟩)
   obtain⟨rfl,rfl⟩:cur=cur2∧ty=ty2:=by
    have:=Option.some.inj (hh.symm.trans hh2)
    simp only[Obj.cells.injEq] at this
    exact⟨this.1,this.2.1⟩
   refine⟨v,by rw[←hv];congr 1;omega,?_⟩
   have hsc:isSc e[c+j]=true:=by
    have hmem:e[c+j]∈(e.drop c).take ys.length:=by
     refine List.mem_of_getElem? (i:=j) ?_
     rw[List.getElem?_take,if_pos (by omega),List.getElem?_drop,hx]
    have hall: ∀(l:List AV),allSc l=true→ ∀x∈l,isSc x=true:=by
     intro l
     induction l with
     | nil=>intro _ x hx;cases hx
     | cons y l ih=>
      intro h x hx
      simp only[allSc,Bool.and_eq_true] at h
      rcases List.mem_cons.1 hx with rfl | hx
      ·exact h.1
      ·exact ih h.2 x hx
    exact hall _ hold _ hmem
   exact(isSc_T hsc hTx).2.1
theorem fr_store{w:World}{I:Nat→Prop}{n:Nat}{hd:Nat→Value}{b p:Nat}{cur:Array Value}{ty:TypeId}{us:List Value}(hh:w.heap[b]?=some (.cells cur ty (0,0)))(hI: ¬I b)(hfit:p+us.length≤cur.size)
  (hold: ∀j,j<us.length→ ∃v,cur.toList[p+j]?=some v∧noSl v):Fr I I n n hd hd w (w.setRow b (setsA cur.toList p us).toArray):=by
 have hother: ∀b',b'≠b→(w.setRow b (setsA cur.toList p us).toArray).heap[b']?=w.heap[b']?:=fun b' hb'=>setRow_other w b b' _ hb'
 refine⟨Nat.le_refl _,fun b' hb'=>⟨hb',hother b' (fun e=>hI (e▸hb'))⟩,fun id hid sub v hv=>?_⟩
 cases sub with
 | none=>exact hv
 | some q=>
  obtain⟨szo,i,c⟩:=q
  simp only[HdOf] at hv⊢
  obtain⟨A,m,k,rfl,rfl | ⟨b',o',hbo,hc⟩⟩:=hv
  ·exact⟨none,m,k,rfl,.inl rfl⟩
  cases A with
  | none=>exact⟨none,m,k,rfl,.inl rfl⟩
  | some A=>
  refine⟨some A,m,k,rfl,.inr ⟨b',o',hbo,?_⟩⟩
  by_cases hbb:b'=b
  ·subst hbb
   have hnew:=setRow_heap w b' cur (setsA cur.toList p us).toArray ty (0,0) hh
   simp only[World.cell?,hh,Option.isSome_none,Bool.false_eq_true,if_false] at hc
   simp only[World.cell?,hnew,Option.isSome_none,Bool.false_eq_true,if_false]
   rw[setsA_eq us p cur.toList (by simpa using hfit)]
   have hq:cur.toList[o'+(i*szo+c)]?=some (.slice (some A) m k):=by simpa using hc
   generalize o'+(i*szo+c)=q at hq
   have hne: ¬(p≤q∧q<p+us.length):=by
    rintro⟨h1,h2⟩
    obtain⟨u,hu,hns⟩:=hold (q-p) (by omega)
    rw[show p+(q-p)=q by omega,hq] at hu
    exact hns A m k (Option.some.inj hu).symm
   simp only[List.getElem?_toArray]
   by_cases h1:q<p
   ·rw[List.append_assoc,List.getElem?_append_left (by simp;omega),List.getElem?_take,if_pos h1]
    exact hq
   ·rw[List.getElem?_append_right (by simp;omega),List.getElem?_drop]
    rw[←hq]
    congr 1
    simp
    omega
  ·exact(World.cell?_of_block (a:=⟨b',o'+(i*szo+c),none⟩) (hother b' hbb)).trans hc
end Go.Proofs.YthggfnefjbckeaaGreatDoor.X
set_option linter.unusedVariables false
set_option linter.unusedSimpArgs false
namespace Go.Proofs.YthggfnefjbckeaaGreatDoor.X
open Go
def setS(h:Heap)(id:Nat)(sub:Option (Nat×Nat×Nat))(es':List (List AV)):Heap:=
 match sub,hget h id with
 | none,some (.slice sz _)=>hset h id (.slice sz es')
 | some (szo,i,c),some (.slice sz es)=>match es[i]? with
  | some e=>match e[c]? with
   | some (.ow sz' _)=>hset h id (.slice sz (es.set i (e.set c (.ow sz' es'))))
   | _=>h
  | none=>h
 | _,_=>h
def storeK(P:Program)(s:St)(t:TypeId)(x v:AV)(K:St→Prop):Prop:=
 match x,cellsV v with
 | .ptr id sub sz i c,some cs=>szOf P t≠0∧cs.length=szOf P t∧match sub,hget s.heap id with
  | none,some (.var old)=>i=0∧c+cs.length≤old.length∧
   (if allSn ((old.drop c).take cs.length) then K ⟨s.tmps,hset s.heap id (.var (setsA old c cs)),s.next⟩
    else K (killSt ⟨s.tmps,hset s.heap id (.var (setsA old c cs)),s.next⟩))
  | _,_=>match getS s.heap id sub with
   | some (sz',es)=>sz'=sz∧match es[i]? with
    | some e=>c+cs.length≤e.length∧
     (if allSc cs=true∧allSc ((e.drop c).take cs.length)=true then K ⟨s.tmps,setS s.heap id sub (es.set i (setsA e c cs)),s.next⟩
      else sub=none∧match conL s.heap cs with
       | some (ys,h')=>match hget h' id with
         | some (.slice _ _)=>K (killSt ⟨s.tmps,hset h' id (.slice sz (es.set i (setsA e c ys))),s.next⟩)
         | _=>False
       | none=>False)
    | none=>False
   | none=>False
 | _,_=>False
theorem run_storeAt{P:Program}{w:World}{t ty:TypeId}{b p:Nat}{v:Value}{cur:Array Value}(hz:szOf P t≠0)(hv:v.cells.size=szOf P t)(hh:w.heap[b]?=some (.cells cur ty (0,0)))(hfit:p+v.cells.toList.length≤cur.size)
  (h1: ∀u∈v.cells.toList,u.oneCell'=true):(Instr.storeAt t (.pointer (some ⟨b,p,none⟩)) v).run P w= .ok () (w.setRow b (setsA cur.toList p v.cells.toList).toArray):=by
 have hst:=run_storeCells_at P b p ty v.cells.toList 0 cur w hh (by simpa using hfit) h1
 simp only[Nat.add_zero] at hst
 rw[←setsA_eq v.cells.toList p cur.toList (by simpa using hfit)] at hst
 simp[Instr.storeAt,Instr.sureAddr,storeVar,run_sizeOf hz,hv,hst]
section
variable{P:Program}{G:Glo}{M I:Nat→Prop}{s:St}{hd:Nat→Value}{Fp:Nat→List Nat}{a:Act}{w w':World}
theorem HR.kill{h:Heap}{n:Nat}(hr:HR G M I h n hd Fp w):HR G M I (killH h) n hd Fp w:=by
 have hg: ∀j u,hget (killH h) j=some u→ ∃u0,hget h j=some u0∧u=killO u0:=by
  intro j u hu
  rw[hget_kill] at hu
  obtain⟨u0,h1,h2⟩:=Option.map_eq_some_iff.1 hu
  exact⟨u0,h1,h2.symm⟩
 refine⟨fun j u hu=>?_,fun b hb=>⟨(hr.imm b hb).1,fun j u hu=>?_⟩,fun j u hu=>?_,fun j u j' u' hu hu'=>?_,fun j u hu=>?_,fun j u hu=>?_,hr.news,hr.glo⟩
 ·obtain⟨u0,h1,rfl⟩:=hg j u hu
  have:=hr.obj j u0 h1
  cases u0 with
  | slice sz es=>exact this
  | var cs=>
   obtain⟨b,cur,e,h2,h3,h4,h5⟩:=this
   exact⟨b,cur,e,h2,h3,SL.kill (Nat.le_refl _) (fun b hb=>⟨hb,rfl⟩) (fun _ _=>rfl) cs _ h4,h5⟩
 ·obtain⟨u0,h1,rfl⟩:=hg j u hu;exact(hr.imm b hb).2 j u0 h1
 ·obtain⟨u0,h1,rfl⟩:=hg j u hu;exact hr.nodup j u0 h1
 ·obtain⟨u0,h1,rfl⟩:=hg j u hu
  obtain⟨u0',h1',rfl⟩:=hg j' u' hu'
  exact hr.disj j u0 j' u0' h1 h1'
 ·obtain⟨u0,h1,rfl⟩:=hg j u hu;exact hr.mine j u0 h1
 ·obtain⟨u0,h1,rfl⟩:=hg j u hu;exact hr.next j u0 h1
theorem SR.killedK(h:SR G M I s hd Fp a w){M':Nat→Prop}{I':Nat→Prop}{h':Heap}{n':Nat}{hd':Nat→Value}{Fp':Nat→List Nat}(hr:HR G M' I' (killH h') n' hd' Fp' w')(hn:s.next≤n')(hI: ∀b,I b→I' b∧w'.heap[b]?=w.heap[b]?)
  (hH: ∀id,id<s.next→hd' id=hd id):SR G M' I' (killSt ⟨s.tmps,h',n'⟩) hd' Fp' a w':=by
 refine⟨hr,by simp[killSt,killL_eq,h.len],fun t=>?_,h.defers⟩
 have:=S.kill hn hI hH _ _ (h.slots t)
 simp only[killSt,killL_eq,List.getD_eq_getElem?_getD,List.getElem?_map] at this⊢
 cases hs:s.tmps[t]? with
 | none=>simp[S]
 | some x=>simpa [hs] using this
theorem SR.killed(h:SR G M I s hd Fp a w){M':Nat→Prop}{I':Nat→Prop}{h':Heap}{n':Nat}{hd':Nat→Value}{Fp':Nat→List Nat}(hr:HR G M' I' h' n' hd' Fp' w')(hn:s.next≤n')(hI: ∀b,I b→I' b∧w'.heap[b]?=w.heap[b]?)
  (hH: ∀id,id<s.next→hd' id=hd id):SR G M' I' (killSt ⟨s.tmps,h',n'⟩) hd' Fp' a w':=by
 refine⟨hr.kill,by simp[killSt,killL_eq,h.len],fun t=>?_,h.defers⟩
 have:=S.kill hn hI hH _ _ (h.slots t)
 simp only[killSt,killL_eq,List.getD_eq_getElem?_getD,List.getElem?_map] at this⊢
 cases hs:s.tmps[t]? with
 | none=>simp[S]
 | some x=>simpa [hs] using this
theorem keep_setRow{b:Nat}{cs:Array Value}(hM:M b):Keep M w (w.setRow b cs):=
 ⟨rfl,rfl,rfl,by rw[setRow_size];exact Nat.le_refl _,fun b' hb' hm=>setRow_other w b b' _ (fun e=>hm (e▸hM))⟩
theorem SL.setsA{n:Nat}: ∀{ys:List AV} {us:List Value} (hy:SL hd n w I ys us) {k:Nat} {xs:List AV} {vs:List Value},SL hd n w I xs vs→SL hd n w I (X.setsA xs k ys) (X.setsA vs k us)
 | [],us,hy,k,xs,vs,h=>by simp only[SL] at hy;subst hy;exact h
 | y::ys,us,hy,k,xs,vs,h=>by
  simp only[SL] at hy
  obtain⟨u,us',rfl,h1,hu,ht⟩:=hy
  simp only[X.setsA]
  exact SL.setsA ht (h.set k h1 hu)
theorem HR.setSame{h:Heap}{n:Nat}(hr:HR G M I h n hd Fp w){id:Nat}{o:Ob}(ho:hget h id=some o)(o':Ob)(hs:w'.heap.size=w.heap.size)(hb: ∀b,b∉Fp id→w'.heap[b]?=w.heap[b]?)
  (fr:Fr I I n n hd hd w w') (hno:ObjR hd n w' I o' (hd id) (Fp id)): ∃Fp',HR G M I (hset h id o') n hd Fp' w':=
 ⟨_,hr.set ho o' hs (Fp id) (hr.nodup id o ho) (hr.mine id o ho) (hr.notI ho) (fun j u hu hj b hb'=>hr.disj j u id o hu ho hj b hb') hb fr hno⟩
theorem allSn_noSl{n:Nat}: ∀{xs:List AV} {vs:List Value},allSn xs=true→SL hd n w I xs vs→ ∀v∈vs,noSl v
 | [],vs,_,h,v,hv=>by simp only[SL] at h;subst h;cases hv
 | x::xs,vs,hs,h,v,hv=>by
  simp only[allSn,Bool.and_eq_true] at hs
  simp only[SL] at h
  obtain⟨u,vs',rfl,h1,hx,ht⟩:=h
  rcases List.mem_cons.1 hv with rfl | hv
  ·exact isSn_S hs.1 hx
  ·exact allSn_noSl hs.2 ht v hv
theorem setS_sc{h:Heap}{n:Nat}(hr:HR G M I h n hd Fp w){id:Nat}{sub:Option (Nat×Nat×Nat)}{sz i c b o:Nat}{es:List (List AV)}{e cs:List AV}{hhv:Value}{us:List Value}{cur:Array Value}{ty:TypeId}
  (hg:getS h id sub=some (sz,es)) (he:es[i]?=some e) (hfit:c+cs.length≤e.length) (hsc:allSc cs=true) (hold:allSc ((e.drop c).take cs.length)=true) (hcs:SL hd n w I cs us)
  (hh:HdOf hd w id sub hhv) (hb:BaseOf hhv b o) (hhp:w.heap[b]?=some (.cells cur ty (0,0))):
  ∃Fp',HR G M I (setS h id sub (es.set i (setsA e c cs))) n hd Fp' (w.setRow b (setsA cur.toList (o+(i*sz+c)) us).toArray):=by
 have hscs:=Scs.of hsc hcs
 have hother: ∀b',b'≠b→(w.setRow b (setsA cur.toList (o+(i*sz+c)) us).toArray).heap[b']?=w.heap[b']?:=fun b' hb'=>setRow_other w b b' _ hb'
 cases sub with
 | none=>
  simp only[getS] at hg
  split at hg
  ·rename_i sz0 es0 ho'
   simp only[Option.some.injEq,Prod.mk.injEq] at hg
   obtain⟨rfl,rfl⟩:=hg
   simp only[setS,ho']
   simp only[HdOf] at hh
   subst hh
   obtain⟨g1,g2,g3,g4⟩:=ow_store (hr.obj id _ ho') (hr.nodup id _ ho') (fun b hb=>hr.notI ho' b hb) he hfit hold hscs hb hhp
   exact hr.setSame ho' _ (setRow_size _ _ _) (fun b' hb'=>hother b' (fun e=>hb' (e▸g2))) (fr_store hhp (hr.notI ho' b g2) g3 g4) g1
  ·cases hg
 | some q=>
  obtain⟨szo,io,co⟩:=q
  simp only[getS] at hg
  split at hg
  ·rename_i sz0 es0 ho'
   split at hg
   ·rename_i hsz;subst hsz
    split at hg
    ·rename_i sz2 es2 hx2
     simp only[Option.some.injEq,Prod.mk.injEq] at hg
     obtain⟨rfl,rfl⟩:=hg
     obtain⟨e0,he0,hx0⟩:=Option.bind_eq_some_iff.1 hx2
     simp only[setS,ho',he0,hx0]
     have hT0:=hr.obj id _ ho'
     have hn0:=hr.nodup id _ ho'
     obtain⟨b3,o3,cur3,ty3,v3,G3,hb3,hh3,hv3,_,hT3,hs3,hsz3⟩:=ow_cell (hr.obj id _ ho') he0 hx0
     have hv:v3=hhv:=by
      simp only[HdOf] at hh
      obtain⟨A4,m4,k4,e4,rfl | ⟨b4,o4,hb4,hc4⟩⟩:=hh
      ·subst e4
       rcases hb with ⟨_,_,h⟩ | h<;>cases h
      obtain⟨rfl,rfl⟩:=hb4.uniq hb3
      simp only[World.cell?,hh3,Option.isSome_none,Bool.false_eq_true,if_false] at hc4
      rw[←Array.getElem?_toList,hv3] at hc4
      exact Option.some.inj hc4
     subst hv
     have hG3n:G3.Nodup:=((List.sublist_cons_self _ _).trans hs3).nodup hn0
     obtain⟨q1,q2,q3,q4⟩:=ow_store hT3 hG3n (fun b hb=>hr.notI ho' b (hs3.subset (List.mem_cons_of_mem _ hb))) he hfit hold hscs hb hhp
     have hbF:b∈Fp id:=hs3.subset (List.mem_cons_of_mem _ q2)
     have hIb:=hr.notI ho' b hbF
     refine hr.setSame ho' _ (setRow_size _ _ _) (fun b' hb'=>hother b' (fun e=>hb' (e▸hbF))) (fr_store hhp hIb q3 q4) ?_
     have hbne:b≠b3:=by
      rintro rfl
      exact(List.nodup_cons.1 (hs3.nodup hn0)).1 q2
     simp only[ObjR,T] at hT0⊢
     rcases hT0 with ⟨rfl,_,_⟩ | ⟨b0,o0,k0,cur0,ty0,vs0,Fs0,hhd0,hh0,hc0,hm0,ho0,hE0,rfl,ht0,hF0⟩
     ·simp at he0
     ·obtain⟨rfl,rfl⟩:b3=b0∧o3=o0:=hb3.uniq (hhd0▸ .inl ⟨_,_,rfl⟩)
      obtain⟨rfl,rfl⟩:cur0=cur3∧ty0=ty3:=by
       have:=Option.some.inj (hh0.symm.trans hh3)
       simp only[Obj.cells.injEq] at this
       exact⟨this.1,this.2.1⟩
      have hn1:(b3::Fs0).Nodup:=hF0▸hn0
      have hcell:(((cur0.toList.drop o3).take (es0.length*sz0))[io*sz0+co]?)=some v3:=by
       have hil:io<es0.length:=(List.getElem?_eq_some_iff.1 he0).1
       have hel:=hE0.mem e0 (List.mem_of_getElem? he0)
       have hcl:co<e0.length:=(List.getElem?_eq_some_iff.1 hx0).1
       have hlt:io*sz0+co<es0.length*sz0:=by
        have:(io+1)*sz0≤es0.length*sz0:=Nat.mul_le_mul_right _ hil
        rw[Nat.add_mul] at this
        omega
       rw[List.getElem?_take,if_pos hlt,List.getElem?_drop]
       exact hv3
      obtain⟨g1,g2⟩:=TLL.upd hother hIb ht0 (List.nodup_cons.1 hn1).2 hE0 (y:= .ow sz2 (es2.set i (setsA e c cs))) he0 hx0 (fun v Fx hv2 hTx hsx=>by
       rw[hcell] at hv2
       obtain rfl:=Option.some.inj hv2
       obtain⟨q1,q2,_⟩:=ow_store hTx (hsx.nodup (List.nodup_cons.1 hn1).2) (fun b hb=>hr.notI ho' b (by rw[hF0];exact List.mem_cons_of_mem _ (hsx.subset hb))) he hfit hold hscs hb hhp
       exact⟨q1,q2⟩)
      refine .inr ⟨b3,o3,k0,cur0,ty0,_,Fs0,by rw[List.length_set];exact hhd0,(hother b3 (Ne.symm hbne)).trans hh0,by rw[List.length_set];exact hc0,hm0,ho0,?_,by rw[List.length_set],g1,hF0⟩
      exact Each.of_mem fun z hz=>by
       rcases List.mem_or_eq_of_mem_set hz with hz | rfl
       ·exact hE0.mem z hz
       ·simpa using hE0.mem e0 (List.mem_of_getElem? he0)
    ·cases hg
   ·cases hg
  ·cases hg
theorem TL.setsF{w:World}{I:Nat→Prop}{ys:List AV}{us:List Value}{Fy:List Nat}(hy:TL w I ys us Fy){xs:List AV}{vs:List Value}{F:List Nat}(h:TL w I xs vs F){k:Nat}(hk:k+ys.length≤xs.length):
  ∃F1 F2 F3,F=F1++F2++F3∧TL w I (setsA xs k ys) (setsA vs k us) (F1++Fy++F3):=by
 have hl:=h.length
 have hyl:=hy.length
 obtain⟨F1,Fr,rfl,h1,h2⟩:=h.split k
 obtain⟨F2,F3,rfl,h3,h4⟩:=h2.split ys.length
 refine⟨F1,F2,F3,by simp,?_⟩
 rw[setsA_eq _ _ _ hk,setsA_eq _ _ _ (by omega),hyl]
 rw[List.drop_drop] at h4
 rw[List.drop_drop] at h4
 exact(h1.append hy).append h4
theorem TLL.setsF{w:World}{I:Nat→Prop}{sz:Nat}{ys:List AV}{us:List Value}{Fy:List Nat}(hy:TL w I ys us Fy): ∀{es:List (List AV)} {vs:List Value} {F:List Nat} (h:TLL w I es vs F) (hE:Each sz es) {i k:Nat} {e:List AV} (he:es[i]?=some e) (hk:k+ys.length≤e.length),
  ∃F1 F2 F3,F=F1++F2++F3∧TLL w I (es.set i (setsA e k ys)) (setsA vs (i*sz+k) us) (F1++Fy++F3)
 | [],vs,F,h,_,i,k,e,he,_=>by simp at he
 | z::es,vs,F,h,hE,0,k,e,he,hk=>by
  simp only[TLL] at h
  obtain⟨v1,v2,F1,F2,rfl,rfl,hz,hxs⟩:=h
  simp at he;subst he
  have hl:=hz.length
  have hyl:=hy.length
  obtain⟨G1,G2,G3,rfl,h1⟩:=TL.setsF hy hz hk
  refine⟨G1,G2,G3++F2,by simp,?_⟩
  simp only[List.set_cons_zero,TLL]
  refine⟨setsA v1 k us,v2,G1++Fy++G3,F2,?_,by simp,h1,hxs⟩
  rw[Nat.zero_mul,Nat.zero_add,setsA_eq _ _ _ (by simp;omega),setsA_eq _ _ _ (by omega),List.take_append_of_le_length (by omega),List.drop_append_of_le_length (by omega)]
  simp
 | z::es,vs,F,h,hE,i+1,k,e,he,hk=>by
  simp only[TLL] at h
  obtain⟨v1,v2,F1,F2,rfl,rfl,hz,hxs⟩:=h
  simp at he
  have hl:=hz.length
  have hyl:=hy.length
  have hs:=hE.1
  obtain⟨G1,G2,G3,rfl,h1⟩:=TLL.setsF hy hxs hE.2 he hk
  refine⟨F1++G1,G2,G3,by simp,?_⟩
  simp only[List.set_cons_succ,TLL]
  refine⟨v1,setsA v2 (i*sz+k) us,F1,G1++Fy++G3,?_,by simp,hz,h1⟩
  have hv2:=hxs.length hE.2
  have hil:i<es.length:=(List.getElem?_eq_some_iff.1 he).1
  have hel:=hE.2.mem e (List.mem_of_getElem? he)
  have hb:(i+1)*sz≤es.length*sz:=Nat.mul_le_mul_right _ hil
  rw[Nat.add_mul] at hb
  have e1:(i+1)*sz+k=v1.length+(i*sz+k):=by rw[Nat.add_mul];omega
  rw[e1,setsA_eq _ _ _ (by simp;omega),setsA_eq _ _ _ (by omega),List.take_length_add_append,show v1.length+(i*sz+k)+us.length=v1.length+(i*sz+k+us.length) by omega,List.drop_length_add_append]
  simp
theorem store_own{h h':Heap}{n:Nat}(hr':HR G M I h' n hd Fp w){id:Nat}{sz i c b o:Nat}{es es0:List (List AV)}{e ys:List AV}{us:List Value}{cur:Array Value}{ty:TypeId}{Fy:List Nat}
  (hg:hget h' id=some (.slice sz es)) (he:es[i]?=some e) (hfit:c+ys.length≤e.length) (hy:TL w I ys us Fy) (hf:Free M I h' Fp Fy)
  (hb:BaseOf (hd id) b o) (hhp:w.heap[b]?=some (.cells cur ty (0,0))):
  o+(i*sz+c)+us.length≤cur.size∧b∈Fp id∧ ∃Fp',HR G M I (killH (hset h' id (.slice sz (es.set i (setsA e c ys))))) n hd Fp' (w.setRow b (setsA cur.toList (o+(i*sz+c)) us).toArray):=by
 have hT:=hr'.obj id _ hg
 have hn:=hr'.nodup id _ hg
 have hyl:=hy.length
 simp only[ObjR,T] at hT
 rcases hT with ⟨rfl,_,_⟩ | ⟨b',o',k,cur',ty',vs,Fs,hhd,hh',hck,hm,ho,hE,rfl,ht,hF⟩
 ·simp at he
 ·obtain⟨rfl,rfl⟩:=hb.uniq (show BaseOf (hd id) b' o' from .inl ⟨_,_,hhd⟩)
  obtain⟨rfl,rfl⟩:cur=cur'∧ty=ty':=by
   have:=Option.some.inj (hhp.symm.trans hh')
   simp only[Obj.cells.injEq] at this
   exact⟨this.1,this.2.1⟩
  have hil:i<es.length:=(List.getElem?_eq_some_iff.1 he).1
  have hel:=hE.mem e (List.mem_of_getElem? he)
  have hbnd:i*sz+c+us.length≤es.length*sz:=by
   have:(i+1)*sz≤es.length*sz:=Nat.mul_le_mul_right _ hil
   rw[Nat.add_mul] at this
   omega
  have hks:es.length*sz≤k*sz:=Nat.mul_le_mul_right _ hck
  have hbF:b∈Fp id:=by rw[hF];simp
  have hIb:=hr'.notI hg b hbF
  have hother: ∀b',b'≠b→(w.setRow b (setsA cur.toList (o+(i*sz+c)) us).toArray).heap[b']?=w.heap[b']?:=fun b' hb'=>setRow_other w b b' _ hb'
  have hIm: ∀b',I b'→I b'∧(w.setRow b (setsA cur.toList (o+(i*sz+c)) us).toArray).heap[b']?=w.heap[b']?:=fun b' hb'=>⟨hb',hother b' (fun e=>hIb (e▸hb'))⟩
  rw[hF] at hn
  have hbs:=(List.nodup_cons.1 hn)
  have hby:b∉Fy:=fun hx=>hf.disj id _ hg b hbF hx
  have ht2:=TLL.frame hIm es _ Fs ht (fun b' hb'=>hother b' (fun e=>hbs.1 (e▸hb')))
  have hy2:=TL.frame hIm ys _ Fy hy (fun b' hb'=>hother b' (fun e=>hby (e▸hb')))
  obtain⟨F1,F2,F3,rfl,h3⟩:=TLL.setsF hy2 ht2 hE he hfit
  have hmem: ∀b'∈b::(F1++Fy++F3),b'∈Fp id∨b'∈Fy:=by
   intro b' hb'
   rw[hF]
   simp only[List.mem_cons,List.mem_append] at hb'⊢
   rcases hb' with hb' | (hb' | hb') | hb'<;>simp[hb']
  have hn2:(b::(F1++Fy++F3)).Nodup:=by
   have hnf:=hbs.2
   rw[List.append_assoc,List.nodup_append] at hnf
   have hn23:=List.nodup_append.1 hnf.2.1
   refine List.nodup_cons.2 ⟨?_,?_⟩
   ·intro hx
    have h1:=hbs.1
    simp only[List.mem_append,not_or] at hx h1
    rcases hx with (hx | hx) | hx
    ·exact h1.1.1 hx
    ·exact hby hx
    ·exact h1.2 hx
   ·rw[List.append_assoc,List.nodup_append]
    refine⟨hnf.1,?_,?_⟩
    ·rw[List.nodup_append]
     refine⟨hf.nodup,hn23.2.1,?_⟩
     rintro x hx y hy' rfl
     exact hf.disj id _ hg x (by rw[hF];simp[hy']) hx
    ·rintro x hx y hy' rfl
     rcases List.mem_append.1 hy' with hy' | hy'
     ·exact hf.disj id _ hg x (by rw[hF];simp[hx]) hy'
     ·exact hnf.2.2 x hx x (List.mem_append.2 (.inr hy')) rfl
  refine⟨by omega,hbF,?_⟩
  have hgk:hget (killH h') id=some (.slice sz es):=by rw[hget_kill,hg];rfl
  have hkeq:killH (hset h' id (.slice sz (es.set i (setsA e c ys))))=hset (killH h') id (.slice sz (es.set i (setsA e c ys))):=by
   have: ∀(h:Heap),killH (hset h id (.slice sz (es.set i (setsA e c ys))))=hset (killH h) id (.slice sz (es.set i (setsA e c ys))):=by
    intro h
    induction h with
    | nil=>rfl
    | cons p h ih=>
     obtain⟨j,u⟩:=p
     cases u<;>simp only[hset,killH]<;>split<;>simp_all [killH,hset]
   exact this h'
  rw[hkeq]
  refine⟨_,hr'.kill.setG hgk _ (setRow_size _ _ _) (b::(F1++Fy++F3)) hn2 (fun b' hb'=>?_) (fun b' hb'=>?_) (fun j u hu hj b' hb'=>?_) (fun j u hu hj=>?_) (fun g gs hgs=>(hr'.glo g gs hgs).frame hIm) ?_⟩
  ·rcases hmem b' hb' with hx | hx
   ·exact hr'.mine id _ hg b' hx
   ·exact hf.mine b' hx
  ·rcases hmem b' hb' with hx | hx
   ·exact hr'.notI hg b' hx
   ·exact hf.imm b' hx
  ·intro hx
   have hu': ∃u0,hget h' j=some u0:=by
    rw[hget_kill] at hu
    obtain⟨u0,h1,_⟩:=Option.map_eq_some_iff.1 hu
    exact⟨u0,h1⟩
   obtain⟨u0,hu0⟩:=hu'
   rcases hmem b' hx with hx | hx
   ·exact hr'.disj j u0 id _ hu0 hg hj b' hb' hx
   ·exact hf.disj j u0 hu0 b' hb' hx
  ·rw[hget_kill] at hu
   obtain⟨u0,hu0,rfl⟩:=Option.map_eq_some_iff.1 hu
   have hq:=hr'.obj j u0 hu0
   have hoth: ∀b'∈Fp j,(w.setRow b (setsA cur.toList (o+(i*sz+c)) us).toArray).heap[b']?=w.heap[b']?:=fun b' hb'=>hother b' (fun e=>hr'.disj j u0 id _ hu0 hg hj b' hb' (e▸hbF))
   cases u0 with
   | slice sz0 es0=>exact T.frame hIm _ _ _ hq hoth
   | var cs0=>
    obtain⟨b0,cur0,e0,g1,g2,g3,g4⟩:=hq
    exact⟨b0,cur0,e0,g1,(hoth b0 (by rw[g4];simp)).trans g2,SL.kill (Nat.le_refl _) hIm (fun _ _=>rfl) _ _ g3,g4⟩
  ·simp only[ObjR,T]
   refine .inr ⟨b,o,k,(setsA cur.toList (o+(i*sz+c)) us).toArray,ty,_,F1++Fy++F3,by rw[List.length_set];exact hhd,setRow_heap w b cur _ ty _ hhp,by rw[List.length_set];exact hck,hm,by simpa [setsA_length] using ho,?_,?_,h3,rfl⟩
   ·exact Each.of_mem fun z hz=>by
     rcases List.mem_or_eq_of_mem_set hz with hz | rfl
     ·exact hE.mem z hz
     ·simpa [setsA_length] using hel
   ·rw[List.length_set,setsA_drop,setsA_take _ _ _ _ hbnd]
theorem storeK_sound(h:SR G M I s hd Fp a w){t:TypeId}{x v:AV}{u uv:Value}{K:St→Prop}(hk:storeK P s t x v K)(hx:S hd s.next w I x u)(hv:S hd s.next w I v uv):
  ∃w',(Instr.storeAt t u uv).run P w= .ok () w'∧ ∃s' I' hd' Fp',K s'∧SR G M I' s' hd' Fp' a w'∧Ext M I I' s.next hd hd' w w'∧s.next≤s'.next:=by
 unfold storeK at hk
 split at hk
 ·rename_i id sub sz i c cs hcv
  obtain⟨hz,hlen,hk⟩:=hk
  have hcs:=cellsV_SL hcv hv
  have hus:=hcs.length
  have hsize:uv.cells.size=szOf P t:=by rw[←Array.length_toList,hus,hlen]
  simp only[S] at hx
  obtain⟨hid,hhv,b,o,hh,hb,rfl⟩:=hx
  split at hk
  ·rename_i old ho
   obtain⟨rfl,hfit,hk⟩:=hk
   simp only[HdOf] at hh
   subst hh
   obtain⟨b',cur,e,hp,hhp,hs,hF⟩:=h.heap.obj id _ ho
   obtain⟨rfl,rfl⟩:=hb.uniq (.inr hp)
   have hol:=hs.length
   rw[show 0+(0*sz+c)=c by omega]
   have hfit2:c+uv.cells.toList.length≤cur.size:=by rw[hus,←Array.length_toList,hol];omega
   have hrun:=run_storeAt (P:=P) (t:=t) hz hsize hhp hfit2 hcs.ones
   have hbF:b∈Fp id:=by rw[hF];simp
   have hIb: ¬I b:=h.heap.notI ho b hbF
   have hother: ∀b',b'≠b→(w.setRow b (setsA cur.toList c uv.cells.toList).toArray).heap[b']?=w.heap[b']?:=fun b' hb'=>setRow_other w b b' _ hb'
   have hIm: ∀b',I b'→I b'∧(w.setRow b (setsA cur.toList c uv.cells.toList).toArray).heap[b']?=w.heap[b']?:=fun b' hb'=>⟨hb',hother b' (fun e=>hIb (e▸hb'))⟩
   have hE:Ext M I I s.next hd hd w (w.setRow b (setsA cur.toList c uv.cells.toList).toArray):=⟨keep_setRow (h.heap.mine id _ ho b hbF),hIm,fun _ _=>rfl,fun _ h=> .inl h⟩
   split at hk
   ·rename_i hsc
    have fr:Fr I I s.next s.next hd hd w (w.setRow b (setsA cur.toList c uv.cells.toList).toArray):=by
     refine fr_store hhp hIb hfit2 (fun j hj=>?_)
     have hseg:=(hs.drop c).take cs.length
     have hj2:j<((cur.toList.drop c).take cs.length).length:=by rw[hseg.length];simp;omega
     refine⟨((cur.toList.drop c).take cs.length)[j],?_,allSn_noSl hsc hseg _ (List.getElem_mem hj2)⟩
     rw[List.getElem_take,List.getElem_drop]
     exact List.getElem?_eq_getElem _
    obtain⟨Fp',hr'⟩:=h.heap.setSame ho (.var (setsA old c cs)) (setRow_size _ _ _) (fun b' hb'=>hother b' (fun e=>hb' (e▸hbF))) fr ⟨b,_,e,hp,setRow_heap w b cur _ e _ hhp,fr.SL (SL.setsA hcs hs),hF⟩
    exact⟨_,hrun,_,I,hd,Fp',hk,h.move hr' fr,hE,Nat.le_refl _⟩
   · -- slices are overwritten: inner references are forgotten
    have hslots:=SL.setsA (k:=c) hcs hs
    have hr1:=h.heap.kill
    have hkl: ∀(xs:List AV) (vs:List Value),SL hd s.next w I xs vs→SL hd s.next (w.setRow b (setsA cur.toList c uv.cells.toList).toArray) I (killL xs) vs:=fun xs vs hx=>SL.kill (Nat.le_refl _) hIm (fun _ _=>rfl) xs vs hx
    have hg: ∀j q,hget (killH (hset s.heap id (.var (setsA old c cs)))) j=some q→(j=id∧q= .var (killL (setsA old c cs)))∨(j≠id∧ ∃q0,hget s.heap j=some q0∧q=killO q0):=by
     intro j q hq
     rw[hget_kill,hget_set] at hq
     by_cases hj:id=j
     ·subst hj;simp[ho,killO] at hq;exact .inl ⟨rfl,hq.symm⟩
     ·simp only[hj,if_false] at hq
      obtain⟨q0,h1,h2⟩:=Option.map_eq_some_iff.1 hq
      exact .inr ⟨Ne.symm hj,q0,h1,h2.symm⟩
    have hr2:HR G M I (killH (hset s.heap id (.var (setsA old c cs)))) s.next hd Fp (w.setRow b (setsA cur.toList c uv.cells.toList).toArray):=by
     refine⟨fun j q hq=>?_,fun b' hb'=>⟨by rw[setRow_size];exact(h.heap.imm b' hb').1,fun j q hq=>?_⟩,fun j q hq=>?_,fun j q j' q' hq hq' hne=>?_,fun j q hq=>?_,fun j q hq=>?_,fun b' hb'=>h.heap.news b' (by rwa [setRow_size] at hb'),
      fun g gs hgs=>(h.heap.glo g gs hgs).frame hIm⟩
     ·rcases hg j q hq with ⟨rfl,rfl⟩ | ⟨hj,q0,hq0,rfl⟩
      ·exact⟨b,_,e,hp,setRow_heap w b cur _ e _ hhp,hkl _ _ hslots,hF⟩
      ·have hq1:=h.heap.obj j q0 hq0
       have hoth: ∀b'∈Fp j,(w.setRow b (setsA cur.toList c uv.cells.toList).toArray).heap[b']?=w.heap[b']?:=fun b' hb'=>hother b' (fun e=>h.heap.disj j q0 id _ hq0 ho hj b' hb' (e▸hbF))
       cases q0 with
       | slice sz0 es0=>exact T.frame hIm _ _ _ hq1 hoth
       | var cs0=>
        obtain⟨b0,cur0,e0,g1,g2,g3,g4⟩:=hq1
        exact⟨b0,cur0,e0,g1,(hoth b0 (by rw[g4];simp)).trans g2,hkl _ _ g3,g4⟩
     ·rcases hg j q hq with ⟨rfl,rfl⟩ | ⟨hj,q0,hq0,rfl⟩
      ·exact(h.heap.imm b' hb').2 _ _ ho
      ·exact(h.heap.imm b' hb').2 j q0 hq0
     ·rcases hg j q hq with ⟨rfl,rfl⟩ | ⟨hj,q0,hq0,rfl⟩
      ·exact h.heap.nodup _ _ ho
      ·exact h.heap.nodup j q0 hq0
     ·rcases hg j q hq with ⟨rfl,rfl⟩ | ⟨hj,q0,hq0,rfl⟩<;>rcases hg j' q' hq' with ⟨rfl,rfl⟩ | ⟨hj',q0',hq0',rfl⟩
      ·exact absurd rfl hne
      ·exact h.heap.disj _ _ j' q0' ho hq0' hne
      ·exact h.heap.disj j q0 _ _ hq0 ho hne
      ·exact h.heap.disj j q0 j' q0' hq0 hq0' hne
     ·rcases hg j q hq with ⟨rfl,rfl⟩ | ⟨hj,q0,hq0,rfl⟩
      ·exact h.heap.mine _ _ ho
      ·exact h.heap.mine j q0 hq0
     ·rcases hg j q hq with ⟨rfl,rfl⟩ | ⟨hj,q0,hq0,rfl⟩
      ·exact h.heap.next _ _ ho
      ·exact h.heap.next j q0 hq0
    refine⟨_,hrun,_,I,hd,Fp,hk,⟨hr2,by simp[killSt,killL_eq,h.len],fun t=>?_,h.defers⟩,hE,Nat.le_refl _⟩
    have:=S.kill (Nat.le_refl _) hIm (fun _ _=>rfl) _ _ (h.slots t)
    simp only[killSt,killL_eq,List.getD_eq_getElem?_getD,List.getElem?_map] at this⊢
    cases hs:s.tmps[t]? with
    | none=>simp[S]
    | some x=>simpa [hs] using this
  ·split at hk
   ·rename_i sz' es hg
    obtain⟨rfl,hk⟩:=hk
    obtain⟨hv',F,ob,ho,hh',hT,hsub⟩:=getS_sound h.heap hg
    obtain rfl:=HdOf.uniq hh hb hh'
    split at hk
    ·rename_i e he
     obtain⟨hfit,hk⟩:=hk
     split at hk
     ·rename_i hsc
      have hscs:=Scs.of hsc.1 hcs
      obtain⟨b',o',cur,ty,hb',hhp⟩: ∃b' o' cur ty,BaseOf hhv b' o'∧w.heap[b']?=some (.cells cur ty (0,0)):=by
       simp only[T] at hT
       rcases hT with ⟨rfl,_,_⟩ | ⟨b',o',k,cur,ty,vs,Fs,rfl,hhp,_⟩
       ·simp at he
       ·exact⟨b',o',cur,ty,.inl ⟨_,_,rfl⟩,hhp⟩
      obtain⟨rfl,rfl⟩:=hb.uniq hb'
      have hFn:F.Nodup:=hsub.nodup (h.heap.nodup id ob ho)
      have hFI: ∀b∈F,¬I b:=fun b hb=>h.heap.notI ho b (hsub.subset hb)
      obtain⟨h1,h2,h3,h4⟩:=ow_store hT hFn hFI he hfit hsc.2 hscs hb hhp
      have hIb:=hFI b h2
      have hbF:b∈Fp id:=hsub.subset h2
      have fr:=fr_store (n:=s.next) (hd:=hd) hhp hIb h3 h4
      have hother: ∀b',b'≠b→(w.setRow b (setsA cur.toList (o+(i*sz'+c)) uv.cells.toList).toArray).heap[b']?=w.heap[b']?:=fun b' hb'=>setRow_other w b b' _ hb'
      have hrun:=run_storeAt (P:=P) (t:=t) hz hsize hhp h3 hcs.ones
      have hE:Ext M I I s.next hd hd w (w.setRow b (setsA cur.toList (o+(i*sz'+c)) uv.cells.toList).toArray):=⟨keep_setRow (h.heap.mine id _ ho b hbF),fr.im,fun _ _=>rfl,fun _ h=> .inl h⟩
      have hset:=setS_sc h.heap hg he hfit hsc.1 hsc.2 hcs hh hb hhp
      obtain⟨Fp',hr'⟩:=hset
      exact⟨_,hrun,_,I,hd,Fp',hk,h.move hr' fr,hE,Nat.le_refl _⟩
     ·obtain⟨rfl,hk⟩:=hk
      split at hk
      ·rename_i ys h' hcon
       obtain⟨Fy,hr',hTy,hfree,hsubh,hown⟩:=conL_sound h.heap hcs hcon
       have hyl:ys.length=cs.length:=by rw[←hTy.length,hus]
       split at hk
       ·rename_i sz1 es1 hg1
        have hg0:=hsubh id _ hg1
        simp only[getS,hg0,Option.some.injEq,Prod.mk.injEq] at hg
        obtain⟨rfl,rfl⟩:=hg
        simp only[HdOf] at hh
        subst hh
        have hT0:=hr'.obj id _ hg1
        obtain⟨b',o',cur,ty,hb',hhp⟩: ∃b' o' cur ty,BaseOf (hd id) b' o'∧w.heap[b']?=some (.cells cur ty (0,0)):=by
         simp only[ObjR,T] at hT0
         rcases hT0 with ⟨rfl,_,_⟩ | ⟨b',o',k,cur,ty,vs,Fs,hhd,hhp,_⟩
         ·simp at he
         ·exact⟨b',o',cur,ty,.inl ⟨_,_,hhd⟩,hhp⟩
        obtain⟨rfl,rfl⟩:=hb.uniq hb'
        obtain⟨h3,hbF,Fp',hr2⟩:=store_own (h:=s.heap) (es0:=es1) hr' hg1 he (by rw[hyl];exact hfit) hTy hfree hb hhp
        have hIb:=hr'.notI hg1 b hbF
        have hother: ∀b',b'≠b→(w.setRow b (setsA cur.toList (o+(i*sz1+c)) uv.cells.toList).toArray).heap[b']?=w.heap[b']?:=fun b' hb'=>setRow_other w b b' _ hb'
        have hIm: ∀b',I b'→I b'∧(w.setRow b (setsA cur.toList (o+(i*sz1+c)) uv.cells.toList).toArray).heap[b']?=w.heap[b']?:=fun b' hb'=>⟨hb',hother b' (fun e=>hIb (e▸hb'))⟩
        have hrun:=run_storeAt (P:=P) (t:=t) hz hsize hhp h3 hcs.ones
        refine⟨_,hrun,_,I,hd,Fp',hk,⟨hr2,by simp[killSt,killL_eq,h.len],fun t=>?_,h.defers⟩,⟨keep_setRow (h.heap.mine id _ ho b hbF),hIm,fun _ _=>rfl,fun _ h=> .inl h⟩,Nat.le_refl _⟩
        have:=S.kill (Nat.le_refl _) hIm (fun _ _=>rfl) _ _ (h.slots t)
        simp only[killSt,killL_eq,List.getD_eq_getElem?_getD,List.getElem?_map] at this⊢
        cases hs:s.tmps[t]? with
        | none=>simp[S]
        | some x=>simpa [hs] using this
       ·exact hk.elim
      ·exact hk.elim
    ·exact hk.elim
   ·exact hk.elim
 ·exact hk.elim
end
theorem eqs_storeK:True:=by
 have:= @storeK.eq_1
 trivial
end Go.Proofs.YthggfnefjbckeaaGreatDoor.X
set_option linter.unusedVariables false
set_option linter.unusedSimpArgs false
namespace Go.Proofs.YthggfnefjbckeaaGreatDoor.X
open Go
def allScs:List (List AV)→Bool
 | []=>true
 | e::es=>allSc e&&allScs es
def appX(P:Program)(h:Heap)(sz:Nat):AV→Option (List (List AV)×Heap)
 | .nil=>some ([],h)
 | .ref id none sz' off len=>match hget h id with
  | some (.slice sz2 es)=>if sz'=sz2∧sz'=sz then some ((es.drop off).take len,hdel h id) else none
  | _=>none
 | _=>none
def appY(P:Program)(h:Heap)(sz:Nat)(tx:TypeId):AV→Option (List (List AV)×Heap)
 | .nil=>match tk P tx with | .slice _=>some ([],h) | _=>none
 | .ref id sub sz' off len=>match tk P tx,getS h id sub with
  | .slice _,some (sz2,es)=>if sz'=sz2∧sz'=sz then(if allScs ((es.drop off).take len) then some ((es.drop off).take len,h) else match sub with | none=>some ((es.drop off).take len,hdel h id) | some _=>none) else none
  | _,_=>none
 | .sl es=>match tk P tx with | .slice _=>if es.all (fun e=>e.length==sz) then some (es,h) else none | _=>none
 | .str s=>match tk P tx with | .str=>if sz=1 then some (s.data.toList.map fun b=>[.int .u8 b.toNat],h) else none | _=>none
 | _=>none
def appendK(P:Program)(s:St)(t tx:TypeId)(x y:AV)(K:AV→St→Prop):Prop:=
 match tk P t with
 | .slice e=>szOf P e≠0∧byOf P e≠0∧(zeroCells P e).map (·.length)=some (szOf P e)∧match appX P s.heap (szOf P e) x with
  | some (es1,h1)=>match appY P h1 (szOf P e) tx y with
   | some (es2,h2)=>(es1.length+es2.length)*byOf P e≤140737488355328∧
    K (.ref s.next none (szOf P e) 0 (es1.length+es2.length)) (killSt ⟨s.tmps,(s.next,.slice (szOf P e) (es1++es2))::h2,s.next+1⟩)
   | none=>False
  | none=>False
 | _=>False
theorem TL.sc{w w':World}{I I':Nat→Prop}: ∀{xs:List AV} {vs:List Value} {F:List Nat},allSc xs=true→TL w I xs vs F→TL w' I' xs vs []
 | [],vs,F,_,h=>by simp only[TL] at h⊢;exact⟨h.1,trivial⟩
 | x::xs,vs,F,hs,h=>by
  simp only[allSc,Bool.and_eq_true] at hs
  simp only[TL] at h⊢
  obtain⟨v,vs',F1,F2,rfl,rfl,h1,hx,hxs⟩:=h
  refine⟨v,vs',[],[],rfl,rfl,h1,?_,TL.sc hs.2 hxs⟩
  have:=hs.1
  cases x<;>simp[isSc] at this<;>simp only[T] at hx⊢ <;>exact⟨hx.1,trivial⟩
theorem TLL.sc{w w':World}{I I':Nat→Prop}: ∀{xs:List (List AV)} {vs:List Value} {F:List Nat},allScs xs=true→TLL w I xs vs F→TLL w' I' xs vs []
 | [],vs,F,_,h=>by simp only[TLL] at h⊢;exact⟨h.1,trivial⟩
 | x::xs,vs,F,hs,h=>by
  simp only[allScs,Bool.and_eq_true] at hs
  simp only[TLL] at h⊢
  obtain⟨v1,v2,F1,F2,rfl,rfl,hx,hxs⟩:=h
  exact⟨v1,v2,[],[],rfl,rfl,hx.sc hs.1,hxs.sc hs.2⟩
theorem run_append_room_row{P:Program}{w:World}(t tx ty e:TypeId)(i:TypeInfo)(ht:P.underlying t=some (.slice e))(hi:P.info? e=some i)(b off sLen sCap:Nat)(x:Value)(n:Nat)(news:List Value)(hs:Src P i.size tx x n news w)
  {cur:Array Value} {te:TypeId} (hh:w.heap[b]?=some (.cells cur te (0,0))) (hroom:sLen+n≤sCap) (hfit:off+sLen*i.size+news.length≤cur.size):
  (Builtin.append_ #[t,tx] ty #[.slice (some ⟨b,off,none⟩) sLen sCap,x]).run P w= .ok (.slice (some ⟨b,off,none⟩) (sLen+n) sCap) (w.setRow b (setsA cur.toList (off+sLen*i.size) news).toArray):=by
 have hst:=run_storeCells_at P b (off+sLen*i.size) te news 0 cur w hh (by simpa using hfit) hs.one
 simp only[Nat.add_zero] at hst
 rw[←setsA_eq _ _ _ (by simpa using hfit)] at hst
 rcases hs.kind with ⟨e',hk⟩ | hk<;>simp[Builtin.append_,run_underlying ht,run_underlying hk,sizeOf,typeInfo,hi,hs.len,hroom,hs.cells,addr_add,hst]
section
variable{P:Program}{w:World}{I:Nat→Prop}
theorem src_at{sz:Nat}{tx e':TypeId}(hk:P.underlying tx=some (.slice e')){b o n c:Nat}{vs:List Value}(hat:At w b o vs)(hl:vs.length=n*sz)(h1: ∀u∈vs,u.oneCell'=true):Src P sz tx (.slice (some ⟨b,o,none⟩) n c) n vs w:=
 Src.ofSlice w hk ⟨b,o,none⟩ n c vs hl (fun j u hu=>by rw[addr_add];exact hat j u hu) h1
theorem src_empty{sz:Nat}{tx e':TypeId}(hk:P.underlying tx=some (.slice e'))(A:Option Addr)(c:Nat):Src P sz tx (.slice A 0 c) 0 [] w:=by
 cases A with
 | none=>exact Src.ofNil w hk c
 | some a=>exact Src.ofSlice w hk a 0 c [] (by simp) (by simp) (by simp)
theorem src_ow{sz:Nat}{tx e':TypeId}(hk:P.underlying tx=some (.slice e')){es:List (List AV)}{v:Value}{F:List Nat}(h:T w I (.ow sz es) v F):
  ∃news F',Src P sz tx v es.length news w∧TLL w I es news F'∧F'.Sublist F∧Each sz es:=by
 simp only[T] at h
 rcases h with ⟨rfl,⟨A,rfl⟩,rfl⟩ | ⟨b,o,c,cur,e,vs,Fs,rfl,hh,hc,hm,ho,hE,rfl,ht,rfl⟩
 ·exact⟨[],[],src_empty hk A 0,by simp[TLL],List.Sublist.refl _,trivial⟩
 ·exact⟨_,Fs,src_at hk (at_row hh) (ht.length hE) ht.ones,ht,List.sublist_cons_self _ _,hE⟩
theorem src_sl{sz:Nat}{tx e':TypeId}(hk:P.underlying tx=some (.slice e')){es:List (List AV)}{v:Value}(hE: ∀e∈es,e.length=sz)(h:T w I (.sl es) v []):
  ∃news,Src P sz tx v es.length news w∧TLL w I es news []:=by
 simp only[T] at h
 obtain⟨_,A,c,rfl,hc,hm,h⟩:=h
 rcases h with rfl | ⟨b,o,sz',vs,rfl,hb,hE',hat,ht⟩
 ·exact⟨[],src_empty hk A c,by simp[TLL]⟩
 ·cases es with
  | nil=>exact⟨[],src_empty hk _ c,by simp[TLL]⟩
  | cons e0 es0=>
   have:sz'=sz:=by rw[←hE e0 (by simp)];exact hE'.1.symm
   subst this
   exact⟨vs,src_at hk hat (ht.length hE') ht.ones,ht⟩
theorem bytes_TLL(s:List UInt8):TLL w I (s.map fun b=>[.int .u8 b.toNat]) (s.map fun b=>Value.int .u8 b.toNat) []:=by
 induction s with
 | nil=>simp[TLL]
 | cons b s ih=>
  simp only[List.map_cons,TLL]
  exact⟨[_],_,[],[],rfl,rfl,by simp only[TL,T];exact⟨_,_,[],[],rfl,rfl,rfl,⟨rfl,rfl⟩,rfl,rfl⟩,ih⟩
end
section
variable{P:Program}{G:Glo}{M I:Nat→Prop}{s:St}{hd:Nat→Value}{Fp:Nat→List Nat}{a:Act}{w w':World}
theorem appX_sound{h h1:Heap}{n:Nat}(hr:HR G M I h n hd Fp w){sz:Nat}{x:AV}{v:Value}{es1:List (List AV)}(hx:S hd n w I x v)(hk:appX P h sz x=some (es1,h1)):
  ∃F,HR G M I h1 n hd Fp w∧T w I (.ow sz es1) v F∧Free M I h1 Fp F∧Sub h1 h∧(∀b∈F,b<w.heap.size)∧(∀id,x≠ .nil→hget h1 id=some (.var [])→True):=by
 unfold appX at hk
 split at hk
 ·simp only[Option.some.injEq,Prod.mk.injEq] at hk
  obtain⟨rfl,rfl⟩:=hk
  simp only[S] at hx
  exact⟨[],hr,by simp only[T];exact .inl ⟨trivial,⟨_,hx⟩,trivial⟩,Free.nil _ _ _ _,Sub.refl _,by simp,fun _ _ _=>trivial⟩
 ·rename_i id sz' off len
  split at hk
  ·rename_i sz2 es ho
   split at hk
   ·rename_i hsz
    obtain⟨rfl,rfl⟩:=hsz
    simp only[Option.some.injEq,Prod.mk.injEq] at hk
    obtain⟨rfl,rfl⟩:=hk
    simp only[S,HdOf] at hx
    obtain⟨hid,hv,rfl,hw⟩:=hx
    obtain⟨F',hT,hs,_⟩:=ow_win (hr.obj id _ ho) hw
    exact⟨F',hr.del id,hT,(hr.freed ho).sub hs,Sub.del h id,fun b hb=>hr.ltB ho b (hs.subset hb),fun _ _ _=>trivial⟩
   ·cases hk
  ·cases hk
 ·cases hk
theorem appY_sound{h h2:Heap}{n:Nat}(hr:HR G M I h n hd Fp w){sz:Nat}{tx:TypeId}{y:AV}{v:Value}{es2:List (List AV)}(hy:S hd n w I y v)(hk:appY P h sz tx y=some (es2,h2)):
  ∃F news,HR G M I h2 n hd Fp w∧Src P sz tx v es2.length news w∧TLL w I es2 news F∧Free M I h2 Fp F∧Sub h2 h∧(∀b∈F,b<w.heap.size∧ ∃id o,hget h id=some o∧b∈Fp id)∧Each sz es2:=by
 unfold appY at hk
 split at hk
 ·split at hk
  ·rename_i e' ht
   simp only[Option.some.injEq,Prod.mk.injEq] at hk
   obtain⟨rfl,rfl⟩:=hk
   simp only[S] at hy
   subst hy
   exact⟨[],[],hr,src_empty (tk_slice ht) _ _,by simp[TLL],Free.nil _ _ _ _,Sub.refl _,by simp,trivial⟩
  ·cases hk
 ·rename_i id sub sz' off len
  split at hk
  ·rename_i e' sz2 es ht hg
   split at hk
   ·rename_i hsz
    obtain⟨rfl,rfl⟩:=hsz
    obtain⟨hv',F,ob,ho,hh',hT,hsub⟩:=getS_sound hr hg
    simp only[S] at hy
    obtain⟨hid,hv,hh,hw⟩:=hy
    obtain⟨F',hT2,hs2,hlen⟩:=ow_win2 hT hh hh' hw
    obtain⟨news,F2,hsrc,htll,hs3,hE⟩:=src_ow (P:=P) (tk_slice ht) hT2
    split at hk
    ·rename_i hsc
     simp only[Option.some.injEq,Prod.mk.injEq] at hk
     obtain⟨rfl,rfl⟩:=hk
     exact⟨[],news,hr,hsrc,htll.sc hsc,Free.nil _ _ _ _,Sub.refl _,by simp,hE⟩
    ·split at hk
     ·simp only[Option.some.injEq,Prod.mk.injEq] at hk
      obtain⟨rfl,rfl⟩:=hk
      have hss:=(hs3.trans hs2).trans hsub
      exact⟨F2,news,hr.del id,hsrc,htll,(hr.freed ho).sub hss,Sub.del h id,fun b hb=>⟨hr.ltB ho b (hss.subset hb),id,ob,ho,hss.subset hb⟩,hE⟩
     ·cases hk
   ·cases hk
  ·cases hk
 ·rename_i es
  split at hk
  ·rename_i e' ht
   split at hk
   ·rename_i hall
    simp only[Option.some.injEq,Prod.mk.injEq] at hk
    obtain⟨rfl,rfl⟩:=hk
    simp only[S] at hy
    have hE: ∀e∈es,e.length=sz:=by simpa using hall
    obtain⟨news,h1,h2⟩:=src_sl (P:=P) (tk_slice ht) hE hy
    exact⟨[],news,hr,h1,h2,Free.nil _ _ _ _,Sub.refl _,by simp,Each.of_mem hE⟩
   ·cases hk
  ·cases hk
 ·rename_i s
  split at hk
  ·rename_i ht
   split at hk
   ·rename_i hsz
    subst hsz
    simp only[Option.some.injEq,Prod.mk.injEq] at hk
    obtain⟨rfl,rfl⟩:=hk
    simp only[S] at hy
    subst hy
    have hsz:(s.data.toList.map fun b=>[AV.int .u8 b.toNat]).length=s.size:=by
     rw[List.length_map,Array.length_toList];rfl
    refine⟨[],byteCells s,hr,by rw[hsz];exact Src.ofString w (tk_str ht) s,bytes_TLL _,Free.nil _ _ _ _,Sub.refl _,by simp,Each.of_mem fun e he=>?_⟩
    obtain⟨b,_,rfl⟩:=List.mem_map.1 he
    rfl
   ·cases hk
  ·cases hk
 ·cases hk
theorem HR.killTo{h:Heap}{n:Nat}(hr:HR G M I h n hd Fp w){b:Nat}(hIb: ¬I b)(hs:w'.heap.size=w.heap.size)(hb: ∀b',b'≠b→w'.heap[b']?=w.heap[b']?)(hno: ∀id o,hget h id=some o→b∉Fp id):HR G M I (killH h) n hd Fp w':=by
 have hIm: ∀b',I b'→I b'∧w'.heap[b']?=w.heap[b']?:=fun b' hb'=>⟨hb',hb b' (fun e=>hIb (e▸hb'))⟩
 have hk:=hr.kill
 have hg: ∀j u,hget (killH h) j=some u→ ∃u0,hget h j=some u0∧u=killO u0:=by
  intro j u hu
  rw[hget_kill] at hu
  obtain⟨u0,h1,h2⟩:=Option.map_eq_some_iff.1 hu
  exact⟨u0,h1,h2.symm⟩
 refine⟨fun j u hu=>?_,fun b' hb'=>⟨by rw[hs];exact(hk.imm b' hb').1,(hk.imm b' hb').2⟩,hk.nodup,hk.disj,hk.mine,hk.next,fun b' hb'=>hr.news b' (by rwa [hs] at hb'),fun g cs hg=>(hr.glo g cs hg).frame hIm⟩
 obtain⟨u0,h1,rfl⟩:=hg j u hu
 have hq:=hr.obj j u0 h1
 have hoth: ∀b'∈Fp j,w'.heap[b']?=w.heap[b']?:=fun b' hb'=>hb b' (fun e=>hno j u0 h1 (e▸hb'))
 cases u0 with
 | slice sz es=>exact T.frame hIm _ _ _ hq hoth
 | var cs=>
  obtain⟨b0,cur0,e0,g1,g2,g3,g4⟩:=hq
  exact⟨b0,cur0,e0,g1,(hoth b0 (by rw[g4];simp)).trans g2,SL.kill (Nat.le_refl _) hIm (fun _ _=>rfl) _ _ g3,g4⟩
theorem Free.kill{h:Heap}{F:List Nat}(f:Free M I h Fp F):Free M I (killH h) Fp F:=by
 refine⟨f.nodup,f.mine,f.imm,fun id o ho=>?_⟩
 rw[hget_kill] at ho
 obtain⟨u0,h1,_⟩:=Option.map_eq_some_iff.1 ho
 exact f.disj id u0 h1
theorem appendK_sound(h:SR G M I s hd Fp a w){t tx ty:TypeId}{x y:AV}{u v:Value}{K:AV→St→Prop}(hk:appendK P s t tx x y K)(hx:S hd s.next w I x u)(hy:S hd s.next w I y v):
  ∃r w',(Builtin.append_ #[t,tx] ty #[u,v]).run P w= .ok r w'∧OpRes G M I s hd a w K (.value r) w':=by
 unfold appendK at hk
 split at hk
 ·rename_i e ht
  obtain⟨hz,hby0,hzc,hk⟩:=hk
  split at hk
  ·rename_i es1 h1 e1
   split at hk
   ·rename_i es2 h2 e2
    obtain⟨hbytes,hk⟩:=hk
    obtain⟨zs,hzs,hzl⟩:=Option.map_eq_some_iff.1 hzc
    obtain⟨i,z,hi,hiz,hzS,_⟩:=zeroCells_some (hd:=hd) (I:=I) (w:=w) hzs s.next
    obtain⟨i2,hi2,hisz⟩:=szOf_pos hz
    obtain rfl:=Option.some.inj (hi.symm.trans hi2)
    have hibt:i.bytes=byOf P e:=by simp[byOf,hi]
    obtain⟨F1,hr1,hT1,hf1,hs1,hlt1,_⟩:=appX_sound h.heap hx e1
    obtain⟨F2,news,hr2,hsrc,htll,hf2,hs2,hlt2,hE2⟩:=appY_sound hr1 hy e2
    rw[←hisz] at hsrc
    have hlen:es1.length+es2.length≤140737488355328:=Nat.le_trans (Nat.le_mul_of_pos_right _ (by omega)) hbytes
    have hnl:=hsrc.newsLen
    have hdisj12: ∀b∈F1,b∉F2:=fun b hb1 hb2=>by
     obtain⟨_,id,o,ho,hb⟩:=hlt2 b hb2
     exact hf1.disj id o ho b hb hb1
    simp only[T] at hT1
    have grow: ∀(A:Option Addr) (cap:Nat) (olds:List Value) (Fs1:List Nat),u= .slice A es1.length cap→cap<es1.length+es2.length→(Builtin.firstCells i.size es1.length (.slice A es1.length cap)).run P w.drew= .ok olds.toArray w.drew→
      TLL w I es1 olds Fs1→Fs1.Sublist F1→Each (szOf P e) es1→olds.length=es1.length*szOf P e→ ∃r w',(Builtin.append_ #[t,tx] ty #[u,v]).run P w= .ok r w'∧OpRes G M I s hd a w K (.value r) w':=by
     intro A cap olds Fs1 hu hg hfc htl1 hss hE1 hol
     subst hu
     have hrun:=run_append_grow_src (P:=P) w t tx ty e i z (tk_slice ht) hi hiz A es1.length cap olds hfc v es2.length news hsrc hg (by omega) (growslice_fits hg (by rw[hibt];exact hbytes))
     have hge:=grownCap_ge w (es1.length+es2.length) cap e
     have hcm:=grownCap_le_maxLen w (es1.length+es2.length) cap e (by simp only[maxLen];omega)
     have hfree:Free M I h2 Fp (Fs1++F2):=by
      have hfa:=(hf1.sub hss).less hs2
      refine⟨List.nodup_append.2 ⟨hfa.nodup,hf2.nodup,?_⟩,?_,?_,?_⟩
      ·rintro b hb b' hb' rfl
       exact hdisj12 b (hss.subset hb) hb'
      ·intro b hb;rcases List.mem_append.1 hb with hb | hb
       ·exact hfa.mine b hb
       ·exact hf2.mine b hb
      ·intro b hb;rcases List.mem_append.1 hb with hb | hb
       ·exact hfa.imm b hb
       ·exact hf2.imm b hb
      ·intro id o ho b hb hm;rcases List.mem_append.1 hm with hm | hm
       ·exact hfa.disj id o ho b hb hm
       ·exact hf2.disj id o ho b hb hm
     have hzsz:z.cells.size=i.size:=by
      rw[hisz]
      have e5:=hE2
      have:zs.length=z.cells.size:=by have:=hzS.length;simpa using this.symm
      rw[←this]
      exact hzl
     have hll:(olds++news).length=(es1.length+es2.length)*szOf P e:=by rw[List.length_append,hol,hnl,hisz,Nat.add_mul]
     have hfits:grownCap w (es1.length+es2.length) cap e*szOf P e≤((olds++news).toArray++Builtin.zeroCells z.cells (grownCap w (es1.length+es2.length) cap e-(es1.length+es2.length))).size:=by
      simp only[Array.size_append,List.size_toArray,size_zeroCells,hzsz,hll,hisz,←Nat.add_mul]
      exact Nat.mul_le_mul_right _ (by omega)
     have htake:TLL w I (es1++es2) (((olds++news).toArray++Builtin.zeroCells z.cells (grownCap w (es1.length+es2.length) cap e-(es1.length+es2.length))).toList.take ((es1.length+es2.length)*szOf P e)) (Fs1++F2):=by
      rw[Array.toList_append,List.take_append_of_le_length (by simp only[List.length_append] at hll⊢;omega),List.take_of_length_le (by simp only[List.length_append] at hll⊢;omega)]
      exact htl1.append htll
     obtain⟨hd',Fp',g1,g2,g3⟩:=h.newSlice hr2 (w.drew.alloc (.cells ((olds++news).toArray++Builtin.zeroCells z.cells (grownCap w (es1.length+es2.length) cap e-(es1.length+es2.length))) e)) _ e (szOf P e) (es1.length+es2.length)
      (grownCap w (es1.length+es2.length) cap e) (es1++es2) (Fs1++F2) hfree (fun b hb=>by
       rcases List.mem_append.1 hb with hb | hb
       ·exact hlt1 b (hss.subset hb)
       ·exact(hlt2 b hb).1) (by simp) (fun b hb=>heap_alloc_old w.drew _ b hb) (heap_alloc_new w.drew _) rfl rfl rfl (by simp) hge hcm hfits (hE1.append hE2) htake
     have hkill:=SR.killed g1 g1.heap (Nat.le_refl _) (fun b hb=>⟨hb,rfl⟩) (fun _ _=>rfl)
     exact⟨_,_,hrun,_,_,_,I,hd',Fp',.inl rfl,hk,g3,hkill,g2,Nat.le_succ _⟩
    rcases hT1 with ⟨rfl,⟨A,rfl⟩,rfl⟩ | ⟨b,o,cap,cur,te,vs,Fs,rfl,hh,hcap,hmax,hfitc,hE1,rfl,htl1,rfl⟩
    ·by_cases hn0:es2.length=0
     · -- nothing
      have he2:es2=[]:=List.eq_nil_of_length_eq_zero hn0
      subst he2
      have hnews:news=[]:=List.eq_nil_of_length_eq_zero (by simpa using hnl)
      subst hnews
      have hrun:(Builtin.append_ #[t,tx] ty #[.slice A 0 0,v]).run P w= .ok (.slice A 0 0) w:=by
       have hsrc':Src P i.size tx v 0 [] w:=hsrc
       rcases hsrc'.kind with ⟨e',hk'⟩ | hk'<;>cases A<;>simp[Builtin.append_,run_underlying (tk_slice ht),run_underlying hk',sizeOf,typeInfo,hi,hsrc'.len,hsrc'.cells,storeCells]
      have hr3:=hr2.addFree (.slice (szOf P e) []) (.slice A 0 0) [] (Free.nil _ _ _ _) (fun hd' _=>by simp only[ObjR,T];exact .inl ⟨trivial,⟨A,rfl⟩,trivial⟩)
      have hfr:=Fr.new I s.next hd w (.slice A 0 0)
      have hkill:=SR.killed h hr3 hfr.le hfr.im (fun id hid=>upd_ne _ _ (by omega))
      refine⟨_,_,hrun,_,_,_,I,_,_,.inl rfl,hk,?_,hkill,⟨Keep.refl _ _,fun b hb=>⟨hb,rfl⟩,fun id hid=>upd_ne _ _ (by omega),fun _ h=> .inl h⟩,by simp[killSt]⟩
      simp only[S,HdOf,killSt]
      exact⟨Nat.lt_succ_self _,_,rfl,.inr ⟨rfl,A,rfl⟩⟩
     ·exact grow A 0 [] [] rfl (by simp;omega) (by
       cases A with
       | none=>exact run_firstCells_none _ _ _ _ _
       | some a0=>exact run_firstCells_some _ _ _ _ _ _ [] (by simp) (by simp)) (by simp[TLL]) (List.Sublist.refl _) trivial (by simp)
    ·by_cases hroom:es1.length+es2.length≤cap
     · -- in place
      have hoff:o+es1.length*szOf P e+news.length≤cur.size:=by
       have:(es1.length+es2.length)*szOf P e≤cap*szOf P e:=Nat.mul_le_mul_right _ hroom
       rw[hnl,hisz]
       rw[Nat.add_mul] at this
       omega
      have hrun:=run_append_room_row (P:=P) t tx ty e i (tk_slice ht) hi b o es1.length cap v es2.length news hsrc hh hroom (by rw[hisz];exact hoff)
      rw[hisz] at hrun
      have hbF:=(List.nodup_cons.1 hf1.nodup)
      have hIb:=hf1.imm b (by simp)
      have hother: ∀b',b'≠b→(w.setRow b (setsA cur.toList (o+es1.length*szOf P e) news).toArray).heap[b']?=w.heap[b']?:=fun b' hb'=>setRow_other w b b' _ hb'
      have hIm: ∀b',I b'→I b'∧(w.setRow b (setsA cur.toList (o+es1.length*szOf P e) news).toArray).heap[b']?=w.heap[b']?:=fun b' hb'=>⟨hb',hother b' (fun e=>hIb (e▸hb'))⟩
      have hf12:=hf1.less hs2
      have hb2:b∉F2:=hdisj12 b (by simp)
      have hr3:=hr2.killTo (w':=w.setRow b (setsA cur.toList (o+es1.length*szOf P e) news).toArray) hIb (setRow_size _ _ _) hother (fun id o ho hm=>hf12.disj id o ho b hm (by simp))
      have htl1':=TLL.frame hIm es1 _ Fs htl1 (fun b' hb'=>hother b' (fun e=>hbF.1 (e▸hb')))
      have htl2':=TLL.frame hIm es2 _ F2 htll (fun b' hb'=>hother b' (fun e=>hb2 (e▸hb')))
      have hfree:Free M I (killH h2) Fp (b::(Fs++F2)):=by
       refine Free.kill ⟨?_,?_,?_,?_⟩
       ·refine List.nodup_cons.2 ⟨?_,List.nodup_append.2 ⟨hbF.2,hf2.nodup,?_⟩⟩
        ·intro hm;rcases List.mem_append.1 hm with hm | hm
         ·exact hbF.1 hm
         ·exact hb2 hm
        ·rintro x hx y hy' rfl
         exact hdisj12 x (by simp[hx]) hy'
       ·intro x hx;simp only[List.mem_cons,List.mem_append] at hx
        rcases hx with rfl | hx | hx
        ·exact hf1.mine _ (by simp)
        ·exact hf1.mine x (by simp[hx])
        ·exact hf2.mine x hx
       ·intro x hx;simp only[List.mem_cons,List.mem_append] at hx
        rcases hx with rfl | hx | hx
        ·exact hf1.imm _ (by simp)
        ·exact hf1.imm x (by simp[hx])
        ·exact hf2.imm x hx
       ·intro id q hq b2 hxb hm;simp only[List.mem_cons,List.mem_append] at hm
        rcases hm with hm | hm | hm
        ·exact hf12.disj id q hq b2 hxb (by simp[hm])
        ·exact hf12.disj id q hq b2 hxb (by simp[hm])
        ·exact hf2.disj id q hq b2 hxb hm
      have hr4:=hr3.addFree (.slice (szOf P e) (es1++es2)) (.slice (some ⟨b,o,none⟩) (es1.length+es2.length) cap) (b::(Fs++F2)) hfree (fun hd' _=>by
       simp only[ObjR,T]
       refine .inr ⟨b,o,cap,_,te,_,Fs++F2,by rw[List.length_append],setRow_heap w b cur _ te _ hh,by rw[List.length_append];exact hroom,hmax,by simpa [setsA_length] using hfitc,hE1.append hE2,?_,htl1'.append htl2',rfl⟩
       have hol:((cur.toList.drop o).take (es1.length*szOf P e)).length=es1.length*szOf P e:=htl1.length hE1
       rw[List.length_append,setsA_eq _ _ _ (by simpa using hoff)]
       simp only
       rw[List.append_assoc,List.drop_append_of_le_length (by simp;omega),List.drop_take,show o+es1.length*szOf P e-o=es1.length*szOf P e by omega,←List.append_assoc]
       rw[List.take_append_of_le_length (by rw[List.length_append,hol,hnl,hisz,Nat.add_mul];exact Nat.le_refl _)]
       rw[List.take_of_length_le (by rw[List.length_append,hol,hnl,hisz,Nat.add_mul];exact Nat.le_refl _)])
      have hkill:=SR.killedK (h':=(s.next,.slice (szOf P e) (es1++es2))::h2) (n':=s.next+1) h hr4 (Nat.le_succ _) hIm (fun id hid=>upd_ne hd (.slice (some ⟨b,o,none⟩) (es1.length+es2.length) cap) (by omega))
      refine⟨_,_,hrun,_,_,_,I,_,_,.inl rfl,hk,?_,hkill,⟨keep_setRow (hf1.mine b (by simp)),hIm,fun id hid=>upd_ne _ _ (by omega),fun _ h=> .inl h⟩,by simp[killSt]⟩
      simp only[S,HdOf,killSt]
      exact⟨Nat.lt_succ_self _,_,rfl,.inl ⟨b,o,_,cap,cap,by rw[upd_same],by simp,by omega,hroom,by omega⟩⟩
     ·exact grow (some ⟨b,o,none⟩) cap _ Fs rfl (by omega) (run_firstCells_some _ _ _ _ _ _ _ (by rw[hisz];exact htl1.length hE1) (fun j q hq=>by rw[addr_add];exact at_row hh j q hq)) htl1 (List.sublist_cons_self _ _) hE1 (htl1.length hE1)
   ·exact hk.elim
  ·exact hk.elim
 ·exact hk.elim
end
theorem eqs_appX:True:=by
 have:= @appX.eq_1
 trivial
theorem eqs_appY:True:=by
 have:= @appY.eq_1
 trivial
theorem eqs_appendK:True:=by
 have:= @appendK.eq_1
 trivial
end Go.Proofs.YthggfnefjbckeaaGreatDoor.X
set_option linter.unusedVariables false
set_option linter.unusedSimpArgs false
namespace Go.Proofs.YthggfnefjbckeaaGreatDoor.X
open Go
abbrev CT:=FuncId→List AV→Heap→Nat→(AV→Heap→Nat→Prop)→Prop
mutual
def frzA(h:Heap):Nat→AV→Option AV
 | _,.ref id sub sz off len=>match getS h id sub with
  | some (sz',es)=>if sz=sz' then some (.sl (frzLL ((es.drop off).take len))) else none
  | none=>none
 | k+1,.ptr id none sz i c=>match hget h id with
  | some (.var cs)=>if i=0 then(match frzAL h k (cs.drop c) with | some ys=>some (.pf ys) | none=>none) else none
  | _=>none
 | k+1,.fn f caps=>match frzAL h k caps with | some ys=>some (.fn f ys) | none=>none
 | k+1,.agg cs=>match frzAL h k cs with | some ys=>some (.agg ys) | none=>none
 | _,x=>if isF x then some x else none
def frzAL(h:Heap):Nat→List AV→Option (List AV)
 | _,[]=>some []
 | k,x::xs=>match frzA h k x,frzAL h k xs with
  | some y,some ys=>some (y::ys)
  | _,_=>none
end
section
variable{G:Glo}{M I:Nat→Prop}{h:Heap}{n:Nat}{hd:Nat→Value}{Fp:Nat→List Nat}{w:World}
theorem isF_T2{x:AV}{v:Value}(hr:HR G M I h n hd Fp w)(hf:isF x=true)(hx:S hd n w I x v):T w (fun b=>b<w.heap.size) x v []:=
 T.frame (fun b hb=>⟨(hr.imm b hb).1,rfl⟩) _ _ _ (isF_T hf hx) (by simp)
theorem frz_sound(hr:HR G M I h n hd Fp w): ∀k,(∀(x y:AV) (v:Value),S hd n w I x v→frzA h k x=some y→T w (fun b=>b<w.heap.size) y v [])∧
  (∀(xs ys:List AV) (vs:List Value),SL hd n w I xs vs→frzAL h k xs=some ys→TL w (fun b=>b<w.heap.size) ys vs []):=by
 have base: ∀k,(∀(x y:AV) (v:Value),S hd n w I x v→frzA h k x=some y→T w (fun b=>b<w.heap.size) y v [])→
   (∀(xs ys:List AV) (vs:List Value),SL hd n w I xs vs→frzAL h k xs=some ys→TL w (fun b=>b<w.heap.size) ys vs []):=by
  intro k hk xs
  induction xs with
  | nil=>
   intro ys vs hx hy
   simp only[frzAL,Option.some.injEq] at hy
   subst hy
   simp only[SL] at hx
   simp only[TL];exact⟨hx,trivial⟩
  | cons x xs ih=>
   intro ys vs hx hy
   simp only[SL] at hx
   obtain⟨v,vs',rfl,h1,hxv,hxs⟩:=hx
   simp only[frzAL] at hy
   split at hy
   ·rename_i y ys' e1 e2
    simp only[Option.some.injEq] at hy
    subst hy
    simp only[TL]
    exact⟨v,vs',[],[],rfl,rfl,h1,hk x y v hxv e1,ih ys' vs' hxs e2⟩
   ·cases hy
 have hsl: ∀(id:Nat) (sub:Option (Nat×Nat×Nat)) (sz off len:Nat) (y:AV) (v:Value),S hd n w I (.ref id sub sz off len) v→(match getS h id sub with
   | some (sz',es)=>if sz=sz' then some (AV.sl (frzLL ((es.drop off).take len))) else none
   | none=>none)=some y→T w (fun b=>b<w.heap.size) y v []:=by
  intro id sub sz off len y v hx hy
  split at hy
  ·rename_i sz' es hg
   split at hy
   ·rename_i hsz
    subst hsz
    simp only[Option.some.injEq] at hy
    subst hy
    obtain⟨hv',F,ob,ho,hh',hT,hsub⟩:=getS_sound hr hg
    simp only[S] at hx
    obtain⟨hid,hv,hh,hw⟩:=hx
    obtain⟨F',hT2,hs2,hlen⟩:=ow_win2 hT hh hh' hw
    have:=T.frz (I':=fun b=>b<w.heap.size) (fun b hb=>(hr.imm b hb).1) _ _ _ hT2 (T.lt _ _ _ hT2)
    simpa only[frzT] using this
   ·cases hy
  ·cases hy
 have hvar: ∀k,(∀(xs ys:List AV) (vs:List Value),SL hd n w I xs vs→frzAL h k xs=some ys→TL w (fun b=>b<w.heap.size) ys vs [])→
   ∀(x y:AV) (v:Value),S hd n w I x v→frzA h (k+1) x=some y→T w (fun b=>b<w.heap.size) y v []:=by
  intro k ih x y v hx hy
  cases x<;>try simp only[frzA] at hy
  case ref id sub sz off len=>exact hsl id sub sz off len y v hx hy
  case ptr id sub sz i c=>
   cases sub with
   | some p=>simp[frzA,isF] at hy
   | none=>
    simp only[frzA] at hy
    split at hy
    ·rename_i cs ho
     split at hy
     ·rename_i hi0
      subst hi0
      split at hy
      ·rename_i ys e1
       simp only[Option.some.injEq] at hy
       subst hy
       simp only[S,HdOf] at hx
       obtain⟨hid,hv,b,o,rfl,hb,rfl⟩:=hx
       obtain⟨b',cur,e,hp,hhp,hs,hF⟩:=hr.obj id _ ho
       obtain⟨rfl,rfl⟩:=hb.uniq (.inr hp)
       simp only[T]
       refine⟨trivial,b,_,cur.toList.drop c,rfl,lt_of_heap hhp,?_,ih _ _ _ (hs.drop c) e1⟩
       intro j u hu
       rw[List.getElem?_drop] at hu
       rw[show 0+(0*sz+c)+j=c+j by omega]
       simpa [World.cell?,hhp] using hu
      ·cases hy
     ·cases hy
    ·cases hy
  case fn f caps=>
   split at hy
   ·rename_i ys e1
    simp only[Option.some.injEq] at hy
    subst hy
    simp only[S] at hx
    obtain⟨vs,rfl,hs⟩:=hx
    simp only[T]
    exact⟨vs,rfl,ih _ _ _ hs e1⟩
   ·cases hy
  case agg cs=>
   split at hy
   ·rename_i ys e1
    simp only[Option.some.injEq] at hy
    subst hy
    simp only[S] at hx
    obtain⟨vs,rfl,hs⟩:=hx
    simp only[T]
    exact⟨vs,rfl,ih _ _ _ hs e1⟩
   ·cases hy
  all_goals
   split at hy
   ·rename_i hf
    simp only[Option.some.injEq] at hy
    subst hy
    exact isF_T2 hr hf hx
   ·cases hy
 intro k
 induction k with
 | zero=>
  have h0: ∀(x y:AV) (v:Value),S hd n w I x v→frzA h 0 x=some y→T w (fun b=>b<w.heap.size) y v []:=by
   intro x y v hx hy
   cases x<;>try simp only[frzA] at hy
   case ref id sub sz off len=>exact hsl id sub sz off len y v hx hy
   all_goals
    split at hy
    ·rename_i hf
     simp only[Option.some.injEq] at hy
     subst hy
     exact isF_T2 hr hf hx
    ·cases hy
  exact⟨h0,base 0 h0⟩
 | succ k ih=>
  have h1:=hvar k ih.2
  exact⟨h1,base (k+1) h1⟩
end
mutual
def NilTo:AV→AV→Prop
 | .nil,y=>y= .nil∨ ∃sz,y= .ow sz []
 | .ow sz es,y=> ∃es',y= .ow sz es'∧NilToLL es es'
 | .agg xs,y=> ∃ys,y= .agg ys∧NilToL xs ys
 | .tup xs,y=> ∃ys,y= .tup ys∧NilToL xs ys
 | .op xs,y=> ∃ys,y= .op ys∧NilToL xs ys
 | x,y=>x=y
def NilToL:List AV→List AV→Prop
 | [],ys=>ys=[]
 | x::xs,ys=> ∃y ys',ys=y::ys'∧NilTo x y∧NilToL xs ys'
def NilToLL:List (List AV)→List (List AV)→Prop
 | [],ys=>ys=[]
 | x::xs,ys=> ∃y ys',ys=y::ys'∧NilToL x y∧NilToLL xs ys'
end
mutual
def ownR:AV→Bool
 | .con _ | .int .. | .bool _ | .str _ | .nil=>true
 | .ow _ es=>ownRLL es
 | .op cs=>ownRL cs
 | .agg cs=>ownRL cs
 | .tup cs=>ownRL cs
 | _=>false
def ownRL:List AV→Bool
 | []=>true
 | x::xs=>ownR x&&ownRL xs
def ownRLL:List (List AV)→Bool
 | []=>true
 | x::xs=>ownRL x&&ownRLL xs
end
section
variable{w:World}{I I':Nat→Prop}
mutual
theorem T.nilTo: ∀(x y:AV) (v:Value) (F:List Nat),T w I x v F→NilTo x y→T w I y v F
 | .nil,y,v,F,h,hy=>by
  simp only[NilTo] at hy
  rcases hy with rfl | ⟨sz,rfl⟩
  ·exact h
  ·simp only[T] at h⊢
   obtain⟨rfl,rfl⟩:=h
   exact .inl ⟨trivial,⟨none,rfl⟩,rfl⟩
 | .ow sz es,y,v,F,h,hy=>by
  simp only[NilTo] at hy
  obtain⟨es',rfl,hy⟩:=hy
  have hl:=NilToLL.length es es' hy
  simp only[T] at h⊢
  rcases h with ⟨rfl,hA,rfl⟩ | ⟨b,o,c,cur,e,vs,Fs,hv,hh,hc,hm,ho,hE,hvs,ht,rfl⟩
  ·exact .inl ⟨List.eq_nil_of_length_eq_zero hl,hA,rfl⟩
  ·exact .inr ⟨b,o,c,cur,e,vs,Fs,by rw[hl];exact hv,hh,by rw[hl];exact hc,hm,ho,NilToLL.each es es' hy hE,by rw[hl];exact hvs,TLL.nilTo es es' vs Fs ht hy,rfl⟩
 | .agg xs,y,v,F,h,hy=>by
  simp only[NilTo] at hy
  obtain⟨ys,rfl,hy⟩:=hy
  simp only[T] at h⊢
  obtain⟨vs,rfl,ht⟩:=h
  exact⟨vs,rfl,TL.nilTo xs ys _ F ht hy⟩
 | .tup xs,y,v,F,h,hy=>by
  simp only[NilTo] at hy
  obtain⟨ys,rfl,hy⟩:=hy
  simp only[T] at h⊢
  obtain⟨vs,rfl,ht⟩:=h
  exact⟨vs,rfl,TV.nilTo xs ys _ F ht hy⟩
 | .op xs,y,v,F,h,hy=>by
  simp only[NilTo] at hy
  obtain⟨ys,rfl,hy⟩:=hy
  simp only[T] at h⊢
  obtain⟨b,cur,e,Fs,rfl,hh,ht,rfl⟩:=h
  exact⟨b,cur,e,Fs,rfl,hh,TL.nilTo xs ys _ Fs ht hy,rfl⟩
 | .any,y,v,F,h,hy=>by simp only[NilTo] at hy;subst hy;exact h
 | .con u,y,v,F,h,hy=>by simp only[NilTo] at hy;subst hy;exact h
 | .int k n,y,v,F,h,hy=>by simp only[NilTo] at hy;subst hy;exact h
 | .bool b,y,v,F,h,hy=>by simp only[NilTo] at hy;subst hy;exact h
 | .str s,y,v,F,h,hy=>by simp only[NilTo] at hy;subst hy;exact h
 | .sl es,y,v,F,h,hy=>by simp only[NilTo] at hy;subst hy;exact h
 | .pf cs,y,v,F,h,hy=>by simp only[NilTo] at hy;subst hy;exact h
 | .fn f caps,y,v,F,h,hy=>by simp only[NilTo] at hy;subst hy;exact h
 | .ref _ _ _ _ _,y,v,F,h,hy=>by simp only[T] at h
 | .ptr _ _ _ _ _,y,v,F,h,hy=>by simp only[T] at h
theorem TL.nilTo: ∀(xs ys:List AV) (vs:List Value) (F:List Nat),TL w I xs vs F→NilToL xs ys→TL w I ys vs F
 | [],ys,vs,F,h,hy=>by simp only[NilToL] at hy;subst hy;exact h
 | x::xs,ys,vs,F,h,hy=>by
  simp only[NilToL] at hy
  obtain⟨y,ys',rfl,hy1,hy2⟩:=hy
  simp only[TL] at h⊢
  obtain⟨v,vs',F1,F2,rfl,rfl,h1,hx,hxs⟩:=h
  exact⟨v,vs',F1,F2,rfl,rfl,h1,T.nilTo x y v F1 hx hy1,TL.nilTo xs ys' vs' F2 hxs hy2⟩
theorem TV.nilTo: ∀(xs ys:List AV) (vs:List Value) (F:List Nat),TV w I xs vs F→NilToL xs ys→TV w I ys vs F
 | [],ys,vs,F,h,hy=>by simp only[NilToL] at hy;subst hy;exact h
 | x::xs,ys,vs,F,h,hy=>by
  simp only[NilToL] at hy
  obtain⟨y,ys',rfl,hy1,hy2⟩:=hy
  simp only[TV] at h⊢
  obtain⟨v,vs',F1,F2,rfl,rfl,hx,hxs⟩:=h
  exact⟨v,vs',F1,F2,rfl,rfl,T.nilTo x y v F1 hx hy1,TV.nilTo xs ys' vs' F2 hxs hy2⟩
theorem TLL.nilTo: ∀(xs ys:List (List AV)) (vs:List Value) (F:List Nat),TLL w I xs vs F→NilToLL xs ys→TLL w I ys vs F
 | [],ys,vs,F,h,hy=>by simp only[NilToLL] at hy;subst hy;exact h
 | x::xs,ys,vs,F,h,hy=>by
  simp only[NilToLL] at hy
  obtain⟨y,ys',rfl,hy1,hy2⟩:=hy
  simp only[TLL] at h⊢
  obtain⟨v1,v2,F1,F2,rfl,rfl,hx,hxs⟩:=h
  exact⟨v1,v2,F1,F2,rfl,rfl,TL.nilTo x y v1 F1 hx hy1,TLL.nilTo xs ys' v2 F2 hxs hy2⟩
theorem NilToL.length: ∀(xs ys:List AV),NilToL xs ys→ys.length=xs.length
 | [],ys,h=>by simp only[NilToL] at h;subst h;rfl
 | x::xs,ys,h=>by
  simp only[NilToL] at h
  obtain⟨y,ys',rfl,h1,h2⟩:=h
  simp[NilToL.length xs ys' h2]
theorem NilToLL.length: ∀(xs ys:List (List AV)),NilToLL xs ys→ys.length=xs.length
 | [],ys,h=>by simp only[NilToLL] at h;subst h;rfl
 | x::xs,ys,h=>by
  simp only[NilToLL] at h
  obtain⟨y,ys',rfl,h1,h2⟩:=h
  simp[NilToLL.length xs ys' h2]
theorem NilToLL.each{sz:Nat}: ∀(xs ys:List (List AV)),NilToLL xs ys→Each sz xs→Each sz ys
 | [],ys,h,_=>by simp only[NilToLL] at h;subst h;trivial
 | x::xs,ys,h,hE=>by
  simp only[NilToLL] at h
  obtain⟨y,ys',rfl,h1,h2⟩:=h
  exact⟨(NilToL.length x y h1).trans hE.1,NilToLL.each xs ys' h2 hE.2⟩
end
mutual
theorem T.anyI: ∀(x:AV) (v:Value) (F:List Nat),ownR x=true→T w I x v F→T w I' x v F
 | .con u,v,F,_,h=>by simpa only[T] using h
 | .int k n,v,F,_,h=>by simpa only[T] using h
 | .bool b,v,F,_,h=>by simpa only[T] using h
 | .str s,v,F,_,h=>by simpa only[T] using h
 | .nil,v,F,_,h=>by simpa only[T] using h
 | .ow sz es,v,F,ho,h=>by
  simp only[ownR] at ho
  simp only[T] at h⊢
  refine h.imp id ?_
  rintro⟨b,o,c,cur,e,vs,Fs,hv,hh,hc,hm,ho',hE,hvs,ht,rfl⟩
  exact⟨b,o,c,cur,e,vs,Fs,hv,hh,hc,hm,ho',hE,hvs,TLL.anyI es vs Fs ho ht,rfl⟩
 | .op cs,v,F,ho,h=>by
  simp only[ownR] at ho
  simp only[T] at h⊢
  obtain⟨b,cur,e,Fs,hv,hh,ht,rfl⟩:=h
  exact⟨b,cur,e,Fs,hv,hh,TL.anyI cs _ Fs ho ht,rfl⟩
 | .agg cs,v,F,ho,h=>by
  simp only[ownR] at ho
  simp only[T] at h⊢
  obtain⟨vs,hv,ht⟩:=h
  exact⟨vs,hv,TL.anyI cs _ F ho ht⟩
 | .tup cs,v,F,ho,h=>by
  simp only[ownR] at ho
  simp only[T] at h⊢
  obtain⟨vs,hv,ht⟩:=h
  exact⟨vs,hv,TV.anyI cs _ F ho ht⟩
 | .any,v,F,ho,h=>by simp[ownR] at ho
 | .sl _,v,F,ho,h=>by simp[ownR] at ho
 | .pf _,v,F,ho,h=>by simp[ownR] at ho
 | .fn _ _,v,F,ho,h=>by simp[ownR] at ho
 | .ref _ _ _ _ _,v,F,ho,h=>by simp[ownR] at ho
 | .ptr _ _ _ _ _,v,F,ho,h=>by simp[ownR] at ho
theorem TL.anyI: ∀(xs:List AV) (vs:List Value) (F:List Nat),ownRL xs=true→TL w I xs vs F→TL w I' xs vs F
 | [],vs,F,_,h=>by simpa only[TL] using h
 | x::xs,vs,F,ho,h=>by
  simp only[ownRL,Bool.and_eq_true] at ho
  simp only[TL] at h⊢
  obtain⟨v,vs',F1,F2,rfl,rfl,h1,hx,hxs⟩:=h
  exact⟨v,vs',F1,F2,rfl,rfl,h1,T.anyI x v F1 ho.1 hx,TL.anyI xs vs' F2 ho.2 hxs⟩
theorem TV.anyI: ∀(xs:List AV) (vs:List Value) (F:List Nat),ownRL xs=true→TV w I xs vs F→TV w I' xs vs F
 | [],vs,F,_,h=>by simpa only[TV] using h
 | x::xs,vs,F,ho,h=>by
  simp only[ownRL,Bool.and_eq_true] at ho
  simp only[TV] at h⊢
  obtain⟨v,vs',F1,F2,rfl,rfl,hx,hxs⟩:=h
  exact⟨v,vs',F1,F2,rfl,rfl,T.anyI x v F1 ho.1 hx,TV.anyI xs vs' F2 ho.2 hxs⟩
theorem TLL.anyI: ∀(xs:List (List AV)) (vs:List Value) (F:List Nat),ownRLL xs=true→TLL w I xs vs F→TLL w I' xs vs F
 | [],vs,F,_,h=>by simpa only[TLL] using h
 | x::xs,vs,F,ho,h=>by
  simp only[ownRLL,Bool.and_eq_true] at ho
  simp only[TLL] at h⊢
  obtain⟨v1,v2,F1,F2,rfl,rfl,hx,hxs⟩:=h
  exact⟨v1,v2,F1,F2,rfl,rfl,TL.anyI x v1 F1 ho.1 hx,TLL.anyI xs v2 F2 ho.2 hxs⟩
end
end
theorem eqs_frzA:True:=by
 have:= @frzA.eq_1
 trivial
theorem eqs_frzAL:True:=by
 have:= @frzAL.eq_1
 trivial
end Go.Proofs.YthggfnefjbckeaaGreatDoor.X
set_option linter.unusedVariables false
set_option linter.unusedSimpArgs false
namespace Go.Proofs.YthggfnefjbckeaaGreatDoor.X
open Go
mutual
def conR:Nat→Heap→AV→Option (AV×Heap)
 | _,h,.ref id none sz off len=>match hget h id with
  | some (.slice sz' es)=>if sz=sz' then some (.ow sz ((es.drop off).take len),hdel h id) else none
  | _=>none
 | k+1,h,.ptr id none sz i c=>match hget h id with
  | some (.var cs)=>if i=0∧c=0 then(match conRL k (hdel h id) cs with | some (ys,h')=>some (.op ys,h') | none=>none) else none
  | _=>none
 | k+1,h,.agg cs=>match conRL k h cs with | some (ys,h')=>some (.agg ys,h') | none=>none
 | k+1,h,.tup cs=>match conRL k h cs with | some (ys,h')=>some (.tup ys,h') | none=>none
 | _,h,x=>if isF x then some (x,h) else none
def conRL:Nat→Heap→List AV→Option (List AV×Heap)
 | _,h,[]=>some ([],h)
 | k,h,x::xs=>match conR k h x with
  | some (y,h1)=>match conRL k h1 xs with
   | some (ys,h2)=>some (y::ys,h2)
   | none=>none
  | none=>none
end
section
variable{G:Glo}{M I:Nat→Prop}{n:Nat}{hd:Nat→Value}{Fp:Nat→List Nat}{w:World}
def Handed(G:Glo)(M I:Nat→Prop)(n:Nat)(hd:Nat→Value)(Fp:Nat→List Nat)(w:World)(h h':Heap)(F:List Nat):Prop:=
 HR G M I h' n hd Fp w∧Free M I h' Fp F∧Sub h' h∧(∀b∈F,∃id o,hget h id=some o∧b∈Fp id)
theorem Handed.join{h h1 h2:Heap}{F1 F2:List Nat}(a:Handed G M I n hd Fp w h h1 F1)(b:Handed G M I n hd Fp w h1 h2 F2):Handed G M I n hd Fp w h h2 (F1++F2):=by
 obtain⟨hr1,hf1,hs1,ho1⟩:=a
 obtain⟨hr2,hf2,hs2,ho2⟩:=b
 refine⟨hr2,⟨?_,?_,?_,?_⟩,hs2.trans hs1,?_⟩
 ·refine List.nodup_append.2 ⟨hf1.nodup,hf2.nodup,?_⟩
  rintro b hb1 b' hb2 rfl
  obtain⟨id,o,ho,hb⟩:=ho2 b hb2
  exact hf1.disj id o ho b hb hb1
 ·intro b hb
  rcases List.mem_append.1 hb with hb | hb
  ·exact hf1.mine b hb
  ·exact hf2.mine b hb
 ·intro b hb
  rcases List.mem_append.1 hb with hb | hb
  ·exact hf1.imm b hb
  ·exact hf2.imm b hb
 ·intro id o ho b hb hm
  rcases List.mem_append.1 hm with hm | hm
  ·exact(hf1.less hs2).disj id o ho b hb hm
  ·exact hf2.disj id o ho b hb hm
 ·intro b hb
  rcases List.mem_append.1 hb with hb | hb
  ·exact ho1 b hb
  ·obtain⟨id,o,ho,hb'⟩:=ho2 b hb
   exact⟨id,o,hs1 id o ho,hb'⟩
theorem Handed.refl{h:Heap}(hr:HR G M I h n hd Fp w):Handed G M I n hd Fp w h h []:=⟨hr,Free.nil _ _ _ _,Sub.refl _,by simp⟩
theorem conR_sound: ∀k,(∀(h:Heap),HR G M I h n hd Fp w→ ∀(x y:AV) (h':Heap) (v:Value),S hd n w I x v→conR k h x=some (y,h')→ ∃F,T w I y v F∧Handed G M I n hd Fp w h h' F)∧
  (∀(h:Heap),HR G M I h n hd Fp w→ ∀(xs ys:List AV) (h':Heap) (vs:List Value),SL hd n w I xs vs→conRL k h xs=some (ys,h')→ ∃F,TL w I ys vs F∧Handed G M I n hd Fp w h h' F)∧
  (∀(h:Heap),HR G M I h n hd Fp w→ ∀(xs ys:List AV) (h':Heap) (vs:List Value),SV hd n w I xs vs→conRL k h xs=some (ys,h')→ ∃F,TV w I ys vs F∧Handed G M I n hd Fp w h h' F):=by
 have href: ∀(h:Heap),HR G M I h n hd Fp w→ ∀(id sz off len:Nat) (y:AV) (h':Heap) (v:Value),S hd n w I (.ref id none sz off len) v→(match hget h id with
   | some (.slice sz' es)=>if sz=sz' then some (AV.ow sz ((es.drop off).take len),hdel h id) else none
   | _=>none)=some (y,h')→ ∃F,T w I y v F∧Handed G M I n hd Fp w h h' F:=by
  intro h hr id sz off len y h' v hx hy
  obtain⟨F,h1,h2,h3,h4,h5⟩:=conC_sound (y:=y) (h':=h') hr hx (by unfold conC;exact hy)
  exact⟨F,h2,h1,h3,h4,h5⟩
 have hF: ∀(h:Heap),HR G M I h n hd Fp w→ ∀(x y:AV) (h':Heap) (v:Value),S hd n w I x v→(if isF x then some (x,h) else none)=some (y,h')→ ∃F,T w I y v F∧Handed G M I n hd Fp w h h' F:=by
  intro h hr x y h' v hx hy
  split at hy
  ·rename_i hf
   simp only[Option.some.injEq,Prod.mk.injEq] at hy
   obtain⟨rfl,rfl⟩:=hy
   exact⟨[],isF_T hf hx,Handed.refl hr⟩
  ·cases hy
 have lists: ∀k,(∀(h:Heap),HR G M I h n hd Fp w→ ∀(x y:AV) (h':Heap) (v:Value),S hd n w I x v→conR k h x=some (y,h')→ ∃F,T w I y v F∧Handed G M I n hd Fp w h h' F)→
   (∀(h:Heap),HR G M I h n hd Fp w→ ∀(xs ys:List AV) (h':Heap) (vs:List Value),SL hd n w I xs vs→conRL k h xs=some (ys,h')→ ∃F,TL w I ys vs F∧Handed G M I n hd Fp w h h' F)∧
   (∀(h:Heap),HR G M I h n hd Fp w→ ∀(xs ys:List AV) (h':Heap) (vs:List Value),SV hd n w I xs vs→conRL k h xs=some (ys,h')→ ∃F,TV w I ys vs F∧Handed G M I n hd Fp w h h' F):=by
  intro k hk
  constructor
  ·intro h hr xs
   induction xs generalizing h with
   | nil=>
    intro ys h' vs hx hy
    simp only[conRL,Option.some.injEq,Prod.mk.injEq] at hy
    obtain⟨rfl,rfl⟩:=hy
    simp only[SL] at hx
    exact⟨[],by simp only[TL];exact⟨hx,trivial⟩,Handed.refl hr⟩
   | cons x xs ih=>
    intro ys h' vs hx hy
    simp only[SL] at hx
    obtain⟨v,vs',rfl,h1,hxv,hxs⟩:=hx
    simp only[conRL] at hy
    split at hy
    ·rename_i y h1' e1
     split at hy
     ·rename_i ys' h2' e2
      simp only[Option.some.injEq,Prod.mk.injEq] at hy
      obtain⟨rfl,rfl⟩:=hy
      obtain⟨F1,hT1,hH1⟩:=hk h hr x y h1' v hxv e1
      obtain⟨F2,hT2,hH2⟩:=ih h1' hH1.1 ys' h2' vs' hxs e2
      exact⟨F1++F2,by simp only[TL];exact⟨v,vs',F1,F2,rfl,rfl,h1,hT1,hT2⟩,hH1.join hH2⟩
     ·cases hy
    ·cases hy
  ·intro h hr xs
   induction xs generalizing h with
   | nil=>
    intro ys h' vs hx hy
    simp only[conRL,Option.some.injEq,Prod.mk.injEq] at hy
    obtain⟨rfl,rfl⟩:=hy
    simp only[SV] at hx
    exact⟨[],by simp only[TV];exact⟨hx,trivial⟩,Handed.refl hr⟩
   | cons x xs ih=>
    intro ys h' vs hx hy
    simp only[SV] at hx
    obtain⟨v,vs',rfl,hxv,hxs⟩:=hx
    simp only[conRL] at hy
    split at hy
    ·rename_i y h1' e1
     split at hy
     ·rename_i ys' h2' e2
      simp only[Option.some.injEq,Prod.mk.injEq] at hy
      obtain⟨rfl,rfl⟩:=hy
      obtain⟨F1,hT1,hH1⟩:=hk h hr x y h1' v hxv e1
      obtain⟨F2,hT2,hH2⟩:=ih h1' hH1.1 ys' h2' vs' hxs e2
      exact⟨F1++F2,by simp only[TV];exact⟨v,vs',F1,F2,rfl,rfl,hT1,hT2⟩,hH1.join hH2⟩
     ·cases hy
    ·cases hy
 intro k
 induction k with
 | zero=>
  have h0: ∀(h:Heap),HR G M I h n hd Fp w→ ∀(x y:AV) (h':Heap) (v:Value),S hd n w I x v→conR 0 h x=some (y,h')→ ∃F,T w I y v F∧Handed G M I n hd Fp w h h' F:=by
   intro h hr x y h' v hx hy
   cases x
   case ref id sub sz off len=>
    cases sub with
    | none=>simp only[conR] at hy;exact href h hr id sz off len y h' v hx hy
    | some p=>simp[conR,isF] at hy
   all_goals (simp only[conR] at hy;exact hF h hr _ y h' v hx hy)
  exact⟨h0,lists 0 h0⟩
 | succ k ih=>
  obtain⟨ih1,ih2,ih3⟩:=ih
  have h0: ∀(h:Heap),HR G M I h n hd Fp w→ ∀(x y:AV) (h':Heap) (v:Value),S hd n w I x v→conR (k+1) h x=some (y,h')→ ∃F,T w I y v F∧Handed G M I n hd Fp w h h' F:=by
   intro h hr x y h' v hx hy
   cases x
   case ref id sub sz off len=>
    cases sub with
    | none=>simp only[conR] at hy;exact href h hr id sz off len y h' v hx hy
    | some p=>simp[conR,isF] at hy
   case ptr id sub sz i c=>
    cases sub with
    | some p=>simp[conR,isF] at hy
    | none=>
     simp only[conR] at hy
     split at hy
     ·rename_i cs ho
      split at hy
      ·rename_i hic
       obtain⟨rfl,rfl⟩:=hic
       split at hy
       ·rename_i ys h1' e1
        simp only[Option.some.injEq,Prod.mk.injEq] at hy
        obtain⟨rfl,rfl⟩:=hy
        simp only[S,HdOf] at hx
        obtain⟨hid,hv,b,o,rfl,hb,rfl⟩:=hx
        obtain⟨b',cur,e,hp,hhp,hs,hFp⟩:=hr.obj id _ ho
        obtain⟨rfl,rfl⟩:=hb.uniq (.inr hp)
        obtain⟨F,hT,hH⟩:=ih2 (hdel h id) (hr.del id) cs ys h1' _ hs e1
        have hfree:=hr.freed ho
        rw[hFp] at hfree
        have hH0:Handed G M I n hd Fp w h (hdel h id) [b]:=⟨hr.del id,hfree,Sub.del h id,fun b' hb'=>⟨id,_,ho,by rw[hFp];exact hb'⟩⟩
        refine⟨b::F,?_,hH0.join hH⟩
        simp only[T]
        exact⟨b,cur,e,F,by simp,hhp,hT,rfl⟩
       ·cases hy
      ·cases hy
     ·cases hy
   case agg cs=>
    simp only[conR] at hy
    split at hy
    ·rename_i ys h1' e1
     simp only[Option.some.injEq,Prod.mk.injEq] at hy
     obtain⟨rfl,rfl⟩:=hy
     simp only[S] at hx
     obtain⟨vs,rfl,hs⟩:=hx
     obtain⟨F,hT,hH⟩:=ih2 h hr cs ys h1' _ hs e1
     exact⟨F,by simp only[T];exact⟨vs,rfl,hT⟩,hH⟩
    ·cases hy
   case tup cs=>
    simp only[conR] at hy
    split at hy
    ·rename_i ys h1' e1
     simp only[Option.some.injEq,Prod.mk.injEq] at hy
     obtain⟨rfl,rfl⟩:=hy
     simp only[S] at hx
     obtain⟨vs,rfl,hs⟩:=hx
     obtain⟨F,hT,hH⟩:=ih3 h hr cs ys h1' _ hs e1
     exact⟨F,by simp only[T];exact⟨vs,rfl,hT⟩,hH⟩
    ·cases hy
   all_goals (simp only[conR] at hy;exact hF h hr _ y h' v hx hy)
  exact⟨h0,lists (k+1) h0⟩
end
mutual
def imp(n:Nat):AV→AV×Heap×Nat
 | .ow sz es=>(.ref n none sz 0 es.length,[(n,.slice sz es)],n+1)
 | .op cs=>match impL n cs with | (ys,hs,n1)=>(.ptr n1 none 0 0 0,(n1,.var ys)::hs,n1+1)
 | .agg cs=>match impL n cs with | (ys,hs,n1)=>(.agg ys,hs,n1)
 | .tup cs=>match impL n cs with | (ys,hs,n1)=>(.tup ys,hs,n1)
 | .fn _ _=>(.any,[],n)
 | x=>(x,[],n)
def impL(n:Nat):List AV→List AV×Heap×Nat
 | []=>([],[],n)
 | x::xs=>match imp n x with
  | (y,h1,n1)=>match impL n1 xs with
   | (ys,h2,n2)=>(y::ys,h2++h1,n2)
end
section
variable{G:Glo}{M I:Nat→Prop}{w:World}
theorem T.nilF{x:AV}{v:Value}{F:List Nat}(h:T w I x v F)(e:F=[]):T w I x v []:=e▸h
def Home(G:Glo)(M I:Nat→Prop)(w:World)(h:Heap)(n:Nat)(hd:Nat→Value)(Fp:Nat→List Nat)(F:List Nat)(hs:Heap)(n':Nat)(P:(Nat→Value)→Prop):Prop:=
 n≤n'∧ ∃hd' Fp',HR G M I (hs++h) n' hd' Fp' w∧Fr I I n n' hd hd' w w∧(∀id,id<n→hd' id=hd id)∧(∀F0,Free M I h Fp F0→(∀b∈F0,b∉F)→Free M I (hs++h) Fp' F0)∧P hd'
mutual
theorem imp_sound: ∀(x:AV) (h:Heap) (n:Nat) (hd:Nat→Value) (Fp:Nat→List Nat) (v:Value) (F:List Nat),HR G M I h n hd Fp w→T w I x v F→Free M I h Fp F→
  Home G M I w h n hd Fp F (imp n x).2.1 (imp n x).2.2 (fun hd'=>S hd' (imp n x).2.2 w I (imp n x).1 v)
 | .ow sz es,h,n,hd,Fp,v,F,hr,hT,hf=>by
  simp only[imp]
  refine⟨Nat.le_succ n,_,_,hr.addFree (.slice sz es) v F hf (fun hd' _=>hT),Fr.new I n hd w v,fun id hid=>upd_ne _ _ (by omega),fun F0 hf0 hd0=>?_,?_⟩
  ·refine⟨hf0.nodup,hf0.mine,hf0.imm,fun id o ho b hb hm=>?_⟩
   by_cases hid:n=id
   ·subst hid;simp only[upd_same] at hb;exact hd0 b hm hb
   ·rw[upd_ne _ _ hid] at hb
    simp only[List.cons_append,List.nil_append,hget,hid,if_false] at ho
    exact hf0.disj id o ho b hb hm
  ·simp only[S,HdOf,upd_same]
   refine⟨Nat.lt_succ_self n,v,rfl,?_⟩
   simp only[T] at hT
   rcases hT with ⟨rfl,⟨A,rfl⟩,_⟩ | ⟨b,o,c,cur,e,vs,Fs,rfl,hh,hc,hm,ho,hE,hvs,ht,rfl⟩
   ·exact .inr ⟨rfl,A,rfl⟩
   ·exact .inl ⟨b,o,_,c,c,rfl,by simp,by omega,hc,by omega⟩
 | .op cs,h,n,hd,Fp,v,F,hr,hT,hf=>by
  simp only[T] at hT
  obtain⟨b,cur,e,Fs,rfl,hh,ht,rfl⟩:=hT
  have hfs:Free M I h Fp Fs:=hf.sub (List.sublist_cons_self _ _)
  obtain⟨hn,hd1,Fp1,hr1,fr1,hx1,hk1,hS1⟩:=impL_sound cs h n hd Fp cur.toList Fs hr ht hfs
  have hfb:Free M I ((impL n cs).2.1++h) Fp1 [b]:=hk1 [b] (hf.sub (by simp)) (by
   intro b' hb' hm
   simp at hb';subst hb'
   exact(List.nodup_cons.1 hf.nodup).1 hm)
  simp only[imp]
  have hnew:=hr1.addFree (.var (impL n cs).1) (.pointer (some ⟨b,0,none⟩)) [b] hfb (fun hd' hx=>⟨b,cur,e,rfl,hh,by
   refine SL.frame (Nat.le_succ _) (fun b hb=>⟨hb,rfl⟩) (fun id hid sub u hu=>?_) _ _ hS1
   cases sub with
   | none=>simp only[HdOf] at hu⊢;rw[hx id hid];exact hu
   | some p=>obtain⟨p1,p2,p3⟩:=p;simp only[HdOf] at hu⊢;rw[hx id hid];exact hu,rfl⟩)
  refine⟨Nat.le_trans hn (Nat.le_succ _),_,_,hnew,fr1.trans (Fr.new I _ hd1 w _),fun id hid=>(upd_ne _ _ (Nat.ne_of_gt (Nat.lt_of_lt_of_le hid hn))).trans (hx1 id hid),fun F0 hf0 hd0=>?_,?_⟩
  ·have h1:=hk1 F0 hf0 (fun b' hb' hm=>hd0 b' hb' (List.mem_cons_of_mem _ hm))
   refine⟨h1.nodup,h1.mine,h1.imm,fun id o ho b' hb' hm=>?_⟩
   by_cases hid:(impL n cs).2.2=id
   ·subst hid;simp only[upd_same] at hb';simp at hb';subst hb';exact hd0 _ hm (by simp)
   ·rw[upd_ne _ _ hid] at hb'
    simp only[List.cons_append,hget,hid,if_false] at ho
    exact h1.disj id o ho b' hb' hm
  ·simp only[S,HdOf,upd_same]
   exact⟨Nat.lt_succ_self _,_,b,0,rfl,.inr rfl,rfl⟩
 | .agg cs,h,n,hd,Fp,v,F,hr,hT,hf=>by
  simp only[T] at hT
  obtain⟨vs,rfl,ht⟩:=hT
  obtain⟨hn,hd1,Fp1,hr1,fr1,hx1,hk1,hS1⟩:=impL_sound cs h n hd Fp vs.toList F hr ht hf
  simp only[imp]
  exact⟨hn,hd1,Fp1,hr1,fr1,hx1,hk1,by simp only[S];exact⟨vs,rfl,hS1⟩⟩
 | .tup cs,h,n,hd,Fp,v,F,hr,hT,hf=>by
  simp only[T] at hT
  obtain⟨vs,rfl,ht⟩:=hT
  obtain⟨hn,hd1,Fp1,hr1,fr1,hx1,hk1,hS1⟩:=impV_sound cs h n hd Fp vs.toList F hr ht hf
  simp only[imp]
  exact⟨hn,hd1,Fp1,hr1,fr1,hx1,hk1,by simp only[S];exact⟨vs,rfl,hS1⟩⟩
 | .any,h,n,hd,Fp,v,F,hr,hT,hf=>⟨Nat.le_refl _,hd,Fp,hr,Fr.refl _ _ _ _,fun _ _=>rfl,fun F0 hf0 _=>hf0,by simp only[imp,S]⟩
 | .con u,h,n,hd,Fp,v,F,hr,hT,hf=>⟨Nat.le_refl _,hd,Fp,hr,Fr.refl _ _ _ _,fun _ _=>rfl,fun F0 hf0 _=>hf0,by simp only[imp,S,T] at hT⊢;exact hT.1⟩
 | .int k m,h,n,hd,Fp,v,F,hr,hT,hf=>⟨Nat.le_refl _,hd,Fp,hr,Fr.refl _ _ _ _,fun _ _=>rfl,fun F0 hf0 _=>hf0,by simp only[imp,S,T] at hT⊢;exact hT.1⟩
 | .bool _,h,n,hd,Fp,v,F,hr,hT,hf=>⟨Nat.le_refl _,hd,Fp,hr,Fr.refl _ _ _ _,fun _ _=>rfl,fun F0 hf0 _=>hf0,by simp only[imp,S,T] at hT⊢;exact hT.1⟩
 | .str s,h,n,hd,Fp,v,F,hr,hT,hf=>⟨Nat.le_refl _,hd,Fp,hr,Fr.refl _ _ _ _,fun _ _=>rfl,fun F0 hf0 _=>hf0,by simp only[imp,S,T] at hT⊢;exact hT.1⟩
 | .nil,h,n,hd,Fp,v,F,hr,hT,hf=>⟨Nat.le_refl _,hd,Fp,hr,Fr.refl _ _ _ _,fun _ _=>rfl,fun F0 hf0 _=>hf0,by simp only[imp,S,T] at hT⊢;exact hT.1⟩
 | .sl es,h,n,hd,Fp,v,F,hr,hT,hf=>⟨Nat.le_refl _,hd,Fp,hr,Fr.refl _ _ _ _,fun _ _=>rfl,fun F0 hf0 _=>hf0,T.nilF hT (by simp only[T] at hT;exact hT.1)⟩
 | .pf cs,h,n,hd,Fp,v,F,hr,hT,hf=>⟨Nat.le_refl _,hd,Fp,hr,Fr.refl _ _ _ _,fun _ _=>rfl,fun F0 hf0 _=>hf0,T.nilF hT (by simp only[T] at hT;exact hT.1)⟩
 | .fn f caps,h,n,hd,Fp,v,F,hr,hT,hf=>by
  exact⟨Nat.le_refl _,hd,Fp,hr,Fr.refl _ _ _ _,fun _ _=>rfl,fun F0 hf0 _=>hf0,by simp only[imp,S]⟩
 | .ref _ _ _ _ _,h,n,hd,Fp,v,F,hr,hT,hf=>by simp only[T] at hT
 | .ptr _ _ _ _ _,h,n,hd,Fp,v,F,hr,hT,hf=>by simp only[T] at hT
theorem impL_sound: ∀(xs:List AV) (h:Heap) (n:Nat) (hd:Nat→Value) (Fp:Nat→List Nat) (vs:List Value) (F:List Nat),HR G M I h n hd Fp w→TL w I xs vs F→Free M I h Fp F→
  Home G M I w h n hd Fp F (impL n xs).2.1 (impL n xs).2.2 (fun hd'=>SL hd' (impL n xs).2.2 w I (impL n xs).1 vs)
 | [],h,n,hd,Fp,vs,F,hr,hT,hf=>by
  simp only[TL] at hT
  exact⟨Nat.le_refl _,hd,Fp,hr,Fr.refl _ _ _ _,fun _ _=>rfl,fun F0 hf0 _=>hf0,by simp only[impL,SL];exact hT.1⟩
 | x::xs,h,n,hd,Fp,vs,F,hr,hT,hf=>by
  simp only[TL] at hT
  obtain⟨v,vs',F1,F2,rfl,rfl,h1,hx,hxs⟩:=hT
  obtain⟨hn1,hd1,Fp1,hr1,fr1,hx1,hk1,hS1⟩:=imp_sound x h n hd Fp v F1 hr hx (hf.sub (List.sublist_append_left _ _))
  have hf2:=hk1 F2 (hf.sub (List.sublist_append_right _ _)) (fun b hb hm=>(List.nodup_append.1 hf.nodup).2.2 b hm b hb rfl)
  obtain⟨hn2,hd2,Fp2,hr2,fr2,hx2,hk2,hS2⟩:=impL_sound xs ((imp n x).2.1++h) (imp n x).2.2 hd1 Fp1 vs' F2 hr1 hxs hf2
  simp only[impL]
  refine⟨Nat.le_trans hn1 hn2,hd2,Fp2,by rw[List.append_assoc];exact hr2,fr1.trans fr2,fun id hid=>(hx2 id (Nat.lt_of_lt_of_le hid hn1)).trans (hx1 id hid),fun F0 hf0 hd0=>?_,?_⟩
  ·rw[List.append_assoc]
   exact hk2 F0 (hk1 F0 hf0 (fun b hb hm=>hd0 b hb (List.mem_append.2 (.inl hm)))) (fun b hb hm=>hd0 b hb (List.mem_append.2 (.inr hm)))
  ·simp only[SL]
   exact⟨v,vs',rfl,h1,fr2.S hS1,hS2⟩
theorem impV_sound: ∀(xs:List AV) (h:Heap) (n:Nat) (hd:Nat→Value) (Fp:Nat→List Nat) (vs:List Value) (F:List Nat),HR G M I h n hd Fp w→TV w I xs vs F→Free M I h Fp F→
  Home G M I w h n hd Fp F (impL n xs).2.1 (impL n xs).2.2 (fun hd'=>SV hd' (impL n xs).2.2 w I (impL n xs).1 vs)
 | [],h,n,hd,Fp,vs,F,hr,hT,hf=>by
  simp only[TV] at hT
  exact⟨Nat.le_refl _,hd,Fp,hr,Fr.refl _ _ _ _,fun _ _=>rfl,fun F0 hf0 _=>hf0,by simp only[impL,SV];exact hT.1⟩
 | x::xs,h,n,hd,Fp,vs,F,hr,hT,hf=>by
  simp only[TV] at hT
  obtain⟨v,vs',F1,F2,rfl,rfl,hx,hxs⟩:=hT
  obtain⟨hn1,hd1,Fp1,hr1,fr1,hx1,hk1,hS1⟩:=imp_sound x h n hd Fp v F1 hr hx (hf.sub (List.sublist_append_left _ _))
  have hf2:=hk1 F2 (hf.sub (List.sublist_append_right _ _)) (fun b hb hm=>(List.nodup_append.1 hf.nodup).2.2 b hm b hb rfl)
  obtain⟨hn2,hd2,Fp2,hr2,fr2,hx2,hk2,hS2⟩:=impV_sound xs ((imp n x).2.1++h) (imp n x).2.2 hd1 Fp1 vs' F2 hr1 hxs hf2
  simp only[impL]
  refine⟨Nat.le_trans hn1 hn2,hd2,Fp2,by rw[List.append_assoc];exact hr2,fr1.trans fr2,fun id hid=>(hx2 id (Nat.lt_of_lt_of_le hid hn1)).trans (hx1 id hid),fun F0 hf0 hd0=>?_,?_⟩
  ·rw[List.append_assoc]
   exact hk2 F0 (hk1 F0 hf0 (fun b hb hm=>hd0 b hb (List.mem_append.2 (.inl hm)))) (fun b hb hm=>hd0 b hb (List.mem_append.2 (.inr hm)))
  ·simp only[SV]
   exact⟨v,vs',rfl,fr2.S hS1,hS2⟩
end
end
theorem eqs_imp:True:=by
 have:= @imp.eq_1
 trivial
theorem eqs_impL:True:=by
 have:= @impL.eq_1
 trivial
end Go.Proofs.YthggfnefjbckeaaGreatDoor.X
