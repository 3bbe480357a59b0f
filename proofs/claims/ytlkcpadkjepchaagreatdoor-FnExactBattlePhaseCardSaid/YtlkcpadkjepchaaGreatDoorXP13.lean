/- A part of the proof: lemmas on the machine or on the functions that the law reaches. No condition of its own. -/
import Derived.Test.YtlkcpadkjepchaaGreatDoorXP9
import Derived.Test.YtlkcpadkjepchaaGreatDoorXP6
import Derived.Test.YtlkcpadkjepchaaGreatDoorXP5
import Derived.Test.YtlkcpadkjepchaaGreatDoorXP8
set_option maxHeartbeats 400000
set_option maxRecDepth 8000
set_option linter.unusedSimpArgs false
set_option linter.unusedVariables false
open Nat renaming reduceBEq→N1,reduceAdd→N2,reduceSub→N3,reduceMul→N4,reduceEqDiff→N5,reduceLeDiff→N6,reduceLT→N7
open Int renaming reduceLE→I1,reduceLT→I2,reduceToNat→I3
namespace Go.Proofs.YtlkcpadkjepchaaGreatDoor.X
open Go
attribute [local irreducible] Ev
theorem MP_set{id n:Nat}{h h':Heap}{sz:Nat}{es:List (List AV)}{k m W:Int}{v:AV}{n':Nat}(hb:below n h)(hs:solid h)(hm:k≤m∧m≤k+W)(hp:v= .int .i64 m∧n'=n∧h'=hset h id (.slice sz es)):MP [id] h n 0 k W v h' n':=by
 obtain⟨rfl,rfl,rfl⟩:=hp
 exact⟨⟨m,rfl,hm.1,hm.2⟩,rfl,FrH.set,below_set hb,solid_set hs⟩
theorem lens_bnd: ∀{W:List (List Int)},(∀r∈W,r.length<2^21)→lens W≤W.length*2097152
 | [],_=>by simp[lens]
 | r::W,h=>by
  have h1:=h r (by simp)
  have h2:=lens_bnd (W:=W) fun x hx=>h x (by simp[hx])
  simp only[lens,List.map_cons,List.sum_cons,List.length_cons] at *
  omega
theorem FrH.get{ids:List Nat}{n j:Nat}{h h':Heap}{o:Ob}(hf:FrH ids n h h')(hb:below n h)(hj:j∉ids)(hg:hget h j=some o):hget h' j=some o:=by
 rw[hf j (below_lt hb hg) hj,hg]
structure MS(id:Nat)(h:Heap)(n c:Nat)(k:Int)(len:Nat)(v:AV)(h':Heap)(n':Nat):Prop where
 v:v= .int .i64 (k+4*(len:Int))
 nn:n'=n+c
 g:hget h' id=some (.slice 4 (uns (mkUns k len)))
 f:FrH [id] n h h'
 b:below n' h'
 s:solid h'
structure MW(id:Nat)(h:Heap)(n c:Nat)(k:Int)(len:Nat)(v:AV)(h':Heap)(n':Nat):Prop where
 v:v= .int .i64 (k+(len:Int))
 nn:n'=n+c
 g:hget h' id=some (.slice 1 (ints (run k len)))
 f:FrH [id] n h h'
 b:below n' h'
 s:solid h'
section
variable{C:CT}(hC:Closed Tryz.prog G1 md0 C)
include hC
theorem t49(l:List Un)(k:Int)(h:Heap)(id n:Nat)(hg:hget h id=some (.slice 4 (uns l)))(hb:below n h)(hs:solid h)(hk:0≤k∧k≤2^48)(hl:l.length<2^40):C 49 [.ref id none 4 0 l.length,.int .i64 k] h n (MS id h n 0 k l.length):=by
 have hid:=below_lt hb hg
 refine Closed.rT hC Q49 ?_
 simp only[c49,push_cast,↓J1,↓J2,N1,N2,N3,reduceCtorEq,N4,N5,N6,reduceIte,N7,I1,I2,I3]
 have hgi: ∀es:List (List AV),hget (hset h id (.slice 4 es)) id=some (.slice 4 es):=fun es=>hget_same hg
 refine RL_count (fun i=>⟨tb 41 .any [(0,.ref id none 4 0 l.length),(1,.int .i64 (k+4*(i:Int))),(5,.int .i64 (i:Int))],hset h id (.slice 4 (uns (mkUns k i++l.drop i))),n⟩) (fun _=>True) l.length 0 (head_tb [] (by simp[rhoOk,objIds]) (by simp only[hid,keptV_cons,keptV_nil,tb_get,lk_same,lk_ne,lk_nil,ren,renL,lkp,N7,N1,N5,reduceIte,and_true,true_and,Nat.not_lt_zero,if_false,if_true,Nat.add_zero,Nat.zero_add];all_goals simp) (by rw[show mkUns k 0++l.drop 0=l from rfl,hset_get hg];exact hb)) (by omega) trivial fun i hi _ J hJ=>?_
 by_cases h1:i<l.length
 ·have hlen:(uns (mkUns k i++l.drop i)).length=l.length:=by simp[uns,mkUns];omega
  have e1: ∃u:Un,(uns (mkUns k i++l.drop i))[i]?=some (unA u):=⟨_,by rw[uns,List.getElem?_map,List.getElem?_eq_getElem (by simp[mkUns];omega)];rfl⟩
  obtain⟨t,e1⟩:=e1
  have gs: ∀e:List AV,((uns (mkUns k i++l.drop i)).set i e)[i]?=some e:=by intro e;rw[List.getElem?_set,if_pos rfl,if_pos (by omega)]
  have ls:=mkUns_succ (us:=l) (k:=k) h1
  have w0:IntKind.i64.wrap (k+4*(i:Int)+1)=k+4*(i:Int)+1:=wrap64 (by omega) (by omega)
  have w1:IntKind.i64.wrap (k+4*(i:Int)+1+1)=k+4*(i:Int)+1+1:=wrap64 (by omega) (by omega)
  have w2:IntKind.i64.wrap (k+4*(i:Int)+1+1+1)=k+4*(i:Int)+1+1+1:=wrap64 (by omega) (by omega)
  have w3:IntKind.i64.wrap (k+4*(i:Int)+1+1+1+1)=k+4*(i:Int)+1+1+1+1:=wrap64 (by omega) (by omega)
  have ea:k+4*(i:Int)+1+1=k+4*(i:Int)+2:=by omega
  have eb:k+4*(i:Int)+2+1=k+4*(i:Int)+3:=by omega
  simp only[Int.toNat_natCast,hgi,e1,unA,push_cast,↓J1,↓J2,N1,N2,N3,reduceCtorEq,N4,N5,N6,reduceIte,N7,I1,I2,I3]
  refine ifB_intro (fun _=>?_) (fun h=>by simp at h;omega)
  repeat (refine⟨by omega,?_⟩)
  repeat' (first | refine⟨by omega,?_⟩ | simp only[Int.toNat_natCast,hgi,e1,gs,hset_hset,List.set_set,setsA,List.set_cons_zero,List.set_cons_succ,unA,w0,w1,w2,w3,push_cast,↓J1,↓J2,N1,N2,N3,reduceCtorEq,N4,N5,N6,reduceIte,N7,I1,I2,I3])
  refine hJ h1 trivial _ (head_tb [] (by simp[rhoOk,objIds]) ?_ ?_)
  ·simp only[hid,keptV_cons,keptV_nil,tb_get,lk_same,lk_ne,lk_nil,ren,renL,lkp,N7,N1,N5,reduceIte,and_true,true_and,Nat.not_lt_zero,if_false,if_true,Nat.add_zero,Nat.zero_add]
   rw[wrap64 (n:=(i:Int)+1) (by omega) (by omega),show k+4*((i+1:Nat):Int)=k+4*(i:Int)+1+1+1+1 by omega]
   and_intros<;>rfl
  ·rw[←ls]
   simp only[unA,ea,eb]
   exact below_set hb
 ·obtain rfl:i=l.length:=by omega
  simp only[push_cast,↓J1,↓J2,N1,N2,N3,reduceCtorEq,N4,N5,N6,reduceIte,N7,I1,I2,I3]
  refine ifB_intro (fun h=>by simp at h) (fun h=>?_)
  refine⟨rfl,rfl,?_,FrH.set,below_set hb,solid_set hs⟩
  rw[List.drop_length,List.append_nil];exact hgi _
theorem t50(k:Int)(n:Nat)(hk:0≤k∧k≤2^47)(hn:n<2^40):Ev C 50 [.sl (uns (mkUns k n)),.int .i64 k] (.int .i64 (k+4*(n:Int))):=by
 refine rT hC Q50 ?_
 simp only[c50,uns_length,mkUns_length,push_cast,↓J1,↓J2,N1,N2,N3,reduceCtorEq,N4,N5,N6,reduceIte,N7,I1,I2,I3]
 refine RL_count (fun i=>⟨tb 49 .any [(0,.sl (uns (mkUns k n))),(1,.int .i64 (k+4*(i:Int))),(5,.int .i64 (i:Int))],[],0⟩) (fun _=>True) n 0 (hdA [] (hV:=by(simp only[keptV_cons,keptV_nil,tb_get,lk_same,lk_ne,lk_nil,ren,renL,lkp,N7,N1,N5,reduceIte,and_true,true_and,Nat.not_lt_zero,if_false,if_true,Nat.add_zero,Nat.zero_add];all_goals simp))) (by omega) trivial fun i hi _ J hJ=>?_
 by_cases h1:i<n
 ·have e1:=mkUns_get (k:=k) h1
  have w0:IntKind.i64.wrap (k+4*(i:Int)+1)=k+4*(i:Int)+1:=wrap64 (by omega) (by omega)
  have w1:IntKind.i64.wrap (k+4*(i:Int)+1+1)=k+4*(i:Int)+2:=by rw[wrap64 (by omega) (by omega)];omega
  have w2:IntKind.i64.wrap (k+4*(i:Int)+2+1)=k+4*(i:Int)+3:=by rw[wrap64 (by omega) (by omega)];omega
  have w3:IntKind.i64.wrap (k+4*(i:Int)+3+1)=k+4*(i:Int)+4:=by rw[wrap64 (by omega) (by omega)];omega
  simp only[Int.toNat_natCast,e1,unA,w0,w1,w2,w3,uns_length,mkUns_length,push_cast,↓J1,↓J2,N1,N2,N3,reduceCtorEq,N4,N5,N6,reduceIte,N7,I1,I2,I3]
  refine ifB_intro (fun _=>?_) (fun h=>by simp at h;omega)
  repeat' (first | refine⟨by omega,?_⟩ | simp only[Int.toNat_natCast,e1,unA,w0,w1,w2,w3,push_cast,↓J1,↓J2,N1,N2,N3,reduceCtorEq,N4,N5,N6,reduceIte,N7,I1,I2,I3])
  refine hJ h1 trivial _ (hdA [] (hV:=?_))
  simp only[keptV_cons,keptV_nil,tb_get,lk_same,lk_ne,lk_nil,ren,renL,lkp,N7,N1,N5,reduceIte,and_true,true_and,Nat.not_lt_zero,if_false,if_true,Nat.add_zero,Nat.zero_add]
  rw[wrap64 (n:=(i:Int)+1) (by omega) (by omega),show k+4*((i+1:Nat):Int)=k+4*(i:Int)+4 by omega]
  and_intros<;>rfl
 ·obtain rfl:i=n:=by omega
  simp only[uns_length,mkUns_length,push_cast,↓J1,↓J2,N1,N2,N3,reduceCtorEq,N4,N5,N6,reduceIte,N7,I1,I2,I3]
  refine ifB_intro (fun h=>by simp at h) (fun h=>?_)
  simp only[push_cast,↓J1,↓J2,N1,N2,N3,reduceCtorEq,N4,N5,N6,reduceIte,N7,I1,I2,I3]
theorem t20(a b:Int)(k:Int)(n:Nat)(hk:0≤k∧k≤2^47)(hn:n<2^40):Ev C 20 [.agg [.int .i64 a,.int .i64 b,.sl (uns (mkUns k n))],.int .i64 k] (.int .i64 (k+4*(n:Int))):=by
 have c1:=t50 hC k n hk hn
 refine rT hC Q20 ?_
 simp only[c20,push_cast,↓J1,↓J2,N1,N2,N3,reduceCtorEq,N4,N5,N6,reduceIte,N7,I1,I2,I3]
 refine⟨_,c1,?_⟩
 have g1:decide (k+4*(n:Int)<0)=false:=decide_eq_false (by omega)
 simp only[g1,push_cast,↓J1,↓J2,N1,N2,N3,reduceCtorEq,N4,N5,N6,reduceIte,N7,I1,I2,I3]
theorem t82(m:Mp)(i1 i2 i3:Nat)(k:Int)(h:Heap)(n:Nat)(gi1:hget h i1=some (.slice 1 (ints m.t)))(gi2:hget h i2=some (.slice 1 (ints m.ri)))(gi3:hget h i3=some (.slice 1 (ints m.ro)))(ni1i2:i1≠i2)(ni1i3:i1≠i3)(ni2i3:i2≠i3)(hB:MpB (2^21) m)(hb:below n h)(hs:solid h)(hk:0≤k∧k≤2^48):C 82 [.agg [.int .i64 m.w,.int .i64 m.h,.ref i1 none 1 0 m.t.length,.ref i2 none 1 0 m.ri.length,.ref i3 none 1 0 m.ro.length],.int .i64 k] h n (MP [i1,i2,i3] h n 1 k (2^45)):=by
 have qi1:=below_lt hb gi1
 have qi2:=below_lt hb gi2
 have qi3:=below_lt hb gi3
 refine Closed.rT hC Q82 ?_
 simp only[c82,push_cast,↓J1,↓J2,N1,N2,N3,reduceCtorEq,N4,N5,N6,reduceIte,N7,I1,I2,I3]
 have B0:below (n+1) ((n,.var [.int .i64 m.w,.int .i64 m.h,.ref i1 none 1 0 m.t.length,.ref i2 none 1 0 m.ri.length,.ref i3 none 1 0 m.ro.length])::h):=below_box hb (by simp only[renL,ren,lkp,if_pos (show i1<n+1 by omega),if_pos (show i2<n+1 by omega),if_pos (show i3<n+1 by omega)])
 have S0:solid ((n,.var [.int .i64 m.w,.int .i64 m.h,.ref i1 none 1 0 m.t.length,.ref i2 none 1 0 m.ri.length,.ref i3 none 1 0 m.ro.length])::h):=solid_box hs rfl
 have F0:FrH [] n h ((n,.var [.int .i64 m.w,.int .i64 m.h,.ref i1 none 1 0 m.t.length,.ref i2 none 1 0 m.ri.length,.ref i3 none 1 0 m.ro.length])::h):=FrH.box
 have V0:hget ((n,.var [.int .i64 m.w,.int .i64 m.h,.ref i1 none 1 0 m.t.length,.ref i2 none 1 0 m.ri.length,.ref i3 none 1 0 m.ro.length])::h) n=some (.var [.int .i64 m.w,.int .i64 m.h,.ref i1 none 1 0 m.t.length,.ref i2 none 1 0 m.ri.length,.ref i3 none 1 0 m.ro.length]):=by simp only[hget,if_true]
 have gi10:=hget_box (n:=n) (o:= .var [.int .i64 m.w,.int .i64 m.h,.ref i1 none 1 0 m.t.length,.ref i2 none 1 0 m.ri.length,.ref i3 none 1 0 m.ro.length]) hb gi1
 have gi20:=hget_box (n:=n) (o:= .var [.int .i64 m.w,.int .i64 m.h,.ref i1 none 1 0 m.t.length,.ref i2 none 1 0 m.ri.length,.ref i3 none 1 0 m.ro.length]) hb gi2
 have gi30:=hget_box (n:=n) (o:= .var [.int .i64 m.w,.int .i64 m.h,.ref i1 none 1 0 m.t.length,.ref i2 none 1 0 m.ri.length,.ref i3 none 1 0 m.ro.length]) hb gi3
 generalize ((n,Ob.var [.int .i64 m.w,.int .i64 m.h,.ref i1 none 1 0 m.t.length,.ref i2 none 1 0 m.ri.length,.ref i3 none 1 0 m.ro.length])::h)=H0 at *
 refine⟨_,t84 hC m.t k H0 i1 (n+1) gi10 B0 (by have:=hB.t;have:=hB.ri;have:=hB.ro;omega) (by have:=hB.t;have:=hB.ri;have:=hB.ro;omega),?_⟩
 rintro v0 H1 m0 p0 _
 replace p0:=MP_set (W:=2^43) (k:=k) (m:=k+(m.t.length:Int)) B0 S0 (by have:=hB.t;have:=hB.ri;have:=hB.ro;omega) p0
 obtain⟨⟨k0,rfl,a0,b0⟩,rfl,f0,B1,S1⟩:=p0
 have V1:=f0.get B0 (by simp only[List.mem_cons,List.not_mem_nil,or_false,not_or];exact Nat.ne_of_gt qi1) V0
 have gi21:=f0.get B0 (by simp only[List.mem_cons,List.not_mem_nil,or_false,not_or];exact Ne.symm ni1i2) gi20
 have gi31:=f0.get B0 (by simp only[List.mem_cons,List.not_mem_nil,or_false,not_or];exact Ne.symm ni1i3) gi30
 have F1:=F0.trans f0 (by omega)
 have K1:killH H1=H1:=S1
 simp only[K1,V1,push_cast,↓J1,↓J2,N1,N2,N3,reduceCtorEq,N4,N5,N6,reduceIte,N7,I1,I2,I3]
 refine⟨_,t84 hC m.ri k0 H1 i2 (n+1) gi21 B1 (by have:=hB.t;have:=hB.ri;have:=hB.ro;omega) (by have:=hB.t;have:=hB.ri;have:=hB.ro;omega),?_⟩
 rintro v1 H2 m1 p1 _
 replace p1:=MP_set (W:=2^43) (k:=k0) (m:=k0+(m.ri.length:Int)) B1 S1 (by have:=hB.t;have:=hB.ri;have:=hB.ro;omega) p1
 obtain⟨⟨k1,rfl,a1,b1⟩,rfl,f1,B2,S2⟩:=p1
 have V2:=f1.get B1 (by simp only[List.mem_cons,List.not_mem_nil,or_false,not_or];exact Nat.ne_of_gt qi2) V1
 have gi32:=f1.get B1 (by simp only[List.mem_cons,List.not_mem_nil,or_false,not_or];exact Ne.symm ni2i3) gi31
 have F2:=F1.trans f1 (by omega)
 have K2:killH H2=H2:=S2
 simp only[K2,V2,push_cast,↓J1,↓J2,N1,N2,N3,reduceCtorEq,N4,N5,N6,reduceIte,N7,I1,I2,I3]
 refine⟨_,t84 hC m.ro k1 H2 i3 (n+1) gi32 B2 (by have:=hB.t;have:=hB.ri;have:=hB.ro;omega) (by have:=hB.t;have:=hB.ri;have:=hB.ro;omega),?_⟩
 rintro v2 H3 m2 p2 _
 replace p2:=MP_set (W:=2^43) (k:=k1) (m:=k1+(m.ro.length:Int)) B2 S2 (by have:=hB.t;have:=hB.ri;have:=hB.ro;omega) p2
 obtain⟨⟨k2,rfl,a2,b2⟩,rfl,f2,B3,S3⟩:=p2
 have V3:=f2.get B2 (by simp only[List.mem_cons,List.not_mem_nil,or_false,not_or];exact Nat.ne_of_gt qi3) V2
 have F3:=F2.trans f2 (by omega)
 have K3:killH H3=H3:=S3
 simp only[K3,V3,push_cast,↓J1,↓J2,N1,N2,N3,reduceCtorEq,N4,N5,N6,reduceIte,N7,I1,I2,I3]
 refine⟨⟨k2,rfl,by omega,by omega⟩,by omega,fun j hj hm=>F3 j hj ?_,by simpa only[Nat.add_assoc] using B3,S3⟩
 simpa using hm
theorem t81(r:Rul)(j1 j2:Nat)(k:Int)(h:Heap)(n:Nat)(gj1:hget h j1=some (.slice 5 (tersO r.ts)))(gj2:hget h j2=some (.slice 6 (kins r.ks)))(nj1j2:j1≠j2)(hR:RulB (2^21) r)(hb:below n h)(hs:solid h)(hk:0≤k∧k≤2^46+2^45):C 81 [.agg [.ref j1 none 5 0 r.ts.length,.ref j2 none 6 0 r.ks.length,.int .i64 r.stack,.int .i64 r.river,.int .i64 r.road,.int .i64 r.supply,.int .i64 r.turns],.int .i64 k] h n (MP [j1,j2] h n 1 k (2^44)):=by
 have qj1:=below_lt hb gj1
 have qj2:=below_lt hb gj2
 refine Closed.rT hC Q81 ?_
 simp only[c81,push_cast,↓J1,↓J2,N1,N2,N3,reduceCtorEq,N4,N5,N6,reduceIte,N7,I1,I2,I3]
 have B0:below (n+1) ((n,.var [.ref j1 none 5 0 r.ts.length,.ref j2 none 6 0 r.ks.length,.int .i64 r.stack,.int .i64 r.river,.int .i64 r.road,.int .i64 r.supply,.int .i64 r.turns])::h):=below_box hb (by simp only[renL,ren,lkp,if_pos (show j1<n+1 by omega),if_pos (show j2<n+1 by omega)])
 have S0:solid ((n,.var [.ref j1 none 5 0 r.ts.length,.ref j2 none 6 0 r.ks.length,.int .i64 r.stack,.int .i64 r.river,.int .i64 r.road,.int .i64 r.supply,.int .i64 r.turns])::h):=solid_box hs rfl
 have F0:FrH [] n h ((n,.var [.ref j1 none 5 0 r.ts.length,.ref j2 none 6 0 r.ks.length,.int .i64 r.stack,.int .i64 r.river,.int .i64 r.road,.int .i64 r.supply,.int .i64 r.turns])::h):=FrH.box
 have V0:hget ((n,.var [.ref j1 none 5 0 r.ts.length,.ref j2 none 6 0 r.ks.length,.int .i64 r.stack,.int .i64 r.river,.int .i64 r.road,.int .i64 r.supply,.int .i64 r.turns])::h) n=some (.var [.ref j1 none 5 0 r.ts.length,.ref j2 none 6 0 r.ks.length,.int .i64 r.stack,.int .i64 r.river,.int .i64 r.road,.int .i64 r.supply,.int .i64 r.turns]):=by simp only[hget,if_true]
 have gj10:=hget_box (n:=n) (o:= .var [.ref j1 none 5 0 r.ts.length,.ref j2 none 6 0 r.ks.length,.int .i64 r.stack,.int .i64 r.river,.int .i64 r.road,.int .i64 r.supply,.int .i64 r.turns]) hb gj1
 have gj20:=hget_box (n:=n) (o:= .var [.ref j1 none 5 0 r.ts.length,.ref j2 none 6 0 r.ks.length,.int .i64 r.stack,.int .i64 r.river,.int .i64 r.road,.int .i64 r.supply,.int .i64 r.turns]) hb gj2
 generalize ((n,Ob.var [.ref j1 none 5 0 r.ts.length,.ref j2 none 6 0 r.ks.length,.int .i64 r.stack,.int .i64 r.river,.int .i64 r.road,.int .i64 r.supply,.int .i64 r.turns])::h)=H0 at *
 refine⟨_,t132 hC r.ts k H0 j1 (n+1) gj10 B0 S0 (by omega) hR.ts (fun t ht=>(hR.t t ht).2),?_⟩
 rintro v0 H1 m0 p0 _
 obtain⟨⟨k0,rfl,a0,b0⟩,rfl,f0,B1,S1⟩:=p0
 have V1:=f0.get B0 (by simp only[List.mem_cons,List.not_mem_nil,or_false,not_or];exact Nat.ne_of_gt qj1) V0
 have gj21:=f0.get B0 (by simp only[List.mem_cons,List.not_mem_nil,or_false,not_or];exact Ne.symm nj1j2) gj20
 have F1:=F0.trans f0 (by omega)
 have K1:killH H1=H1:=S1
 simp only[K1,V1,push_cast,↓J1,↓J2,N1,N2,N3,reduceCtorEq,N4,N5,N6,reduceIte,N7,I1,I2,I3]
 refine⟨_,t133 hC r.ks k0 H1 j2 (n+1) gj21 B1 S1 (by omega) hR.ks,?_⟩
 rintro v1 H2 m1 p1 _
 obtain⟨⟨k1,rfl,a1,b1⟩,rfl,f1,B2,S2⟩:=p1
 have V2:=f1.get B1 (by simp only[List.mem_cons,List.not_mem_nil,or_false,not_or];exact Nat.ne_of_gt qj2) V1
 have F2:=F1.trans f1 (by omega)
 have K2:killH H2=H2:=S2
 simp only[K2,V2,push_cast,↓J1,↓J2,N1,N2,N3,reduceCtorEq,N4,N5,N6,reduceIte,N7,I1,I2,I3]
 refine⟨⟨k1,rfl,by omega,by omega⟩,by omega,fun j hj hm=>F2 j hj ?_,by simpa only[Nat.add_assoc] using B2,S2⟩
 simpa using hm
theorem t45(b:Brd)(j1 j2 i1 i2 i3:Nat)(k:Int)(h:Heap)(n:Nat)(gj1:hget h j1=some (.slice 5 (tersO b.r.ts)))(gj2:hget h j2=some (.slice 6 (kins b.r.ks)))(gi1:hget h i1=some (.slice 1 (ints b.m.t)))(gi2:hget h i2=some (.slice 1 (ints b.m.ri)))(gi3:hget h i3=some (.slice 1 (ints b.m.ro)))(nj1j2:j1≠j2)(nj1i1:j1≠i1)(nj1i2:j1≠i2)(nj1i3:j1≠i3)(nj2i1:j2≠i1)(nj2i2:j2≠i2)(nj2i3:j2≠i3)(ni1i2:i1≠i2)(ni1i3:i1≠i3)(ni2i3:i2≠i3)(hB:BrdB (2^21) b)(hb:below n h)(hs:solid h)(hk:0≤k∧k≤2^46):C 45 [.agg [.ref j1 none 5 0 b.r.ts.length,.ref j2 none 6 0 b.r.ks.length,.int .i64 b.r.stack,.int .i64 b.r.river,.int .i64 b.r.road,.int .i64 b.r.supply,.int .i64 b.r.turns,.int .i64 b.m.w,.int .i64 b.m.h,.ref i1 none 1 0 b.m.t.length,.ref i2 none 1 0 b.m.ri.length,.ref i3 none 1 0 b.m.ro.length],.int .i64 k] h n (MP [j1,j2,i1,i2,i3] h n 3 k (2^46)):=by
 have qj1:=below_lt hb gj1
 have qj2:=below_lt hb gj2
 have qi1:=below_lt hb gi1
 have qi2:=below_lt hb gi2
 have qi3:=below_lt hb gi3
 refine Closed.rT hC Q45 ?_
 simp only[c45,push_cast,↓J1,↓J2,N1,N2,N3,reduceCtorEq,N4,N5,N6,reduceIte,N7,I1,I2,I3]
 have B0:below (n+1) ((n,.var [.ref j1 none 5 0 b.r.ts.length,.ref j2 none 6 0 b.r.ks.length,.int .i64 b.r.stack,.int .i64 b.r.river,.int .i64 b.r.road,.int .i64 b.r.supply,.int .i64 b.r.turns,.int .i64 b.m.w,.int .i64 b.m.h,.ref i1 none 1 0 b.m.t.length,.ref i2 none 1 0 b.m.ri.length,.ref i3 none 1 0 b.m.ro.length])::h):=below_box hb (by simp only[renL,ren,lkp,if_pos (show j1<n+1 by omega),if_pos (show j2<n+1 by omega),if_pos (show i1<n+1 by omega),if_pos (show i2<n+1 by omega),if_pos (show i3<n+1 by omega)])
 have S0:solid ((n,.var [.ref j1 none 5 0 b.r.ts.length,.ref j2 none 6 0 b.r.ks.length,.int .i64 b.r.stack,.int .i64 b.r.river,.int .i64 b.r.road,.int .i64 b.r.supply,.int .i64 b.r.turns,.int .i64 b.m.w,.int .i64 b.m.h,.ref i1 none 1 0 b.m.t.length,.ref i2 none 1 0 b.m.ri.length,.ref i3 none 1 0 b.m.ro.length])::h):=solid_box hs rfl
 have F0:FrH [] n h ((n,.var [.ref j1 none 5 0 b.r.ts.length,.ref j2 none 6 0 b.r.ks.length,.int .i64 b.r.stack,.int .i64 b.r.river,.int .i64 b.r.road,.int .i64 b.r.supply,.int .i64 b.r.turns,.int .i64 b.m.w,.int .i64 b.m.h,.ref i1 none 1 0 b.m.t.length,.ref i2 none 1 0 b.m.ri.length,.ref i3 none 1 0 b.m.ro.length])::h):=FrH.box
 have V0:hget ((n,.var [.ref j1 none 5 0 b.r.ts.length,.ref j2 none 6 0 b.r.ks.length,.int .i64 b.r.stack,.int .i64 b.r.river,.int .i64 b.r.road,.int .i64 b.r.supply,.int .i64 b.r.turns,.int .i64 b.m.w,.int .i64 b.m.h,.ref i1 none 1 0 b.m.t.length,.ref i2 none 1 0 b.m.ri.length,.ref i3 none 1 0 b.m.ro.length])::h) n=some (.var [.ref j1 none 5 0 b.r.ts.length,.ref j2 none 6 0 b.r.ks.length,.int .i64 b.r.stack,.int .i64 b.r.river,.int .i64 b.r.road,.int .i64 b.r.supply,.int .i64 b.r.turns,.int .i64 b.m.w,.int .i64 b.m.h,.ref i1 none 1 0 b.m.t.length,.ref i2 none 1 0 b.m.ri.length,.ref i3 none 1 0 b.m.ro.length]):=by simp only[hget,if_true]
 have gj10:=hget_box (n:=n) (o:= .var [.ref j1 none 5 0 b.r.ts.length,.ref j2 none 6 0 b.r.ks.length,.int .i64 b.r.stack,.int .i64 b.r.river,.int .i64 b.r.road,.int .i64 b.r.supply,.int .i64 b.r.turns,.int .i64 b.m.w,.int .i64 b.m.h,.ref i1 none 1 0 b.m.t.length,.ref i2 none 1 0 b.m.ri.length,.ref i3 none 1 0 b.m.ro.length]) hb gj1
 have gj20:=hget_box (n:=n) (o:= .var [.ref j1 none 5 0 b.r.ts.length,.ref j2 none 6 0 b.r.ks.length,.int .i64 b.r.stack,.int .i64 b.r.river,.int .i64 b.r.road,.int .i64 b.r.supply,.int .i64 b.r.turns,.int .i64 b.m.w,.int .i64 b.m.h,.ref i1 none 1 0 b.m.t.length,.ref i2 none 1 0 b.m.ri.length,.ref i3 none 1 0 b.m.ro.length]) hb gj2
 have gi10:=hget_box (n:=n) (o:= .var [.ref j1 none 5 0 b.r.ts.length,.ref j2 none 6 0 b.r.ks.length,.int .i64 b.r.stack,.int .i64 b.r.river,.int .i64 b.r.road,.int .i64 b.r.supply,.int .i64 b.r.turns,.int .i64 b.m.w,.int .i64 b.m.h,.ref i1 none 1 0 b.m.t.length,.ref i2 none 1 0 b.m.ri.length,.ref i3 none 1 0 b.m.ro.length]) hb gi1
 have gi20:=hget_box (n:=n) (o:= .var [.ref j1 none 5 0 b.r.ts.length,.ref j2 none 6 0 b.r.ks.length,.int .i64 b.r.stack,.int .i64 b.r.river,.int .i64 b.r.road,.int .i64 b.r.supply,.int .i64 b.r.turns,.int .i64 b.m.w,.int .i64 b.m.h,.ref i1 none 1 0 b.m.t.length,.ref i2 none 1 0 b.m.ri.length,.ref i3 none 1 0 b.m.ro.length]) hb gi2
 have gi30:=hget_box (n:=n) (o:= .var [.ref j1 none 5 0 b.r.ts.length,.ref j2 none 6 0 b.r.ks.length,.int .i64 b.r.stack,.int .i64 b.r.river,.int .i64 b.r.road,.int .i64 b.r.supply,.int .i64 b.r.turns,.int .i64 b.m.w,.int .i64 b.m.h,.ref i1 none 1 0 b.m.t.length,.ref i2 none 1 0 b.m.ri.length,.ref i3 none 1 0 b.m.ro.length]) hb gi3
 generalize ((n,Ob.var [.ref j1 none 5 0 b.r.ts.length,.ref j2 none 6 0 b.r.ks.length,.int .i64 b.r.stack,.int .i64 b.r.river,.int .i64 b.r.road,.int .i64 b.r.supply,.int .i64 b.r.turns,.int .i64 b.m.w,.int .i64 b.m.h,.ref i1 none 1 0 b.m.t.length,.ref i2 none 1 0 b.m.ri.length,.ref i3 none 1 0 b.m.ro.length])::h)=H0 at *
 refine⟨_,t81 hC b.r j1 j2 k H0 (n+1) gj10 gj20 nj1j2 hB.r B0 S0 (by omega),?_⟩
 rintro v0 H1 m0 p0 _
 obtain⟨⟨k0,rfl,a0,b0⟩,rfl,f0,B1,S1⟩:=p0
 have V1:=f0.get B0 (by simp only[List.mem_cons,List.not_mem_nil,or_false,not_or];exact⟨Nat.ne_of_gt qj1,Nat.ne_of_gt qj2⟩) V0
 have gi11:=f0.get B0 (by simp only[List.mem_cons,List.not_mem_nil,or_false,not_or];exact⟨Ne.symm nj1i1,Ne.symm nj2i1⟩) gi10
 have gi21:=f0.get B0 (by simp only[List.mem_cons,List.not_mem_nil,or_false,not_or];exact⟨Ne.symm nj1i2,Ne.symm nj2i2⟩) gi20
 have gi31:=f0.get B0 (by simp only[List.mem_cons,List.not_mem_nil,or_false,not_or];exact⟨Ne.symm nj1i3,Ne.symm nj2i3⟩) gi30
 have F1:=F0.trans f0 (by omega)
 have K1:killH H1=H1:=S1
 simp only[K1,V1,push_cast,↓J1,↓J2,N1,N2,N3,reduceCtorEq,N4,N5,N6,reduceIte,N7,I1,I2,I3]
 refine⟨_,t82 hC b.m i1 i2 i3 k0 H1 (n+1+1) gi11 gi21 gi31 ni1i2 ni1i3 ni2i3 hB.m B1 S1 (by omega),?_⟩
 rintro v1 H2 m1 p1 _
 obtain⟨⟨k1,rfl,a1,b1⟩,rfl,f1,B2,S2⟩:=p1
 have V2:=f1.get B1 (by simp only[List.mem_cons,List.not_mem_nil,or_false,not_or];exact⟨Nat.ne_of_gt qi1,Nat.ne_of_gt qi2,Nat.ne_of_gt qi3⟩) V1
 have F2:=F1.trans f1 (by omega)
 have K2:killH H2=H2:=S2
 simp only[K2,V2,push_cast,↓J1,↓J2,N1,N2,N3,reduceCtorEq,N4,N5,N6,reduceIte,N7,I1,I2,I3]
 refine⟨⟨k1,rfl,by omega,by omega⟩,by omega,fun j hj hm=>F2 j hj ?_,by simpa only[Nat.add_assoc] using B2,S2⟩
 simpa using hm
theorem t46(t:Ct)(c1 c2:Nat)(k:Int)(h:Heap)(n:Nat)(gc1:hget h c1=some (.slice 2 (ods t.cs)))(gc2:hget h c2=some (.slice 1 (owss t.rs)))(nc1c2:c1≠c2)(hB:CtB (2^21) t)(hb:below n h)(hs:solid h)(hk:0≤k∧k≤2^47):C 46 [.agg [.ref c1 none 2 0 t.cs.length,.int .i64 t.d,.ref c2 none 1 0 t.rs.length],.int .i64 k] h n (MP [c1,c2] h n 1 k (2^44)):=by
 have qc1:=below_lt hb gc1
 have qc2:=below_lt hb gc2
 refine Closed.rT hC Q46 ?_
 simp only[c46,push_cast,↓J1,↓J2,N1,N2,N3,reduceCtorEq,N4,N5,N6,reduceIte,N7,I1,I2,I3]
 have B0:below (n+1) ((n,.var [.ref c1 none 2 0 t.cs.length,.int .i64 t.d,.ref c2 none 1 0 t.rs.length])::h):=below_box hb (by simp only[renL,ren,lkp,if_pos (show c1<n+1 by omega),if_pos (show c2<n+1 by omega)])
 have S0:solid ((n,.var [.ref c1 none 2 0 t.cs.length,.int .i64 t.d,.ref c2 none 1 0 t.rs.length])::h):=solid_box hs rfl
 have F0:FrH [] n h ((n,.var [.ref c1 none 2 0 t.cs.length,.int .i64 t.d,.ref c2 none 1 0 t.rs.length])::h):=FrH.box
 have V0:hget ((n,.var [.ref c1 none 2 0 t.cs.length,.int .i64 t.d,.ref c2 none 1 0 t.rs.length])::h) n=some (.var [.ref c1 none 2 0 t.cs.length,.int .i64 t.d,.ref c2 none 1 0 t.rs.length]):=by simp only[hget,if_true]
 have gc10:=hget_box (n:=n) (o:= .var [.ref c1 none 2 0 t.cs.length,.int .i64 t.d,.ref c2 none 1 0 t.rs.length]) hb gc1
 have gc20:=hget_box (n:=n) (o:= .var [.ref c1 none 2 0 t.cs.length,.int .i64 t.d,.ref c2 none 1 0 t.rs.length]) hb gc2
 generalize ((n,Ob.var [.ref c1 none 2 0 t.cs.length,.int .i64 t.d,.ref c2 none 1 0 t.rs.length])::h)=H0 at *
 refine⟨_,t83 hC t.cs k H0 c1 (n+1) gc10 B0 S0 (by omega) hB.c,?_⟩
 rintro v0 H1 m0 p0 _
 obtain⟨⟨k0,rfl,a0,b0⟩,rfl,f0,B1,S1⟩:=p0
 have V1:=f0.get B0 (by simp only[List.mem_cons,List.not_mem_nil,or_false,not_or];exact Nat.ne_of_gt qc1) V0
 have gc21:=f0.get B0 (by simp only[List.mem_cons,List.not_mem_nil,or_false,not_or];exact Ne.symm nc1c2) gc20
 have F1:=F0.trans f0 (by omega)
 have K1:killH H1=H1:=S1
 simp only[K1,V1,push_cast,↓J1,↓J2,N1,N2,N3,reduceCtorEq,N4,N5,N6,reduceIte,N7,I1,I2,I3]
 refine⟨_,t48 hC t.rs k0 H1 c2 (n+1) gc21 B1 S1 (by omega) (by have:=hB.r.l;omega) (by have:=lens_bnd hB.r.r;have:=hB.r.l;omega) (fun r hr=>by have:=hB.r.r r hr;omega),?_⟩
 rintro v1 H2 m1 p1 _
 replace p1:=MP_set (W:=2^43) (k:=k0) (m:=k0+(lens (t.rs):Int)) B1 S1 (by have:=lens_bnd hB.r.r;have:=hB.r.l;omega) p1
 obtain⟨⟨k1,rfl,a1,b1⟩,rfl,f1,B2,S2⟩:=p1
 have V2:=f1.get B1 (by simp only[List.mem_cons,List.not_mem_nil,or_false,not_or];exact Nat.ne_of_gt qc2) V1
 have F2:=F1.trans f1 (by omega)
 have K2:killH H2=H2:=S2
 simp only[K2,V2,push_cast,↓J1,↓J2,N1,N2,N3,reduceCtorEq,N4,N5,N6,reduceIte,N7,I1,I2,I3]
 refine⟨⟨k1,rfl,by omega,by omega⟩,by omega,fun j hj hm=>F2 j hj ?_,by simpa only[Nat.add_assoc] using B2,S2⟩
 simpa using hm
theorem t47m(W:List (List Int))(w1:Nat)(k:Int)(h:Heap)(n:Nat)(gw1:hget h w1=some (.slice 1 (owss W)))(hB:SSB (2^21) W)(hb:below n h)(hs:solid h)(hk:0≤k∧k≤2^47):C 47 [.agg [.ref w1 none 1 0 W.length],.int .i64 k] h n (MP [w1] h n 1 k (2^43)):=by
 have qw1:=below_lt hb gw1
 refine Closed.rT hC Q47 ?_
 simp only[c47,push_cast,↓J1,↓J2,N1,N2,N3,reduceCtorEq,N4,N5,N6,reduceIte,N7,I1,I2,I3]
 have B0:below (n+1) ((n,.var [.ref w1 none 1 0 W.length])::h):=below_box hb (by simp only[renL,ren,lkp,if_pos (show w1<n+1 by omega)])
 have S0:solid ((n,.var [.ref w1 none 1 0 W.length])::h):=solid_box hs rfl
 have F0:FrH [] n h ((n,.var [.ref w1 none 1 0 W.length])::h):=FrH.box
 have V0:hget ((n,.var [.ref w1 none 1 0 W.length])::h) n=some (.var [.ref w1 none 1 0 W.length]):=by simp only[hget,if_true]
 have gw10:=hget_box (n:=n) (o:= .var [.ref w1 none 1 0 W.length]) hb gw1
 generalize ((n,Ob.var [.ref w1 none 1 0 W.length])::h)=H0 at *
 refine⟨_,t48 hC W k H0 w1 (n+1) gw10 B0 S0 (by omega) (by have:=hB.l;omega) (by have:=lens_bnd hB.r;have:=hB.l;omega) (fun r hr=>by have:=hB.r r hr;omega),?_⟩
 rintro v0 H1 m0 p0 _
 replace p0:=MP_set (W:=2^43) (k:=k) (m:=k+(lens (W):Int)) B0 S0 (by have:=lens_bnd hB.r;have:=hB.l;omega) p0
 obtain⟨⟨k0,rfl,a0,b0⟩,rfl,f0,B1,S1⟩:=p0
 have V1:=f0.get B0 (by simp only[List.mem_cons,List.not_mem_nil,or_false,not_or];exact Nat.ne_of_gt qw1) V0
 have F1:=F0.trans f0 (by omega)
 have K1:killH H1=H1:=S1
 simp only[K1,V1,push_cast,↓J1,↓J2,N1,N2,N3,reduceCtorEq,N4,N5,N6,reduceIte,N7,I1,I2,I3]
 refine⟨⟨k0,rfl,by omega,by omega⟩,by omega,fun j hj hm=>F1 j hj ?_,by simpa only[Nat.add_assoc] using B1,S1⟩
 simpa using hm
theorem t16(x:Se)(j1 j2 i1 i2 i3 c1 c2 w1 w2:Nat)(k:Int)(h:Heap)(n:Nat)(gj1:hget h j1=some (.slice 5 (tersO x.b.r.ts)))(gj2:hget h j2=some (.slice 6 (kins x.b.r.ks)))(gi1:hget h i1=some (.slice 1 (ints x.b.m.t)))(gi2:hget h i2=some (.slice 1 (ints x.b.m.ri)))(gi3:hget h i3=some (.slice 1 (ints x.b.m.ro)))(gc1:hget h c1=some (.slice 2 (ods x.t.cs)))(gc2:hget h c2=some (.slice 1 (owss x.t.rs)))(gw1:hget h w1=some (.slice 1 (owss x.c)))(gw2:hget h w2=some (.slice 1 (owss x.src)))(nj1j2:j1≠j2)(nj1i1:j1≠i1)(nj1i2:j1≠i2)(nj1i3:j1≠i3)(nj1c1:j1≠c1)(nj1c2:j1≠c2)(nj1w1:j1≠w1)(nj1w2:j1≠w2)(nj2i1:j2≠i1)(nj2i2:j2≠i2)(nj2i3:j2≠i3)(nj2c1:j2≠c1)(nj2c2:j2≠c2)(nj2w1:j2≠w1)(nj2w2:j2≠w2)(ni1i2:i1≠i2)(ni1i3:i1≠i3)(ni1c1:i1≠c1)(ni1c2:i1≠c2)(ni1w1:i1≠w1)(ni1w2:i1≠w2)(ni2i3:i2≠i3)(ni2c1:i2≠c1)(ni2c2:i2≠c2)(ni2w1:i2≠w1)(ni2w2:i2≠w2)(ni3c1:i3≠c1)(ni3c2:i3≠c2)(ni3w1:i3≠w1)(ni3w2:i3≠w2)(nc1c2:c1≠c2)(nc1w1:c1≠w1)(nc1w2:c1≠w2)(nc2w1:c2≠w1)(nc2w2:c2≠w2)(nw1w2:w1≠w2)(hB:SeB (2^21) x)(hb:below n h)(hs:solid h)(hk:0≤k∧k≤2^40):C 16 [.agg [.ref j1 none 5 0 x.b.r.ts.length,.ref j2 none 6 0 x.b.r.ks.length,.int .i64 x.b.r.stack,.int .i64 x.b.r.river,.int .i64 x.b.r.road,.int .i64 x.b.r.supply,.int .i64 x.b.r.turns,.int .i64 x.b.m.w,.int .i64 x.b.m.h,.ref i1 none 1 0 x.b.m.t.length,.ref i2 none 1 0 x.b.m.ri.length,.ref i3 none 1 0 x.b.m.ro.length,.ref c1 none 2 0 x.t.cs.length,.int .i64 x.t.d,.ref c2 none 1 0 x.t.rs.length,.ref w1 none 1 0 x.c.length,.ref w2 none 1 0 x.src.length],.int .i64 k] h n (MP [j1,j2,i1,i2,i3,c1,c2,w1,w2] h n 6 k (2^47)):=by
 have qj1:=below_lt hb gj1
 have qj2:=below_lt hb gj2
 have qi1:=below_lt hb gi1
 have qi2:=below_lt hb gi2
 have qi3:=below_lt hb gi3
 have qc1:=below_lt hb gc1
 have qc2:=below_lt hb gc2
 have qw1:=below_lt hb gw1
 have qw2:=below_lt hb gw2
 refine Closed.rT hC Q16 ?_
 simp only[c16,push_cast,↓J1,↓J2,N1,N2,N3,reduceCtorEq,N4,N5,N6,reduceIte,N7,I1,I2,I3]
 have B0:below (n+1) ((n,.var [.ref j1 none 5 0 x.b.r.ts.length,.ref j2 none 6 0 x.b.r.ks.length,.int .i64 x.b.r.stack,.int .i64 x.b.r.river,.int .i64 x.b.r.road,.int .i64 x.b.r.supply,.int .i64 x.b.r.turns,.int .i64 x.b.m.w,.int .i64 x.b.m.h,.ref i1 none 1 0 x.b.m.t.length,.ref i2 none 1 0 x.b.m.ri.length,.ref i3 none 1 0 x.b.m.ro.length,.ref c1 none 2 0 x.t.cs.length,.int .i64 x.t.d,.ref c2 none 1 0 x.t.rs.length,.ref w1 none 1 0 x.c.length,.ref w2 none 1 0 x.src.length])::h):=below_box hb (by simp only[renL,ren,lkp,if_pos (show j1<n+1 by omega),if_pos (show j2<n+1 by omega),if_pos (show i1<n+1 by omega),if_pos (show i2<n+1 by omega),if_pos (show i3<n+1 by omega),if_pos (show c1<n+1 by omega),if_pos (show c2<n+1 by omega),if_pos (show w1<n+1 by omega),if_pos (show w2<n+1 by omega)])
 have S0:solid ((n,.var [.ref j1 none 5 0 x.b.r.ts.length,.ref j2 none 6 0 x.b.r.ks.length,.int .i64 x.b.r.stack,.int .i64 x.b.r.river,.int .i64 x.b.r.road,.int .i64 x.b.r.supply,.int .i64 x.b.r.turns,.int .i64 x.b.m.w,.int .i64 x.b.m.h,.ref i1 none 1 0 x.b.m.t.length,.ref i2 none 1 0 x.b.m.ri.length,.ref i3 none 1 0 x.b.m.ro.length,.ref c1 none 2 0 x.t.cs.length,.int .i64 x.t.d,.ref c2 none 1 0 x.t.rs.length,.ref w1 none 1 0 x.c.length,.ref w2 none 1 0 x.src.length])::h):=solid_box hs rfl
 have F0:FrH [] n h ((n,.var [.ref j1 none 5 0 x.b.r.ts.length,.ref j2 none 6 0 x.b.r.ks.length,.int .i64 x.b.r.stack,.int .i64 x.b.r.river,.int .i64 x.b.r.road,.int .i64 x.b.r.supply,.int .i64 x.b.r.turns,.int .i64 x.b.m.w,.int .i64 x.b.m.h,.ref i1 none 1 0 x.b.m.t.length,.ref i2 none 1 0 x.b.m.ri.length,.ref i3 none 1 0 x.b.m.ro.length,.ref c1 none 2 0 x.t.cs.length,.int .i64 x.t.d,.ref c2 none 1 0 x.t.rs.length,.ref w1 none 1 0 x.c.length,.ref w2 none 1 0 x.src.length])::h):=FrH.box
 have V0:hget ((n,.var [.ref j1 none 5 0 x.b.r.ts.length,.ref j2 none 6 0 x.b.r.ks.length,.int .i64 x.b.r.stack,.int .i64 x.b.r.river,.int .i64 x.b.r.road,.int .i64 x.b.r.supply,.int .i64 x.b.r.turns,.int .i64 x.b.m.w,.int .i64 x.b.m.h,.ref i1 none 1 0 x.b.m.t.length,.ref i2 none 1 0 x.b.m.ri.length,.ref i3 none 1 0 x.b.m.ro.length,.ref c1 none 2 0 x.t.cs.length,.int .i64 x.t.d,.ref c2 none 1 0 x.t.rs.length,.ref w1 none 1 0 x.c.length,.ref w2 none 1 0 x.src.length])::h) n=some (.var [.ref j1 none 5 0 x.b.r.ts.length,.ref j2 none 6 0 x.b.r.ks.length,.int .i64 x.b.r.stack,.int .i64 x.b.r.river,.int .i64 x.b.r.road,.int .i64 x.b.r.supply,.int .i64 x.b.r.turns,.int .i64 x.b.m.w,.int .i64 x.b.m.h,.ref i1 none 1 0 x.b.m.t.length,.ref i2 none 1 0 x.b.m.ri.length,.ref i3 none 1 0 x.b.m.ro.length,.ref c1 none 2 0 x.t.cs.length,.int .i64 x.t.d,.ref c2 none 1 0 x.t.rs.length,.ref w1 none 1 0 x.c.length,.ref w2 none 1 0 x.src.length]):=by simp only[hget,if_true]
 have gj10:=hget_box (n:=n) (o:= .var [.ref j1 none 5 0 x.b.r.ts.length,.ref j2 none 6 0 x.b.r.ks.length,.int .i64 x.b.r.stack,.int .i64 x.b.r.river,.int .i64 x.b.r.road,.int .i64 x.b.r.supply,.int .i64 x.b.r.turns,.int .i64 x.b.m.w,.int .i64 x.b.m.h,.ref i1 none 1 0 x.b.m.t.length,.ref i2 none 1 0 x.b.m.ri.length,.ref i3 none 1 0 x.b.m.ro.length,.ref c1 none 2 0 x.t.cs.length,.int .i64 x.t.d,.ref c2 none 1 0 x.t.rs.length,.ref w1 none 1 0 x.c.length,.ref w2 none 1 0 x.src.length]) hb gj1
 have gj20:=hget_box (n:=n) (o:= .var [.ref j1 none 5 0 x.b.r.ts.length,.ref j2 none 6 0 x.b.r.ks.length,.int .i64 x.b.r.stack,.int .i64 x.b.r.river,.int .i64 x.b.r.road,.int .i64 x.b.r.supply,.int .i64 x.b.r.turns,.int .i64 x.b.m.w,.int .i64 x.b.m.h,.ref i1 none 1 0 x.b.m.t.length,.ref i2 none 1 0 x.b.m.ri.length,.ref i3 none 1 0 x.b.m.ro.length,.ref c1 none 2 0 x.t.cs.length,.int .i64 x.t.d,.ref c2 none 1 0 x.t.rs.length,.ref w1 none 1 0 x.c.length,.ref w2 none 1 0 x.src.length]) hb gj2
 have gi10:=hget_box (n:=n) (o:= .var [.ref j1 none 5 0 x.b.r.ts.length,.ref j2 none 6 0 x.b.r.ks.length,.int .i64 x.b.r.stack,.int .i64 x.b.r.river,.int .i64 x.b.r.road,.int .i64 x.b.r.supply,.int .i64 x.b.r.turns,.int .i64 x.b.m.w,.int .i64 x.b.m.h,.ref i1 none 1 0 x.b.m.t.length,.ref i2 none 1 0 x.b.m.ri.length,.ref i3 none 1 0 x.b.m.ro.length,.ref c1 none 2 0 x.t.cs.length,.int .i64 x.t.d,.ref c2 none 1 0 x.t.rs.length,.ref w1 none 1 0 x.c.length,.ref w2 none 1 0 x.src.length]) hb gi1
 have gi20:=hget_box (n:=n) (o:= .var [.ref j1 none 5 0 x.b.r.ts.length,.ref j2 none 6 0 x.b.r.ks.length,.int .i64 x.b.r.stack,.int .i64 x.b.r.river,.int .i64 x.b.r.road,.int .i64 x.b.r.supply,.int .i64 x.b.r.turns,.int .i64 x.b.m.w,.int .i64 x.b.m.h,.ref i1 none 1 0 x.b.m.t.length,.ref i2 none 1 0 x.b.m.ri.length,.ref i3 none 1 0 x.b.m.ro.length,.ref c1 none 2 0 x.t.cs.length,.int .i64 x.t.d,.ref c2 none 1 0 x.t.rs.length,.ref w1 none 1 0 x.c.length,.ref w2 none 1 0 x.src.length]) hb gi2
 have gi30:=hget_box (n:=n) (o:= .var [.ref j1 none 5 0 x.b.r.ts.length,.ref j2 none 6 0 x.b.r.ks.length,.int .i64 x.b.r.stack,.int .i64 x.b.r.river,.int .i64 x.b.r.road,.int .i64 x.b.r.supply,.int .i64 x.b.r.turns,.int .i64 x.b.m.w,.int .i64 x.b.m.h,.ref i1 none 1 0 x.b.m.t.length,.ref i2 none 1 0 x.b.m.ri.length,.ref i3 none 1 0 x.b.m.ro.length,.ref c1 none 2 0 x.t.cs.length,.int .i64 x.t.d,.ref c2 none 1 0 x.t.rs.length,.ref w1 none 1 0 x.c.length,.ref w2 none 1 0 x.src.length]) hb gi3
 have gc10:=hget_box (n:=n) (o:= .var [.ref j1 none 5 0 x.b.r.ts.length,.ref j2 none 6 0 x.b.r.ks.length,.int .i64 x.b.r.stack,.int .i64 x.b.r.river,.int .i64 x.b.r.road,.int .i64 x.b.r.supply,.int .i64 x.b.r.turns,.int .i64 x.b.m.w,.int .i64 x.b.m.h,.ref i1 none 1 0 x.b.m.t.length,.ref i2 none 1 0 x.b.m.ri.length,.ref i3 none 1 0 x.b.m.ro.length,.ref c1 none 2 0 x.t.cs.length,.int .i64 x.t.d,.ref c2 none 1 0 x.t.rs.length,.ref w1 none 1 0 x.c.length,.ref w2 none 1 0 x.src.length]) hb gc1
 have gc20:=hget_box (n:=n) (o:= .var [.ref j1 none 5 0 x.b.r.ts.length,.ref j2 none 6 0 x.b.r.ks.length,.int .i64 x.b.r.stack,.int .i64 x.b.r.river,.int .i64 x.b.r.road,.int .i64 x.b.r.supply,.int .i64 x.b.r.turns,.int .i64 x.b.m.w,.int .i64 x.b.m.h,.ref i1 none 1 0 x.b.m.t.length,.ref i2 none 1 0 x.b.m.ri.length,.ref i3 none 1 0 x.b.m.ro.length,.ref c1 none 2 0 x.t.cs.length,.int .i64 x.t.d,.ref c2 none 1 0 x.t.rs.length,.ref w1 none 1 0 x.c.length,.ref w2 none 1 0 x.src.length]) hb gc2
 have gw10:=hget_box (n:=n) (o:= .var [.ref j1 none 5 0 x.b.r.ts.length,.ref j2 none 6 0 x.b.r.ks.length,.int .i64 x.b.r.stack,.int .i64 x.b.r.river,.int .i64 x.b.r.road,.int .i64 x.b.r.supply,.int .i64 x.b.r.turns,.int .i64 x.b.m.w,.int .i64 x.b.m.h,.ref i1 none 1 0 x.b.m.t.length,.ref i2 none 1 0 x.b.m.ri.length,.ref i3 none 1 0 x.b.m.ro.length,.ref c1 none 2 0 x.t.cs.length,.int .i64 x.t.d,.ref c2 none 1 0 x.t.rs.length,.ref w1 none 1 0 x.c.length,.ref w2 none 1 0 x.src.length]) hb gw1
 have gw20:=hget_box (n:=n) (o:= .var [.ref j1 none 5 0 x.b.r.ts.length,.ref j2 none 6 0 x.b.r.ks.length,.int .i64 x.b.r.stack,.int .i64 x.b.r.river,.int .i64 x.b.r.road,.int .i64 x.b.r.supply,.int .i64 x.b.r.turns,.int .i64 x.b.m.w,.int .i64 x.b.m.h,.ref i1 none 1 0 x.b.m.t.length,.ref i2 none 1 0 x.b.m.ri.length,.ref i3 none 1 0 x.b.m.ro.length,.ref c1 none 2 0 x.t.cs.length,.int .i64 x.t.d,.ref c2 none 1 0 x.t.rs.length,.ref w1 none 1 0 x.c.length,.ref w2 none 1 0 x.src.length]) hb gw2
 generalize ((n,Ob.var [.ref j1 none 5 0 x.b.r.ts.length,.ref j2 none 6 0 x.b.r.ks.length,.int .i64 x.b.r.stack,.int .i64 x.b.r.river,.int .i64 x.b.r.road,.int .i64 x.b.r.supply,.int .i64 x.b.r.turns,.int .i64 x.b.m.w,.int .i64 x.b.m.h,.ref i1 none 1 0 x.b.m.t.length,.ref i2 none 1 0 x.b.m.ri.length,.ref i3 none 1 0 x.b.m.ro.length,.ref c1 none 2 0 x.t.cs.length,.int .i64 x.t.d,.ref c2 none 1 0 x.t.rs.length,.ref w1 none 1 0 x.c.length,.ref w2 none 1 0 x.src.length])::h)=H0 at *
 refine⟨_,t45 hC x.b j1 j2 i1 i2 i3 k H0 (n+1) gj10 gj20 gi10 gi20 gi30 nj1j2 nj1i1 nj1i2 nj1i3 nj2i1 nj2i2 nj2i3 ni1i2 ni1i3 ni2i3 hB.b B0 S0 (by omega),?_⟩
 rintro v0 H1 m0 p0 _
 obtain⟨⟨k0,rfl,a0,b0⟩,rfl,f0,B1,S1⟩:=p0
 have V1:=f0.get B0 (by simp only[List.mem_cons,List.not_mem_nil,or_false,not_or];exact⟨Nat.ne_of_gt qj1,Nat.ne_of_gt qj2,Nat.ne_of_gt qi1,Nat.ne_of_gt qi2,Nat.ne_of_gt qi3⟩) V0
 have gc11:=f0.get B0 (by simp only[List.mem_cons,List.not_mem_nil,or_false,not_or];exact⟨Ne.symm nj1c1,Ne.symm nj2c1,Ne.symm ni1c1,Ne.symm ni2c1,Ne.symm ni3c1⟩) gc10
 have gc21:=f0.get B0 (by simp only[List.mem_cons,List.not_mem_nil,or_false,not_or];exact⟨Ne.symm nj1c2,Ne.symm nj2c2,Ne.symm ni1c2,Ne.symm ni2c2,Ne.symm ni3c2⟩) gc20
 have gw11:=f0.get B0 (by simp only[List.mem_cons,List.not_mem_nil,or_false,not_or];exact⟨Ne.symm nj1w1,Ne.symm nj2w1,Ne.symm ni1w1,Ne.symm ni2w1,Ne.symm ni3w1⟩) gw10
 have gw21:=f0.get B0 (by simp only[List.mem_cons,List.not_mem_nil,or_false,not_or];exact⟨Ne.symm nj1w2,Ne.symm nj2w2,Ne.symm ni1w2,Ne.symm ni2w2,Ne.symm ni3w2⟩) gw20
 have F1:=F0.trans f0 (by omega)
 have K1:killH H1=H1:=S1
 simp only[K1,V1,push_cast,↓J1,↓J2,N1,N2,N3,reduceCtorEq,N4,N5,N6,reduceIte,N7,I1,I2,I3]
 refine⟨_,t46 hC x.t c1 c2 k0 H1 (n+1+3) gc11 gc21 nc1c2 hB.t B1 S1 (by omega),?_⟩
 rintro v1 H2 m1 p1 _
 obtain⟨⟨k1,rfl,a1,b1⟩,rfl,f1,B2,S2⟩:=p1
 have V2:=f1.get B1 (by simp only[List.mem_cons,List.not_mem_nil,or_false,not_or];exact⟨Nat.ne_of_gt qc1,Nat.ne_of_gt qc2⟩) V1
 have gw12:=f1.get B1 (by simp only[List.mem_cons,List.not_mem_nil,or_false,not_or];exact⟨Ne.symm nc1w1,Ne.symm nc2w1⟩) gw11
 have gw22:=f1.get B1 (by simp only[List.mem_cons,List.not_mem_nil,or_false,not_or];exact⟨Ne.symm nc1w2,Ne.symm nc2w2⟩) gw21
 have F2:=F1.trans f1 (by omega)
 have K2:killH H2=H2:=S2
 simp only[K2,V2,push_cast,↓J1,↓J2,N1,N2,N3,reduceCtorEq,N4,N5,N6,reduceIte,N7,I1,I2,I3]
 refine⟨_,t47m hC x.c w1 k1 H2 (n+1+3+1) gw12 hB.c B2 S2 (by omega),?_⟩
 rintro v2 H3 m2 p2 _
 obtain⟨⟨k2,rfl,a2,b2⟩,rfl,f2,B3,S3⟩:=p2
 have V3:=f2.get B2 (by simp only[List.mem_cons,List.not_mem_nil,or_false,not_or];exact Nat.ne_of_gt qw1) V2
 have gw23:=f2.get B2 (by simp only[List.mem_cons,List.not_mem_nil,or_false,not_or];exact Ne.symm nw1w2) gw22
 have F3:=F2.trans f2 (by omega)
 have K3:killH H3=H3:=S3
 simp only[K3,V3,push_cast,↓J1,↓J2,N1,N2,N3,reduceCtorEq,N4,N5,N6,reduceIte,N7,I1,I2,I3]
 refine⟨_,t48 hC x.src k2 H3 w2 (n+1+3+1+1) gw23 B3 S3 (by omega) (by have:=hB.s.l;omega) (by have:=lens_bnd hB.s.r;have:=hB.s.l;omega) (fun r hr=>by have:=hB.s.r r hr;omega),?_⟩
 rintro v3 H4 m3 p3 _
 replace p3:=MP_set (W:=2^43) (k:=k2) (m:=k2+(lens (x.src):Int)) B3 S3 (by have:=lens_bnd hB.s.r;have:=hB.s.l;omega) p3
 obtain⟨⟨k3,rfl,a3,b3⟩,rfl,f3,B4,S4⟩:=p3
 have V4:=f3.get B3 (by simp only[List.mem_cons,List.not_mem_nil,or_false,not_or];exact Nat.ne_of_gt qw2) V3
 have F4:=F3.trans f3 (by omega)
 have K4:killH H4=H4:=S4
 simp only[K4,V4,push_cast,↓J1,↓J2,N1,N2,N3,reduceCtorEq,N4,N5,N6,reduceIte,N7,I1,I2,I3]
 refine⟨⟨k3,rfl,by omega,by omega⟩,by omega,fun j hj hm=>F4 j hj ?_,by simpa only[Nat.add_assoc] using B4,S4⟩
 simpa using hm
theorem t17(a b:Int)(us:List Un)(i:Nat)(k:Int)(h:Heap)(n:Nat)(g:hget h i=some (.slice 4 (uns us)))(hb:below n h)(hs:solid h)(hk:0≤k∧k≤2^47+2^46)(hl:us.length<2^40):C 17 [.agg [.int .i64 a,.int .i64 b,.ref i none 4 0 us.length],.int .i64 k] h n (MS i h n 1 k us.length):=by
 have qq:=below_lt hb g
 refine Closed.rT hC Q17 ?_
 simp only[c17,push_cast,↓J1,↓J2,N1,N2,N3,reduceCtorEq,N4,N5,N6,reduceIte,N7,I1,I2,I3]
 have B0:below (n+1) ((n,.var [.int .i64 a,.int .i64 b,.ref i none 4 0 us.length])::h):=below_box hb (by simp only[renL,ren,lkp,if_pos (show i<n+1 by omega)])
 have S0:solid ((n,.var [.int .i64 a,.int .i64 b,.ref i none 4 0 us.length])::h):=solid_box hs rfl
 have F0:FrH [] n h ((n,.var [.int .i64 a,.int .i64 b,.ref i none 4 0 us.length])::h):=FrH.box
 have g0:=hget_box (n:=n) (o:= .var [.int .i64 a,.int .i64 b,.ref i none 4 0 us.length]) hb g
 generalize ((n,Ob.var [.int .i64 a,.int .i64 b,.ref i none 4 0 us.length])::h)=H0 at *
 refine⟨_,t49 hC us k H0 i (n+1) g0 B0 S0 (by omega) hl,?_⟩
 rintro v H1 m p _
 obtain⟨rfl,rfl,g1,f0,B1,S1⟩:=p
 have K1:killH H1=H1:=S1
 simp only[K1,push_cast,↓J1,↓J2,N1,N2,N3,reduceCtorEq,N4,N5,N6,reduceIte,N7,I1,I2,I3]
 exact⟨rfl,rfl,g1,fun j hj hm=>F0.trans f0 (by omega) j hj (by simpa using hm),B1,S1⟩
end
end Go.Proofs.YtlkcpadkjepchaaGreatDoor.X
set_option linter.unusedVariables false
set_option maxHeartbeats 1000000
open Nat renaming reduceBEq→N1,reduceAdd→N2,reduceSub→N3,reduceMul→N4,reduceEqDiff→N5,reduceLeDiff→N6,reduceLT→N7
open Int renaming reduceLE→I1,reduceLT→I2,reduceToNat→I3
namespace Go.Proofs.YtlkcpadkjepchaaGreatDoor.X
open Go
theorem andThen_le{f g:Int→Int}{v:Int}(hf: -1≤f v∧f v≤v)(hg:0≤f v→ -1≤g (f v)∧g (f v)≤f v): -1≤andThen f g v∧andThen f g v≤v:=by
 have e:andThen f g v=if f v<0 then -1 else if g (f v)<0 then -1 else g (f v):=rfl
 rw[e]
 split
 ·omega
 ·have:=hg (by omega)
  split<;>omega
theorem szSe_le{s:Se}{v:Int}(h0:0≤v)(hB:v≤2^50): -1≤szSe s v∧szSe s v≤v:=by
 unfold szSe
 refine andThen_le (andThen_le (andThen_le (szBrd_le h0 hB) fun h=>szCt_rng h) fun h=>szCl_rng h) fun h=>szSS_rng h
end Go.Proofs.YtlkcpadkjepchaaGreatDoor.X
set_option maxHeartbeats 4000000
set_option maxRecDepth 8000
set_option linter.unusedSimpArgs false
set_option linter.unusedVariables false
open Nat renaming reduceBEq→N1,reduceAdd→N2,reduceSub→N3,reduceMul→N4,reduceEqDiff→N5,reduceLeDiff→N6,reduceLT→N7
open Int renaming reduceLE→I1,reduceLT→I2,reduceToNat→I3
namespace Go.Proofs.YtlkcpadkjepchaaGreatDoor.X
open Go
attribute [local irreducible] Ev
def foA(x:Fo):List AV:=[.int .i64 x.a,.int .i64 x.r,.int .i64 x.x]
def fos(l:List Fo):List (List AV):=l.map foA
theorem fos_length(l:List Fo):(fos l).length=l.length:=by simp[fos]
theorem frzLL_fos(l:List Fo):frzLL (fos l)=fos l:=by
 induction l with
 | nil=>rfl
 | cons x l ih=>simp only[fos,List.map_cons,frzLL] at ih⊢;rw[ih];rfl
theorem own_fos(l:List Fo):ownRLL (fos l)=true:=by
 induction l with
 | nil=>rfl
 | cons x l ih=>simp only[fos,List.map_cons,ownRLL] at ih⊢;rw[ih];rfl
def mkFos(k:Int)(n:Nat):List Fo:=(List.range n).map fun i:Nat=>⟨k+3*(i:Int),k+3*(i:Int)+1,k+3*(i:Int)+2⟩
theorem mkFos_length{k:Int}{n:Nat}:(mkFos k n).length=n:=by simp[mkFos]
theorem mkFos_get{k:Int}{n i:Nat}(h:i<n):(fos (mkFos k n))[i]?=some (foA ⟨k+3*(i:Int),k+3*(i:Int)+1,k+3*(i:Int)+2⟩):=by simp[fos,mkFos,h]
theorem mkFos_succ{us:List Fo}{k:Int}{i:Nat}(h:i<us.length):(fos (mkFos k i++us.drop i)).set i (foA ⟨k+3*(i:Int),k+3*(i:Int)+1,k+3*(i:Int)+2⟩)=fos (mkFos k (i+1)++us.drop (i+1)):=by
 have e2:mkFos k (i+1)=mkFos k i++[⟨k+3*(i:Int),k+3*(i:Int)+1,k+3*(i:Int)+2⟩]:=by simp[mkFos,List.range_succ]
 rw[e2,List.drop_eq_getElem_cons h]
 simp only[fos,List.map_append,List.map_cons,List.append_assoc,List.cons_append,List.nil_append]
 rw[mid_set (by simp[mkFos])]
structure MF(id:Nat)(h:Heap)(n c:Nat)(k:Int)(len:Nat)(v:AV)(h':Heap)(n':Nat):Prop where
 v:v= .int .i64 (k+3*(len:Int))
 nn:n'=n+c
 g:hget h' id=some (.slice 3 (fos (mkFos k len)))
 f:FrH [id] n h h'
 b:below n' h'
 s:solid h'
section
variable{C:CT}(hC:Closed Tryz.prog G1 md0 C)
include hC
theorem t6(l:List Od)(v:Int)(hv:0≤v∧v<2^50)(hl:l.length<2^50):Ev C 6 [.sl (ods l),.int .i64 v] (.int .i64 (sz1 l v)):=by
 refine rT hC Q6 ?_
 simp only[c6,ods_length,push_cast,↓J1,↓J2,N1,N2,N3,reduceCtorEq,N4,N5,N6,reduceIte,N7,I1,I2,I3]
 rw[wrap64 (by omega) (by omega)]
 refine ifB_intro (fun h=>?_) (fun h=>?_)
 ·have h':v<l.length:=by simp at h;omega
  simp only[sz1,sub1,if_pos h']
 ·have h': ¬v<l.length:=by simp at h;omega
  simp only[sz1,sub1,if_neg h']
theorem t34(o:Od):Ev C 34 [.agg (odA o)] (.agg (odA o)):=by
 simp only[odA]
 refine rT hC Q34 ?_
 simp only[c34,push_cast,↓J1,↓J2,N1,N2,N3,reduceCtorEq,N4,N5,N6,reduceIte,N7,I1,I2,I3]
 exact rtA
theorem t10(l:List Od)(hl:l.length<2^30):Ev C 10 [.sl (ods l)] (.ow 2 (ods l)):=by
 refine rT hC Q10 ?_ (by simp only[ownR,own_ods])
 simp only[c10,ods_length,push_cast,↓J1,↓J2,N1,N2,N3,reduceCtorEq,N4,N5,N6,reduceIte,N7,I1,I2,I3]
 repeat (refine⟨by omega,?_⟩)
 refine RL_count (fun i=>⟨tb 23 .any [(0,.sl (ods l)),(3,.ref 0 none 2 0 l.length),(4,.int .i64 (i:Int))],[(0,.slice 2 ((l.take i).map odA++List.replicate (l.length-i) [.int .i64 0,.int .i64 0]))],1⟩) (fun _=>True) l.length 0 (hdA [(0,0)]) (by omega) trivial fun i hi _ J hJ=>?_
 by_cases h1:i<l.length
 ·have e1:(ods l)[i]?=some (odA l[i]):=by simp[ods,h1]
  rw[show l.length-i=(l.length-(i+1))+1 by omega,List.replicate_succ]
  simp only[ods_length,Int.toNat_natCast,e1,odA,push_cast,↓J1,↓J2,N1,N2,N3,reduceCtorEq,N4,N5,N6,reduceIte,N7,I1,I2,I3]
  refine ifB_intro (fun _=>?_) (fun h=>by simp at h;omega)
  repeat (refine⟨by omega,?_⟩)
  refine⟨_,t34 hC l[i],?_⟩
  simp only[Int.toNat_natCast,odA,odA,List.take_length,mid_get (show((l.take i).map odA).length=i by simp;omega),mid_set (show((l.take i).map odA).length=i by simp;omega),push_cast,↓J1,↓J2,N1,N2,N3,reduceCtorEq,N4,N5,N6,reduceIte,N7,I1,I2,I3]
  repeat (refine⟨by omega,?_⟩)
  refine hJ h1 trivial _ (hdA [(0,0)] (hh:=?_))
  rw[List.take_succ_eq_append_getElem h1,List.map_append,List.append_assoc]
  simp only[hdel,canR,canB,renO,renL,ren,lkp,hget,N7,N5,Nat.not_lt_zero,if_false,if_true,reduceIte,List.append_nil,List.nil_append]
  rfl
 ·simp only[ods_length,Int.toNat_natCast,push_cast,↓J1,↓J2,N1,N2,N3,reduceCtorEq,N4,N5,N6,reduceIte,N7,I1,I2,I3]
  refine ifB_intro (fun h=>by simp at h;omega) (fun h=>?_)
  rw[List.take_of_length_le (by omega),show l.length-i=0 by omega]
  exact RetTo_ow (by simp[hget,ods]) (by simp[ods])
theorem t44(t u:Od):Ev C 44 [.agg (odA t),.agg (odA u)] (.bool (decide (t=u))):=by
 obtain⟨a1,a2⟩:=t
 obtain⟨b1,b2⟩:=u
 simp only[odA]
 refine rT hC Q44 ?_
 simp only[c44,push_cast,↓J1,↓J2,N1,N2,N3,reduceCtorEq,N4,N5,N6,reduceIte,N7,I1,I2,I3]
 repeat' (first
  | simp only[push_cast,↓J1,↓J2,N1,N2,N3,reduceCtorEq,N4,N5,N6,reduceIte,N7,I1,I2,I3]
  | refine ifB_intro (fun h=>?_) (fun h=>?_))
 all_goals simp_all
theorem t15(l m:List Od)(hl:l.length<2^50)(hm:m.length<2^50):Ev C 15 [.sl (ods l),.sl (ods m)] (.bool (decide (l=m))):=by
 refine rT hC Q15 ?_
 simp only[c15,ods_length,push_cast,↓J1,↓J2,N1,N2,N3,reduceCtorEq,N4,N5,N6,reduceIte,N7,I1,I2,I3]
 refine ifB_intro (fun h=>?_) (fun h=>?_)
 ·have hlm:l.length=m.length:=by simp at h;omega
  refine RL_count (fun i=>⟨tb 27 .any [(0,.sl (ods l)),(1,.sl (ods m)),(5,.int .i64 (i:Int))],[],0⟩) (fun i=>l.take i=m.take i) l.length 0 (hdA []) (by omega) rfl fun i hi ht J hJ=>?_
  by_cases h1:i<l.length
  ·have h2:i<m.length:=by omega
   have e1:(ods l)[i]?=some (odA l[i]):=by simp[ods,h1]
   have e2:(ods m)[i]?=some (odA m[i]):=by simp[ods,h2]
   simp only[ods_length,Int.toNat_natCast,e1,e2,odA,push_cast,↓J1,↓J2,N1,N2,N3,reduceCtorEq,N4,N5,N6,reduceIte,N7,I1,I2,I3]
   refine ifB_intro (fun _=>?_) (fun h=>by simp at h;omega)
   repeat (refine⟨by omega,?_⟩)
   refine⟨_,t44 hC l[i] m[i],?_⟩
   simp only[push_cast,↓J1,↓J2,N1,N2,N3,reduceCtorEq,N4,N5,N6,reduceIte,N7,I1,I2,I3]
   refine ifB_intro (fun h=>?_) (fun h=>?_)
   ·refine hJ h1 ?_ _ (hdA [])
    rw[List.take_succ_eq_append_getElem h1,List.take_succ_eq_append_getElem h2,ht,of_decide_eq_true h]
   ·have: ¬l=m:=by rintro rfl;simp at h
    simp[this]
  ·simp only[ods_length,Int.toNat_natCast,push_cast,↓J1,↓J2,N1,N2,N3,reduceCtorEq,N4,N5,N6,reduceIte,N7,I1,I2,I3]
   refine ifB_intro (fun h=>by simp at h;omega) (fun h=>?_)
   rw[List.take_of_length_le (by omega),List.take_of_length_le (by omega)] at ht
   simp[ht]
 ·have: ¬l=m:=by rintro rfl;simp at h
  simp[this]
theorem t18(l:List Od)(k:Int)(h:Heap)(id n:Nat)(hg:hget h id=some (.slice 2 (ods l)))(hb:below n h)(hs:solid h)(hk:0≤k∧k≤2^49)(hl:l.length<2^40):C 18 [.ref id none 2 0 l.length,.int .i64 k] h n (MP [id] h n 0 k (2^43)):=by
 have hid:=below_lt hb hg
 refine Closed.rT hC Q18 ?_
 simp only[c18,push_cast,↓J1,↓J2,N1,N2,N3,reduceCtorEq,N4,N5,N6,reduceIte,N7,I1,I2,I3]
 have hgi: ∀es:List (List AV),hget (hset h id (.slice 2 es)) id=some (.slice 2 es):=fun es=>hget_same hg
 refine RL_ind (fun m s'=> ∃(i:Nat) (l':List Od) (k':Int),i+m=l.length∧l'.length=l.length∧k≤k'∧k'≤k+i*2∧s'=⟨tb 27 .any [(0,.ref id none 2 0 l.length),(1,.int .i64 k'),(5,.int .i64 (i:Int))],hset h id (.slice 2 (ods l')),n⟩) l.length ⟨tb 27 .any [(0,.ref id none 2 0 l.length),(1,.int .i64 k),(5,.int .i64 0)],hset h id (.slice 2 (ods l)),n⟩ (head_tb [] (by simp[rhoOk,objIds]) (by simp only[hid,keptV_cons,keptV_nil,tb_get,lk_same,lk_ne,lk_nil,ren,renL,lkp,N7,N1,N5,reduceIte,and_true,true_and,Nat.not_lt_zero,if_false,if_true,Nat.add_zero,Nat.zero_add];all_goals simp) (by rw[hset_get hg];exact hb)) ⟨0,l,k,by omega,rfl,by omega,by omega,rfl⟩ ?_
 rintro m s' ⟨i,l',k',h1,h2,h3,h4,rfl⟩ J hJ
 by_cases hi:i<l.length
 ·have e1:(ods l')[i]?=some (odA (l'[i]'(by omega))):=by simp[ods,h2,hi]
  have gs: ∀e:List AV,((ods l').set i e)[i]?=some e:=by intro e;simp[ods,h2,hi]
  have ls: ∀u:Od,(ods l').set i (odA u)=ods (l'.set i u):=by intro u;simp[ods,List.map_set]
  generalize (l'[i]'(by omega))=t at *
  have w0:IntKind.i64.wrap (k'+1)=k'+1:=wrap64 (by omega) (by omega)
  have w1:IntKind.i64.wrap (k'+1+1)=k'+1+1:=wrap64 (by omega) (by omega)
  simp only[Int.toNat_natCast,hgi,e1,odA,push_cast,↓J1,↓J2,N1,N2,N3,reduceCtorEq,N4,N5,N6,reduceIte,N7,I1,I2,I3]
  refine ifB_intro (fun _=>?_) (fun h=>by simp at h;omega)
  repeat (refine⟨by omega,?_⟩)
  repeat' (first | refine⟨by omega,?_⟩ | simp only[Int.toNat_natCast,hgi,e1,gs,hset_hset,List.set_set,setsA,List.set_cons_zero,List.set_cons_succ,odA,w0,w1,push_cast,↓J1,↓J2,N1,N2,N3,reduceCtorEq,N4,N5,N6,reduceIte,N7,I1,I2,I3])
  refine hJ (m-1) _ _ (by omega) ⟨i+1,l'.set i ⟨k',k'+1⟩,k'+1+1,by omega,by simp[h2],?_,?_,rfl⟩ (head_tb [] (by simp[rhoOk,objIds]) ?_ ?_)
  rotate_left 2
  ·simp only[hid,keptV_cons,keptV_nil,tb_get,lk_same,lk_ne,lk_nil,ren,renL,lkp,N7,N1,N5,reduceIte,and_true,true_and,Nat.not_lt_zero,if_false,if_true,Nat.add_zero,Nat.zero_add]
   rw[wrap64 (n:=(i:Int)+1) (by omega) (by omega)]
   and_intros<;>first | rfl | (simp;done) | omega
  ·rw[←ls]
   simp only[odA]
   exact below_set hb
  all_goals omega
 ·simp only[push_cast,↓J1,↓J2,N1,N2,N3,reduceCtorEq,N4,N5,N6,reduceIte,N7,I1,I2,I3]
  refine ifB_intro (fun h=>by simp at h;omega) (fun h=>?_)
  exact⟨⟨k',rfl,by omega,by omega⟩,rfl,FrH.set,below_set hb,solid_set hs⟩
theorem t39(t u:Fo):Ev C 39 [.agg (foA t),.agg (foA u)] (.bool (decide (t=u))):=by
 obtain⟨a1,a2,a3⟩:=t
 obtain⟨b1,b2,b3⟩:=u
 simp only[foA]
 refine rT hC Q39 ?_
 simp only[c39,push_cast,↓J1,↓J2,N1,N2,N3,reduceCtorEq,N4,N5,N6,reduceIte,N7,I1,I2,I3]
 repeat' (first
  | simp only[push_cast,↓J1,↓J2,N1,N2,N3,reduceCtorEq,N4,N5,N6,reduceIte,N7,I1,I2,I3]
  | refine ifB_intro (fun h=>?_) (fun h=>?_))
 all_goals simp_all
theorem t13(l m:List Fo)(hl:l.length<2^50)(hm:m.length<2^50):Ev C 13 [.sl (fos l),.sl (fos m)] (.bool (decide (l=m))):=by
 refine rT hC Q13 ?_
 simp only[c13,fos_length,push_cast,↓J1,↓J2,N1,N2,N3,reduceCtorEq,N4,N5,N6,reduceIte,N7,I1,I2,I3]
 refine ifB_intro (fun h=>?_) (fun h=>?_)
 ·have hlm:l.length=m.length:=by simp at h;omega
  refine RL_count (fun i=>⟨tb 27 .any [(0,.sl (fos l)),(1,.sl (fos m)),(5,.int .i64 (i:Int))],[],0⟩) (fun i=>l.take i=m.take i) l.length 0 (hdA []) (by omega) rfl fun i hi ht J hJ=>?_
  by_cases h1:i<l.length
  ·have h2:i<m.length:=by omega
   have e1:(fos l)[i]?=some (foA l[i]):=by simp[fos,h1]
   have e2:(fos m)[i]?=some (foA m[i]):=by simp[fos,h2]
   simp only[fos_length,Int.toNat_natCast,e1,e2,foA,push_cast,↓J1,↓J2,N1,N2,N3,reduceCtorEq,N4,N5,N6,reduceIte,N7,I1,I2,I3]
   refine ifB_intro (fun _=>?_) (fun h=>by simp at h;omega)
   repeat (refine⟨by omega,?_⟩)
   refine⟨_,t39 hC l[i] m[i],?_⟩
   simp only[push_cast,↓J1,↓J2,N1,N2,N3,reduceCtorEq,N4,N5,N6,reduceIte,N7,I1,I2,I3]
   refine ifB_intro (fun h=>?_) (fun h=>?_)
   ·refine hJ h1 ?_ _ (hdA [])
    rw[List.take_succ_eq_append_getElem h1,List.take_succ_eq_append_getElem h2,ht,of_decide_eq_true h]
   ·have: ¬l=m:=by rintro rfl;simp at h
    simp[this]
  ·simp only[fos_length,Int.toNat_natCast,push_cast,↓J1,↓J2,N1,N2,N3,reduceCtorEq,N4,N5,N6,reduceIte,N7,I1,I2,I3]
   refine ifB_intro (fun h=>by simp at h;omega) (fun h=>?_)
   rw[List.take_of_length_le (by omega),List.take_of_length_le (by omega)] at ht
   simp[ht]
 ·have: ¬l=m:=by rintro rfl;simp at h
  simp[this]
theorem t19(l:List Fo)(k:Int)(h:Heap)(id n:Nat)(hg:hget h id=some (.slice 3 (fos l)))(hb:below n h)(hs:solid h)(hk:0≤k∧k≤2^48)(hl:l.length<2^40):C 19 [.ref id none 3 0 l.length,.int .i64 k] h n (MF id h n 0 k l.length):=by
 have hid:=below_lt hb hg
 refine Closed.rT hC Q19 ?_
 simp only[c19,push_cast,↓J1,↓J2,N1,N2,N3,reduceCtorEq,N4,N5,N6,reduceIte,N7,I1,I2,I3]
 have hgi: ∀es:List (List AV),hget (hset h id (.slice 3 es)) id=some (.slice 3 es):=fun es=>hget_same hg
 refine RL_count (fun i=>⟨tb 34 .any [(0,.ref id none 3 0 l.length),(1,.int .i64 (k+3*(i:Int))),(5,.int .i64 (i:Int))],hset h id (.slice 3 (fos (mkFos k i++l.drop i))),n⟩) (fun _=>True) l.length 0 (head_tb [] (by simp[rhoOk,objIds]) (by simp only[hid,keptV_cons,keptV_nil,tb_get,lk_same,lk_ne,lk_nil,ren,renL,lkp,N7,N1,N5,reduceIte,and_true,true_and,Nat.not_lt_zero,if_false,if_true,Nat.add_zero,Nat.zero_add];all_goals simp) (by rw[show mkFos k 0++l.drop 0=l from rfl,hset_get hg];exact hb)) (by omega) trivial fun i hi _ J hJ=>?_
 by_cases h1:i<l.length
 ·have hlen:(fos (mkFos k i++l.drop i)).length=l.length:=by simp[fos,mkFos];omega
  have e1: ∃u:Fo,(fos (mkFos k i++l.drop i))[i]?=some (foA u):=⟨_,by rw[fos,List.getElem?_map,List.getElem?_eq_getElem (by simp[mkFos];omega)];rfl⟩
  obtain⟨t,e1⟩:=e1
  have gs: ∀e:List AV,((fos (mkFos k i++l.drop i)).set i e)[i]?=some e:=by intro e;rw[List.getElem?_set,if_pos rfl,if_pos (by omega)]
  have ls:=mkFos_succ (us:=l) (k:=k) h1
  have w0:IntKind.i64.wrap (k+3*(i:Int)+1)=k+3*(i:Int)+1:=wrap64 (by omega) (by omega)
  have w1:IntKind.i64.wrap (k+3*(i:Int)+1+1)=k+3*(i:Int)+1+1:=wrap64 (by omega) (by omega)
  have w2:IntKind.i64.wrap (k+3*(i:Int)+1+1+1)=k+3*(i:Int)+1+1+1:=wrap64 (by omega) (by omega)
  have ea:k+3*(i:Int)+1+1=k+3*(i:Int)+2:=by omega
  simp only[Int.toNat_natCast,hgi,e1,foA,push_cast,↓J1,↓J2,N1,N2,N3,reduceCtorEq,N4,N5,N6,reduceIte,N7,I1,I2,I3]
  refine ifB_intro (fun _=>?_) (fun h=>by simp at h;omega)
  repeat (refine⟨by omega,?_⟩)
  repeat' (first | refine⟨by omega,?_⟩ | simp only[Int.toNat_natCast,hgi,e1,gs,hset_hset,List.set_set,setsA,List.set_cons_zero,List.set_cons_succ,foA,w0,w1,w2,push_cast,↓J1,↓J2,N1,N2,N3,reduceCtorEq,N4,N5,N6,reduceIte,N7,I1,I2,I3])
  refine hJ h1 trivial _ (head_tb [] (by simp[rhoOk,objIds]) ?_ ?_)
  ·simp only[hid,keptV_cons,keptV_nil,tb_get,lk_same,lk_ne,lk_nil,ren,renL,lkp,N7,N1,N5,reduceIte,and_true,true_and,Nat.not_lt_zero,if_false,if_true,Nat.add_zero,Nat.zero_add]
   rw[wrap64 (n:=(i:Int)+1) (by omega) (by omega),show k+3*((i+1:Nat):Int)=k+3*(i:Int)+1+1+1 by omega]
   and_intros<;>rfl
  ·rw[←ls]
   simp only[foA,ea]
   exact below_set hb
 ·obtain rfl:i=l.length:=by omega
  simp only[push_cast,↓J1,↓J2,N1,N2,N3,reduceCtorEq,N4,N5,N6,reduceIte,N7,I1,I2,I3]
  refine ifB_intro (fun h=>by simp at h) (fun h=>?_)
  refine⟨rfl,rfl,?_,FrH.set,below_set hb,solid_set hs⟩
  rw[List.drop_length,List.append_nil];exact hgi _
theorem t21(k:Int)(n:Nat)(hk:0≤k∧k≤2^47)(hn:n<2^40):Ev C 21 [.sl (fos (mkFos k n)),.int .i64 k] (.int .i64 (k+3*(n:Int))):=by
 refine rT hC Q21 ?_
 simp only[c21,fos_length,mkFos_length,push_cast,↓J1,↓J2,N1,N2,N3,reduceCtorEq,N4,N5,N6,reduceIte,N7,I1,I2,I3]
 refine RL_count (fun i=>⟨tb 40 .any [(0,.sl (fos (mkFos k n))),(1,.int .i64 (k+3*(i:Int))),(5,.int .i64 (i:Int))],[],0⟩) (fun _=>True) n 0 (hdA [] (hV:=by(simp only[keptV_cons,keptV_nil,tb_get,lk_same,lk_ne,lk_nil,ren,renL,lkp,N7,N1,N5,reduceIte,and_true,true_and,Nat.not_lt_zero,if_false,if_true,Nat.add_zero,Nat.zero_add];all_goals simp))) (by omega) trivial fun i hi _ J hJ=>?_
 by_cases h1:i<n
 ·have e1:=mkFos_get (k:=k) h1
  have w0:IntKind.i64.wrap (k+3*(i:Int)+1)=k+3*(i:Int)+1:=wrap64 (by omega) (by omega)
  have w1:IntKind.i64.wrap (k+3*(i:Int)+1+1)=k+3*(i:Int)+2:=by rw[wrap64 (by omega) (by omega)];omega
  have w2:IntKind.i64.wrap (k+3*(i:Int)+2+1)=k+3*(i:Int)+3:=by rw[wrap64 (by omega) (by omega)];omega
  simp only[Int.toNat_natCast,e1,foA,w0,w1,w2,fos_length,mkFos_length,push_cast,↓J1,↓J2,N1,N2,N3,reduceCtorEq,N4,N5,N6,reduceIte,N7,I1,I2,I3]
  refine ifB_intro (fun _=>?_) (fun h=>by simp at h;omega)
  repeat' (first | refine⟨by omega,?_⟩ | simp only[Int.toNat_natCast,e1,foA,w0,w1,w2,push_cast,↓J1,↓J2,N1,N2,N3,reduceCtorEq,N4,N5,N6,reduceIte,N7,I1,I2,I3])
  refine hJ h1 trivial _ (hdA [] (hV:=?_))
  simp only[keptV_cons,keptV_nil,tb_get,lk_same,lk_ne,lk_nil,ren,renL,lkp,N7,N1,N5,reduceIte,and_true,true_and,Nat.not_lt_zero,if_false,if_true,Nat.add_zero,Nat.zero_add]
  rw[wrap64 (n:=(i:Int)+1) (by omega) (by omega),show k+3*((i+1:Nat):Int)=k+3*(i:Int)+3 by omega]
  and_intros<;>rfl
 ·obtain rfl:i=n:=by omega
  simp only[fos_length,mkFos_length,push_cast,↓J1,↓J2,N1,N2,N3,reduceCtorEq,N4,N5,N6,reduceIte,N7,I1,I2,I3]
  refine ifB_intro (fun h=>by simp at h) (fun h=>?_)
  simp only[push_cast,↓J1,↓J2,N1,N2,N3,reduceCtorEq,N4,N5,N6,reduceIte,N7,I1,I2,I3]
end
end Go.Proofs.YtlkcpadkjepchaaGreatDoor.X
