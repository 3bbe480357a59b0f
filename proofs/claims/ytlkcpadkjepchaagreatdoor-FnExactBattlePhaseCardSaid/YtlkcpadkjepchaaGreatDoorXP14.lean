/- A part of the proof: lemmas on the machine or on the functions that the law reaches. No condition of its own. -/
import Derived.Test.YtlkcpadkjepchaaGreatDoorXP12
import Derived.Test.YtlkcpadkjepchaaGreatDoorXP13
import Derived.Test.YtlkcpadkjepchaaGreatDoorXP10
import Derived.Test.YtlkcpadkjepchaaGreatDoorXP9
import Derived.Test.YtlkcpadkjepchaaGreatDoorXP3
import Derived.Test.YtlkcpadkjepchaaGreatDoorXM4
import Derived.Test.YtlkcpadkjepchaaGreatDoorXP7
set_option maxHeartbeats 4000000
set_option maxRecDepth 8000
set_option linter.unusedSimpArgs false
set_option linter.unusedVariables false
open Nat renaming reduceBEq→N1,reduceAdd→N2,reduceSub→N3,reduceMul→N4,reduceEqDiff→N5,reduceLeDiff→N6,reduceLT→N7
open Int renaming reduceLE→I1,reduceLT→I2,reduceToNat→I3
namespace Go.Proofs.YtlkcpadkjepchaaGreatDoor.X
open Go
attribute [local irreducible] Ev
attribute [-push_cast] R_fork
theorem at_len0{b:Brd}{s:Sta}{sd i:Int}(h:staOk b s=true)(hs:sd=0∨sd=1)(hi:0≤i):decide (((fil (isAt i sd) s.us s.us.length).length:Int)=0)=!decide (owner s i=sd):=by
 rw[←at_len h hs hi,Bool.eq_iff_iff]
 simp only[decide_eq_true_eq,Bool.not_eq_true',decide_eq_false_iff_not]
 omega
section
variable{C:CT}(hC:Closed Tryz.prog G1 md0 C)
include hC
theorem t60(x:Se)(s:Sta)(y:Bt)(k:Nat)(seed:Int)(h:staOk x.b s=true)(ht:ctOk x.t=true)(hxb:SeB (2^50) x)(hy:BtOk x.b s y)(hk:k≤1000):Ev C 60 [seF x,.agg (staF s),.agg (btF y),.int .i64 (k:Int),.int .i64 seed] (.tup [.agg (staO (afterB x.b s y (resB x s y (rollB x seed k)))),.agg (foA (foB x s y seed k))]):=by
 have hb:=hxb.b
 have hlen:=sta_len h
 have hat:=hy.at1
 have hl3:=hy.ak3
 have hl4:=hy.df4
 have hrb:=roll_bnd ht seed k
 have hd:=(ct_in ht).2.1
 have hr:=res_bnd ht s y hrb
 have cB:=t100 hC x.b s x.t y (rollB x seed k) h ht hxb.t hy hrb hb
 rw[show(x.t.rs.getD (rollB x seed k-x.t.d).toNat []).getD (colB x.b s x.t y).toNat 0=resB x s y (rollB x seed k) from rfl] at cB
 simp only[foB]
 have eroll:=roll_eq ht seed k
 generalize resB x s y (rollB x seed k)=r at *
 rw[eroll] at cB⊢
 have cC:=t99 hC seed sBat (by decide)
 have cD:=fun i=>t98 hC (childM seed sBat) i
 have c1:=t101 hC x.b s y r h hy hr
 have hq:=after_ok (r:=r) h hy
 have c3:=fun a (ha:a.us.length=s.us.length)=>t103 hC a y.ak (fun k hk=>by have:=hy.ak1 k hk;omega) (by omega) (by omega)
 have c3q:=c3 _ hq.2
 have c3a:=t103 hC s y.ak (fun k hk=>by have:=hy.ak1 k hk;omega) (by omega) (by omega)
 have c3d:=t103 hC s y.df (fun k hk=>by have:=hy.df2 k hk;omega) (by omega) (by omega)
 rw[onL_all (bt_ak hy)] at c3a
 rw[onL_all (bt_df hy)] at c3d
 have c5:=fun k hk ha=>t104 hC x.b (afterR x.b s y r) k y.at_ hq.1 hk ha hat.1 hb
 have d0:0<y.df.length:=List.length_pos_iff.2 hy.df0
 have e0:(ints y.df)[0]?=some [.int .i64 (y.df.getD 0 0)]:=cut_ints_get d0
 have k0:=hy.df2 (y.df.getD 0 0) (getD_in d0)
 have hon: ∀k∈onL (afterR x.b s y r) y.ak,0≤k∧k<(s.us.length:Int)∧0≤(unOf (afterR x.b s y r) k).at_:=fun k hk=>by
  have h1:=onL_mem hk
  have h2:=hy.ak1 k h1.1
  exact⟨h2.1,h2.2.1,h1.2⟩
 have c4:=t93 hC (afterR x.b s y r) y.at_ (unOf s (y.df.getD 0 0)).sd (by omega)
 have hl0:=at_len0 hq.1 (sd:=(unOf s (y.df.getD 0 0)).sd) (i:=y.at_) (by have:=hy.own;omega) hat.1
 have eA:=apl_same s y (r:=r)
 have r1:=t102 hC x.b s y.df h (bt_df hy) (by omega) hb
 have r2:=t102 hC x.b s y.ak h (bt_ak hy) (by omega) hb
 have eR:afterR x.b s y r=if r=1 then(retA x.b y.df (aplR s y r,0)).1 else if r=4 then(retA x.b y.ak (aplR s y r,0)).1 else aplR s y r:=rfl
 have tka:List.take s.us.length (uns (aplR s y r).us)=uns (aplR s y r).us:=List.take_of_length_le (by rw[uns_length,apl_len s y r h];omega)
 have lna:=apl_len s y r h
 have tkq:List.take s.us.length (uns (afterR x.b s y r).us)=uns (afterR x.b s y r).us:=List.take_of_length_le (by rw[uns_length,hq.2];omega)
 have tkd:List.take y.df.length (ints y.df)=ints y.df:=List.take_of_length_le (by rw[ints_length];omega)
 have tkk:List.take y.ak.length (ints y.ak)=ints y.ak:=List.take_of_length_le (by rw[ints_length];omega)
 have tkb:=fun k hk ha=>(adv_ok (i:=y.at_) hq.1 (k:=k) hk ha).2
 have hqs:=hq.2
 simp only[afterB]
 generalize hkd:y.df.getD 0 0=kd at *
 obtain⟨kd,rfl⟩: ∃m:Nat,kd=m:=⟨kd.toNat,by omega⟩
 have e1:=usl_get (us:=s.us) (k:=kd) (by omega)
 rw[show s.us.getD kd un0=unOf s kd from rfl] at e1
 clear hkd
 generalize unOf s kd=xd at *
 generalize afterR x.b s y r=q at *
 generalize aplR s y r=a at *
 obtain⟨D,hD⟩: ∃D:Nat,x.t.d=D:=⟨x.t.d.toNat,by omega⟩
 rw[hD] at hd
 have hDn:x.t.d.toNat=D:=by omega
 rw[hDn] at cB⊢
 generalize childM seed sBat=c at *
 clear hy hrb eroll hxb c3
 simp only[seF,brdF,rulF,mpF,ctF,List.cons_append,List.nil_append,staF,staO,btF,unA,foA,hD] at *
 refine rT hC Q60 ?_ (by simp only[ownR,ownRL,own_uns,Bool.and_true])
 simp only[c60,push_cast,↓J1,↓J2,N1,N2,N3,reduceCtorEq,N4,N5,N6,reduceIte,N7,I1,I2,I3]
 refine RL_count (fun i=>⟨tb 118 .any [(3,.int .i64 (k:Int)),(4,.int .i64 seed),(5,.ptr 0 none 0 0 0),(6,.ptr 1 none 0 0 0),(7,.ptr 2 none 0 0 0),(10,.ptr 3 none 0 0 0),(11,.ptr 4 none 0 0 0),(12,.int .i64 (rollT c k i)),(13,.int .i64 (i:Int))],[(4,.var [.int .i64 0,.int .i64 0,.int .i64 0]),(3,.var [.int .i64 0,.int .i64 0,.nil]),(2,.var [.int .i64 y.at_,.sl (ints y.ak),.sl (ints y.df)]),(1,.var [.int .i64 s.t,.int .i64 s.w,.sl (uns s.us)]),(0,.var [.sl (tersF x.b.r.ts),.sl (kins x.b.r.ks),.int .i64 x.b.r.stack,.int .i64 x.b.r.river,.int .i64 x.b.r.road,.int .i64 x.b.r.supply,.int .i64 x.b.r.turns,.int .i64 x.b.m.w,.int .i64 x.b.m.h,.sl (ints x.b.m.t),.sl (ints x.b.m.ri),.sl (ints x.b.m.ro),.sl (ods x.t.cs),.int .i64 D,.sl (intss x.t.rs),.sl (intss x.c),.sl (intss x.src)])],5⟩) (fun _=>True) D 0 (hdA [(4,4),(3,3),(2,2),(1,1),(0,0)]) (by omega) trivial fun i hi _ J hJ=>?_
 by_cases hi':i<D
 ·have hlt:decide ((i:Int)<(D:Int))=true:=decide_eq_true (by omega)
  have hJ1:=hJ hi' trivial
  have hb:=rollT_bnd c k i
  have hd:=die_bnd c (2*(k:Int)+(i:Nat))
  have cD:=cD (2*(k:Int)+(i:Nat))
  simp only[rollT] at hJ1
  generalize dieM c (2*(k:Int)+(i:Nat))=v at *
  generalize rollT c k i=u at *
  have w1:IntKind.i64.wrap (2*(k:Int))=2*(k:Int):=wrap64 (by omega) (by omega)
  have w2:IntKind.i64.wrap (2*(k:Int)+(i:Nat))=2*(k:Int)+(i:Nat):=wrap64 (by omega) (by omega)
  have w3:IntKind.i64.wrap (u+v)=u+v:=wrap64 (by omega) (by omega)
  simp only[hlt,push_cast,↓J1,↓J2,N1,N2,N3,reduceCtorEq,N4,N5,N6,reduceIte,N7,I1,I2,I3]
  refine⟨_,cC,?_⟩
  simp only[w1,w2,push_cast,↓J1,↓J2,N1,N2,N3,reduceCtorEq,N4,N5,N6,reduceIte,N7,I1,I2,I3]
  refine⟨_,cD,?_⟩
  simp only[w3,push_cast,↓J1,↓J2,N1,N2,N3,reduceCtorEq,N4,N5,N6,reduceIte,N7,I1,I2,I3]
  exact hJ1 _ (hdA [(4,4),(3,3),(2,2),(1,1),(0,0)])
 have hlt:decide ((i:Int)<(D:Int))=false:=decide_eq_false (by omega)
 obtain rfl:i=D:=by omega
 clear hJ cC cD
 generalize rollT c k i=ro at *
 simp only[hlt,push_cast,↓J1,↓J2,N1,N2,N3,reduceCtorEq,N4,N5,N6,reduceIte,N7,I1,I2,I3]
 refine⟨_,cB,?_⟩
 simp only[e0,e1,ints_length,uns_length,Int.toNat_natCast,push_cast,↓J1,↓J2,N1,N2,N3,reduceCtorEq,N4,N5,N6,reduceIte,N7,I1,I2,I3]
 repeat (refine⟨by omega,?_⟩)
 by_cases h1:r=1
 ·subst h1
  have ea:=eA (.inl rfl)
  rw[ea] at c1 lna eR tka
  rw[if_pos rfl] at eR
  rw[←eR] at r1
  clear eR r2 c3a eA
  cases hL:onL q y.ak with
  | nil=>
   rw[hL] at c3q
   rw[show(if owner q y.at_=xd.sd then q else q)=q by split<;>rfl]
   simp only[ints,List.map_nil] at c3q
   repeat' (first
  | simp only[uns_length,tka,tkq,tkd,tkk,lna,hqs,frzLL_uns,frzLL_ints,Int.reduceEq,decide_false,decide_true,ints_length,List.length_nil,List.length_cons,R_fork,push_cast,↓J1,↓J2,N1,N2,N3,reduceCtorEq,N4,N5,N6,reduceIte,N7,I1,I2,I3]
  | refine⟨_,c1,?_⟩
  | refine⟨_,c3d,?_⟩
  | refine⟨_,r1,?_⟩
  | refine⟨_,c3q,?_⟩
  | refine ifB_intro (fun h=>?_) (fun h=>?_)
  | refine And.intro ?_ ?_)
   all_goals first
    | omega
    | skip
   all_goals exact RetTo_of (by simp only[conR,conRL,isF,hget,hdel,List.drop_zero,List.take_length,if_true,if_false,reduceIte,N5,reduceCtorEq,tkq,uns_length,hqs];rfl)
  | cons kq t=>
   have hkq:=hon kq (by rw[hL];simp)
   rw[hL] at c3q
   have gt:decide (0<(t.length:Int)+1)=true:=decide_eq_true (by omega)
   have tkF: ∀F:List Int,List.take F.length (ints F)=ints F:=fun F=>List.take_of_length_le (by rw[ints_length];omega)
   obtain⟨kq,rfl⟩: ∃m:Nat,kq=m:=⟨kq.toNat,by omega⟩
   have eL:ints ((kq:Int)::t)=[.int .i64 (kq:Int)]::ints t:=rfl
   rw[eL] at c3q
   generalize fil (isAt y.at_ xd.sd) q.us q.us.length=F at *
   by_cases ho:owner q y.at_=xd.sd
   ·rw[if_pos ho]
    rw[decide_eq_true ho,Bool.not_true] at hl0
    repeat' (first
  | simp only[uns_length,tka,tkq,tkd,tkk,lna,hqs,frzLL_uns,frzLL_ints,Int.reduceEq,decide_false,decide_true,ints_length,List.length_nil,List.length_cons,hl0,gt,tkF,R_fork,push_cast,↓J1,↓J2,N1,N2,N3,reduceCtorEq,N4,N5,N6,reduceIte,N7,I1,I2,I3]
  | refine⟨_,c1,?_⟩
  | refine⟨_,c3d,?_⟩
  | refine⟨_,r1,?_⟩
  | refine⟨_,c3q,?_⟩
  | refine⟨_,c4,?_⟩
  | refine ifB_intro (fun h=>?_) (fun h=>?_)
  | refine And.intro ?_ ?_)
    all_goals first
     | omega
     | skip
    all_goals exact RetTo_of (by simp only[conR,conRL,isF,hget,hdel,List.drop_zero,List.take_length,if_true,if_false,reduceIte,N5,reduceCtorEq,tkq,uns_length,hqs];rfl)
   ·rw[if_neg ho]
    rw[decide_eq_false ho,Bool.not_false] at hl0
    obtain⟨cn,c5⟩:=c5 kq (by omega) hkq.2.2
    have tkb:=tkb kq (by omega) hkq.2.2
    have tk3:List.take s.us.length (uns (advU x.b q kq y.at_).us)=uns (advU x.b q kq y.at_).us:=List.take_of_length_le (by rw[uns_length,tkb,hqs];omega)
    have ti:List.take 1 ([AV.int .i64 (kq:Int)]::ints t)=[[AV.int .i64 (kq:Int)]]:=rfl
    have ti2:frzLL [[AV.int .i64 (kq:Int)]]=[[AV.int .i64 (kq:Int)]]:=rfl
    simp only[]
    generalize advU x.b q kq y.at_=q2 at *
    have t10:((1:Int)-0).toNat=1:=rfl
    repeat' (first
  | simp only[uns_length,tka,tkq,tkd,tkk,lna,hqs,frzLL_uns,frzLL_ints,Int.reduceEq,decide_false,decide_true,ints_length,List.length_nil,List.length_cons,hl0,gt,tkF,push_cast,↓J1,↓J2,N1,N2,N3,reduceCtorEq,N4,N5,N6,reduceIte,N7,I1,I2,I3]
  | refine⟨_,c1,?_⟩
  | refine⟨_,c3d,?_⟩
  | refine⟨_,r1,?_⟩
  | refine⟨_,c3q,?_⟩
  | refine⟨_,c4,?_⟩
  | (refine⟨by omega,?_⟩)
  | refine ifB_intro (fun h=>?_) (fun h=>?_))
    refine cutF (fun s'=> ∃l,s'=⟨tb 118 .any l,[(10,.slice 4 (uns q2.us)),(9,.slice 1 (ints F)),(8,.slice 1 ([.int .i64 (kq:Int)]::ints t)),(7,.slice 4 (uns q.us)),(6,.slice 1 (ints y.df)),(5,.slice 4 (uns s.us)),(4,.var [.int .i64 0,.int .i64 0,.int .i64 0]),(3,.var [.int .i64 0,.int .i64 0,.nil]),(2,.var [.int .i64 y.at_,.sl (ints y.ak),.sl (ints y.df)]),(1,.var [.int .i64 q2.t,.int .i64 q2.w,.ref 10 none 4 0 s.us.length]),(0,.var [.sl (tersF x.b.r.ts),.sl (kins x.b.r.ks),.int .i64 x.b.r.stack,.int .i64 x.b.r.river,.int .i64 x.b.r.road,.int .i64 x.b.r.supply,.int .i64 x.b.r.turns,.int .i64 x.b.m.w,.int .i64 x.b.m.h,.sl (ints x.b.m.t),.sl (ints x.b.m.ri),.sl (ints x.b.m.ro),.sl (ods x.t.cs),.int .i64 (i:Int),.sl (intss x.t.rs),.sl (intss x.c),.sl (intss x.src)])],11⟩∧lk .any l 6= .ptr 1 none 0 0 0∧lk .any l 7= .ptr 2 none 0 0 0∧lk .any l 10= .ptr 3 none 0 0 0∧lk .any l 11= .ptr 4 none 0 0 0∧lk .any l 12= .int .i64 ro∧lk .any l 14= .int .i64 1) (fun K F hK=>?_) ?_
    ·repeat' (first
  | simp only[uns_length,tka,tkq,tkd,tkk,lna,hqs,frzLL_uns,frzLL_ints,Int.reduceEq,decide_false,decide_true,ints_length,List.length_nil,List.length_cons,R_fork,ti,ti2,t10,tkb,push_cast,↓J1,↓J2,N1,N2,N3,reduceCtorEq,N4,N5,N6,reduceIte,N7,I1,I2,I3]
  | refine⟨_,c5,?_⟩
  | refine ifB_intro (fun h=>?_) (fun h=>?_)
  | refine And.intro ?_ ?_)
     all_goals first
      | omega
      | skip
     all_goals exact hK _ ⟨_,rfl,rfl,rfl,rfl,rfl,rfl,rfl⟩
    rintro _ ⟨l,rfl,L6,L7,L10,L11,L12,L14⟩
    have K10:lk .any (killA l) 10= .ptr 3 none 0 0 0:=by rw[←kill_lk rfl,L10];rfl
    have K11:lk .any (killA l) 11= .ptr 4 none 0 0 0:=by rw[←kill_lk rfl,L11];rfl
    have M10:lk .any (killA (killA l)) 10= .ptr 3 none 0 0 0:=by rw[←kill_lk rfl,K10];rfl
    have M11:lk .any (killA (killA l)) 11= .ptr 4 none 0 0 0:=by rw[←kill_lk rfl,K11];rfl
    repeat' (first
  | simp only[K10,K11,M10,M11,L6,L7,L10,L11,L12,L14,R_fork,push_cast,↓J1,↓J2,N1,N2,N3,reduceCtorEq,N4,N5,N6,reduceIte,N7,I1,I2,I3]
  | refine⟨_,c5,?_⟩
  | refine ifB_intro (fun h=>?_) (fun h=>?_)
  | refine And.intro ?_ ?_)
    all_goals first
     | omega
     | skip
    all_goals exact RetTo_of (by simp only[conR,conRL,isF,hget,hdel,List.drop_zero,List.take_length,if_true,if_false,reduceIte,N5,reduceCtorEq,tk3,uns_length,tkb,hqs];rfl)
 by_cases h4:r=4
 ·subst h4
  have ea:=eA (.inr (.inl rfl))
  rw[ea] at c1 lna eR tka
  rw[if_neg (by omega),if_pos rfl] at eR
  rw[←eR] at r2
  clear eR r1 c3d eA
  cases hL:onL q y.ak with
  | nil=>
   rw[hL] at c3q
   rw[show(if owner q y.at_=xd.sd then q else q)=q by split<;>rfl]
   simp only[ints,List.map_nil] at c3q
   repeat' (first
  | simp only[uns_length,tka,tkq,tkd,tkk,lna,hqs,frzLL_uns,frzLL_ints,Int.reduceEq,decide_false,decide_true,ints_length,List.length_nil,List.length_cons,R_fork,push_cast,↓J1,↓J2,N1,N2,N3,reduceCtorEq,N4,N5,N6,reduceIte,N7,I1,I2,I3]
  | refine⟨_,c1,?_⟩
  | refine⟨_,c3a,?_⟩
  | refine⟨_,r2,?_⟩
  | refine⟨_,c3q,?_⟩
  | refine ifB_intro (fun h=>?_) (fun h=>?_)
  | refine And.intro ?_ ?_)
   all_goals first
    | omega
    | skip
   all_goals exact RetTo_of (by simp only[conR,conRL,isF,hget,hdel,List.drop_zero,List.take_length,if_true,if_false,reduceIte,N5,reduceCtorEq,tkq,uns_length,hqs];rfl)
  | cons kq t=>
   have hkq:=hon kq (by rw[hL];simp)
   rw[hL] at c3q
   have gt:decide (0<(t.length:Int)+1)=true:=decide_eq_true (by omega)
   have tkF: ∀F:List Int,List.take F.length (ints F)=ints F:=fun F=>List.take_of_length_le (by rw[ints_length];omega)
   obtain⟨kq,rfl⟩: ∃m:Nat,kq=m:=⟨kq.toNat,by omega⟩
   have eL:ints ((kq:Int)::t)=[.int .i64 (kq:Int)]::ints t:=rfl
   rw[eL] at c3q
   generalize fil (isAt y.at_ xd.sd) q.us q.us.length=F at *
   by_cases ho:owner q y.at_=xd.sd
   ·rw[if_pos ho]
    rw[decide_eq_true ho,Bool.not_true] at hl0
    repeat' (first
  | simp only[uns_length,tka,tkq,tkd,tkk,lna,hqs,frzLL_uns,frzLL_ints,Int.reduceEq,decide_false,decide_true,ints_length,List.length_nil,List.length_cons,hl0,gt,tkF,R_fork,push_cast,↓J1,↓J2,N1,N2,N3,reduceCtorEq,N4,N5,N6,reduceIte,N7,I1,I2,I3]
  | refine⟨_,c1,?_⟩
  | refine⟨_,c3a,?_⟩
  | refine⟨_,r2,?_⟩
  | refine⟨_,c3q,?_⟩
  | refine⟨_,c4,?_⟩
  | refine ifB_intro (fun h=>?_) (fun h=>?_)
  | refine And.intro ?_ ?_)
    all_goals first
     | omega
     | skip
    all_goals exact RetTo_of (by simp only[conR,conRL,isF,hget,hdel,List.drop_zero,List.take_length,if_true,if_false,reduceIte,N5,reduceCtorEq,tkq,uns_length,hqs];rfl)
   ·rw[if_neg ho]
    rw[decide_eq_false ho,Bool.not_false] at hl0
    obtain⟨cn,c5⟩:=c5 kq (by omega) hkq.2.2
    have tkb:=tkb kq (by omega) hkq.2.2
    have tk3:List.take s.us.length (uns (advU x.b q kq y.at_).us)=uns (advU x.b q kq y.at_).us:=List.take_of_length_le (by rw[uns_length,tkb,hqs];omega)
    have ti:List.take 1 ([AV.int .i64 (kq:Int)]::ints t)=[[AV.int .i64 (kq:Int)]]:=rfl
    have ti2:frzLL [[AV.int .i64 (kq:Int)]]=[[AV.int .i64 (kq:Int)]]:=rfl
    simp only[]
    generalize advU x.b q kq y.at_=q2 at *
    have t10:((1:Int)-0).toNat=1:=rfl
    repeat' (first
  | simp only[uns_length,tka,tkq,tkd,tkk,lna,hqs,frzLL_uns,frzLL_ints,Int.reduceEq,decide_false,decide_true,ints_length,List.length_nil,List.length_cons,hl0,gt,tkF,push_cast,↓J1,↓J2,N1,N2,N3,reduceCtorEq,N4,N5,N6,reduceIte,N7,I1,I2,I3]
  | refine⟨_,c1,?_⟩
  | refine⟨_,c3a,?_⟩
  | refine⟨_,r2,?_⟩
  | refine⟨_,c3q,?_⟩
  | refine⟨_,c4,?_⟩
  | (refine⟨by omega,?_⟩)
  | refine ifB_intro (fun h=>?_) (fun h=>?_))
    refine cutF (fun s'=> ∃l,s'=⟨tb 118 .any l,[(10,.slice 4 (uns q2.us)),(9,.slice 1 (ints F)),(8,.slice 1 ([.int .i64 (kq:Int)]::ints t)),(7,.slice 4 (uns q.us)),(6,.slice 1 (ints y.ak)),(5,.slice 4 (uns s.us)),(4,.var [.int .i64 0,.int .i64 0,.int .i64 0]),(3,.var [.int .i64 0,.int .i64 0,.nil]),(2,.var [.int .i64 y.at_,.sl (ints y.ak),.sl (ints y.df)]),(1,.var [.int .i64 q2.t,.int .i64 q2.w,.ref 10 none 4 0 s.us.length]),(0,.var [.sl (tersF x.b.r.ts),.sl (kins x.b.r.ks),.int .i64 x.b.r.stack,.int .i64 x.b.r.river,.int .i64 x.b.r.road,.int .i64 x.b.r.supply,.int .i64 x.b.r.turns,.int .i64 x.b.m.w,.int .i64 x.b.m.h,.sl (ints x.b.m.t),.sl (ints x.b.m.ri),.sl (ints x.b.m.ro),.sl (ods x.t.cs),.int .i64 (i:Int),.sl (intss x.t.rs),.sl (intss x.c),.sl (intss x.src)])],11⟩∧lk .any l 6= .ptr 1 none 0 0 0∧lk .any l 7= .ptr 2 none 0 0 0∧lk .any l 10= .ptr 3 none 0 0 0∧lk .any l 11= .ptr 4 none 0 0 0∧lk .any l 12= .int .i64 ro∧lk .any l 14= .int .i64 4) (fun K F hK=>?_) ?_
    ·repeat' (first
  | simp only[uns_length,tka,tkq,tkd,tkk,lna,hqs,frzLL_uns,frzLL_ints,Int.reduceEq,decide_false,decide_true,ints_length,List.length_nil,List.length_cons,R_fork,ti,ti2,t10,tkb,push_cast,↓J1,↓J2,N1,N2,N3,reduceCtorEq,N4,N5,N6,reduceIte,N7,I1,I2,I3]
  | refine⟨_,c5,?_⟩
  | refine ifB_intro (fun h=>?_) (fun h=>?_)
  | refine And.intro ?_ ?_)
     all_goals first
      | omega
      | skip
     all_goals exact hK _ ⟨_,rfl,rfl,rfl,rfl,rfl,rfl,rfl⟩
    rintro _ ⟨l,rfl,L6,L7,L10,L11,L12,L14⟩
    have K10:lk .any (killA l) 10= .ptr 3 none 0 0 0:=by rw[←kill_lk rfl,L10];rfl
    have K11:lk .any (killA l) 11= .ptr 4 none 0 0 0:=by rw[←kill_lk rfl,L11];rfl
    have M10:lk .any (killA (killA l)) 10= .ptr 3 none 0 0 0:=by rw[←kill_lk rfl,K10];rfl
    have M11:lk .any (killA (killA l)) 11= .ptr 4 none 0 0 0:=by rw[←kill_lk rfl,K11];rfl
    repeat' (first
  | simp only[K10,K11,M10,M11,L6,L7,L10,L11,L12,L14,R_fork,push_cast,↓J1,↓J2,N1,N2,N3,reduceCtorEq,N4,N5,N6,reduceIte,N7,I1,I2,I3]
  | refine⟨_,c5,?_⟩
  | refine ifB_intro (fun h=>?_) (fun h=>?_)
  | refine And.intro ?_ ?_)
    all_goals first
     | omega
     | skip
    all_goals exact RetTo_of (by simp only[conR,conRL,isF,hget,hdel,List.drop_zero,List.take_length,if_true,if_false,reduceIte,N5,reduceCtorEq,tk3,uns_length,tkb,hqs];rfl)
 ·rw[if_neg h1,if_neg h4] at eR
  subst eR
  clear r1 r2 c3a c3d
  have g1:decide (r=1)=false:=decide_eq_false h1
  have g4:decide (r=4)=false:=decide_eq_false h4
  cases hL:onL q y.ak with
  | nil=>
   rw[hL] at c3q
   rw[show(if owner q y.at_=xd.sd then q else q)=q by split<;>rfl]
   simp only[ints,List.map_nil] at c3q
   repeat' (first
  | simp only[g1,g4,uns_length,tka,tkq,tkd,tkk,lna,hqs,frzLL_uns,frzLL_ints,Int.reduceEq,decide_false,decide_true,ints_length,List.length_nil,List.length_cons,R_fork,push_cast,↓J1,↓J2,N1,N2,N3,reduceCtorEq,N4,N5,N6,reduceIte,N7,I1,I2,I3]
  | refine⟨_,c1,?_⟩
  | refine⟨_,c3q,?_⟩
  | refine ifB_intro (fun h=>?_) (fun h=>?_)
  | refine And.intro ?_ ?_)
   all_goals first
    | omega
    | skip
   all_goals exact RetTo_of (by simp only[conR,conRL,isF,hget,hdel,List.drop_zero,List.take_length,if_true,if_false,reduceIte,N5,reduceCtorEq,tkq,uns_length,hqs];rfl)
  | cons kq t=>
   have hkq:=hon kq (by rw[hL];simp)
   rw[hL] at c3q
   have gt:decide (0<(t.length:Int)+1)=true:=decide_eq_true (by omega)
   have tkF: ∀F:List Int,List.take F.length (ints F)=ints F:=fun F=>List.take_of_length_le (by rw[ints_length];omega)
   obtain⟨kq,rfl⟩: ∃m:Nat,kq=m:=⟨kq.toNat,by omega⟩
   have eL:ints ((kq:Int)::t)=[.int .i64 (kq:Int)]::ints t:=rfl
   rw[eL] at c3q
   generalize fil (isAt y.at_ xd.sd) q.us q.us.length=F at *
   by_cases ho:owner q y.at_=xd.sd
   ·rw[if_pos ho]
    rw[decide_eq_true ho,Bool.not_true] at hl0
    repeat' (first
  | simp only[g1,g4,uns_length,tka,tkq,tkd,tkk,lna,hqs,frzLL_uns,frzLL_ints,Int.reduceEq,decide_false,decide_true,ints_length,List.length_nil,List.length_cons,hl0,gt,tkF,R_fork,push_cast,↓J1,↓J2,N1,N2,N3,reduceCtorEq,N4,N5,N6,reduceIte,N7,I1,I2,I3]
  | refine⟨_,c1,?_⟩
  | refine⟨_,c3q,?_⟩
  | refine⟨_,c4,?_⟩
  | refine ifB_intro (fun h=>?_) (fun h=>?_)
  | refine And.intro ?_ ?_)
    all_goals first
     | omega
     | skip
    all_goals exact RetTo_of (by simp only[conR,conRL,isF,hget,hdel,List.drop_zero,List.take_length,if_true,if_false,reduceIte,N5,reduceCtorEq,tkq,uns_length,hqs];rfl)
   ·rw[if_neg ho]
    rw[decide_eq_false ho,Bool.not_false] at hl0
    obtain⟨cn,c5⟩:=c5 kq (by omega) hkq.2.2
    have tkb:=tkb kq (by omega) hkq.2.2
    have tk3:List.take s.us.length (uns (advU x.b q kq y.at_).us)=uns (advU x.b q kq y.at_).us:=List.take_of_length_le (by rw[uns_length,tkb,hqs];omega)
    have ti:List.take 1 ([AV.int .i64 (kq:Int)]::ints t)=[[AV.int .i64 (kq:Int)]]:=rfl
    have ti2:frzLL [[AV.int .i64 (kq:Int)]]=[[AV.int .i64 (kq:Int)]]:=rfl
    simp only[]
    generalize advU x.b q kq y.at_=q2 at *
    have t10:((1:Int)-0).toNat=1:=rfl
    repeat' (first
  | simp only[g1,g4,uns_length,tka,tkq,tkd,tkk,lna,hqs,frzLL_uns,frzLL_ints,Int.reduceEq,decide_false,decide_true,ints_length,List.length_nil,List.length_cons,hl0,gt,tkF,push_cast,↓J1,↓J2,N1,N2,N3,reduceCtorEq,N4,N5,N6,reduceIte,N7,I1,I2,I3]
  | refine⟨_,c1,?_⟩
  | refine⟨_,c3q,?_⟩
  | refine⟨_,c4,?_⟩
  | (refine⟨by omega,?_⟩)
  | refine ifB_intro (fun h=>?_) (fun h=>?_))
    refine cutF (fun s'=> ∃l,s'=⟨tb 118 .any l,[(8,.slice 4 (uns q2.us)),(7,.slice 1 (ints F)),(6,.slice 1 ([.int .i64 (kq:Int)]::ints t)),(5,.slice 4 (uns q.us)),(4,.var [.int .i64 0,.int .i64 0,.int .i64 0]),(3,.var [.int .i64 0,.int .i64 0,.nil]),(2,.var [.int .i64 y.at_,.sl (ints y.ak),.sl (ints y.df)]),(1,.var [.int .i64 q2.t,.int .i64 q2.w,.ref 8 none 4 0 s.us.length]),(0,.var [.sl (tersF x.b.r.ts),.sl (kins x.b.r.ks),.int .i64 x.b.r.stack,.int .i64 x.b.r.river,.int .i64 x.b.r.road,.int .i64 x.b.r.supply,.int .i64 x.b.r.turns,.int .i64 x.b.m.w,.int .i64 x.b.m.h,.sl (ints x.b.m.t),.sl (ints x.b.m.ri),.sl (ints x.b.m.ro),.sl (ods x.t.cs),.int .i64 (i:Int),.sl (intss x.t.rs),.sl (intss x.c),.sl (intss x.src)])],9⟩∧lk .any l 6= .ptr 1 none 0 0 0∧lk .any l 7= .ptr 2 none 0 0 0∧lk .any l 10= .ptr 3 none 0 0 0∧lk .any l 11= .ptr 4 none 0 0 0∧lk .any l 12= .int .i64 ro∧lk .any l 14= .int .i64 r) (fun K F hK=>?_) ?_
    ·repeat' (first
  | simp only[uns_length,tka,tkq,tkd,tkk,lna,hqs,frzLL_uns,frzLL_ints,Int.reduceEq,decide_false,decide_true,ints_length,List.length_nil,List.length_cons,R_fork,ti,ti2,t10,tkb,push_cast,↓J1,↓J2,N1,N2,N3,reduceCtorEq,N4,N5,N6,reduceIte,N7,I1,I2,I3]
  | refine⟨_,c5,?_⟩
  | refine ifB_intro (fun h=>?_) (fun h=>?_)
  | refine And.intro ?_ ?_)
     all_goals first
      | omega
      | skip
     all_goals exact hK _ ⟨_,rfl,rfl,rfl,rfl,rfl,rfl,rfl⟩
    rintro _ ⟨l,rfl,L6,L7,L10,L11,L12,L14⟩
    have K10:lk .any (killA l) 10= .ptr 3 none 0 0 0:=by rw[←kill_lk rfl,L10];rfl
    have K11:lk .any (killA l) 11= .ptr 4 none 0 0 0:=by rw[←kill_lk rfl,L11];rfl
    have M10:lk .any (killA (killA l)) 10= .ptr 3 none 0 0 0:=by rw[←kill_lk rfl,K10];rfl
    have M11:lk .any (killA (killA l)) 11= .ptr 4 none 0 0 0:=by rw[←kill_lk rfl,K11];rfl
    repeat' (first
  | simp only[K10,K11,M10,M11,L6,L7,L10,L11,L12,L14,R_fork,push_cast,↓J1,↓J2,N1,N2,N3,reduceCtorEq,N4,N5,N6,reduceIte,N7,I1,I2,I3]
  | refine⟨_,c5,?_⟩
  | refine ifB_intro (fun h=>?_) (fun h=>?_)
  | refine And.intro ?_ ?_)
    all_goals first
     | omega
     | skip
    all_goals exact RetTo_of (by simp only[conR,conRL,isF,hget,hdel,List.drop_zero,List.take_length,if_true,if_false,reduceIte,N5,reduceCtorEq,tk3,uns_length,tkb,hqs];rfl)
end
end Go.Proofs.YtlkcpadkjepchaaGreatDoor.X
set_option maxHeartbeats 4000000
set_option maxRecDepth 8000
set_option linter.unusedSimpArgs false
set_option linter.unusedVariables false
open Nat renaming reduceBEq→N1,reduceAdd→N2,reduceSub→N3,reduceMul→N4,reduceEqDiff→N5,reduceLeDiff→N6,reduceLT→N7
open Int renaming reduceLE→I1,reduceLT→I2,reduceToNat→I3
namespace Go.Proofs.YtlkcpadkjepchaaGreatDoor.X
open Go
attribute [local irreducible] Ev
def baA(y:Bt):List AV:=[.int .i64 y.at_,.ow 1 (ints y.ak),.ow 1 (ints y.df)]
def bas(l:List Bt):List (List AV):=l.map baA
def baF(y:Bt):List AV:=[.int .i64 y.at_,.sl (ints y.ak),.sl (ints y.df)]
def akH(A d:List Int)(i:Int)(r:Heap):Heap:=match A with
 | []=>(4,.var [.int .i64 i,.nil,.ref 3 none 1 0 d.length])::(3,.slice 1 (ints d))::r
 | k::t=>(5,.slice 1 (ints (k::t)))::(4,.var [.int .i64 i,.ref 5 none 1 0 (k::t).length,.ref 3 none 1 0 d.length])::(3,.slice 1 (ints d))::r
def akN(A:List Int):Nat:=match A with
 | []=>5
 | _::_=>6
theorem bas_length(l:List Bt):(bas l).length=l.length:=by simp[bas]
theorem bas_app(l m:List Bt):bas l++bas m=bas (l++m):=by simp[bas]
theorem own_bas(l:List Bt):ownRLL (bas l)=true:=by
 induction l with
 | nil=>rfl
 | cons y l ih=>
  have h1:=own_ints y.ak
  have h2:=own_ints y.df
  simp only[ownR] at h1 h2
  simp only[bas,List.map_cons,ownRLL] at ih⊢
  rw[ih]
  simp only[baA,ownRL,ownR,h1,h2,Bool.and_true,Bool.and_self]
theorem batT_succ(b:Brd)(s:Sta)(l:List Od)(n:Nat):batT b s l (n+1)=if isBt b s l n then batT b s l n++[btAt b s l n] else batT b s l n:=by
 simp only[batT,List.range_succ,List.filter_append]
 cases h:isBt b s l n<;>simp[h]
theorem batT_le(b:Brd)(s:Sta)(l:List Od)(n:Nat):(batT b s l n).length≤n:=by
 simp only[batT,List.length_map]
 exact Nat.le_trans (List.length_filter_le _ _) (by simp)
theorem attT_succ(b:Brd)(s:Sta)(l:List Od)(i:Int)(n:Nat):attT b s l i (n+1)=if attP b s l i n then attT b s l i n++[(n:Int)] else attT b s l i n:=by
 simp only[attT,List.range_succ,List.filter_append]
 cases h:attP b s l i n<;>simp[h]
theorem attT_le(b:Brd)(s:Sta)(l:List Od)(i:Int)(n:Nat):(attT b s l i n).length≤n:=rng_le _ _
section
variable{C:CT}(hC:Closed Tryz.prog G1 md0 C)
include hC
theorem t70(b:Brd)(s:Sta)(l:List Od)(h:staOk b s=true)(hl:l.length<2^40):Ev C 70 [brdF b,.agg (staF s),.sl (ods l)] (.ow 3 (bas (bat b s l))):=by
 have hwh:=brd_wh (sta_brd h)
 have hlen:=sta_len h
 have c1:=fun i=>t115 hC s i (by omega)
 have c2:=fun i=>t116 hC s i (by omega)
 have c3:=fun u i hi=>t117 hC b u i (sta_brd h) hi
 have c4:=fun k i=>t118 hC l k i (by omega)
 have ebat:bat b s l=batT b s l b.m.t.length:=rfl
 rw[ebat]
 have hbs:=batT_succ b s l
 have hbl:=batT_le b s l
 have hob:=own_bas (batT b s l b.m.t.length)
 simp only[brdF,rulF,mpF,List.cons_append,List.nil_append,staF,unA] at *
 refine rT hC Q70 ?_ (by simpa only[ownR] using hob)
 simp only[c70,ints_length,push_cast,↓J1,↓J2,N1,N2,N3,reduceCtorEq,N4,N5,N6,reduceIte,N7,I1,I2,I3]
 refine RL_count (fun i=>⟨tb 73 .any [(2,.sl (ods l)),(3,.ptr 0 none 0 0 0),(4,.ptr 1 none 0 0 0),(7,.ref 2 none 3 0 (batT b s l i).length),(16,.int .i64 (b.m.t.length:Int)),(17,.int .i64 (i:Int))],[(2,.slice 3 (bas (batT b s l i))),(1,.var [.int .i64 s.t,.int .i64 s.w,.sl (uns s.us)]),(0,.var [.sl (tersF b.r.ts),.sl (kins b.r.ks),.int .i64 b.r.stack,.int .i64 b.r.river,.int .i64 b.r.road,.int .i64 b.r.supply,.int .i64 b.r.turns,.int .i64 b.m.w,.int .i64 b.m.h,.sl (ints b.m.t),.sl (ints b.m.ri),.sl (ints b.m.ro)])],3⟩) (fun _=>True) b.m.t.length 0 (hdA [(2,2),(1,1),(0,0)]) (by omega) trivial fun i hi _ J hJ=>?_
 have hbl:=hbl i
 by_cases h1:i<b.m.t.length
 ·have hlt:decide ((i:Int)<(b.m.t.length:Int))=true:=decide_eq_true (by omega)
  have hJ1:=hJ h1 trivial
  clear hJ
  have hbs:=hbs i
  have c1:=c1 i
  have c2:=c2 i
  have c3:=fun u=>c3 u i (by omega)
  have c4:=fun k=>c4 k i
  have tkd:List.take (dfs s i).length (ints (dfs s i))=ints (dfs s i):=List.take_of_length_le (by rw[ints_length];omega)
  rw[show fil (inHex (i:Int)) s.us s.us.length=dfs s i from rfl] at c1
  by_cases hd0:dfs s i=[]
  ·have hb0:isBt b s l i=false:=by simp[isBt,hd0]
   rw[hb0,if_neg Bool.false_ne_true] at hbs
   rw[hbs] at hJ1
   rw[hd0] at c1
   simp only[ints,List.map_nil] at c1
   repeat' (first
  | simp only[hlt,List.length_nil,Int.reduceEq,decide_true,push_cast,↓J1,↓J2,N1,N2,N3,reduceCtorEq,N4,N5,N6,reduceIte,N7,I1,I2,I3]
  | refine⟨_,c1,?_⟩
  | refine ifB_intro (fun h=>?_) (fun h=>?_))
   exact hJ1 _ (hdA [(2,2),(1,1),(0,0)])
  have d0:decide (((dfs s i).length:Int)=0)=false:=decide_eq_false (by have:=List.length_pos_iff.2 hd0;omega)
  repeat' (first
  | simp only[hlt,d0,ints_length,uns_length,push_cast,↓J1,↓J2,N1,N2,N3,reduceCtorEq,N4,N5,N6,reduceIte,N7,I1,I2,I3]
  | refine⟨_,c1,?_⟩
  | refine ifB_intro (fun h=>?_) (fun h=>?_))
  refine RL_count (fun j=>⟨tb 73 .any [(2,.sl (ods l)),(3,.ptr 0 none 0 0 0),(4,.ptr 1 none 0 0 0),(7,.ref 2 none 3 0 (batT b s l i).length),(16,.int .i64 (b.m.t.length:Int)),(17,.int .i64 (i:Int)),(8,.int .i64 (i:Int)),(9,.ptr 4 none 0 0 0),(30,.sl (uns s.us)),(31,.int .i64 (s.us.length:Int)),(32,.int .i64 (j:Int))],akH (attT b s l i j) (dfs s (i:Int)) (i:Int) [(2,.slice 3 (bas (batT b s l i))),(1,.var [.int .i64 s.t,.int .i64 s.w,.sl (uns s.us)]),(0,.var [.sl (tersF b.r.ts),.sl (kins b.r.ks),.int .i64 b.r.stack,.int .i64 b.r.river,.int .i64 b.r.road,.int .i64 b.r.supply,.int .i64 b.r.turns,.int .i64 b.m.w,.int .i64 b.m.h,.sl (ints b.m.t),.sl (ints b.m.ri),.sl (ints b.m.ro)])],akN (attT b s l i j)⟩) (fun _=>True) s.us.length 0 (by rw[show attT b s l i 0=[] from rfl];exact(hdA [(4,4),(3,3),(2,2),(1,1),(0,0)])) (by omega) trivial fun j hj _ J hJ=>?_
  have has:=attT_succ b s l i j
  have hal:=attT_le b s l i j
  by_cases h2:j<s.us.length
  ·have hJ2:=hJ h2 trivial
   clear hJ
   have hlt2:decide ((j:Int)<(s.us.length:Int))=true:=decide_eq_true (by omega)
   have e1:=usl_get h2
   rw[show s.us.getD j un0=unOf s j from rfl] at e1
   have c3:=c3 (unOf s j)
   have c4:=c4 j
   have hP:attP b s l i j=(!decide ((unOf s j).sd=owner s i)&&(decide (0≤(unOf s j).at_)&&decide (0≤dirOn b.m i (unOf s j).at_))&&hasA l j i):=rfl
   generalize attP b s l i j=pv at *
   generalize attT b s l i (j+1)=A2 at *
   generalize attT b s l i j=A1 at *
   generalize unOf s j=u at *
   generalize owner s i=ow at *
   generalize hasA l j i=ha at *
   generalize dirOn b.m i u.at_=di at *
   simp only[unA] at e1
   cases A1 with
   | nil=>
    simp only[List.nil_append] at has
    cases g1:decide (u.sd=ow)
    ·cases g2:(decide (0≤u.at_)&&decide (0≤di))
     ·rw[g1,g2] at hP
      rw[g2] at c3
      simp only[Bool.not_false,Bool.true_and,Bool.false_and,Bool.and_false] at hP
      subst hP
      simp only[Bool.false_eq_true,if_false] at has
      subst has
      simp only[akH,akN] at hJ2⊢
      repeat' (first
  | simp only[g1,hlt2,e1,Int.toNat_natCast,uns_length,ints_length,Bool.and_true,Bool.and_false,Bool.true_and,Bool.false_and,Bool.not_true,Bool.not_false,push_cast,↓J1,↓J2,N1,N2,N3,reduceCtorEq,N4,N5,N6,reduceIte,N7,I1,I2,I3]
  | refine⟨_,c2,?_⟩
  | refine⟨_,c3,?_⟩
  | (refine⟨by omega,?_⟩)
  | refine ifB_intro (fun h=>?_) (fun h=>?_))
      exact hJ2 _ (hdA [(4,4),(3,3),(2,2),(1,1),(0,0)])
     ·cases ha
      ·rw[g1,g2] at hP
       rw[g2] at c3
       simp only[Bool.not_false,Bool.true_and,Bool.false_and,Bool.and_false] at hP
       subst hP
       simp only[Bool.false_eq_true,if_false] at has
       subst has
       simp only[akH,akN] at hJ2⊢
       repeat' (first
  | simp only[g1,hlt2,e1,Int.toNat_natCast,uns_length,ints_length,Bool.and_true,Bool.and_false,Bool.true_and,Bool.false_and,Bool.not_true,Bool.not_false,push_cast,↓J1,↓J2,N1,N2,N3,reduceCtorEq,N4,N5,N6,reduceIte,N7,I1,I2,I3]
  | refine⟨_,c2,?_⟩
  | refine⟨_,c3,?_⟩
  | refine⟨_,c4,?_⟩
  | (refine⟨by omega,?_⟩)
  | refine ifB_intro (fun h=>?_) (fun h=>?_))
       exact hJ2 _ (hdA [(4,4),(3,3),(2,2),(1,1),(0,0)])
      ·rw[g1,g2] at hP
       rw[g2] at c3
       simp only[Bool.not_false,Bool.true_and,Bool.and_self] at hP
       subst hP
       simp only[if_true] at has
       subst has
       simp only[akH,akN] at hJ2⊢
       have tk:ints []=[]:=rfl
       repeat' (first
  | simp only[g1,hlt2,e1,Int.toNat_natCast,uns_length,ints_length,Bool.and_true,Bool.and_false,Bool.true_and,Bool.false_and,Bool.not_true,Bool.not_false,List.length_nil,List.length_cons,apYR_sc,allScs,tk,push_cast,↓J1,↓J2,N1,N2,N3,reduceCtorEq,N4,N5,N6,reduceIte,N7,I1,I2,I3]
  | refine⟨_,c2,?_⟩
  | refine⟨_,c3,?_⟩
  | refine⟨_,c4,?_⟩
  | (refine⟨by omega,?_⟩)
  | refine ifB_intro (fun h=>?_) (fun h=>?_))
       exact hJ2 _ (hdA [(7,5),(4,4),(3,3),(2,2),(1,1),(0,0)])
    ·rw[g1] at hP
     simp only[Bool.not_true,Bool.false_and] at hP
     subst hP
     simp only[Bool.false_eq_true,if_false] at has
     subst has
     simp only[akH,akN] at hJ2⊢
     repeat' (first
  | simp only[g1,hlt2,e1,Int.toNat_natCast,uns_length,ints_length,Bool.and_true,Bool.and_false,Bool.true_and,Bool.false_and,Bool.not_true,Bool.not_false,push_cast,↓J1,↓J2,N1,N2,N3,reduceCtorEq,N4,N5,N6,reduceIte,N7,I1,I2,I3]
  | refine⟨_,c2,?_⟩
  | (refine⟨by omega,?_⟩)
  | refine ifB_intro (fun h=>?_) (fun h=>?_))
     exact hJ2 _ (hdA [(4,4),(3,3),(2,2),(1,1),(0,0)])
   | cons k0 t0=>
    simp only[List.cons_append] at has
    have hal:t0.length+1≤j:=by simpa using hal
    cases g1:decide (u.sd=ow)
    ·cases g2:(decide (0≤u.at_)&&decide (0≤di))
     ·rw[g1,g2] at hP
      rw[g2] at c3
      simp only[Bool.not_false,Bool.true_and,Bool.false_and,Bool.and_false] at hP
      subst hP
      simp only[Bool.false_eq_true,if_false] at has
      subst has
      simp only[akH,akN] at hJ2⊢
      repeat' (first
  | simp only[g1,hlt2,e1,Int.toNat_natCast,uns_length,ints_length,Bool.and_true,Bool.and_false,Bool.true_and,Bool.false_and,Bool.not_true,Bool.not_false,push_cast,↓J1,↓J2,N1,N2,N3,reduceCtorEq,N4,N5,N6,reduceIte,N7,I1,I2,I3]
  | refine⟨_,c2,?_⟩
  | refine⟨_,c3,?_⟩
  | (refine⟨by omega,?_⟩)
  | refine ifB_intro (fun h=>?_) (fun h=>?_))
      exact hJ2 _ (hdA [(5,5),(4,4),(3,3),(2,2),(1,1),(0,0)])
     ·cases ha
      ·rw[g1,g2] at hP
       rw[g2] at c3
       simp only[Bool.not_false,Bool.true_and,Bool.false_and,Bool.and_false] at hP
       subst hP
       simp only[Bool.false_eq_true,if_false] at has
       subst has
       simp only[akH,akN] at hJ2⊢
       repeat' (first
  | simp only[g1,hlt2,e1,Int.toNat_natCast,uns_length,ints_length,Bool.and_true,Bool.and_false,Bool.true_and,Bool.false_and,Bool.not_true,Bool.not_false,push_cast,↓J1,↓J2,N1,N2,N3,reduceCtorEq,N4,N5,N6,reduceIte,N7,I1,I2,I3]
  | refine⟨_,c2,?_⟩
  | refine⟨_,c3,?_⟩
  | refine⟨_,c4,?_⟩
  | (refine⟨by omega,?_⟩)
  | refine ifB_intro (fun h=>?_) (fun h=>?_))
       exact hJ2 _ (hdA [(5,5),(4,4),(3,3),(2,2),(1,1),(0,0)])
      ·rw[g1,g2] at hP
       rw[g2] at c3
       simp only[Bool.not_false,Bool.true_and,Bool.and_self] at hP
       subst hP
       simp only[if_true] at has
       subst has
       simp only[akH,akN] at hJ2⊢
       have tk:List.take (t0.length+1) (ints (k0::t0))=ints (k0::t0):=List.take_of_length_le (by rw[ints_length,List.length_cons];omega)
       repeat' (first
  | simp only[g1,hlt2,e1,Int.toNat_natCast,uns_length,ints_length,Bool.and_true,Bool.and_false,Bool.true_and,Bool.false_and,Bool.not_true,Bool.not_false,List.length_nil,List.length_cons,apYR_sc,allScs,tk,push_cast,↓J1,↓J2,N1,N2,N3,reduceCtorEq,N4,N5,N6,reduceIte,N7,I1,I2,I3]
  | refine⟨_,c2,?_⟩
  | refine⟨_,c3,?_⟩
  | refine⟨_,c4,?_⟩
  | (refine⟨by omega,?_⟩)
  | refine ifB_intro (fun h=>?_) (fun h=>?_))
       refine hJ2 _ (hdA [(8,5),(4,4),(3,3),(2,2),(1,1),(0,0)] (hh:=?_))
       simp only[canR,canB,renO,renL,ren,lkp,hget,N7,N5,Nat.not_lt_zero,if_false,if_true,reduceIte,List.append_nil,List.nil_append,ints_sn,List.length_cons,List.length_append,List.length_nil,List.cons_append,List.nil_append]
       all_goals rfl
    ·rw[g1] at hP
     simp only[Bool.not_true,Bool.false_and] at hP
     subst hP
     simp only[Bool.false_eq_true,if_false] at has
     subst has
     simp only[akH,akN] at hJ2⊢
     repeat' (first
  | simp only[g1,hlt2,e1,Int.toNat_natCast,uns_length,ints_length,Bool.and_true,Bool.and_false,Bool.true_and,Bool.false_and,Bool.not_true,Bool.not_false,push_cast,↓J1,↓J2,N1,N2,N3,reduceCtorEq,N4,N5,N6,reduceIte,N7,I1,I2,I3]
  | refine⟨_,c2,?_⟩
  | (refine⟨by omega,?_⟩)
  | refine ifB_intro (fun h=>?_) (fun h=>?_))
     exact hJ2 _ (hdA [(5,5),(4,4),(3,3),(2,2),(1,1),(0,0)])
  ·have hlt2:decide ((j:Int)<(s.us.length:Int))=false:=decide_eq_false (by omega)
   obtain rfl:j=s.us.length:=by omega
   clear hJ
   have eb:isBt b s l i=!(attT b s l i s.us.length).isEmpty:=by
    simp only[isBt,att]
    cases hdd:dfs s i with
    | nil=>exact absurd hdd hd0
    | cons _ _=>rfl
   have ebt:btAt b s l i=⟨i,attT b s l i s.us.length,dfs s i⟩:=rfl
   rw[eb,ebt] at hbs
   generalize attT b s l i s.us.length=A1 at *
   have tkb:List.take (batT b s l i).length (bas (batT b s l i))=bas (batT b s l i):=List.take_of_length_le (by rw[bas_length];omega)
   generalize batT b s l (i+1)=B2 at *
   generalize batT b s l i=B1 at *
   generalize dfs s i=d at *
   cases A1 with
   | nil=>
    simp only[List.isEmpty_nil,Bool.not_true,Bool.false_eq_true,if_false] at hbs
    subst hbs
    simp only[akH,akN]
    repeat' (first
  | simp only[hlt2,List.length_nil,Int.reduceLT,decide_false,push_cast,↓J1,↓J2,N1,N2,N3,reduceCtorEq,N4,N5,N6,reduceIte,N7,I1,I2,I3]
  | refine⟨_,c1,?_⟩
  | refine ifB_intro (fun h=>?_) (fun h=>?_))
    exact hJ1 _ (hdA [(2,2),(1,1),(0,0)])
   | cons k0 t0=>
    simp only[List.isEmpty_cons,Bool.not_false,if_true] at hbs
    subst hbs
    simp only[akH,akN]
    have hal:t0.length+1≤s.us.length:=by simpa using hal
    have gt:decide (0<((t0.length:Int)+1))=true:=decide_eq_true (by omega)
    have tka:List.take (t0.length+1) (ints (k0::t0))=ints (k0::t0):=List.take_of_length_le (by rw[ints_length,List.length_cons];omega)
    have isNs: ∀(n:Int) (l m:List (List AV)),allScs [[AV.int .i64 n,AV.ow 1 l,AV.ow 1 m]]=false:=fun _ _ _=>rfl
    repeat' (first
  | simp only[hlt2,gt,List.length_cons,tka,tkd,tkb,bas_length,apYR_ns,isNs,push_cast,↓J1,↓J2,N1,N2,N3,reduceCtorEq,N4,N5,N6,reduceIte,N7,I1,I2,I3]
  | refine⟨_,c1,?_⟩
  | (refine⟨by omega,?_⟩)
  | refine ifB_intro (fun h=>?_) (fun h=>?_))
    simp only[List.length_append,List.length_singleton] at hJ1
    refine hJ1 _ (hdA [(7,2),(1,1),(0,0)] (hh:=?_))
    simp only[canR,canB,renO,renL,ren,lkp,hget,N7,N5,Nat.not_lt_zero,if_false,if_true,reduceIte,List.append_nil,List.nil_append,←bas_app,List.length_append,List.length_singleton]
    all_goals rfl
 ·have hlt:decide ((i:Int)<(b.m.t.length:Int))=false:=decide_eq_false (by omega)
  obtain rfl:i=b.m.t.length:=by omega
  simp only[hlt,push_cast,↓J1,↓J2,N1,N2,N3,reduceCtorEq,N4,N5,N6,reduceIte,N7,I1,I2,I3]
  exact RetTo_ow rfl (by rw[bas_length])
end
end Go.Proofs.YtlkcpadkjepchaaGreatDoor.X
set_option maxHeartbeats 4000000
set_option maxRecDepth 8000
set_option linter.unusedSimpArgs false
set_option linter.unusedVariables false
open Nat renaming reduceBEq→N1,reduceAdd→N2,reduceSub→N3,reduceMul→N4,reduceEqDiff→N5,reduceLeDiff→N6,reduceLT→N7
open Int renaming reduceLE→I1,reduceLT→I2,reduceToNat→I3
namespace Go.Proofs.YtlkcpadkjepchaaGreatDoor.X
open Go
attribute [local irreducible] Ev
def basF(l:List Bt):List (List AV):=l.map baF
theorem basF_length(l:List Bt):(basF l).length=l.length:=by simp[basF]
theorem frz_bas(l:List Bt):frzLL (bas l)=basF l:=by
 unfold bas basF
 induction l with
 | nil=>rfl
 | cons x l ih=>
  have h1:=frzLL_ints x.ak
  have h2:=frzLL_ints x.df
  simp only[List.map_cons,frzLL,baA,baF,frzL,frzT,ih,h1,h2]
theorem gidx_find{α:Type}(p:α→Bool): ∀l:List α,(l.find? p=none∧gidx p l= -1)∨ ∃(i:Nat) (h:i<l.length),l.find? p=some l[i]∧gidx p l=i:=by
 intro l
 cases e:l.find? p with
 | none=>
  refine .inl ⟨rfl,gidx_no fun j hj=>?_⟩
  have:=List.find?_eq_none.1 e l[j] (List.getElem_mem hj)
  simpa using this
 | some x=>
  obtain⟨hx,i,hi,hxi,hn⟩:=List.find?_eq_some_iff_getElem.1 e
  refine .inr ⟨i,hi,by rw[hxi],gidx_at hi (by rw[hxi];exact hx) fun j hj hji=>?_⟩
  have:=hn j hji
  simpa using this
section
variable{C:CT}(hC:Closed Tryz.prog G1 md0 C)
include hC
theorem t71(l:List Bt)(f:FuncId)(caps:List AV)(p:Bt→Bool)(hl:l.length<2^50)(hm:md0 f=false)(hc:allF caps=true)
  (hp: ∀x∈l,Ev C f (.agg (baF x)::caps) (.bool (p x))):Ev C 71 [.sl (basF l),.fn f caps] (.int .i64 (gidx p l)):=by
 have hr:renL 0 [] caps=caps:=renL_F hc
 refine rT hC Q71 ?_
 simp only[c71,basF_length,push_cast,↓J1,↓J2,N1,N2,N3,reduceCtorEq,N4,N5,N6,reduceIte,N7,I1,I2,I3]
 refine RL_count (fun i=>⟨tb 19 .any [(0,.sl (basF l)),(1,.fn f caps),(7,.int .i64 (l.length:Int)),(8,.int .i64 (i:Int))],[],0⟩) (fun i=> ∀j (h:j<l.length),j<i→p l[j]=false) l.length 0 (hdA []) (by omega) (by intro j h h';omega) fun i hi' ht J hJ=>?_
 by_cases h1:i<l.length
 ·have e1:(basF l)[i]?=some (baF l[i]):=by simp[basF,h1]
  have hp1:=hp _ (List.getElem_mem h1)
  simp only[baF] at hp1
  simp only[Int.toNat_natCast,e1,baF,hm,frzAL_F hc,frzOkL_F hc,push_cast,↓J1,↓J2,N1,N2,N3,reduceCtorEq,N4,N5,N6,reduceIte,N7,I1,I2,I3]
  refine ifB_intro (fun _=>?_) (fun h=>by simp at h;omega)
  repeat (refine⟨by omega,?_⟩)
  refine⟨_,hp1,?_⟩
  simp only[push_cast,↓J1,↓J2,N1,N2,N3,reduceCtorEq,N4,N5,N6,reduceIte,N7,I1,I2,I3]
  refine ifB_intro (fun h=>?_) (fun h=>?_)
  ·exact(gidx_at h1 h ht).symm
  ·refine hJ h1 ?_ _ (hdA [])
   intro j hj hji
   by_cases hij:j=i
   ·subst hij;exact h
   ·exact ht j hj (by omega)
 ·simp only[hm,push_cast,↓J1,↓J2,N1,N2,N3,reduceCtorEq,N4,N5,N6,reduceIte,N7,I1,I2,I3]
  refine ifB_intro (fun h=>by simp at h;omega) (fun h=>?_)
  exact(gidx_no fun j hj=>ht j hj (by omega)).symm
theorem t72(y:Bt)(n:Int):Ev C 72 [.agg (baF y),.pf [.int .i64 n]] (.bool (decide (n<y.at_))):=by
 simp only[baF]
 refine rT hC Q72 ?_
 simp only[c72,push_cast,↓J1,↓J2,N1,N2,N3,reduceCtorEq,N4,N5,N6,reduceIte,N7,I1,I2,I3]
end
end Go.Proofs.YtlkcpadkjepchaaGreatDoor.X
set_option maxHeartbeats 4000000
set_option maxRecDepth 8000
set_option linter.unusedSimpArgs false
set_option linter.unusedVariables false
open Nat renaming reduceBEq→N1,reduceAdd→N2,reduceSub→N3,reduceMul→N4,reduceEqDiff→N5,reduceLeDiff→N6,reduceLT→N7
open Int renaming reduceLE→I1,reduceLT→I2,reduceToNat→I3
namespace Go.Proofs.YtlkcpadkjepchaaGreatDoor.X
open Go
attribute [local irreducible] Ev
theorem fgt_none{x:Se}{l:List Od}{seed:Int}{s:Sta}{last:Int}{o:List Fo}(h:nextB x.b s l last=none): ∀k,fgt x l seed k s last o=(s,o)
 | 0=>rfl
 | k+1=>by simp only[fgt,h]
theorem fgt_some{x:Se}{l:List Od}{seed:Int}{s:Sta}{last:Int}{o:List Fo}{y:Bt}(h:nextB x.b s l last=some y)(k:Nat):fgt x l seed (k+1) s last o=fgt x l seed k (afterB x.b s y (resB x s y (rollB x seed o.length))) y.at_ (o++[foB x s y seed o.length]):=by simp only[fgt,h]
theorem basF_get{l:List Bt}{k:Nat}(h:k<l.length):(basF l)[k]?=some (baF l[k]):=by simp[basF,h]
section
variable{C:CT}(hC:Closed Tryz.prog G1 md0 C)(hF:FrzC C)
include hC hF
theorem t37(x:Se)(s:Sta)(l:List Od)(seed:Int)(h:staOk x.b s=true)(ht:ctOk x.t=true)(hxb:SeB (2^50) x)(hl:l.length<2^40):Ev C 37 [seF x,.agg (staF s),.sl (ods l),.int .i64 seed] (.tup [.agg (staO (fgt x l seed x.b.m.t.length s (-1) []).1),.ow 3 (fos (fgt x l seed x.b.m.t.length s (-1) []).2)]):=by
 have hwh:=brd_wh (sta_brd h)
 have hlen:=sta_len h
 have c0:=t69 hC s (by omega)
 have c1:=fun q (hq:staOk x.b q=true)=>t70 hC x.b q l hq hl
 have ho2:=own_fos (fgt x l seed x.b.m.t.length s (-1) []).2
 generalize hR:fgt x l seed x.b.m.t.length s (-1) []=RR at *
 simp only[seF,brdF,rulF,mpF,ctF,List.cons_append,List.nil_append,staF,staO] at *
 refine rT hC Q37 ?_ (by simp only[ownR,ownRL,own_uns,ho2,Bool.and_true])
 simp only[c37,push_cast,↓J1,↓J2,N1,N2,N3,reduceCtorEq,N4,N5,N6,reduceIte,N7,I1,I2,I3]
 refine⟨_,c0,?_⟩
 simp only[uns_length,push_cast,↓J1,↓J2,N1,N2,N3,reduceCtorEq,N4,N5,N6,reduceIte,N7,I1,I2,I3]
 refine RL_ind (fun k s'=> ∃(q:Sta) (last:Int) (out:List Fo),s'=⟨tb 76 .any [(2,.sl (ods l)),(3,.int .i64 seed),(4,.ptr 0 none 0 0 0),(5,.ptr 1 none 0 0 0),(8,.ptr 2 none 0 0 0),(10,.ref 4 none 3 0 out.length),(11,.ptr 5 none 0 0 0)],[(5,.var [.int .i64 last]),(4,.slice 3 (fos out)),(3,.slice 4 (uns q.us)),(2,.var [.int .i64 0,.int .i64 0,.nil]),(1,.var [.int .i64 q.t,.int .i64 q.w,.ref 3 none 4 0 s.us.length]),(0,.var [.sl (tersF x.b.r.ts),.sl (kins x.b.r.ks),.int .i64 x.b.r.stack,.int .i64 x.b.r.river,.int .i64 x.b.r.road,.int .i64 x.b.r.supply,.int .i64 x.b.r.turns,.int .i64 x.b.m.w,.int .i64 x.b.m.h,.sl (ints x.b.m.t),.sl (ints x.b.m.ri),.sl (ints x.b.m.ro),.sl (ods x.t.cs),.int .i64 x.t.d,.sl (intss x.t.rs),.sl (intss x.c),.sl (intss x.src)])],6⟩∧staOk x.b q=true∧q.us.length=s.us.length∧ -1≤last∧(x.b.m.t.length:Int)-1-last≤k∧(out.length:Int)≤last+1∧last<x.b.m.t.length∧fgt x l seed k q last out=RR) x.b.m.t.length _ (by exact(hdA [(5,5),(4,4),(3,3),(2,2),(1,1),(0,0)])) ⟨s,-1,[],rfl,h,rfl,by omega,by omega,by simp,by omega,hR⟩ ?_
 rintro k _ ⟨q,last,out,rfl,hq,hqs,h1,h2,h3,h4,hf⟩ J hJ
 have c1:=c1 q hq
 have tkq:List.take s.us.length (uns q.us)=uns q.us:=List.take_of_length_le (by rw[uns_length];omega)
 have tkb:List.take (bat x.b q l).length (bas (bat x.b q l))=bas (bat x.b q l):=List.take_of_length_le (by rw[bas_length];omega)
 have c2:=fun hb=>t71 hC (bat x.b q l) 72 [.pf [.int .i64 last]] (fun y=>decide (last<y.at_)) hb rfl rfl fun y _=>t72 hC y last
 have hbl:(bat x.b q l).length≤x.b.m.t.length:=batT_le _ _ _ _
 have c2:=c2 (by omega)
 have tko:List.take out.length (fos out)=fos out:=List.take_of_length_le (by rw[fos_length];omega)
 have hfb:=frz_bas (bat x.b q l)
 simp only[push_cast,↓J1,↓J2,N1,N2,N3,reduceCtorEq,N4,N5,N6,reduceIte,N7,I1,I2,I3]
 refine open_frz hF c1 (by simp only[uns_length,tkq,frzLL_uns,hqs,push_cast,↓J1,↓J2,N1,N2,N3,reduceCtorEq,N4,N5,N6,reduceIte,N7,I1,I2,I3]) ?_
 rw[show frzT (.ow 3 (bas (bat x.b q l)))= .sl (basF (bat x.b q l)) by simp only[frzT,hfb]]
 rcases gidx_find (fun y=>decide (last<y.at_)) (bat x.b q l) with ⟨hn,hg⟩ | ⟨i,hi,hn,hg⟩
 ·rw[hg] at c2
  rw[fgt_none hn k] at hf
  subst hf
  repeat' (first
  | simp only[uns_length,tkq,frzLL_uns,Int.reduceLT,decide_true,hqs,push_cast,↓J1,↓J2,N1,N2,N3,reduceCtorEq,N4,N5,N6,reduceIte,N7,I1,I2,I3]
  | refine⟨_,c2,?_⟩
  | refine ifB_intro (fun h=>?_) (fun h=>?_)
  | refine And.intro ?_ ?_)
  all_goals first
   | omega
   | skip
  exact RetTo_of (by simp only[conR,conRL,isF,hget,hdel,List.drop_zero,List.take_length,if_true,if_false,reduceIte,N5,reduceCtorEq,tkq,tko,uns_length,hqs,fos_length];rfl)
 ·rw[hg] at c2
  have hy:=nextB_ok hq hn
  have eg:=basF_get hi
  generalize (bat x.b q l)[i]=y at *
  have hat:=hy.1.at1
  obtain⟨k,rfl⟩: ∃m,k=m+1:=⟨k-1,by omega⟩
  rw[fgt_some hn k] at hf
  have hrb:=roll_bnd ht seed out.length
  have hr:=res_bnd ht q y hrb
  have c3:=t73 hC x seed out.length ht (by omega)
  have c4:=t74 hC x.b q x.t y hq ht hy.1 hxb.b
  have c5:=t75 hC x.b q y _ hq hy.1 hr hxb.b
  have hab:=afterB_ok (r:=resB x q y (rollB x seed out.length)) hq hy.1
  have hin:decide ((i:Int)<0)=false:=decide_eq_false (by omega)
  have hc:=colS_bnd ht (colT x.t (sumK (atkF x.b y.at_) q y.ak) (sumK (forceU x.b) q y.df) x.t.cs.length) (shiftB x.b q y)
  have hc:0≤colB x.b q x.t y∧colB x.b q x.t y<(x.t.cs.length:Int):=hc
  have hl:=ct_in ht
  have h2':=row_in ht hrb
  have er1:(intss x.t.rs)[(rollB x seed out.length-x.t.d).toNat]?=some [.sl (ints (x.t.rs.getD (rollB x seed out.length-x.t.d).toNat []))]:=by simp[intss,List.getD,h2']
  have h4':(x.t.rs.getD (rollB x seed out.length-x.t.d).toNat []).length=x.t.cs.length:=by
   have:=(hl.2.2.2.2 _ (List.getElem_mem h2')).1
   simpa [List.getD,h2'] using this
  have er2:=cut_ints_get (v:=x.t.rs.getD (rollB x seed out.length-x.t.d).toNat []) (k:=(colB x.b q x.t y).toNat) (by omega)
  rw[show(x.t.rs.getD (rollB x seed out.length-x.t.d).toNat []).getD (colB x.b q x.t y).toNat 0=resB x q y (rollB x seed out.length) from rfl] at er2
  have w1:IntKind.i64.wrap (rollB x seed out.length-x.t.d)=rollB x seed out.length-x.t.d:=wrap64 (by omega) (by omega)
  have hfo:foB x q y seed out.length=⟨y.at_,rollB x seed out.length,resB x q y (rollB x seed out.length)⟩:=rfl
  rw[hfo] at hf
  have efo: ∀a r z,fos out++[[.int .i64 a,.int .i64 r,.int .i64 z]]=fos (out++[⟨a,r,z⟩]):=fun a r z=>by simp[fos,foA]
  have hrl:=roll_bnd ht seed out.length
  have hol: ∀z:Fo,(out++[z]).length=out.length+1:=fun z=>by simp
  generalize resB x q y (rollB x seed out.length)=rr at *
  generalize hq2e:afterB x.b q y rr=q2 at *
  have hq2:q2.us.length=s.us.length:=hab.2.trans hqs
  generalize colB x.b q x.t y=cc at *
  generalize rollB x seed out.length=rl at *
  generalize x.t.rs.getD (rl-x.t.d).toNat []=row at *
  clear hfb tkb h2'
  simp only[seF,brdF,rulF,mpF,ctF,List.cons_append,List.nil_append,staF,staO,btF,baF] at c3 c4 c5 eg
  have dl: ∀a:Nat,(basF (bat x.b q l)).length=(bat x.b q l).length:=fun _=>basF_length _
  have dl:=dl 0
  repeat' (first
  | simp only[uns_length,tkq,frzLL_uns,basF_length,hin,hqs,eg,Int.toNat_natCast,fos_length,w1,er1,er2,intss_length,ints_length,frzLL_ints,tko,allScs,apYR_sc,efo,hq2,push_cast,↓J1,↓J2,N1,N2,N3,reduceCtorEq,N4,N5,N6,reduceIte,N7,I1,I2,I3]
  | refine⟨_,c2,?_⟩
  | refine⟨_,c3,?_⟩
  | refine⟨_,c4,?_⟩
  | refine⟨_,c5,?_⟩
  | refine ifB_intro (fun h=>?_) (fun h=>?_)
  | refine And.intro ?_ ?_)
  all_goals first
   | omega
   | skip
  all_goals
   refine hJ k _ _ (by omega) ⟨q2,y.at_,out++[⟨y.at_,rl,rr⟩],rfl,hab.1,hq2,by omega,by omega,by rw[hol];omega,by omega,hf⟩ ?_
   simp only[hol]
   exact(hdA [(5,5),(8,4),(9,3),(2,2),(1,1),(0,0)])
end
end Go.Proofs.YtlkcpadkjepchaaGreatDoor.X
set_option maxHeartbeats 1000000
set_option maxRecDepth 8000
set_option linter.unusedSimpArgs false
set_option linter.unusedVariables false
open Nat renaming reduceBEq→N1,reduceAdd→N2,reduceSub→N3,reduceMul→N4,reduceEqDiff→N5,reduceLeDiff→N6,reduceLT→N7
open Int renaming reduceLE→I1,reduceLT→I2,reduceToNat→I3
namespace Go.Proofs.YtlkcpadkjepchaaGreatDoor.X
open Go
def putI(n:Int):List Int→List Int
 | []=>[n]
 | x::l=>if x<n then x::putI n l else if x=n then x::l else n::x::l
theorem putI_at(n:Int): ∀(l:List Int) (k:Nat),k≤l.length→(∀j (h:j<l.length),j<k→l[j]<n)→(∀h:k<l.length,¬l[k]<n)→putI n l=if h:k<l.length then(if l[k]=n then l else l.take k++n::l.drop k) else l++[n]
 | [],k,hk,h1,h2=>by simp at hk;subst hk;simp[putI]
 | x::l,0,hk,h1,h2=>by
  have:=h2 (by simp)
  simp only[List.getElem_cons_zero] at this
  simp only[putI,if_neg this,List.length_cons,Nat.zero_lt_succ,dite_true,List.getElem_cons_zero]
  split<;>simp
 | x::l,k+1,hk,h1,h2=>by
  have h0:=h1 0 (by simp) (by omega)
  simp only[List.getElem_cons_zero] at h0
  have ih:=putI_at n l k (by simpa using hk) (fun j h hj=>h1 (j+1) (Nat.succ_lt_succ h) (by omega)) (fun h=>h2 (Nat.succ_lt_succ h))
  simp only[putI,if_pos h0,ih,List.length_cons,Nat.add_lt_add_iff_right,List.getElem_cons_succ,List.take_succ_cons,List.drop_succ_cons,List.cons_append]
  split
  ·split<;>rfl
  ·rfl
structure Od_ where
 u:Int
 p:List Int
 a:Int
theorem hasI_mem{l:List Int}{n:Int}:hasI l n=true↔n∈l:=by
 simp only[hasI,List.any_eq_true,decide_eq_true_eq]
 constructor
 ·rintro⟨x,h,rfl⟩;exact h
 ·intro h;exact⟨n,h,rfl⟩
end Go.Proofs.YtlkcpadkjepchaaGreatDoor.X
set_option maxHeartbeats 4000000
set_option maxRecDepth 8000
set_option linter.unusedSimpArgs false
set_option linter.unusedVariables false
open Nat renaming reduceBEq→N1,reduceAdd→N2,reduceSub→N3,reduceMul→N4,reduceEqDiff→N5,reduceLeDiff→N6,reduceLT→N7
open Int renaming reduceLE→I1,reduceLT→I2,reduceToNat→I3
namespace Go.Proofs.YtlkcpadkjepchaaGreatDoor.X
open Go
attribute [local irreducible] Ev
def hold(b:Brd)(s:Sta)(i:Int):Int:=if ctl b s i=0∨ctl b s i=1 then ctl b s i else -1
section
variable{C:CT}(hC:Closed Tryz.prog G1 md0 C)
include hC
end
end Go.Proofs.YtlkcpadkjepchaaGreatDoor.X
set_option maxHeartbeats 4000000
set_option maxRecDepth 8000
set_option linter.unusedSimpArgs false
set_option linter.unusedVariables false
open Nat renaming reduceBEq→N1,reduceAdd→N2,reduceSub→N3,reduceMul→N4,reduceEqDiff→N5,reduceLeDiff→N6,reduceLT→N7
open Int renaming reduceLE→I1,reduceLT→I2,reduceToNat→I3
namespace Go.Proofs.YtlkcpadkjepchaaGreatDoor.X
open Go
attribute [local irreducible] Ev
section
variable{C:CT}(hC:Closed Tryz.prog G1 md0 C)
include hC
end
end Go.Proofs.YtlkcpadkjepchaaGreatDoor.X
set_option maxHeartbeats 1000000
set_option maxRecDepth 8000
set_option linter.unusedSimpArgs false
set_option linter.unusedVariables false
open Nat renaming reduceBEq→N1,reduceAdd→N2,reduceSub→N3,reduceMul→N4,reduceEqDiff→N5,reduceLeDiff→N6,reduceLT→N7
open Int renaming reduceLE→I1,reduceLT→I2,reduceToNat→I3
namespace Go.Proofs.YtlkcpadkjepchaaGreatDoor.X
open Go
end Go.Proofs.YtlkcpadkjepchaaGreatDoor.X
set_option maxHeartbeats 4000000
set_option maxRecDepth 8000
set_option linter.unusedSimpArgs false
set_option linter.unusedVariables false
open Nat renaming reduceBEq→N1,reduceAdd→N2,reduceSub→N3,reduceMul→N4,reduceEqDiff→N5,reduceLeDiff→N6,reduceLT→N7
open Int renaming reduceLE→I1,reduceLT→I2,reduceToNat→I3
namespace Go.Proofs.YtlkcpadkjepchaaGreatDoor.X
open Go
attribute [local irreducible] Ev
section
variable{C:CT}(hC:Closed Tryz.prog G1 md0 C)
include hC
end
end Go.Proofs.YtlkcpadkjepchaaGreatDoor.X
set_option maxHeartbeats 4000000
set_option maxRecDepth 8000
set_option linter.unusedSimpArgs false
set_option linter.unusedVariables false
open Nat renaming reduceBEq→N1,reduceAdd→N2,reduceSub→N3,reduceMul→N4,reduceEqDiff→N5,reduceLeDiff→N6,reduceLT→N7
open Int renaming reduceLE→I1,reduceLT→I2,reduceToNat→I3
namespace Go.Proofs.YtlkcpadkjepchaaGreatDoor.X
open Go
attribute [local irreducible] Ev
section
variable{C:CT}(hC:Closed Tryz.prog G1 md0 C)
include hC
theorem t97(l:List Int)(x:Int)(hl:l.length<2^20)(hx:hasI l x=false):Ev C 97 [.sl (ints l),.int .i64 x] (.ow 1 (ints (putI x l))):=by
 have hne: ∀k (h:k<l.length),decide (l[k]=x)=false:=fun k h=>decide_eq_false fun e=>by
  have:=hasI_mem.2 (List.getElem_mem h)
  rw[e] at this
  rw[this] at hx;cases hx
 refine rT hC Q97 ?_ (own_ints _)
 simp only[c97,ints_length,push_cast,↓J1,↓J2,N1,N2,N3,reduceCtorEq,N4,N5,N6,reduceIte,N7,I1,I2,I3]
 refine RL_count (fun k=>⟨tb 48 .any [(0,.sl (ints l)),(1,.int .i64 x),(5,.int .i64 (k:Int))],[],0⟩) (fun k=> ∀j (h:j<l.length),j<k→l[j]<x) l.length 0 (hdA []) (by omega) (fun j h hj=>by omega) fun k hk hI J hJ=>?_
 have hfin:(∀h:k<l.length,¬l[k]<x)→l.take k++x::l.drop k=putI x l:=fun h2=>by
  rw[putI_at x l k hk hI h2]
  split
  ·rename_i h
   rw[if_neg (of_decide_eq_false (hne k h))]
  ·have:k=l.length:=by omega
   subst this;simp
 have tk1:List.take k (List.drop 0 (ints l))=ints (l.take k):=by simp[ints,List.map_take]
 have tk1':List.take k (ints l)=ints (l.take k):=by simp[ints,List.map_take]
 have tk2:List.drop k (ints l)=ints (l.drop k):=by simp[ints,List.map_drop]
 have tkl:(l.take k).length=k:=by simp;omega
 have tz:((k:Int)-0).toNat=k:=by omega
 have el1: ∀el,el∈ints l→el.length=1:=fun el h=>by obtain⟨n,_,rfl⟩:=List.mem_map.1 h;rfl
 have ints_app: ∀a c:List Int,ints a++ints c=ints (a++c):=fun a c=>by simp[ints]
 have eall: ∀l:List Int,((ints l).all fun e=>e.length==1)=true:=fun l=>by simp[ints]
 have tkk:List.take k (ints (l.take k))=ints (l.take k):=List.take_of_length_le (by rw[ints_length];omega)
 have tk3:List.take (k+1) (ints (l.take k++[x]))=ints (l.take k++[x]):=List.take_of_length_le (by rw[ints_length];simp;omega)
 have tzz:((l.length:Int)-(k:Int)).toNat=l.length-k:=by omega
 have tk4:List.take (l.length-k) (ints (l.drop k))=ints (l.drop k):=List.take_of_length_le (by rw[ints_length];simp)
 have tl3:(l.take k++[x]).length=k+1:=by simp;omega
 have tl4:(l.drop k).length=l.length-k:=by simp
 have tka: ∀l:List Int,List.take l.length (ints l)=ints l:=fun l=>List.take_of_length_le (by rw[ints_length];omega)
 by_cases h1:k<l.length
 ·have hlt:decide ((k:Int)<(l.length:Int))=true:=decide_eq_true (by omega)
  have e1:(ints l)[k]?=some [.int .i64 l[k]]:=by simp[ints,h1]
  simp only[hlt,Int.toNat_natCast,e1,ints_length,push_cast,↓J1,↓J2,N1,N2,N3,reduceCtorEq,N4,N5,N6,reduceIte,N7,I1,I2,I3]
  repeat (refine⟨by omega,?_⟩)
  cases g1:decide (l[k]<x)
  ·have e2:=hne k h1
   have e3:=hfin fun _=>of_decide_eq_false g1
   simp only[g1,hlt,e2,Int.toNat_natCast,e1,ints_length,push_cast,↓J1,↓J2,N1,N2,N3,reduceCtorEq,N4,N5,N6,reduceIte,N7,I1,I2,I3]
   repeat' (first | refine⟨el1,?_⟩ | refine⟨by omega,?_⟩ | simp only[tz,tzz,tkk,tk3,tk4,tl3,tl4,eall,tk1',tk2,tka,tkl,List.nil_append,List.length_nil,List.append_nil,ints_length,ints_sn,ints_app,allScs,apYR_sc,Int.toNat_natCast,push_cast,↓J1,↓J2,N1,N2,N3,reduceCtorEq,N4,N5,N6,reduceIte,N7,I1,I2,I3])
   rw[←e3,show l.take k++x::l.drop k=l.take k++[x]++l.drop k by simp]
   exact RetTo_ow rfl (by rw[ints_length];simp;omega)
  ·simp only[g1,push_cast,↓J1,↓J2,N1,N2,N3,reduceCtorEq,N4,N5,N6,reduceIte,N7,I1,I2,I3]
   refine hJ h1 ?_ _ (hdA [])
   intro j hj hjk
   by_cases e:j=k
   ·subst e;exact of_decide_eq_true g1
   ·exact hI j hj (by omega)
 ·have hlt:decide ((k:Int)<(l.length:Int))=false:=decide_eq_false (by omega)
  have e3:=hfin fun h=>absurd h h1
  simp only[hlt,ints_length,push_cast,↓J1,↓J2,N1,N2,N3,reduceCtorEq,N4,N5,N6,reduceIte,N7,I1,I2,I3]
  repeat' (first | refine⟨el1,?_⟩ | refine⟨by omega,?_⟩ | simp only[tz,tzz,tkk,tk3,tk4,tl3,tl4,eall,tk1',tk2,tka,tkl,List.nil_append,List.length_nil,List.append_nil,ints_length,ints_sn,ints_app,allScs,apYR_sc,Int.toNat_natCast,push_cast,↓J1,↓J2,N1,N2,N3,reduceCtorEq,N4,N5,N6,reduceIte,N7,I1,I2,I3])
  rw[←e3,show l.take k++x::l.drop k=l.take k++[x]++l.drop k by simp]
  exact RetTo_ow rfl (by rw[ints_length];simp;omega)
end
end Go.Proofs.YtlkcpadkjepchaaGreatDoor.X
