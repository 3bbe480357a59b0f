/- A part of the proof: lemmas on the machine or on the functions that the law reaches. No condition of its own. -/
import Derived.Test.YtlkcpadkjepchaaGreatDoorXP11
import Derived.Test.YtlkcpadkjepchaaGreatDoorXP10
import Derived.Test.YtlkcpadkjepchaaGreatDoorXP9
import Derived.Test.YtlkcpadkjepchaaGreatDoorXP5
set_option maxHeartbeats 4000000
set_option maxRecDepth 8000
set_option linter.unusedSimpArgs false
set_option linter.unusedVariables false
open Nat renaming reduceBEq→N1,reduceAdd→N2,reduceSub→N3,reduceMul→N4,reduceEqDiff→N5,reduceLeDiff→N6,reduceLT→N7
open Int renaming reduceLE→I1,reduceLT→I2,reduceToNat→I3
namespace Go.Proofs.YtlkcpadkjepchaaGreatDoor.X
open Go
attribute [local irreducible] Ev
section
variable{C:CT}(hC:Closed Tryz.prog G1 md0 C)
include hC
theorem t180(b:Brd)(s:Sta)(x:Un)(i:Int)(h:staOk b s=true)(hx:unOk b x=true)(ha:0≤x.at_)(hi:0≤i)(hb:BrdB (2^50) b):Ev C 180 [brdF b,.agg (staF s),.agg (unA x),.int .i64 i] (.bool (canAd b s x i)):=by
 have hm:=mp_wh (brd_mp (sta_brd h))
 have hwh:=brd_wh (sta_brd h)
 have hlen:=sta_len h
 have hsd:=un_sd hx
 have hr:=brd_ru (sta_brd h)
 have hat:x.at_<b.m.w*b.m.h:=zon_at hwh.2.1 hx
 have hkd:kindAsk b x.k=true:=un_kind (sta_brd h) (by simp only[unOk,Bool.and_eq_true] at hx;exact hx.1.1.2)
 have hw:0≤s.w∧s.w≤2:=by
  have:=h
  simp only[staOk,staOk0,inR,Bool.and_eq_true,decide_eq_true_eq] at this;omega
 simp only[rulOk,tailOk,inR,Bool.and_eq_true,decide_eq_true_eq] at hr
 have c1:=t168 hC b.m x.at_ i hm.1 hm.2 (by omega)
 have c2:=fun(d:Nat) hd=>t216 hC b x.k s.w x.at_ d hkd hw (by omega) hd hb
 have c3:=t217 hC b s x.sd i hsd (by omega) (by omega)
 have e3:(if owner s i=1-x.sd then 0 else b.r.stack-((fil (inHex i) s.us s.us.length).length:Int))=roomR b s x.sd i:=rfl
 rw[e3] at c3
 have hdn:=dir_nat (m:=b.m) (i:=x.at_) (k:=i)
 simp only[canAd]
 generalize roomR b s x.sd i=ro at *
 generalize dirOn b.m x.at_ i=D at *
 simp only[brdF,rulF,mpF,List.cons_append,List.nil_append,staF,unA] at *
 refine rT hC Q180 ?_
 simp only[c180,push_cast,↓J1,↓J2,N1,N2,N3,reduceCtorEq,N4,N5,N6,reduceIte,N7,I1,I2,I3]
 refine⟨_,c1,?_⟩
 by_cases h1:0≤D
 ·obtain⟨d,rfl,hd,_⟩:=hdn h1
  have c2:=c2 d hd
  have g1:decide (0≤(d:Int))=true:=decide_eq_true (by omega)
  rw[Int.toNat_natCast]
  generalize stepM b x.k s.w x.at_ d=st at *
  cases g2:decide (0<st)
  ·repeat' (first
  | simp only[g1,g2,Bool.and_false,Bool.false_and,push_cast,↓J1,↓J2,N1,N2,N3,reduceCtorEq,N4,N5,N6,reduceIte,N7,I1,I2,I3]
  | refine⟨_,c2,?_⟩
  | refine⟨_,c3,?_⟩
  | refine ifB_intro (fun h=>?_) (fun h=>?_))
  ·cases g3:decide (0<ro)
   all_goals
    repeat' (first
  | simp only[g1,g2,g3,push_cast,↓J1,↓J2,N1,N2,N3,reduceCtorEq,N4,N5,N6,reduceIte,N7,I1,I2,I3]
  | refine⟨_,c2,?_⟩
  | refine⟨_,c3,?_⟩
  | refine ifB_intro (fun h=>?_) (fun h=>?_))
 ·have g1:decide (0≤D)=false:=decide_eq_false h1
  simp only[g1,Bool.false_and,push_cast,↓J1,↓J2,N1,N2,N3,reduceCtorEq,N4,N5,N6,reduceIte,N7,I1,I2,I3]
theorem t153(b:Brd)(s:Sta)(k:Nat)(i:Int)(h:staOk b s=true)(hk:k<s.us.length)(ha:0≤(unOf s k).at_)(hi:0≤i)(hb:BrdB (2^50) b):Ev C 153 [brdF b,.agg (staF s),.int .i64 (k:Int),.int .i64 i] (.bool (canAd b s (unOf s k) i)):=by
 have hx:=un_int h (k:=(k:Int)) (by omega)
 have e1:=usl_get hk
 rw[show s.us.getD k un0=unOf s k from rfl] at e1
 generalize unOf s k=x at *
 have hm:=mp_wh (brd_mp (sta_brd h))
 have hwh:=brd_wh (sta_brd h)
 have hlen:=sta_len h
 have hsd:=un_sd hx
 have hr:=brd_ru (sta_brd h)
 have hat:x.at_<b.m.w*b.m.h:=zon_at hwh.2.1 hx
 have hkd:kindAsk b x.k=true:=un_kind (sta_brd h) (by simp only[unOk,Bool.and_eq_true] at hx;exact hx.1.1.2)
 have hw:0≤s.w∧s.w≤2:=by
  have:=h
  simp only[staOk,staOk0,inR,Bool.and_eq_true,decide_eq_true_eq] at this;omega
 simp only[rulOk,tailOk,inR,Bool.and_eq_true,decide_eq_true_eq] at hr
 have c1:=fun(d:Nat) (hd:d<6)=>t142 hC b.m x.at_ d hm.1 hm.2 (by omega) (by omega)
 have c2:=fun(d:Nat) hd=>t202 hC b x.k s.w x.at_ d hkd hw (by omega) hd hb
 have c3:=t203 hC b s x.sd i h hsd hi
 simp only[canAd]
 generalize roomR b s x.sd i=ro at *
 simp only[brdF,rulF,mpF,List.cons_append,List.nil_append,staF,unA] at *
 refine rT hC Q153 ?_ (by rfl)
 simp only[c153,e1,uns_length,push_cast,↓J1,↓J2,N1,N2,N3,reduceCtorEq,N4,N5,N6,reduceIte,N7,I1,I2,I3]
 simp only[Int.toNat_natCast,e1,uns_length,unA,push_cast,↓J1,↓J2,N1,N2,N3,reduceCtorEq,N4,N5,N6,reduceIte,N7,I1,I2,I3]
 repeat (refine⟨by omega,?_⟩)
 refine RL_count (fun j=>⟨tb 46 .any [(3,.int .i64 i),(4,.ptr 0 none 0 0 0),(5,.ptr 1 none 0 0 0),(9,.ptr 2 none 0 0 0),(10,.int .i64 (j:Int))],[(2,.var [.int .i64 x.sd,.int .i64 x.k,.int .i64 x.at_,.int .i64 x.st]),(1,.var [.int .i64 s.t,.int .i64 s.w,.sl (uns s.us)]),(0,.var [.sl (tersF b.r.ts),.sl (kins b.r.ks),.int .i64 b.r.stack,.int .i64 b.r.river,.int .i64 b.r.road,.int .i64 b.r.supply,.int .i64 b.r.turns,.int .i64 b.m.w,.int .i64 b.m.h,.sl (ints b.m.t),.sl (ints b.m.ri),.sl (ints b.m.ro)])],3⟩) (fun j=> ∀d,d<j→decide (nextM b.m x.at_ (d:Nat)=i)=false) 6 0 (hdA [(2,2),(1,1),(0,0)]) (by omega) (by intro d hd;omega) fun j hj ht J hJ=>?_
 by_cases h1:j<6
 ·have g5:decide ((j:Int)<6)=true:=decide_eq_true (by omega)
  have hJ1:=hJ h1
  clear hJ
  have c1:=c1 j h1
  have c2:=c2 j h1
  cases g4:decide (nextM b.m x.at_ (j:Int)=i)
  ·have hJ1:=hJ1 (by
    intro d hd
    by_cases hdj:d=j
    ·subst hdj;exact g4
    ·exact ht d (by omega))
   repeat' (first
  | simp only[g5,g4,push_cast,↓J1,↓J2,N1,N2,N3,reduceCtorEq,N4,N5,N6,reduceIte,N7,I1,I2,I3]
  | refine⟨_,c1,?_⟩
  | refine ifB_intro (fun h=>?_) (fun h=>?_))
   exact hJ1 _ (hdA [(2,2),(1,1),(0,0)])
  ·have hf:dirOn b.m x.at_ i=j:=by simp only[dirOn,first6_at (p:=fun d=>decide (nextM b.m x.at_ (d:Nat)=i)) h1 g4 ht]
   rw[hf,Int.toNat_natCast,decide_eq_true (show(0:Int)≤j by omega)]
   generalize stepM b x.k s.w x.at_ j=st at *
   cases g2:decide (0<st)
   ·repeat' (first
  | simp only[g5,g4,g2,Bool.true_and,Bool.false_and,push_cast,↓J1,↓J2,N1,N2,N3,reduceCtorEq,N4,N5,N6,reduceIte,N7,I1,I2,I3]
  | refine⟨_,c1,?_⟩
  | refine⟨_,c2,?_⟩
  | refine ifB_intro (fun h=>?_) (fun h=>?_))
   ·generalize decide (0<ro)=gr at *
    repeat' (first
  | simp only[g5,g4,g2,Bool.true_and,push_cast,↓J1,↓J2,N1,N2,N3,reduceCtorEq,N4,N5,N6,reduceIte,N7,I1,I2,I3]
  | refine⟨_,c1,?_⟩
  | refine⟨_,c2,?_⟩
  | refine⟨_,c3,?_⟩
  | refine ifB_intro (fun h=>?_) (fun h=>?_))
 ·have g5:decide ((j:Int)<6)=false:=decide_eq_false (by omega)
  have hf:dirOn b.m x.at_ i= -1:=by
   have:first6 (fun d=>decide (nextM b.m x.at_ (d:Nat)=i))=none:=by
    simp only[first6,List.find?_range_eq_none]
    intro d hd;simp[ht d (by omega)]
   simp only[dirOn,this]
  rw[hf]
  simp only[g5,push_cast,↓J1,↓J2,N1,N2,N3,reduceCtorEq,N4,N5,N6,reduceIte,N7,I1,I2,I3]
  first | done | rfl
theorem t128(b:Brd)(s:Sta)(k:Nat)(i:Int)(h:staOk b s=true)(hk:k<s.us.length)(ha:0≤(unOf s k).at_)(hi:0≤i)(hb:BrdB (2^50) b): ∃c,Ev C 128 [brdF b,.agg (staF s),.sl [[.int .i64 (k:Int)]],.int .i64 i] (.tup [.agg (staO (advU b s k i)),.int .i64 c]):=by
 have hlen:=sta_len h
 have hx:=un_int h (k:=(k:Int)) (by omega)
 have e1:=usl_get hk
 rw[show s.us.getD k un0=unOf s k from rfl] at e1
 have c1:=t69 hC s (by omega)
 have c2:=t180 hC b s (unOf s k) i h hx ha hi hb
 have tku: ∀us:List Un,us.length=s.us.length→List.take s.us.length (uns us)=uns us:=fun us h=>List.take_of_length_le (by rw[uns_length];omega)
 have eA:advU b s k i=⟨s.t,s.w,if canAd b s (unOf s k) i then s.us.set k ⟨(unOf s k).sd,(unOf s k).k,i,(unOf s k).st⟩ else s.us⟩:=by
  simp only[advU];split<;>rfl
 rw[eA]
 have tk0:=tku s.us rfl
 have tk1:=tku (s.us.set k ⟨(unOf s k).sd,(unOf s k).k,i,(unOf s k).st⟩) (by simp)
 have wz:IntKind.i64.wrap (0+1)=1:=rfl
 generalize canAd b s (unOf s k) i=ca at *
 generalize unOf s k=x at *
 refine⟨if ca then 1 else 0,?_⟩
 simp only[brdF,rulF,mpF,List.cons_append,List.nil_append,staF,staO] at *
 refine rT hC Q128 ?_ (by simp only[ownR,ownRL,own_uns,Bool.and_true])
 simp only[c128,push_cast,↓J1,↓J2,N1,N2,N3,reduceCtorEq,N4,N5,N6,reduceIte,N7,I1,I2,I3]
 refine⟨_,c1,?_⟩
 simp only[uns_length,push_cast,↓J1,↓J2,N1,N2,N3,reduceCtorEq,N4,N5,N6,reduceIte,N7,I1,I2,I3]
 refine RL_count (fun j=>⟨tb 42 .any [(4,.ptr 0 none 0 0 0),(10,.ptr 4 none 0 0 0),(8,.ptr 2 none 0 0 0),(3,.int .i64 i),(16,.sl [[.int .i64 (k:Int)]]),(17,.int .i64 (0+1)),(11,.int .i64 (match j with | 0=>0 | _+1=>if ca then 1 else 0)),(18,.int .i64 (j:Int))],[(4,.var [.int .i64 s.t,.int .i64 s.w,.ref 3 none 4 0 s.us.length]),(3,.slice 4 (uns (match j with | 0=>s.us | _+1=>if ca then s.us.set k ⟨x.sd,x.k,i,x.st⟩ else s.us))),(2,.var [.int .i64 0,.int .i64 0,.nil]),(0,.var [.sl (tersF b.r.ts),.sl (kins b.r.ks),.int .i64 b.r.stack,.int .i64 b.r.river,.int .i64 b.r.road,.int .i64 b.r.supply,.int .i64 b.r.turns,.int .i64 b.m.w,.int .i64 b.m.h,.sl (ints b.m.t),.sl (ints b.m.ri),.sl (ints b.m.ro)])],5⟩) (fun _=>True) 1 0 (hdA [(4,4),(3,3),(2,2),(0,0)]) (by omega) trivial fun j hj _ J hJ=>?_
 rcases j with _ | j
 ·have hJ1:=hJ (by omega) trivial
  clear hJ
  dsimp only at hJ1
  have hlt:decide (((0:Nat):Int)<0+1)=true:=rfl
  have hlt2:decide ((0:Int)<0+1)=true:=rfl
  have g0:decide (0≤x.at_)=true:=decide_eq_true ha
  simp only[unA] at *
  cases ca
  all_goals
   simp only[Bool.false_eq_true,if_false,if_true] at hJ1
   repeat' (first
  | simp only[uns_length,e1,Int.toNat_natCast,wz,hlt,hlt2,tk0,frzLL_uns,g0,push_cast,↓J1,↓J2,N1,N2,N3,reduceCtorEq,N4,N5,N6,reduceIte,N7,I1,I2,I3]
  | refine⟨_,c2,?_⟩
  | refine ifB_intro (fun h=>?_) (fun h=>?_)
  | refine And.intro ?_ ?_)
   all_goals first
    | omega
    | skip
   try rw[usl_set]
   exact hJ1 _ (hdA [(4,4),(3,3),(2,2),(0,0)])
 ·obtain rfl:j=0:=by omega
  have hlt:decide ((0:Int)+1<0+1)=false:=rfl
  cases ca
  all_goals
   simp only[hlt,Bool.false_eq_true,if_false,if_true,push_cast,↓J1,↓J2,N1,N2,N3,reduceCtorEq,N4,N5,N6,reduceIte,N7,I1,I2,I3]
   exact RetTo_of (by simp only[conR,conRL,isF,hget,hdel,List.drop_zero,List.take_length,if_true,if_false,reduceIte,N5,reduceCtorEq,tk0,tk1,uns_length];rfl)
theorem t104(b:Brd)(s:Sta)(k:Nat)(i:Int)(h:staOk b s=true)(hk:k<s.us.length)(ha:0≤(unOf s k).at_)(hi:0≤i)(hb:BrdB (2^50) b): ∃c,Ev C 104 [brdF b,.agg (staF s),.sl [[.int .i64 (k:Int)]],.int .i64 i] (.tup [.agg (staO (advU b s k i)),.int .i64 c]):=by
 have hlen:=sta_len h
 have hx:=un_int h (k:=(k:Int)) (by omega)
 have e1:=usl_get hk
 rw[show s.us.getD k un0=unOf s k from rfl] at e1
 have c1:=t58n hC s (by omega)
 have c2:=t153 hC b s k i h hk ha hi hb
 have tku: ∀us:List Un,us.length=s.us.length→List.take s.us.length (uns us)=uns us:=fun us h=>List.take_of_length_le (by rw[uns_length];omega)
 have eA:advU b s k i=⟨s.t,s.w,if canAd b s (unOf s k) i then s.us.set k ⟨(unOf s k).sd,(unOf s k).k,i,(unOf s k).st⟩ else s.us⟩:=by
  simp only[advU];split<;>rfl
 rw[eA]
 have tk0:=tku s.us rfl
 have tk1:=tku (s.us.set k ⟨(unOf s k).sd,(unOf s k).k,i,(unOf s k).st⟩) (by simp)
 have wz:IntKind.i64.wrap (0+1)=1:=rfl
 generalize canAd b s (unOf s k) i=ca at *
 generalize unOf s k=x at *
 refine⟨if ca then 1 else 0,?_⟩
 simp only[brdF,rulF,mpF,List.cons_append,List.nil_append,staF,staO] at *
 refine rT hC Q104 ?_ (by simp only[ownR,ownRL,own_uns,Bool.and_true])
 simp only[c104,push_cast,↓J1,↓J2,N1,N2,N3,reduceCtorEq,N4,N5,N6,reduceIte,N7,I1,I2,I3]
 refine⟨_,c1,?_⟩
 simp only[uns_length,push_cast,↓J1,↓J2,N1,N2,N3,reduceCtorEq,N4,N5,N6,reduceIte,N7,I1,I2,I3]
 refine RL_count (fun j=>⟨tb 46 .any [(4,.ptr 0 none 0 0 0),(5,.ptr 1 none 0 0 0),(8,.ptr 2 none 0 0 0),(3,.int .i64 i),(15,.sl [[.int .i64 (k:Int)]]),(16,.int .i64 (0+1)),(10,.int .i64 (match j with | 0=>0 | _+1=>if ca then 1 else 0)),(17,.int .i64 (j:Int))],[(3,.slice 4 (uns (match j with | 0=>s.us | _+1=>if ca then s.us.set k ⟨x.sd,x.k,i,x.st⟩ else s.us))),(2,.var [.int .i64 0,.int .i64 0,.nil]),(1,.var [.int .i64 s.t,.int .i64 s.w,.ref 3 none 4 0 s.us.length]),(0,.var [.sl (tersF b.r.ts),.sl (kins b.r.ks),.int .i64 b.r.stack,.int .i64 b.r.river,.int .i64 b.r.road,.int .i64 b.r.supply,.int .i64 b.r.turns,.int .i64 b.m.w,.int .i64 b.m.h,.sl (ints b.m.t),.sl (ints b.m.ri),.sl (ints b.m.ro)])],4⟩) (fun _=>True) 1 0 (hdA [(3,3),(2,2),(1,1),(0,0)]) (by omega) trivial fun j hj _ J hJ=>?_
 rcases j with _ | j
 ·have hJ1:=hJ (by omega) trivial
  clear hJ
  dsimp only at hJ1
  have hlt:decide (((0:Nat):Int)<0+1)=true:=rfl
  have hlt2:decide ((0:Int)<0+1)=true:=rfl
  have g0:decide (0≤x.at_)=true:=decide_eq_true ha
  simp only[unA] at *
  cases ca
  all_goals
   simp only[Bool.false_eq_true,if_false,if_true] at hJ1
   repeat' (first
  | simp only[uns_length,e1,Int.toNat_natCast,wz,hlt,hlt2,tk0,frzLL_uns,g0,push_cast,↓J1,↓J2,N1,N2,N3,reduceCtorEq,N4,N5,N6,reduceIte,N7,I1,I2,I3]
  | refine⟨_,c2,?_⟩
  | refine ifB_intro (fun h=>?_) (fun h=>?_)
  | refine And.intro ?_ ?_)
   all_goals first
    | omega
    | skip
   try rw[usl_set]
   exact hJ1 _ (hdA [(3,3),(2,2),(1,1),(0,0)])
 ·obtain rfl:j=0:=by omega
  have hlt:decide ((0:Int)+1<0+1)=false:=rfl
  cases ca
  all_goals
   simp only[hlt,Bool.false_eq_true,if_false,if_true,push_cast,↓J1,↓J2,N1,N2,N3,reduceCtorEq,N4,N5,N6,reduceIte,N7,I1,I2,I3]
   exact RetTo_of (by simp only[conR,conRL,isF,hget,hdel,List.drop_zero,List.take_length,if_true,if_false,reduceIte,N5,reduceCtorEq,tk0,tk1,uns_length];rfl)
end
end Go.Proofs.YtlkcpadkjepchaaGreatDoor.X
set_option maxHeartbeats 4000000
set_option maxRecDepth 8000
set_option linter.unusedSimpArgs false
set_option linter.unusedVariables false
open Nat renaming reduceBEq→N1,reduceAdd→N2,reduceSub→N3,reduceMul→N4,reduceEqDiff→N5,reduceLeDiff→N6,reduceLT→N7
open Int renaming reduceLE→I1,reduceLT→I2,reduceToNat→I3
namespace Go.Proofs.YtlkcpadkjepchaaGreatDoor.X
open Go
attribute [local irreducible] Ev
theorem onL_first{s:Sta}: ∀{l:List Int} {i:Nat},i<l.length→0≤(unOf s (l.getD i 0)).at_→(∀j,j<i→ ¬0≤(unOf s (l.getD j 0)).at_)→ ∃t,onL s l=l.getD i 0::t
 | [],i,h,_,_=>by simp at h
 | k::l,0,h,h1,_=>⟨onL s l,by
   simp only[List.getD_cons_zero] at h1⊢
   simp only[onL,List.filter_cons,decide_eq_true h1,if_true]⟩
 | k::l,i+1,h,h1,h2=>by
  have h3:=h2 0 (by omega)
  simp only[List.getD_cons_zero] at h3
  simp only[List.getD_cons_succ] at h1⊢
  have:=onL_first (s:=s) (l:=l) (i:=i) (by simpa using h) h1 fun j hj=>by
   have:=h2 (j+1) (by omega)
   simpa only[List.getD_cons_succ] using this
  simpa only[onL,List.filter_cons,decide_eq_false h3,Bool.false_eq_true,if_false] using this
theorem onL_none{s:Sta}{l:List Int}(h: ∀j,j<l.length→ ¬0≤(unOf s (l.getD j 0)).at_):onL s l=[]:=by
 simp only[onL,List.filter_eq_nil_iff,decide_eq_true_eq]
 intro k hk
 obtain⟨j,hj,rfl⟩:=List.getElem_of_mem hk
 have:=h j hj
 simpa [List.getD,hj] using this
theorem onL_all{s:Sta}{l:List Int}(h:OnL s l):onL s l=l:=by
 simp only[onL,List.filter_eq_self,decide_eq_true_eq]
 exact fun k hk=>(h.inn k hk).2.2
section
variable{C:CT}(hC:Closed Tryz.prog G1 md0 C)
include hC
theorem t75(b:Brd)(s:Sta)(y:Bt)(r:Int)(h:staOk b s=true)(hy:BtOk b s y)(hr:0≤r∧r≤7)(hb:BrdB (2^50) b):Ev C 75 [brdF b,.agg (staF s),.agg (btF y),.int .i64 r] (.agg (staO (afterB b s y r))):=by
 have hlen:=sta_len h
 have hat:=hy.at1
 have hl3:=hy.ak3
 have hl4:=hy.df4
 have c1:=t126 hC b s y r h hy hr
 have hq:=after_ok (r:=r) h hy
 have c4:=t116 hC (afterR b s y r) y.at_ (by omega)
 have c5:=fun k hk ha=>t128 hC b (afterR b s y r) k y.at_ hq.1 hk ha hat.1 hb
 have d0:0<y.df.length:=List.length_pos_iff.2 hy.df0
 have e0:(ints y.df)[0]?=some [.int .i64 (y.df.getD 0 0)]:=cut_ints_get d0
 have k0:=hy.df2 (y.df.getD 0 0) (getD_in d0)
 have hak:=fun i (hi:i<y.ak.length)=>hy.ak1 (y.ak.getD i 0) (getD_in hi)
 have eA:=apl_same s y (r:=r)
 have r1:=t127 hC b s y.df h (bt_df hy) (by omega) hb
 have r2:=t127 hC b s y.ak h (bt_ak hy) (by omega) hb
 have eR:afterR b s y r=if r=1 then(retA b y.df (aplR s y r,0)).1 else if r=4 then(retA b y.ak (aplR s y r,0)).1 else aplR s y r:=rfl
 have tka:List.take s.us.length (uns (aplR s y r).us)=uns (aplR s y r).us:=List.take_of_length_le (by rw[uns_length,apl_len s y r h];omega)
 have lna:=apl_len s y r h
 have tkq:List.take s.us.length (uns (afterR b s y r).us)=uns (afterR b s y r).us:=List.take_of_length_le (by rw[uns_length,hq.2];omega)
 have tkb:=fun k hk ha=>(adv_ok (i:=y.at_) hq.1 (k:=k) hk ha).2
 simp only[afterB]
 generalize y.df.getD 0 0=kd at *
 obtain⟨kd,rfl⟩: ∃m:Nat,kd=m:=⟨kd.toNat,by omega⟩
 have e1:=usl_get (us:=s.us) (k:=kd) (by omega)
 rw[show s.us.getD kd un0=unOf s kd from rfl] at e1
 generalize unOf s kd=xd at *
 generalize afterR b s y r=q at *
 generalize aplR s y r=a at *
 clear hy
 simp only[brdF,rulF,mpF,List.cons_append,List.nil_append,staF,staO,btF,unA] at *
 refine rT hC Q75 ?_ (by simp only[ownR,ownRL,own_uns,Bool.and_true])
 simp only[c75,push_cast,↓J1,↓J2,N1,N2,N3,reduceCtorEq,N4,N5,N6,reduceIte,N7,I1,I2,I3]
 simp only[e0,e1,ints_length,uns_length,Int.toNat_natCast,push_cast,↓J1,↓J2,N1,N2,N3,reduceCtorEq,N4,N5,N6,reduceIte,N7,I1,I2,I3]
 repeat (refine⟨by omega,?_⟩)
 refine⟨_,c1,?_⟩
 by_cases h1:r=1
 ·subst h1
  obtain rfl:=eA (.inl rfl)
  rw[if_pos rfl] at eR
  rw[←eR] at r1
  clear eR r2
  repeat' (first
  | simp only[uns_length,tka,tkq,lna,frzLL_uns,Int.reduceEq,decide_false,decide_true,ints_length,hq.2,push_cast,↓J1,↓J2,N1,N2,N3,reduceCtorEq,N4,N5,N6,reduceIte,N7,I1,I2,I3]
  | refine⟨_,r1,?_⟩
  | refine⟨_,c4,?_⟩
  | refine ifB_intro (fun h=>?_) (fun h=>?_)
  | refine And.intro ?_ ?_)
  all_goals first
   | omega
   | skip
  ·rw[if_pos (of_decide_eq_true h)]
   exact RetTo_of (by simp only[conR,conRL,isF,hget,hdel,List.drop_zero,List.take_length,if_true,if_false,reduceIte,N5,reduceCtorEq,tkq,uns_length,hq.2];rfl)
  rw[if_neg (of_decide_eq_false h)]
  clear h
  refine RL_count (fun i=>⟨tb 79 .any [(4,.ptr 0 none 0 0 0),(5,.ptr 1 none 0 0 0),(6,.ptr 2 none 0 0 0),(8,.ptr 3 none 0 0 0),(54,.sl (ints y.ak)),(55,.int .i64 (y.ak.length:Int)),(56,.int .i64 (i:Int))],[(4,.slice 4 (uns q.us)),(3,.var [.int .i64 0,.int .i64 0,.nil]),(2,.var [.int .i64 y.at_,.sl (ints y.ak),.sl (ints y.df)]),(1,.var [.int .i64 q.t,.int .i64 q.w,.ref 4 none 4 0 a.us.length]),(0,.var [.sl (tersF b.r.ts),.sl (kins b.r.ks),.int .i64 b.r.stack,.int .i64 b.r.river,.int .i64 b.r.road,.int .i64 b.r.supply,.int .i64 b.r.turns,.int .i64 b.m.w,.int .i64 b.m.h,.sl (ints b.m.t),.sl (ints b.m.ri),.sl (ints b.m.ro)])],5⟩) (fun i=> ∀j,j<i→ ¬0≤(unOf q (y.ak.getD j 0)).at_) y.ak.length 0 (hdA [(5,4),(3,3),(2,2),(1,1),(0,0)]) (by omega) (by intro j hj;omega) fun i hi hI J hJ=>?_
  by_cases h1:i<y.ak.length
  ·have ea:=cut_ints_get h1
   have hlt:decide ((i:Int)<(y.ak.length:Int))=true:=decide_eq_true (by omega)
   have hJ1:=hJ h1
   clear hJ
   have hk:=hak i h1
   have hf:=onL_first (s:=q) (l:=y.ak) (i:=i) h1
   by_cases ht:0≤(unOf q (y.ak.getD i 0)).at_
   ·obtain⟨t,hf⟩:=hf ht hI
    simp only[hf]
    clear hf hJ1 hI
    generalize y.ak.getD i 0=k at *
    obtain⟨k,rfl⟩: ∃m:Nat,k=m:=⟨k.toNat,by omega⟩
    obtain⟨c,c5⟩:=c5 k (by omega) ht
    have tkb:=tkb k (by omega) ht
    have tk3:List.take a.us.length (uns (advU b q k y.at_).us)=uns (advU b q k y.at_).us:=List.take_of_length_le (by rw[uns_length,tkb,hq.2];omega)
    have e2:=usl_get (us:=q.us) (k:=k) (by omega)
    rw[show q.us.getD k un0=unOf q k from rfl] at e2
    generalize advU b q k y.at_=q2 at *
    generalize unOf q k=u at *
    have g0:decide (0≤u.at_)=true:=decide_eq_true ht
    simp only[unA] at *
    repeat' (first
  | simp only[uns_length,ints_length,tkq,frzLL_uns,hlt,ea,e2,Int.toNat_natCast,g0,tkb,tk3,hq.2,push_cast,↓J1,↓J2,N1,N2,N3,reduceCtorEq,N4,N5,N6,reduceIte,N7,I1,I2,I3]
  | refine⟨_,c5,?_⟩
  | refine ifB_intro (fun h=>?_) (fun h=>?_)
  | refine And.intro ?_ ?_)
    all_goals first
     | omega
     | skip
    exact RetTo_of (by simp only[conR,conRL,isF,hget,hdel,List.drop_zero,List.take_length,if_true,if_false,reduceIte,N5,reduceCtorEq,tk3,uns_length,tkb,hq.2];rfl)
   ·have hJ1:=hJ1 (by
     intro j hj
     by_cases hji:j=i
     ·subst hji;exact ht
     ·exact hI j (by omega))
    clear hf hI
    generalize y.ak.getD i 0=k at *
    obtain⟨k,rfl⟩: ∃m:Nat,k=m:=⟨k.toNat,by omega⟩
    have e2:=usl_get (us:=q.us) (k:=k) (by omega)
    rw[show q.us.getD k un0=unOf q k from rfl] at e2
    generalize unOf q k=u at *
    have g0:decide (0≤u.at_)=false:=decide_eq_false ht
    simp only[unA] at *
    repeat' (first
  | simp only[uns_length,ints_length,tkq,frzLL_uns,hlt,ea,e2,Int.toNat_natCast,g0,push_cast,↓J1,↓J2,N1,N2,N3,reduceCtorEq,N4,N5,N6,reduceIte,N7,I1,I2,I3]
  | refine⟨_,c4,?_⟩
  | refine ifB_intro (fun h=>?_) (fun h=>?_)
  | refine And.intro ?_ ?_)
    all_goals first
     | omega
     | skip
    exact hJ1 _ (hdA [(4,4),(3,3),(2,2),(1,1),(0,0)])
  ·have hlt:decide ((i:Int)<(y.ak.length:Int))=false:=decide_eq_false (by omega)
   have hf:=onL_none (s:=q) (l:=y.ak) fun j hj=>hI j (by omega)
   simp only[hf]
   simp only[hlt,push_cast,↓J1,↓J2,N1,N2,N3,reduceCtorEq,N4,N5,N6,reduceIte,N7,I1,I2,I3]
   exact RetTo_of (by simp only[conR,conRL,isF,hget,hdel,List.drop_zero,List.take_length,if_true,if_false,reduceIte,N5,reduceCtorEq,tkq,uns_length,hq.2];rfl)
 by_cases h4:r=4
 ·subst h4
  obtain rfl:=eA (.inr (.inl rfl))
  rw[if_neg (by omega),if_pos rfl] at eR
  rw[←eR] at r2
  clear eR r1
  repeat' (first
  | simp only[uns_length,tka,tkq,lna,frzLL_uns,Int.reduceEq,decide_false,decide_true,ints_length,hq.2,push_cast,↓J1,↓J2,N1,N2,N3,reduceCtorEq,N4,N5,N6,reduceIte,N7,I1,I2,I3]
  | refine⟨_,r2,?_⟩
  | refine⟨_,c4,?_⟩
  | refine ifB_intro (fun h=>?_) (fun h=>?_)
  | refine And.intro ?_ ?_)
  all_goals first
   | omega
   | skip
  ·rw[if_pos (of_decide_eq_true h)]
   exact RetTo_of (by simp only[conR,conRL,isF,hget,hdel,List.drop_zero,List.take_length,if_true,if_false,reduceIte,N5,reduceCtorEq,tkq,uns_length,hq.2];rfl)
  rw[if_neg (of_decide_eq_false h)]
  clear h
  refine RL_count (fun i=>⟨tb 79 .any [(4,.ptr 0 none 0 0 0),(5,.ptr 1 none 0 0 0),(6,.ptr 2 none 0 0 0),(8,.ptr 3 none 0 0 0),(54,.sl (ints y.ak)),(55,.int .i64 (y.ak.length:Int)),(56,.int .i64 (i:Int))],[(4,.slice 4 (uns q.us)),(3,.var [.int .i64 0,.int .i64 0,.nil]),(2,.var [.int .i64 y.at_,.sl (ints y.ak),.sl (ints y.df)]),(1,.var [.int .i64 q.t,.int .i64 q.w,.ref 4 none 4 0 a.us.length]),(0,.var [.sl (tersF b.r.ts),.sl (kins b.r.ks),.int .i64 b.r.stack,.int .i64 b.r.river,.int .i64 b.r.road,.int .i64 b.r.supply,.int .i64 b.r.turns,.int .i64 b.m.w,.int .i64 b.m.h,.sl (ints b.m.t),.sl (ints b.m.ri),.sl (ints b.m.ro)])],5⟩) (fun i=> ∀j,j<i→ ¬0≤(unOf q (y.ak.getD j 0)).at_) y.ak.length 0 (hdA [(5,4),(3,3),(2,2),(1,1),(0,0)]) (by omega) (by intro j hj;omega) fun i hi hI J hJ=>?_
  by_cases h1:i<y.ak.length
  ·have ea:=cut_ints_get h1
   have hlt:decide ((i:Int)<(y.ak.length:Int))=true:=decide_eq_true (by omega)
   have hJ1:=hJ h1
   clear hJ
   have hk:=hak i h1
   have hf:=onL_first (s:=q) (l:=y.ak) (i:=i) h1
   by_cases ht:0≤(unOf q (y.ak.getD i 0)).at_
   ·obtain⟨t,hf⟩:=hf ht hI
    simp only[hf]
    clear hf hJ1 hI
    generalize y.ak.getD i 0=k at *
    obtain⟨k,rfl⟩: ∃m:Nat,k=m:=⟨k.toNat,by omega⟩
    obtain⟨c,c5⟩:=c5 k (by omega) ht
    have tkb:=tkb k (by omega) ht
    have tk3:List.take a.us.length (uns (advU b q k y.at_).us)=uns (advU b q k y.at_).us:=List.take_of_length_le (by rw[uns_length,tkb,hq.2];omega)
    have e2:=usl_get (us:=q.us) (k:=k) (by omega)
    rw[show q.us.getD k un0=unOf q k from rfl] at e2
    generalize advU b q k y.at_=q2 at *
    generalize unOf q k=u at *
    have g0:decide (0≤u.at_)=true:=decide_eq_true ht
    simp only[unA] at *
    repeat' (first
  | simp only[uns_length,ints_length,tkq,frzLL_uns,hlt,ea,e2,Int.toNat_natCast,g0,tkb,tk3,hq.2,push_cast,↓J1,↓J2,N1,N2,N3,reduceCtorEq,N4,N5,N6,reduceIte,N7,I1,I2,I3]
  | refine⟨_,c5,?_⟩
  | refine ifB_intro (fun h=>?_) (fun h=>?_)
  | refine And.intro ?_ ?_)
    all_goals first
     | omega
     | skip
    exact RetTo_of (by simp only[conR,conRL,isF,hget,hdel,List.drop_zero,List.take_length,if_true,if_false,reduceIte,N5,reduceCtorEq,tk3,uns_length,tkb,hq.2];rfl)
   ·have hJ1:=hJ1 (by
     intro j hj
     by_cases hji:j=i
     ·subst hji;exact ht
     ·exact hI j (by omega))
    clear hf hI
    generalize y.ak.getD i 0=k at *
    obtain⟨k,rfl⟩: ∃m:Nat,k=m:=⟨k.toNat,by omega⟩
    have e2:=usl_get (us:=q.us) (k:=k) (by omega)
    rw[show q.us.getD k un0=unOf q k from rfl] at e2
    generalize unOf q k=u at *
    have g0:decide (0≤u.at_)=false:=decide_eq_false ht
    simp only[unA] at *
    repeat' (first
  | simp only[uns_length,ints_length,tkq,frzLL_uns,hlt,ea,e2,Int.toNat_natCast,g0,push_cast,↓J1,↓J2,N1,N2,N3,reduceCtorEq,N4,N5,N6,reduceIte,N7,I1,I2,I3]
  | refine⟨_,c4,?_⟩
  | refine ifB_intro (fun h=>?_) (fun h=>?_)
  | refine And.intro ?_ ?_)
    all_goals first
     | omega
     | skip
    exact hJ1 _ (hdA [(4,4),(3,3),(2,2),(1,1),(0,0)])
  ·have hlt:decide ((i:Int)<(y.ak.length:Int))=false:=decide_eq_false (by omega)
   have hf:=onL_none (s:=q) (l:=y.ak) fun j hj=>hI j (by omega)
   simp only[hf]
   simp only[hlt,push_cast,↓J1,↓J2,N1,N2,N3,reduceCtorEq,N4,N5,N6,reduceIte,N7,I1,I2,I3]
   exact RetTo_of (by simp only[conR,conRL,isF,hget,hdel,List.drop_zero,List.take_length,if_true,if_false,reduceIte,N5,reduceCtorEq,tkq,uns_length,hq.2];rfl)
 ·rw[if_neg h1,if_neg h4] at eR
  subst eR
  have g1:decide (r=1)=false:=decide_eq_false h1
  have g4:decide (r=4)=false:=decide_eq_false h4
  repeat' (first
  | simp only[g1,g4,uns_length,tka,tkq,lna,frzLL_uns,Int.reduceEq,decide_false,decide_true,ints_length,hq.2,push_cast,↓J1,↓J2,N1,N2,N3,reduceCtorEq,N4,N5,N6,reduceIte,N7,I1,I2,I3]
  | refine⟨_,c4,?_⟩
  | refine ifB_intro (fun h=>?_) (fun h=>?_)
  | refine And.intro ?_ ?_)
  all_goals first
   | omega
   | skip
  ·rw[if_pos (of_decide_eq_true h)]
   exact RetTo_of (by simp only[conR,conRL,isF,hget,hdel,List.drop_zero,List.take_length,if_true,if_false,reduceIte,N5,reduceCtorEq,tkq,uns_length,hq.2];rfl)
  rw[if_neg (of_decide_eq_false h)]
  clear h
  refine RL_count (fun i=>⟨tb 79 .any [(4,.ptr 0 none 0 0 0),(5,.ptr 1 none 0 0 0),(6,.ptr 2 none 0 0 0),(8,.ptr 3 none 0 0 0),(54,.sl (ints y.ak)),(55,.int .i64 (y.ak.length:Int)),(56,.int .i64 (i:Int))],[(4,.slice 4 (uns q.us)),(3,.var [.int .i64 0,.int .i64 0,.nil]),(2,.var [.int .i64 y.at_,.sl (ints y.ak),.sl (ints y.df)]),(1,.var [.int .i64 q.t,.int .i64 q.w,.ref 4 none 4 0 s.us.length]),(0,.var [.sl (tersF b.r.ts),.sl (kins b.r.ks),.int .i64 b.r.stack,.int .i64 b.r.river,.int .i64 b.r.road,.int .i64 b.r.supply,.int .i64 b.r.turns,.int .i64 b.m.w,.int .i64 b.m.h,.sl (ints b.m.t),.sl (ints b.m.ri),.sl (ints b.m.ro)])],5⟩) (fun i=> ∀j,j<i→ ¬0≤(unOf q (y.ak.getD j 0)).at_) y.ak.length 0 (hdA [(4,4),(3,3),(2,2),(1,1),(0,0)]) (by omega) (by intro j hj;omega) fun i hi hI J hJ=>?_
  by_cases h1:i<y.ak.length
  ·have ea:=cut_ints_get h1
   have hlt:decide ((i:Int)<(y.ak.length:Int))=true:=decide_eq_true (by omega)
   have hJ1:=hJ h1
   clear hJ
   have hk:=hak i h1
   have hf:=onL_first (s:=q) (l:=y.ak) (i:=i) h1
   by_cases ht:0≤(unOf q (y.ak.getD i 0)).at_
   ·obtain⟨t,hf⟩:=hf ht hI
    simp only[hf]
    clear hf hJ1 hI
    generalize y.ak.getD i 0=k at *
    obtain⟨k,rfl⟩: ∃m:Nat,k=m:=⟨k.toNat,by omega⟩
    obtain⟨c,c5⟩:=c5 k (by omega) ht
    have tkb:=tkb k (by omega) ht
    have tk3:List.take s.us.length (uns (advU b q k y.at_).us)=uns (advU b q k y.at_).us:=List.take_of_length_le (by rw[uns_length,tkb,hq.2];omega)
    have e2:=usl_get (us:=q.us) (k:=k) (by omega)
    rw[show q.us.getD k un0=unOf q k from rfl] at e2
    generalize advU b q k y.at_=q2 at *
    generalize unOf q k=u at *
    have g0:decide (0≤u.at_)=true:=decide_eq_true ht
    simp only[unA] at *
    repeat' (first
  | simp only[uns_length,ints_length,tkq,frzLL_uns,hlt,ea,e2,Int.toNat_natCast,g0,tkb,tk3,hq.2,push_cast,↓J1,↓J2,N1,N2,N3,reduceCtorEq,N4,N5,N6,reduceIte,N7,I1,I2,I3]
  | refine⟨_,c5,?_⟩
  | refine ifB_intro (fun h=>?_) (fun h=>?_)
  | refine And.intro ?_ ?_)
    all_goals first
     | omega
     | skip
    exact RetTo_of (by simp only[conR,conRL,isF,hget,hdel,List.drop_zero,List.take_length,if_true,if_false,reduceIte,N5,reduceCtorEq,tk3,uns_length,tkb,hq.2];rfl)
   ·have hJ1:=hJ1 (by
     intro j hj
     by_cases hji:j=i
     ·subst hji;exact ht
     ·exact hI j (by omega))
    clear hf hI
    generalize y.ak.getD i 0=k at *
    obtain⟨k,rfl⟩: ∃m:Nat,k=m:=⟨k.toNat,by omega⟩
    have e2:=usl_get (us:=q.us) (k:=k) (by omega)
    rw[show q.us.getD k un0=unOf q k from rfl] at e2
    generalize unOf q k=u at *
    have g0:decide (0≤u.at_)=false:=decide_eq_false ht
    simp only[unA] at *
    repeat' (first
  | simp only[uns_length,ints_length,tkq,frzLL_uns,hlt,ea,e2,Int.toNat_natCast,g0,push_cast,↓J1,↓J2,N1,N2,N3,reduceCtorEq,N4,N5,N6,reduceIte,N7,I1,I2,I3]
  | refine⟨_,c4,?_⟩
  | refine ifB_intro (fun h=>?_) (fun h=>?_)
  | refine And.intro ?_ ?_)
    all_goals first
     | omega
     | skip
    exact hJ1 _ (hdA [(4,4),(3,3),(2,2),(1,1),(0,0)])
  ·have hlt:decide ((i:Int)<(y.ak.length:Int))=false:=decide_eq_false (by omega)
   have hf:=onL_none (s:=q) (l:=y.ak) fun j hj=>hI j (by omega)
   simp only[hf]
   simp only[hlt,push_cast,↓J1,↓J2,N1,N2,N3,reduceCtorEq,N4,N5,N6,reduceIte,N7,I1,I2,I3]
   exact RetTo_of (by simp only[conR,conRL,isF,hget,hdel,List.drop_zero,List.take_length,if_true,if_false,reduceIte,N5,reduceCtorEq,tkq,uns_length,hq.2];rfl)
end
end Go.Proofs.YtlkcpadkjepchaaGreatDoor.X
set_option maxHeartbeats 4000000
set_option maxRecDepth 8000
set_option linter.unusedSimpArgs false
set_option linter.unusedVariables false
open Nat renaming reduceBEq→N1,reduceAdd→N2,reduceSub→N3,reduceMul→N4,reduceEqDiff→N5,reduceLeDiff→N6,reduceLT→N7
open Int renaming reduceLE→I1,reduceLT→I2,reduceToNat→I3
namespace Go.Proofs.YtlkcpadkjepchaaGreatDoor.X
open Go
attribute [local irreducible] Ev
theorem ris_of{l:List Int}{n:Int}(h:l.Pairwise (· < ·))(hb: ∀k∈l,0≤k∧k<n):upto l.length (risP l 0 (n-1))=true:=by
 refine upto_yes fun j hj=>?_
 have h1:=hb _ (getD_in hj)
 simp only[risP,inR,Bool.and_eq_true,Bool.or_eq_true,decide_eq_true_eq]
 refine⟨by omega,?_⟩
 by_cases h0:j=0
 ·exact .inl h0
 ·refine .inr ?_
  have:=List.pairwise_iff_getElem.1 h (j-1) j (by omega) hj (by omega)
  simpa [List.getD,hj,show j-1<l.length by omega] using this
section
variable{C:CT}(hC:Closed Tryz.prog G1 md0 C)
include hC
theorem t146(b:Brd)(s:Sta)(y:Bt)(h:staOk b s=true)(hy:BtOk b s y)(hb:BrdB (2^50) b):Ev C 146 [brdF b,.agg (staF s),.agg (btF y)] (.bool true):=by
 have hm:=mp_wh (brd_mp (sta_brd h))
 have hwh:=brd_wh (sta_brd h)
 have hlen:=sta_len h
 have hat:=bt_at h hy
 have hl3:=hy.ak3
 have hl4:=hy.df4
 have hi:inR 0 (b.m.w*b.m.h-1) y.at_=true:=by simp only[inR,Bool.and_eq_true,decide_eq_true_eq];omega
 have c1:=t193 hC b s y.at_ hb (by omega)
 rw[h,hi,Bool.true_and] at c1
 have c2:=t95 hC s y.at_ (by omega)
 have c3:=t140 hC y.ak 0 ((s.us.length:Int)-1) (by omega)
 rw[ris_of hy.ak2 (fun k hk=>by have:=hy.ak1 k hk;omega)] at c3
 have c4:=fun k hk=>t96 hC b s y.at_ k (sta_brd h) (by omega) hk (by omega)
 have c5:=t93 hC s y.at_ (owner s y.at_) (by omega)
 rw[dfs_is h hat.1,←hy.df1] at c5
 have c6:=t194 hC y.df (by omega)
 have hak:=fun i (hi:i<y.ak.length)=>hy.ak1 (y.ak.getD i 0) (getD_in hi)
 have hsd: ∀k,0≤(unOf s k).at_→0≤dirOn b.m y.at_ (unOf s k).at_→0≤aSid b.m y.at_ (unOf s k).at_:=fun k h1 h2=>by simp only[aSid,if_pos h1];exact h2
 have k0:decide ((y.ak.length:Int)=0)=false:=decide_eq_false (by have:=List.length_pos_iff.2 hy.ak0;omega)
 have o0:decide (owner s y.at_<0)=false:=decide_eq_false (by have:=hy.own;omega)
 have w1:IntKind.i64.wrap ((s.us.length:Int)-1)=(s.us.length:Int)-1:=wrap64 (by omega) (by omega)
 have tkd:List.take y.df.length (ints y.df)=ints y.df:=List.take_of_length_le (by rw[ints_length];omega)
 generalize owner s y.at_=ow at *
 clear hy
 simp only[brdF,rulF,mpF,List.cons_append,List.nil_append,staF,btF] at *
 refine rT hC Q146 ?_ (by rfl)
 simp only[c146,uns_length,push_cast,↓J1,↓J2,N1,N2,N3,reduceCtorEq,N4,N5,N6,reduceIte,N7,I1,I2,I3]
 repeat' (first
  | simp only[k0,o0,w1,ints_length,uns_length,push_cast,↓J1,↓J2,N1,N2,N3,reduceCtorEq,N4,N5,N6,reduceIte,N7,I1,I2,I3]
  | refine⟨_,c1,?_⟩
  | refine⟨_,c2,?_⟩
  | refine⟨_,c3,?_⟩
  | refine ifB_intro (fun h=>?_) (fun h=>?_))
 refine RL_count (fun i=>⟨tb 76 .any [(3,.ptr 0 none 0 0 0),(4,.ptr 1 none 0 0 0),(5,.ptr 2 none 0 0 0),(7,.int .i64 ow),(44,.sl (ints y.ak)),(45,.int .i64 (y.ak.length:Int)),(46,.int .i64 (i:Int))],[(2,.var [.int .i64 y.at_,.sl (ints y.ak),.sl (ints y.df)]),(1,.var [.int .i64 s.t,.int .i64 s.w,.sl (uns s.us)]),(0,.var [.sl (tersF b.r.ts),.sl (kins b.r.ks),.int .i64 b.r.stack,.int .i64 b.r.river,.int .i64 b.r.road,.int .i64 b.r.supply,.int .i64 b.r.turns,.int .i64 b.m.w,.int .i64 b.m.h,.sl (ints b.m.t),.sl (ints b.m.ri),.sl (ints b.m.ro)])],3⟩) (fun _=>True) y.ak.length 0 (hdA [(2,2),(1,1),(0,0)]) (by omega) trivial fun i hi _ J hJ=>?_
 by_cases h1:i<y.ak.length
 ·have ea:=cut_ints_get h1
  have hlt:decide ((i:Int)<(y.ak.length:Int))=true:=decide_eq_true (by omega)
  have hJ1:=hJ h1 trivial
  clear hJ
  have hk:=hak i h1
  generalize y.ak.getD i 0=k at *
  have c4:=c4 k (by omega)
  have hs:=hsd k hk.2.2.1 hk.2.2.2.1
  have e2:=uns_int (s:=s) (k:=k) (by omega)
  generalize unOf s k=u at *
  have g1:decide (u.sd=ow)=false:=decide_eq_false hk.2.2.2.2
  generalize aSid b.m y.at_ u.at_=sd at *
  have g2:decide (sd<0)=false:=decide_eq_false (by omega)
  simp only[unA] at *
  repeat' (first
  | simp only[uns_length,ints_length,hlt,ea,e2,g1,g2,Int.toNat_natCast,push_cast,↓J1,↓J2,N1,N2,N3,reduceCtorEq,N4,N5,N6,reduceIte,N7,I1,I2,I3]
  | refine⟨_,c4,?_⟩
  | refine ifB_intro (fun h=>?_) (fun h=>?_)
  | refine And.intro ?_ ?_)
  all_goals first
   | omega
   | skip
  exact hJ1 _ (hdA [(2,2),(1,1),(0,0)])
 ·have hlt:decide ((i:Int)<(y.ak.length:Int))=false:=decide_eq_false (by omega)
  simp only[hlt,push_cast,↓J1,↓J2,N1,N2,N3,reduceCtorEq,N4,N5,N6,reduceIte,N7,I1,I2,I3]
  repeat' (first
  | simp only[ints_length,tkd,frzLL_ints,push_cast,↓J1,↓J2,N1,N2,N3,reduceCtorEq,N4,N5,N6,reduceIte,N7,I1,I2,I3]
  | refine⟨_,c5,?_⟩
  | refine⟨_,c6,?_⟩
  | refine ifB_intro (fun h=>?_) (fun h=>?_))
theorem t100(b:Brd)(s:Sta)(t:Ct)(y:Bt)(r:Int)(h:staOk b s=true)(ht:ctOk t=true)(htb:CtB (2^50) t)(hy:BtOk b s y)(hr:t.d≤r∧r≤6*t.d)(hb:BrdB (2^50) b):Ev C 100 [brdF b,.agg (staF s),.agg (ctF t),.agg (btF y),.int .i64 r] (.tup [.int .i64 ((t.rs.getD (r-t.d).toNat []).getD (colB b s t y).toNat 0),.bool true]):=by
 have hd:=(ct_in ht).2.1
 have c1:=t88 hC t htb
 rw[ht] at c1
 have c2:=t146 hC b s y h hy hb
 have c3:=t91 hC r t.d (6*t.d)
 rw[decide_eq_true hr.1,decide_eq_true hr.2,Bool.and_self] at c3
 have c4:=t148 hC b s t y h ht hy hb
 have hc:0≤colB b s t y∧colB b s t y<(t.cs.length:Int):=colS_bnd ht _ _
 have c5:=t147 hC t r (colB b s t y) ht hr hc
 have w1:IntKind.i64.wrap (6*t.d)=6*t.d:=wrap64 (by omega) (by omega)
 generalize (t.rs.getD (r-t.d).toNat []).getD (colB b s t y).toNat 0=X at *
 generalize colB b s t y=c at *
 clear hy
 simp only[brdF,rulF,mpF,List.cons_append,List.nil_append,staF,btF,ctF] at *
 refine rT hC Q100 ?_ (by rfl)
 simp only[c100,uns_length,push_cast,↓J1,↓J2,N1,N2,N3,reduceCtorEq,N4,N5,N6,reduceIte,N7,I1,I2,I3]
 repeat' (first
  | simp only[w1,push_cast,↓J1,↓J2,N1,N2,N3,reduceCtorEq,N4,N5,N6,reduceIte,N7,I1,I2,I3]
  | refine⟨_,c1,?_⟩
  | refine⟨_,c2,?_⟩
  | refine⟨_,c3,?_⟩
  | refine⟨_,c4,?_⟩
  | refine⟨_,c5,?_⟩
  | refine ifB_intro (fun h=>?_) (fun h=>?_))
end
end Go.Proofs.YtlkcpadkjepchaaGreatDoor.X
