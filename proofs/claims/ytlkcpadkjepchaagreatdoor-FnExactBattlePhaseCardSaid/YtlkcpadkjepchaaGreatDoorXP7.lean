/- A part of the proof: lemmas on the machine or on the functions that the law reaches. No condition of its own. -/
import Derived.Test.YtlkcpadkjepchaaGreatDoorXP6
import Derived.Test.YtlkcpadkjepchaaGreatDoorXP3
import Derived.Test.YtlkcpadkjepchaaGreatDoorXP5
set_option maxHeartbeats 1000000
set_option maxRecDepth 8000
set_option linter.unusedSimpArgs false
set_option linter.unusedVariables false
open Nat renaming reduceBEq→N1,reduceAdd→N2,reduceSub→N3,reduceMul→N4,reduceEqDiff→N5,reduceLeDiff→N6,reduceLT→N7
open Int renaming reduceLE→I1,reduceLT→I2,reduceToNat→I3
namespace Go.Proofs.YtlkcpadkjepchaaGreatDoor.X
open Go
attribute [local irreducible] Ev
section
variable{C:CT}(hC:Closed Tryz.prog G1 md0 C)
include hC
theorem t247(n:Int)(h: -2000≤n∧n≤2000):Ev C 247 [.int .i64 n] (.int .i64 (absI n)):=by
 refine rT hC Q247 ?_
 simp only[c247,push_cast,↓J1,↓J2,N1,N2,N3,reduceCtorEq,N4,N5,N6,reduceIte,N7,I1,I2,I3]
 cases g:decide (n<0)
 ·have h1:=of_decide_eq_false g
  simp only[absI,if_neg h1,push_cast,↓J1,↓J2,N1,N2,N3,reduceCtorEq,N4,N5,N6,reduceIte,N7,I1,I2,I3]
 ·have h1:=of_decide_eq_true g
  simp only[absI,if_pos h1,push_cast,↓J1,↓J2,N1,N2,N3,reduceCtorEq,N4,N5,N6,reduceIte,N7,I1,I2,I3]
  rw[wrap64 (n:=0-n) (by omega) (by omega)];rw[Int.zero_sub]
theorem t200(a b:Int):Ev C 200 [.int .i64 a,.int .i64 b] (.int .i64 (if b<a then a else b)):=by
 refine rT hC Q200 ?_
 simp only[c200,push_cast,↓J1,↓J2,N1,N2,N3,reduceCtorEq,N4,N5,N6,reduceIte,N7,I1,I2,I3]
 cases g:decide (b<a)
 ·have h1:=of_decide_eq_false g
  simp only[if_neg h1,push_cast,↓J1,↓J2,N1,N2,N3,reduceCtorEq,N4,N5,N6,reduceIte,N7,I1,I2,I3]
 ·have h1:=of_decide_eq_true g
  simp only[if_pos h1,push_cast,↓J1,↓J2,N1,N2,N3,reduceCtorEq,N4,N5,N6,reduceIte,N7,I1,I2,I3]
theorem t245(n:Int)(h: -2000≤n∧n≤2000):Ev C 245 [.int .i64 n] (.int .i64 (absI n)):=by
 have c1:=t200 hC n (-n)
 rw[show(if -n<n then n else -n)=absI n by simp only[absI];split<;>split<;>omega] at c1
 refine rT hC Q245 ?_
 simp only[c245,push_cast,↓J1,↓J2,N1,N2,N3,reduceCtorEq,N4,N5,N6,reduceIte,N7,I1,I2,I3]
 rw[wrap64 (n:=0-n) (by omega) (by omega),Int.zero_sub]
 refine⟨_,c1,?_⟩
 simp only[push_cast,↓J1,↓J2,N1,N2,N3,reduceCtorEq,N4,N5,N6,reduceIte,N7,I1,I2,I3]
theorem t243(q1 r1 q2 r2:Int)(h1:(0≤q1∧q1<10)∧0≤r1∧r1≤300)(h2:(0≤q2∧q2<10)∧0≤r2∧r2≤300):Ev C 243 [.agg [.int .i64 q1,.int .i64 r1],.agg [.int .i64 q2,.int .i64 r2]] (.int .i64 (distI q1 r1 q2 r2)):=by
 have c1:=t247 hC (q2-q1) (by omega)
 have c2:=t247 hC (r2-r1) (by omega)
 have c3:=t247 hC (q2-q1+(r2-r1)) (by omega)
 have b1:=absI_bnd (n:=q2-q1) (B:=2000) (by omega)
 have b2:=absI_bnd (n:=r2-r1) (B:=2000) (by omega)
 have b3:=absI_bnd (n:=q2-q1+(r2-r1)) (B:=2000) (by omega)
 refine rT hC Q243 ?_
 simp only[c243,push_cast,↓J1,↓J2,N1,N2,N3,reduceCtorEq,N4,N5,N6,reduceIte,N7,I1,I2,I3]
 rw[wrap64 (n:=q2-q1) (by omega) (by omega),wrap64 (n:=r2-r1) (by omega) (by omega)]
 refine⟨_,c1,?_⟩
 simp only[push_cast,↓J1,↓J2,N1,N2,N3,reduceCtorEq,N4,N5,N6,reduceIte,N7,I1,I2,I3]
 refine⟨_,c2,?_⟩
 simp only[push_cast,↓J1,↓J2,N1,N2,N3,reduceCtorEq,N4,N5,N6,reduceIte,N7,I1,I2,I3]
 rw[wrap64 (n:=q2-q1+(r2-r1)) (by omega) (by omega)]
 refine⟨_,c3,?_⟩
 simp only[push_cast,↓J1,↓J2,N1,N2,N3,reduceCtorEq,N4,N5,N6,reduceIte,N7,I1,I2,I3]
 rw[wrap64 (n:=absI (q2-q1)+absI (r2-r1)) (by omega) (by omega),wrap64 (n:=absI (q2-q1)+absI (r2-r1)+absI (q2-q1+(r2-r1))) (by omega) (by omega)]
 have hb:0≤distI q1 r1 q2 r2∧distI q1 r1 q2 r2≤6000:=by
  have:=Int.tdiv_nonneg (a:=absI (q2-q1)+absI (r2-r1)+absI (q2-q1+(r2-r1))) (b:=2) (by omega) (by omega)
  have:=Int.tdiv_le_self (a:=absI (q2-q1)+absI (r2-r1)+absI (q2-q1+(r2-r1))) (b:=2) (by omega)
  simp only[distI];omega
 simp only[distI] at *
 try rw[wrap64 (n:=(absI (q2-q1)+absI (r2-r1)+absI (q2-q1+(r2-r1))).tdiv 2) (by omega) (by omega)]
 exact⟨by omega,rfl⟩
theorem t240(q1 r1 q2 r2:Int)(h1:(0≤q1∧q1<10)∧0≤r1∧r1≤300)(h2:(0≤q2∧q2<10)∧0≤r2∧r2≤300):Ev C 240 [.agg [.int .i64 q1,.int .i64 r1],.agg [.int .i64 q2,.int .i64 r2]] (.int .i64 (distI q1 r1 q2 r2)):=by
 have c1:=t245 hC (q2-q1) (by omega)
 have c2:=t245 hC (r2-r1) (by omega)
 have c3:=t245 hC (q2-q1+(r2-r1)) (by omega)
 have b1:=absI_bnd (n:=q2-q1) (B:=2000) (by omega)
 have b2:=absI_bnd (n:=r2-r1) (B:=2000) (by omega)
 have b3:=absI_bnd (n:=q2-q1+(r2-r1)) (B:=2000) (by omega)
 refine rT hC Q240 ?_
 simp only[c240,push_cast,↓J1,↓J2,N1,N2,N3,reduceCtorEq,N4,N5,N6,reduceIte,N7,I1,I2,I3]
 rw[wrap64 (n:=q2-q1) (by omega) (by omega),wrap64 (n:=r2-r1) (by omega) (by omega)]
 refine⟨_,c1,?_⟩
 simp only[push_cast,↓J1,↓J2,N1,N2,N3,reduceCtorEq,N4,N5,N6,reduceIte,N7,I1,I2,I3]
 refine⟨_,c2,?_⟩
 simp only[push_cast,↓J1,↓J2,N1,N2,N3,reduceCtorEq,N4,N5,N6,reduceIte,N7,I1,I2,I3]
 rw[wrap64 (n:=q2-q1+(r2-r1)) (by omega) (by omega)]
 refine⟨_,c3,?_⟩
 simp only[push_cast,↓J1,↓J2,N1,N2,N3,reduceCtorEq,N4,N5,N6,reduceIte,N7,I1,I2,I3]
 rw[wrap64 (n:=absI (q2-q1)+absI (r2-r1)) (by omega) (by omega),wrap64 (n:=absI (q2-q1)+absI (r2-r1)+absI (q2-q1+(r2-r1))) (by omega) (by omega)]
 have hb:0≤distI q1 r1 q2 r2∧distI q1 r1 q2 r2≤6000:=by
  have:=Int.tdiv_nonneg (a:=absI (q2-q1)+absI (r2-r1)+absI (q2-q1+(r2-r1))) (b:=2) (by omega) (by omega)
  have:=Int.tdiv_le_self (a:=absI (q2-q1)+absI (r2-r1)+absI (q2-q1+(r2-r1))) (b:=2) (by omega)
  simp only[distI];omega
 simp only[distI] at *
 try rw[wrap64 (n:=(absI (q2-q1)+absI (r2-r1)+absI (q2-q1+(r2-r1))).tdiv 2) (by omega) (by omega)]
 exact⟨by omega,rfl⟩
theorem t238o(q:List Int)(hq:q.length<2^30):Ev C 238 [.sl (ints q)] (.ow 1 (ints q)):=by
 have hb:(ints q).all (fun e=>e.length==1)=true:=List.all_eq_true.2 (by simp[ints])
 refine rT hC Q238 ?_ (by simp only[own_ints])
 simp only[c238,ints_length,hb,push_cast,↓J1,↓J2,N1,N2,N3,reduceCtorEq,N4,N5,N6,reduceIte,N7,I1,I2,I3]
 have tku:List.take q.length (ints q)=ints q:=List.take_of_length_le (by rw[ints_length];omega)
 and_intros
 all_goals first
  | omega
  | skip
 all_goals exact RetTo_of (by simp only[conR,conRL,isF,hget,hdel,List.drop_zero,List.take_length,if_true,if_false,reduceIte,N5,reduceCtorEq,tku];rfl)
end
end Go.Proofs.YtlkcpadkjepchaaGreatDoor.X
set_option maxHeartbeats 1500000
set_option maxRecDepth 8000
set_option linter.unusedSimpArgs false
set_option linter.unusedVariables false
open Nat renaming reduceBEq→N1,reduceAdd→N2,reduceSub→N3,reduceMul→N4,reduceEqDiff→N5,reduceLeDiff→N6,reduceLT→N7
open Int renaming reduceLE→I1,reduceLT→I2,reduceToNat→I3
namespace Go.Proofs.YtlkcpadkjepchaaGreatDoor.X
open Go
attribute [local irreducible] Ev
section
variable{C:CT}(hC:Closed Tryz.prog G1 md0 C)
include hC
end
end Go.Proofs.YtlkcpadkjepchaaGreatDoor.X
set_option maxHeartbeats 1500000
set_option maxRecDepth 8000
set_option linter.unusedSimpArgs false
set_option linter.unusedVariables false
open Nat renaming reduceBEq→N1,reduceAdd→N2,reduceSub→N3,reduceMul→N4,reduceEqDiff→N5,reduceLeDiff→N6,reduceLT→N7
open Int renaming reduceLE→I1,reduceLT→I2,reduceToNat→I3
namespace Go.Proofs.YtlkcpadkjepchaaGreatDoor.X
open Go
attribute [local irreducible] Ev
section
variable{C:CT}(hC:Closed Tryz.prog G1 md0 C)
include hC
theorem t218(a b:Int):Ev C 218 [.int .i64 a,.int .i64 b] (.int .i64 (if a<b then a else b)):=by
 refine rT hC Q218 ?_
 simp only[c218,push_cast,↓J1,↓J2,N1,N2,N3,reduceCtorEq,N4,N5,N6,reduceIte,N7,I1,I2,I3]
 cases g:decide (a<b)
 ·have h1:=of_decide_eq_false g
  simp only[if_neg h1,push_cast,↓J1,↓J2,N1,N2,N3,reduceCtorEq,N4,N5,N6,reduceIte,N7,I1,I2,I3]
 ·have h1:=of_decide_eq_true g
  simp only[if_pos h1,push_cast,↓J1,↓J2,N1,N2,N3,reduceCtorEq,N4,N5,N6,reduceIte,N7,I1,I2,I3]
end
end Go.Proofs.YtlkcpadkjepchaaGreatDoor.X
set_option maxHeartbeats 1500000
set_option maxRecDepth 8000
set_option linter.unusedSimpArgs false
set_option linter.unusedVariables false
open Nat renaming reduceBEq→N1,reduceAdd→N2,reduceSub→N3,reduceMul→N4,reduceEqDiff→N5,reduceLeDiff→N6,reduceLT→N7
open Int renaming reduceLE→I1,reduceLT→I2,reduceToNat→I3
namespace Go.Proofs.YtlkcpadkjepchaaGreatDoor.X
open Go
attribute [local irreducible] Ev
section
variable{C:CT}(hC:Closed Tryz.prog G1 md0 C)
include hC
end
end Go.Proofs.YtlkcpadkjepchaaGreatDoor.X
set_option maxHeartbeats 1000000
set_option maxRecDepth 8000
set_option linter.unusedSimpArgs false
set_option linter.unusedVariables false
open Nat renaming reduceBEq→N1,reduceAdd→N2,reduceSub→N3,reduceMul→N4,reduceEqDiff→N5,reduceLeDiff→N6,reduceLT→N7
open Int renaming reduceLE→I1,reduceLT→I2,reduceToNat→I3
namespace Go.Proofs.YtlkcpadkjepchaaGreatDoor.X
open Go
theorem owner_cnt{s:Sta}{b:Brd}{sd i:Int}(h:staOk b s=true)(hs:sd=0∨sd=1)(hi:0≤i)(ho:owner s i≠1-sd):cnt s.us i (1-sd)=0:=by
 have h1:=own_cnt h hs hi ho
 have hun:=sta_all h
 rw[fil_len (Nat.le_refl _),List.take_length] at h1
 rcases Nat.eq_zero_or_pos (cnt s.us i (1-sd)) with h0 | h0
 ·exact h0
 exfalso
 have h2:s.us.countP (inHex i)=cnt s.us i sd+cnt s.us i (1-sd):=by
  clear h1 ho h h0
  generalize s.us=us at hun
  induction us with
  | nil=>rfl
  | cons u us ih=>
   simp only[List.all_cons,Bool.and_eq_true] at hun
   have hsd:=un_sd hun.1
   have ih:=ih hun.2
   simp only[cnt,List.countP_cons] at ih⊢
   have:(if inHex i u=true then 1 else 0)=(if isAt i sd u=true then 1 else 0)+(if isAt i (1-sd) u=true then(1:Nat) else 0):=by
    simp only[inHex,isAt,Bool.and_eq_true,decide_eq_true_eq]
    by_cases h1:u.at_=i
    ·rcases hsd with e | e<;>rcases hs with e2 | e2<;>simp[h1,e,e2]
    ·simp[h1]
   omega
 omega
end Go.Proofs.YtlkcpadkjepchaaGreatDoor.X
set_option maxRecDepth 8000
set_option linter.unusedSimpArgs false
set_option linter.unusedVariables false
open Nat renaming reduceBEq→N1,reduceAdd→N2,reduceSub→N3,reduceMul→N4,reduceEqDiff→N5,reduceLeDiff→N6,reduceLT→N7
open Int renaming reduceLE→I1,reduceLT→I2,reduceToNat→I3
namespace Go.Proofs.YtlkcpadkjepchaaGreatDoor.X
def negs(l:List Int):Nat:=l.countP fun v=>decide (v<0)
structure BInv(n M:Nat)(p:List Int×List Int):Prop where
 len:p.1.length=n
 q: ∀k∈p.2,0≤k∧k<n∧0≤p.1.getD k.toNat 0
 bnd: ∀v∈p.1,-1≤v∧v≤p.2.length
 cn:p.2.length+negs p.1≤M
theorem getD_mem{l:List Int}{i:Nat}(h:i<l.length)(d:Int):l.getD i d∈l:=by
 simp only[List.getD,List.getElem?_eq_getElem h,Option.getD_some];exact List.getElem_mem h
end Go.Proofs.YtlkcpadkjepchaaGreatDoor.X
set_option maxHeartbeats 1000000
set_option maxRecDepth 8000
set_option linter.unusedSimpArgs false
set_option linter.unusedVariables false
open Nat renaming reduceBEq→N1,reduceAdd→N2,reduceSub→N3,reduceMul→N4,reduceEqDiff→N5,reduceLeDiff→N6,reduceLT→N7
open Int renaming reduceLE→I1,reduceLT→I2,reduceToNat→I3
namespace Go.Proofs.YtlkcpadkjepchaaGreatDoor.X
open Go
theorem brd_t{b:Brd}(g:brdOk b=true):(b.m.t.length:Int)=b.m.w*b.m.h:=by
 have:=brd_mp g
 simp only[mpOk,Bool.and_eq_true,decide_eq_true_eq] at this
 exact this.1.1.1.2
def forceU(b:Brd)(u:Un):Int:=(kindOf b u.k).st*u.st
theorem force_bnd{b:Brd}{u:Un}(g:brdOk b=true)(h:unOk b u=true):0≤forceU b u∧forceU b u≤36:=by
 simp only[unOk,inR,Bool.and_eq_true,decide_eq_true_eq] at h
 have hk:=kin_bnd (un_kind (b:=b) (u:=u) g (by simp only[inR,Bool.and_eq_true,decide_eq_true_eq];omega))
 simp only[forceU]
 constructor
 ·exact Int.mul_nonneg (by omega) (by omega)
 ·have h1:(kindOf b u.k).st*u.st≤(kindOf b u.k).st*4:=Int.mul_le_mul_of_nonneg_left (by omega) (by omega)
  omega
def ctl(b:Brd)(s:Sta)(i:Int):Int:=if 0≤owner s i then owner s i else if inZon b s 0 i then if inZon b s 1 i then 2 else 0 else if inZon b s 1 i then 1 else -1
end Go.Proofs.YtlkcpadkjepchaaGreatDoor.X
set_option maxHeartbeats 1000000
set_option maxRecDepth 8000
set_option linter.unusedSimpArgs false
set_option linter.unusedVariables false
open Nat renaming reduceBEq→N1,reduceAdd→N2,reduceSub→N3,reduceMul→N4,reduceEqDiff→N5,reduceLeDiff→N6,reduceLT→N7
open Int renaming reduceLE→I1,reduceLT→I2,reduceToNat→I3
namespace Go.Proofs.YtlkcpadkjepchaaGreatDoor.X
open Go
def redU(u v:Un):Prop:=v.sd=u.sd∧v.k=u.k∧0≤v.st∧v.st≤u.st∧(v.at_= -1∨v.at_=u.at_∧0<v.st)
def lose1(u:Un)(n:Int):Un:=⟨u.sd,u.k,(if u.st-n≤0 then -1 else u.at_),(if u.st-n≤0 then 0 else u.st-n)⟩
def loseK(us:List Un)(k:Nat)(n:Int):List Un:=us.set k (lose1 (us.getD k un0) n)
theorem loseK_len(us:List Un)(k:Nat)(n:Int):(loseK us k n).length=us.length:=by simp[loseK]
theorem redU_refl{b:Brd}{u:Un}(h:unOk b u=true):redU u u:=by
 simp only[unOk,placed,inR,Bool.and_eq_true,Bool.or_eq_true,decide_eq_true_eq] at h
 refine⟨rfl,rfl,h.1.2.1,Int.le_refl _,?_⟩
 rcases h.2 with h | h
 ·exact .inl h
 ·exact .inr ⟨rfl,h.1.1⟩
def RedL(us vs:List Un):Prop:=vs.length=us.length∧ ∀j (h:j<us.length) (h':j<vs.length),redU us[j] vs[j]
theorem red_cnt: ∀{us vs:List Un},RedL us vs→ ∀{a sd:Int},0≤a→cnt vs a sd≤cnt us a sd
 | [],[],_,a,sd,_=>Nat.le_refl _
 | [],v::vs,h,a,sd,_=>by have:=h.1;simp at this
 | u::us,[],h,a,sd,_=>by have:=h.1;simp at this
 | u::us,v::vs,h,a,sd,ha=>by
  have h0:redU u v:=h.2 0 (by simp) (by simp)
  have ih:=red_cnt (us:=us) (vs:=vs) ⟨by have:=h.1;simpa using this,fun j hj hj'=>h.2 (j+1) (by simpa using hj) (by simpa using hj')⟩ (a:=a) (sd:=sd) ha
  simp only[cnt,List.countP_cons] at ih⊢
  have:(if isAt a sd v=true then 1 else 0)≤(if isAt a sd u=true then(1:Nat) else 0):=by
   obtain⟨h1,h2,h3,h4,h5⟩:=h0
   by_cases hv:isAt a sd v=true
   ·have hu:isAt a sd u=true:=by
     simp only[isAt,Bool.and_eq_true,decide_eq_true_eq] at hv⊢
     rcases h5 with h5 | h5
     ·omega
     ·exact⟨by omega,by omega⟩
    rw[if_pos hv,if_pos hu];exact Nat.le_refl _
   ·rw[if_neg hv];exact Nat.zero_le _
  omega
theorem red_ok{b:Brd}{s:Sta}{vs:List Un}(h:staOk b s=true)(hr:RedL s.us vs):staOk b ⟨s.t,s.w,vs⟩=true:=by
 have hun:=sta_all h
 simp only[staOk,staOk0,Bool.and_eq_true,decide_eq_true_eq] at h⊢
 refine⟨h.1,⟨⟨h.2.1.1.1,by rw[hr.1];exact h.2.1.1.2⟩,?_⟩,?_⟩
 ·refine List.all_eq_true.2 fun v hv=>?_
  obtain⟨j,hj,rfl⟩:=List.getElem_of_mem hv
  have hj':j<s.us.length:=by rw[←hr.1];exact hj
  have h0:=List.all_eq_true.1 hun _ (List.getElem_mem hj')
  obtain⟨h1,h2,h3,h4,h5⟩:=hr.2 j hj' hj
  simp only[unOk,placed,inR,Bool.and_eq_true,Bool.or_eq_true,decide_eq_true_eq] at h0⊢
  rw[h1,h2]
  refine⟨⟨⟨h0.1.1.1,h0.1.1.2⟩,h3,by omega⟩,?_⟩
  rcases h5 with h5 | h5
  ·exact .inl h5
  ·rw[h5.1]
   rcases h0.2 with h6 | h6
   ·exact .inl h6
   ·exact .inr ⟨⟨h5.2,h6.1.2⟩,h6.2⟩
 ·refine List.all_eq_true.2 fun v hv=>?_
  obtain⟨j,hj,rfl⟩:=List.getElem_of_mem hv
  have hj':j<s.us.length:=by rw[←hr.1];exact hj
  have h0:=List.all_eq_true.1 h.2.2 _ (List.getElem_mem hj')
  obtain⟨h1,h2,h3,h4,h5⟩:=hr.2 j hj' hj
  simp only[stackOk,Bool.not_eq_true',Bool.and_eq_false_iff,Bool.or_eq_false_iff,decide_eq_false_iff_not] at h0⊢
  by_cases ha:0≤vs[j].at_
  ·rcases h5 with h5 | h5
   ·omega
   ·rcases h0 with h0 | h0
    ·omega
    ·refine .inr ?_
     have r1:=red_cnt hr (a:=vs[j].at_) (sd:=1-vs[j].sd) ha
     have r2:=red_cnt hr (a:=vs[j].at_) (sd:=vs[j].sd) ha
     rw[←h5.1,←h1] at h0
     omega
  ·exact .inl ha
end Go.Proofs.YtlkcpadkjepchaaGreatDoor.X
set_option maxRecDepth 8000
set_option linter.unusedSimpArgs false
set_option linter.unusedVariables false
open Nat renaming reduceBEq→N1,reduceAdd→N2,reduceSub→N3,reduceMul→N4,reduceEqDiff→N5,reduceLeDiff→N6,reduceLT→N7
open Int renaming reduceLE→I1,reduceLT→I2,reduceToNat→I3
namespace Go.Proofs.YtlkcpadkjepchaaGreatDoor.X
structure Way where
 cs:Nat→Nat→Int
 sr:Nat→Nat→Nat
 ds:Nat→Nat→Nat
structure WayOk(n:Nat)(w:Way):Prop where
 ok: ∀k d,k<n→d<6→w.cs k d≠0→(1≤w.cs k d∧w.cs k d≤20)∧w.sr k d<n∧w.ds k d<n
structure IsFar(n:Nat)(w:Way)(i:Nat)(o:List Int):Prop where
 len:o.length=n
 at_:o.getD i 0=0
 lo: ∀v∈o,-1≤v
 rel: ∀k d,k<n→d<6→w.cs k d≠0→0≤o.getD (w.sr k d) 0→0≤o.getD (w.ds k d) 0∧o.getD (w.ds k d) 0≤o.getD (w.sr k d) 0+w.cs k d
 tig: ∀y,y<n→0≤o.getD y 0→y≠i→ ∃k d,k<n∧d<6∧w.cs k d≠0∧w.ds k d=y∧0≤o.getD (w.sr k d) 0∧o.getD (w.sr k d) 0+w.cs k d≤o.getD y 0
structure RInv(n:Nat)(w:Way)(i:Nat)(o:List Int):Prop where
 len:o.length=n
 at_:o.getD i 0=0
 lo: ∀v∈o,-1≤v∧v≤20*((n:Int)-negs o)
 tig: ∀y,y<n→0≤o.getD y 0→y≠i→ ∃k d,k<n∧d<6∧w.cs k d≠0∧w.ds k d=y∧0≤o.getD (w.sr k d) 0∧o.getD (w.sr k d) 0+w.cs k d≤o.getD y 0
structure DInv(n:Nat)(w:Way)(i:Nat)(o:List Int)(dn:List Bool):Prop where
 r:RInv n w i o
 len:dn.length=n
 d1: ∀x y,x<n→y<n→dn.getD x false=true→dn.getD y false=false→0≤o.getD y 0→o.getD x 0≤o.getD y 0
 d0: ∀x,x<n→dn.getD x false=true→0≤o.getD x 0
 d2: ∀x d,x<n→d<6→dn.getD x false=true→w.cs x d≠0→0≤o.getD (w.ds x d) 0∧o.getD (w.ds x d) 0≤o.getD x 0+w.cs x d
end Go.Proofs.YtlkcpadkjepchaaGreatDoor.X
set_option maxHeartbeats 1000000
set_option maxRecDepth 8000
set_option linter.unusedSimpArgs false
set_option linter.unusedVariables false
open Nat renaming reduceBEq→N1,reduceAdd→N2,reduceSub→N3,reduceMul→N4,reduceEqDiff→N5,reduceLeDiff→N6,reduceLT→N7
open Int renaming reduceLE→I1,reduceLT→I2,reduceToNat→I3
namespace Go.Proofs.YtlkcpadkjepchaaGreatDoor.X
open Go
def wRoad(w:Int):Int:=if 0<w then w-1 else w
def stepM(b:Brd)(kd w i:Int)(d:Nat):Int:=
 if decide (nextM b.m i d<0)||decide (costAt b kd (nextM b.m i d)=0) then 0
 else if hasI b.m.ro (edgeM b.m i d) then b.r.road+wRoad w
 else costAt b kd (nextM b.m i d)+w+(if hasI b.m.ri (edgeM b.m i d) then b.r.river else 0)
theorem cost_bnd{b:Brd}{kd i:Int}(h:kindAsk b kd=true)(hi:0≤i∧i<b.m.w*b.m.h):0≤costAt b kd i∧costAt b kd i≤9:=by
 have hk:=kind_at h
 have g:brdOk b=true:=by simp only[kindAsk,Bool.and_eq_true] at h;exact h.1
 have:=cost_get (b:=b) (k:=kd.toNat) (i:=i) g (by omega) (by simp only[inR,Bool.and_eq_true,decide_eq_true_eq];omega)
 rw[show((kd.toNat:Nat):Int)=kd by omega] at this
 exact⟨this.2.1,this.2.2.1⟩
theorem step_bnd{b:Brd}{kd w i:Int}{d:Nat}(h:kindAsk b kd=true)(hw:0≤w∧w≤2):0≤stepM b kd w i d∧stepM b kd w i d≤20∧(stepM b kd w i d≠0→0≤nextM b.m i d∧nextM b.m i d<b.m.w*b.m.h):=by
 have g:brdOk b=true:=by simp only[kindAsk,Bool.and_eq_true] at h;exact h.1
 have hm:=mp_wh (brd_mp g)
 have hr:=brd_ru g
 simp only[rulOk,tailOk,inR,Bool.and_eq_true,decide_eq_true_eq] at hr
 have hn:=nextM_bnd (m:=b.m) (i:=i) (d:=d) hm.1 hm.2
 simp only[stepM]
 by_cases g1:(decide (nextM b.m i d<0)||decide (costAt b kd (nextM b.m i d)=0))=true
 ·rw[if_pos g1];omega
 rw[if_neg g1]
 simp only[Bool.or_eq_true,decide_eq_true_eq,not_or] at g1
 have hc:=cost_bnd h (i:=nextM b.m i d) (by omega)
 refine⟨?_,?_,fun _=>by omega⟩
 ·simp only[wRoad];split
  ·split<;>omega
  ·split<;>omega
 ·simp only[wRoad];split
  ·split<;>omega
  ·split<;>omega
inductive Rch(b:Brd)(kd w:Int)(i:Nat):Nat→Prop where
 | rfl:Rch b kd w i i
 | step {x d:Nat}:Rch b kd w i x→x<b.m.t.length→d<6→stepM b kd w x d≠0→Rch b kd w i (nextM b.m x d).toNat
end Go.Proofs.YtlkcpadkjepchaaGreatDoor.X
set_option maxHeartbeats 4000000
set_option maxRecDepth 8000
set_option linter.unusedSimpArgs false
set_option linter.unusedVariables false
open Nat renaming reduceBEq→N1,reduceAdd→N2,reduceSub→N3,reduceMul→N4,reduceEqDiff→N5,reduceLeDiff→N6,reduceLT→N7
open Int renaming reduceLE→I1,reduceLT→I2,reduceToNat→I3
namespace Go.Proofs.YtlkcpadkjepchaaGreatDoor.X
open Go
attribute [local irreducible] Ev
def hashM(l:List Int):Int:=IntKind.i64.wrap (IntKind.i64.wrap ((mixL l).1*2^(min 31 IntKind.i64.bits))+(mixL l).2)
section
variable{C:CT}(hC:Closed Tryz.prog G1 md0 C)
include hC
theorem t144(l:List Int)(hl:l.length<2^50):Ev C 144 [.sl (ints l)] (.int .i64 (hashM l)):=by
 have c1:=t143 hC l hl
 simp only[hashM]
 refine rT hC Q144 ?_
 simp only[c144,push_cast,↓J1,↓J2,N1,N2,N3,reduceCtorEq,N4,N5,N6,reduceIte,N7,I1,I2,I3]
 refine⟨_,c1,?_⟩
 simp only[push_cast,↓J1,↓J2,N1,N2,N3,reduceCtorEq,N4,N5,N6,reduceIte,N7,I1,I2,I3]
 all_goals first | done | rfl | (and_intros<;>first | omega | rfl)
theorem t171(l:List Int)(hl:l.length<2^50):Ev C 171 [.sl (ints l)] (.int .i64 (hashM l)):=by
 have c1:=t170 hC l hl
 simp only[hashM]
 refine rT hC Q171 ?_
 simp only[c171,push_cast,↓J1,↓J2,N1,N2,N3,reduceCtorEq,N4,N5,N6,reduceIte,N7,I1,I2,I3]
 refine⟨_,c1,?_⟩
 simp only[push_cast,↓J1,↓J2,N1,N2,N3,reduceCtorEq,N4,N5,N6,reduceIte,N7,I1,I2,I3]
 all_goals first | done | rfl | (and_intros<;>first | omega | rfl)
end
end Go.Proofs.YtlkcpadkjepchaaGreatDoor.X
set_option maxHeartbeats 1000000
set_option maxRecDepth 8000
set_option linter.unusedSimpArgs false
set_option linter.unusedVariables false
open Nat renaming reduceBEq→N1,reduceAdd→N2,reduceSub→N3,reduceMul→N4,reduceEqDiff→N5,reduceLeDiff→N6,reduceLT→N7
open Int renaming reduceLE→I1,reduceLT→I2,reduceToNat→I3
namespace Go.Proofs.YtlkcpadkjepchaaGreatDoor.X
open Go
def goU(us:List Un)(k:Nat)(i:Int):List Un:=us.set k ⟨(us.getD k un0).sd,(us.getD k un0).k,i,(us.getD k un0).st⟩
def dirOn(m:Mp)(i k:Int):Int:=match first6 (fun d=>decide (nextM m i d=k)) with
 | some d=>(d:Int)
 | none=> -1
def hasA(l:List Od)(k i:Int):Bool:=l.any fun y=>decide (y.a=k)&&decide (y.b=i)
def attP(b:Brd)(s:Sta)(l:List Od)(i:Int)(k:Nat):Bool:=!decide ((unOf s k).sd=owner s i)&&(decide (0≤(unOf s k).at_)&&decide (0≤dirOn b.m i (unOf s k).at_))&&hasA l k i
def attT(b:Brd)(s:Sta)(l:List Od)(i:Int)(n:Nat):List Int:=((List.range n).filter (attP b s l i)).map fun k:Nat=>(k:Int)
def att(b:Brd)(s:Sta)(l:List Od)(i:Int):List Int:=attT b s l i s.us.length
def dfs(s:Sta)(i:Int):List Int:=fil (inHex i) s.us s.us.length
structure Bt where
 at_:Int
 ak:List Int
 df:List Int
def isBt(b:Brd)(s:Sta)(l:List Od)(i:Nat):Bool:=!(dfs s i).isEmpty&&!(att b s l i).isEmpty
def btAt(b:Brd)(s:Sta)(l:List Od)(i:Int):Bt:=⟨i,att b s l i,dfs s i⟩
def batT(b:Brd)(s:Sta)(l:List Od)(n:Nat):List Bt:=((List.range n).filter (isBt b s l)).map fun i:Nat=>btAt b s l i
def bat(b:Brd)(s:Sta)(l:List Od):List Bt:=batT b s l b.m.t.length
def nextB(b:Brd)(s:Sta)(l:List Od)(last:Int):Option Bt:=(bat b s l).find? fun y=>decide (last<y.at_)
def atkF(b:Brd)(i:Int)(u:Un):Int:=if freeE b.m (edgeM b.m i (dirOn b.m i u.at_).toNat) then forceU b u else(forceU b u).tdiv 2
def sumK(f:Un→Int)(s:Sta)(l:List Int):Int:=(l.map fun k=>f (unOf s k)).sum
def hasD(b:Brd)(s:Sta)(y:Bt)(d:Nat):Bool:=y.ak.any fun k=>decide (dirOn b.m y.at_ (unOf s k).at_=(d:Int))
def oppo(b:Brd)(s:Sta)(y:Bt):Bool:=hasD b s y 0&&hasD b s y 3||(hasD b s y 1&&hasD b s y 4||hasD b s y 2&&hasD b s y 5)
def shiftB(b:Brd)(s:Sta)(y:Bt):Int:=(if oppo b s y then 1-(terAt b y.at_).s else-(terAt b y.at_).s)-(if s.w=2 then 1 else 0)
def colT(t:Ct)(a d:Int)(n:Nat):Int:=(List.range n).foldl (fun c i=>if d*(t.cs.getD i od0).a≤a*(t.cs.getD i od0).b then(i:Int) else c) 0
def colS(t:Ct)(c sh:Int):Int:=if c+sh<0 then 0 else if(t.cs.length:Int)-1<c+sh then t.cs.length-1 else c+sh
def colB(b:Brd)(s:Sta)(t:Ct)(y:Bt):Int:=colS t (colT t (sumK (atkF b y.at_) s y.ak) (sumK (forceU b) s y.df) t.cs.length) (shiftB b s y)
def bytI(s:ByteArray):List Int:=(List.range s.size).map fun i:Nat=>bt s i
def childM(seed:Int)(s:ByteArray):Int:=hashM (seed::bytI s)
def dieM(seed i:Int):Int:=1+(mixL [seed,i]).1.tmod 6
def sBat:ByteArray:=⟨⟨[98,97,116,116,108,101]⟩⟩
def mostU(s:Sta)(l:List Int):Int:=l.foldl (fun c k=>if(unOf s c).st<(unOf s k).st then k else c) (l.getD 0 0)
def goneT:List Int→List Un→List Un
 | [],us=>us
 | k::l,us=>goneT l (loseK us k.toNat (us.getD k.toNat un0).st)
def aplR(s:Sta)(y:Bt)(r:Int):Sta:=
 let u1:=if r=2∨r=7 then loseK s.us (mostU s y.df).toNat 1 else s.us
 let u2:=if r=5∨r=7 then loseK u1 (mostU s y.ak).toNat 1 else u1
 ⟨s.t,s.w,goneT (if r=3 then y.df else if r=6 then y.ak else[]) u2⟩
def dHH(b:Brd)(i k:Int):Int:=distI (i.tmod b.m.w) (i.tdiv b.m.w) (k.tmod b.m.w) (k.tdiv b.m.w)
def backB(b:Brd)(s:Sta)(u to:Int):Bool:=decide (0≤to)&&(!decide (costAt b (unOf s u).k to=0)&&(!decide (owner s to=1-(unOf s u).sd)&&((dfs s to).any (fun k=>!decide (k=u))||!inZon b s (1-(unOf s u).sd) to)))
def roomR(b:Brd)(s:Sta)(sd i:Int):Int:=if owner s i=1-sd then 0 else b.r.stack-(dfs s i).length
def retP(b:Brd)(s:Sta)(u:Int)(d:Nat):Bool:=backB b s u (nextM b.m (unOf s u).at_ d)&&(decide (dHH b (unOf s u).at_ (nextM b.m (unOf s u).at_ d)=dHH b (unOf s u).at_ (unOf s u).at_+1)&&decide (0<roomR b s (unOf s u).sd (nextM b.m (unOf s u).at_ d)))
def retL(b:Brd)(s:Sta)(u:Int)(n:Nat):List Int:=((List.range n).filter (retP b s u)).map fun d:Nat=>(d:Int)
def retU(b:Brd)(s:Sta)(u:Int):Sta:=match retL b s u 6 with
 | []=>⟨s.t,s.w,loseK s.us u.toNat 1⟩
 | d::_=>⟨s.t,s.w,goU s.us u.toNat (nextM b.m (unOf s u).at_ d)⟩
def retB(b:Brd)(s:Sta)(u:Int):Bool:=!(retL b s u 6).isEmpty
def retA(b:Brd):List Int→Sta×Int→Sta×Int
 | [],p=>p
 | u::l,p=>retA b l (retU b p.1 u,if retB b p.1 u then p.2+1 else p.2)
def canAd(b:Brd)(s:Sta)(u:Un)(i:Int):Bool:=decide (0≤dirOn b.m u.at_ i)&&(decide (0<stepM b u.k s.w u.at_ (dirOn b.m u.at_ i).toNat)&&decide (0<roomR b s u.sd i))
def advU(b:Brd)(s:Sta)(k i:Int):Sta:=if canAd b s (unOf s k) i then⟨s.t,s.w,goU s.us k.toNat i⟩ else s
def afterR(b:Brd)(s:Sta)(y:Bt)(r:Int):Sta:=if r=1 then(retA b y.df (aplR s y r,0)).1 else if r=4 then(retA b y.ak (aplR s y r,0)).1 else aplR s y r
def onL(s:Sta)(l:List Int):List Int:=l.filter fun k=>decide (0≤(unOf s k).at_)
def afterB(b:Brd)(s:Sta)(y:Bt)(r:Int):Sta:=
 if owner (afterR b s y r) y.at_=(unOf s (y.df.getD 0 0)).sd then afterR b s y r
 else match onL (afterR b s y r) y.ak with
 | []=>afterR b s y r
 | k::_=>advU b (afterR b s y r) k y.at_
structure Fo where
 a:Int
 r:Int
 x:Int
 deriving DecidableEq
def rollB(x:Se)(seed:Int)(k:Nat):Int:=if x.t.d=1 then dieM (childM seed sBat) (2*(k:Int)) else dieM (childM seed sBat) (2*(k:Int))+dieM (childM seed sBat) (2*(k:Int)+1)
def resB(x:Se)(s:Sta)(y:Bt)(roll:Int):Int:=(x.t.rs.getD (roll-x.t.d).toNat []).getD (colB x.b s x.t y).toNat 0
def foB(x:Se)(s:Sta)(y:Bt)(seed:Int)(k:Nat):Fo:=⟨y.at_,rollB x seed k,resB x s y (rollB x seed k)⟩
def fgt(x:Se)(l:List Od)(seed:Int):Nat→Sta→Int→List Fo→Sta×List Fo
 | 0,s,_,o=>(s,o)
 | n+1,s,last,o=>match nextB x.b s l last with
  | none=>(s,o)
  | some y=>fgt x l seed n (afterB x.b s y (resB x s y (rollB x seed o.length))) y.at_ (o++[foB x s y seed o.length])
theorem cnt_set{us:List Un}{k:Nat}(h:k<us.length)(v:Un)(a sd:Int):cnt (us.set k v) a sd+(if isAt a sd us[k] then 1 else 0)=cnt us a sd+if isAt a sd v then 1 else 0:=by
 induction us generalizing k with
 | nil=>simp at h
 | cons u us ih=>
  cases k with
  | zero=>simp only[cnt,List.set_cons_zero,List.countP_cons,List.getElem_cons_zero];omega
  | succ k=>
   simp only[List.length_cons] at h
   have:=ih (k:=k) (by omega)
   simp only[cnt,List.set_cons_succ,List.countP_cons,List.getElem_cons_succ] at this⊢
   omega
theorem un_at{s:Sta}{k:Nat}(hk:k<s.us.length):unOf s k=s.us[k]:=by simp[unOf,List.getD,hk]
theorem goU_len(us:List Un)(k:Nat)(i:Int):(goU us k i).length=us.length:=by simp[goU]
theorem un_go{b:Brd}{u:Un}{i:Int}(h:unOk b u=true)(ha:0≤u.at_)(hi:inR 0 (b.m.w*b.m.h-1) i=true)(hc:0<costAt b u.k i):unOk b ⟨u.sd,u.k,i,u.st⟩=true:=by
 simp only[unOk,placed,Bool.and_eq_true,Bool.or_eq_true,decide_eq_true_eq] at h⊢
 refine⟨h.1,.inr ⟨⟨?_,hi⟩,hc⟩⟩
 rcases h.2 with h | h
 ·omega
 ·exact h.1.1
theorem go_ok{b:Brd}{s:Sta}{k:Nat}{i:Int}(h:staOk b s=true)(hk:k<s.us.length)(ha:0≤(unOf s k).at_)(hi:inR 0 (b.m.w*b.m.h-1) i=true)(hc:0<costAt b (unOf s k).k i)(ho:owner s i≠1-(unOf s k).sd)(hn:(cnt s.us i (unOf s k).sd:Int)<b.r.stack):staOk b ⟨s.t,s.w,goU s.us k i⟩=true:=by
 have hun:=sta_all h
 have hu:=List.all_eq_true.1 hun _ (List.getElem_mem hk)
 have hall:s.us.all (stackOk b s.us)=true:=by simp only[staOk,staOk0,Bool.and_eq_true] at h;exact h.2.2
 have eg:s.us.getD k un0=s.us[k]:=by simp[List.getD,hk]
 rw[un_at hk] at ha hc ho hn
 have hsd:=un_sd hu
 have hi0:0≤i:=by simp only[inR,Bool.and_eq_true,decide_eq_true_eq] at hi;omega
 have h0:=owner_cnt h hsd hi0 ho
 have hnew:=un_go hu ha hi hc
 have key:=fun a sd=>cnt_set hk ⟨s.us[k].sd,s.us[k].k,i,s.us[k].st⟩ a sd
 simp only[goU,eg]
 simp only[staOk,staOk0,Bool.and_eq_true,decide_eq_true_eq,List.length_set] at h⊢
 refine⟨h.1,⟨h.2.1.1,?_⟩,?_⟩
 ·refine List.all_eq_true.2 fun v hv=>?_
  rcases List.mem_or_eq_of_mem_set hv with hv | rfl
  ·exact List.all_eq_true.1 hun v hv
  ·exact hnew
 ·refine List.all_eq_true.2 fun v hv=>?_
  have hvi:v.at_=i→0≤v.at_→v.sd=s.us[k].sd→stackOk b (s.us.set k ⟨s.us[k].sd,s.us[k].k,i,s.us[k].st⟩) v=true:=by
   intro e1 _ e2
   have k1:=key i (1-s.us[k].sd)
   have k2:=key i s.us[k].sd
   simp only[isAt,decide_true,Bool.true_and,decide_eq_true_eq,if_true] at k1 k2
   rw[if_neg (show¬s.us[k].sd=1-s.us[k].sd by omega),h0] at k1
   simp only[stackOk,e1,e2,Bool.not_eq_true',Bool.and_eq_false_iff,Bool.or_eq_false_iff,decide_eq_false_iff_not]
   refine .inr ⟨by omega,by omega⟩
  rcases List.mem_or_eq_of_mem_set hv with hv | rfl
  ·have hv1:=List.all_eq_true.1 hall v hv
   have hv2:=un_sd (List.all_eq_true.1 hun v hv)
   by_cases h1:0≤v.at_
   ·by_cases h2:v.at_=i
    ·refine hvi h2 h1 ?_
     have hp:0<cnt s.us i v.sd:=List.countP_pos_iff.2 ⟨v,hv,by simp only[isAt,Bool.and_eq_true,decide_eq_true_eq];exact⟨h2,trivial⟩⟩
     by_cases h3:v.sd=s.us[k].sd
     ·exact h3
     ·rw[show v.sd=1-s.us[k].sd by omega] at hp;omega
    ·have k1:=key v.at_ (1-v.sd)
     have k2:=key v.at_ v.sd
     have hne: ∀sd,isAt v.at_ sd ⟨s.us[k].sd,s.us[k].k,i,s.us[k].st⟩=false:=by
      intro sd;simp only[isAt,Bool.and_eq_false_iff,decide_eq_false_iff_not];exact .inl fun e=>h2 e.symm
     simp only[hne,Bool.false_eq_true,if_false] at k1 k2
     simp only[stackOk,Bool.not_eq_true',Bool.and_eq_false_iff,Bool.or_eq_false_iff,decide_eq_false_iff_not] at hv1⊢
     rcases hv1 with hv1 | hv1
     ·exact .inl hv1
     ·exact .inr ⟨by omega,by omega⟩
   ·simp only[stackOk,Bool.not_eq_true',Bool.and_eq_false_iff,Bool.or_eq_false_iff,decide_eq_false_iff_not]
    exact .inl h1
  ·exact hvi rfl hi0 rfl
theorem redU_loseN{u v:Un}(n:Int)(hn:0≤n)(h:redU u v):redU u (lose1 v n):=by
 obtain⟨h1,h2,h3,h4,h5⟩:=h
 refine⟨h1,h2,?_,?_,?_⟩
 ·simp only[lose1];split<;>omega
 ·simp only[lose1];split<;>omega
 ·simp only[lose1]
  split
  ·exact .inl rfl
  ·rcases h5 with h5 | h5
   ·exact .inl h5
   ·exact .inr ⟨h5.1,by omega⟩
theorem red_loseN{us vs:List Un}(h:RedL us vs)(k:Nat)(n:Int)(hn:0≤n):RedL us (loseK vs k n):=by
 refine⟨by rw[loseK_len];exact h.1,fun j hj hj'=>?_⟩
 have hv:j<vs.length:=by rw[h.1];exact hj
 simp only[loseK,List.getElem_set]
 split
 ·rename_i e
  subst e
  have:=redU_loseN n hn (h.2 k hj hv)
  simpa only[List.getD,List.getElem?_eq_getElem hv,Option.getD_some] using this
 ·exact h.2 j hj hv
theorem red_self{b:Brd}{s:Sta}(h:staOk b s=true):RedL s.us s.us:=⟨rfl,fun j hj hj'=>redU_refl (List.all_eq_true.1 (sta_all h) _ (List.getElem_mem hj))⟩
theorem red_st{us vs:List Un}(h:RedL us vs)(k:Nat):0≤(vs.getD k un0).st:=by
 by_cases hk:k<vs.length
 ·have:=(h.2 k (by rw[←h.1];exact hk) hk).2.2.1
  simpa only[List.getD,List.getElem?_eq_getElem hk,Option.getD_some] using this
 ·simp[List.getD,List.getElem?_eq_none (Nat.le_of_not_lt hk),un0]
theorem red_gone{us:List Un}: ∀{l:List Int} {vs:List Un},RedL us vs→RedL us (goneT l vs)
 | [],vs,h=>h
 | k::l,vs,h=>by simp only[goneT];exact red_gone (red_loseN h _ _ (red_st h _))
theorem apl_red{b:Brd}{s:Sta}(h:staOk b s=true)(y:Bt)(r:Int):RedL s.us (aplR s y r).us:=by
 simp only[aplR]
 refine red_gone ?_
 split<;>split<;>first
  | exact red_self h
  | exact red_loseN (red_self h) _ 1 (by omega)
  | exact red_loseN (red_loseN (red_self h) _ 1 (by omega)) _ 1 (by omega)
theorem apl_ok{b:Brd}{s:Sta}(h:staOk b s=true)(y:Bt)(r:Int):staOk b (aplR s y r)=true:=red_ok h (apl_red h y r)
theorem apl_len(s:Sta)(y:Bt)(r:Int){b:Brd}(h:staOk b s=true):(aplR s y r).us.length=s.us.length:=(apl_red h y r).1
theorem lose_ok{b:Brd}{s:Sta}(h:staOk b s=true)(k:Nat):staOk b ⟨s.t,s.w,loseK s.us k 1⟩=true:=red_ok h (red_loseN (red_self h) k 1 (by omega))
theorem dir_spec{m:Mp}{i k:Int}(h:0≤dirOn m i k):(dirOn m i k).toNat<6∧nextM m i (dirOn m i k).toNat=k:=by
 simp only[dirOn] at h⊢
 split
 ·rename_i d hd
  simp only[first6,List.find?_range_eq_some,decide_eq_true_eq] at hd
  exact⟨by simpa using hd.2.1,by simpa using hd.1⟩
 ·rename_i hd;rw[hd] at h;simp at h
theorem dfs_cnt{b:Brd}{s:Sta}{sd i:Int}(h:staOk b s=true)(hs:sd=0∨sd=1)(hi:0≤i)(ho:owner s i≠1-sd):(dfs s i).length=cnt s.us i sd:=own_cnt h hs hi ho
theorem room_cnt{b:Brd}{s:Sta}{sd i:Int}(h:staOk b s=true)(hs:sd=0∨sd=1)(hi:0≤i)(hr:0<roomR b s sd i):owner s i≠1-sd∧(cnt s.us i sd:Int)<b.r.stack:=by
 simp only[roomR] at hr
 split at hr
 ·omega
 ·rename_i ho
  refine⟨ho,?_⟩
  rw[dfs_cnt h hs hi ho] at hr;omega
theorem retL_mem{b:Brd}{s:Sta}{u:Int}{n:Nat}{d:Int}(h:d∈retL b s u n): ∃e:Nat,d=e∧e<n∧retP b s u e=true:=by
 simp only[retL,List.mem_map,List.mem_filter,List.mem_range] at h
 obtain⟨e,⟨h1,h2⟩,rfl⟩:=h
 exact⟨e,rfl,h1,h2⟩
theorem retP_go{b:Brd}{s:Sta}{k d:Nat}(h:staOk b s=true)(hk:k<s.us.length)(ha:0≤(unOf s k).at_)(hp:retP b s k d=true):staOk b ⟨s.t,s.w,goU s.us k (nextM b.m (unOf s k).at_ d)⟩=true:=by
 have hu:=List.all_eq_true.1 (sta_all h) _ (List.getElem_mem hk)
 have hm:=mp_wh (brd_mp (sta_brd h))
 have hb:=nextM_bnd (m:=b.m) (i:=(unOf s k).at_) (d:=d) hm.1 hm.2
 simp only[retP,backB,Bool.and_eq_true,Bool.not_eq_true',decide_eq_true_eq,decide_eq_false_iff_not] at hp
 obtain⟨⟨h1,h2,h3,_⟩,_,h4⟩:=hp
 have hsd:(unOf s k).sd=0∨(unOf s k).sd=1:=by rw[un_at hk];exact un_sd hu
 have hr:=room_cnt h hsd h1 h4
 have hi:inR 0 (b.m.w*b.m.h-1) (nextM b.m (unOf s k).at_ d)=true:=by simp only[inR,Bool.and_eq_true,decide_eq_true_eq];omega
 have hkd:kindAsk b (unOf s k).k=true:=un_kind (sta_brd h) (by rw[un_at hk];simp only[unOk,Bool.and_eq_true] at hu;exact hu.1.1.2)
 have hc:=cost_bnd hkd (i:=nextM b.m (unOf s k).at_ d) ⟨h1,hb.2⟩
 exact go_ok h hk ha hi (by omega) hr.1 hr.2
theorem retU_ok{b:Brd}{s:Sta}{k:Nat}(h:staOk b s=true)(hk:k<s.us.length)(ha:0≤(unOf s k).at_):staOk b (retU b s k)=true∧(retU b s k).us.length=s.us.length∧ ∀j:Nat,j≠k→unOf (retU b s k) j=unOf s j:=by
 simp only[retU]
 split
 ·refine⟨lose_ok h _,loseK_len _ _ _,fun j hj=>?_⟩
  simp only[unOf,loseK,List.getD,Int.toNat_natCast,List.getElem?_set_ne (fun e=>hj (Eq.symm e))]
 ·rename_i d l e
  obtain⟨d',rfl,_,hp⟩:=retL_mem (d:=d) (by rw[e];simp)
  refine⟨retP_go h hk ha hp,goU_len _ _ _,fun j hj=>?_⟩
  simp only[unOf,goU,List.getD,Int.toNat_natCast,List.getElem?_set_ne (fun e=>hj (Eq.symm e))]
structure OnL(s:Sta)(l:List Int):Prop where
 inn: ∀k∈l,0≤k∧k<(s.us.length:Int)∧0≤(unOf s k).at_
 nd:l.Nodup
theorem OnL.next{b:Brd}{s:Sta}{k:Int}{l:List Int}(h:staOk b s=true)(ho:OnL s (k::l)):staOk b (retU b s k)=true∧(retU b s k).us.length=s.us.length∧OnL (retU b s k) l:=by
 have hk:=ho.inn k (by simp)
 obtain⟨k,rfl⟩: ∃m:Nat,k=m:=⟨k.toNat,by omega⟩
 have h1:=retU_ok h (k:=k) (by omega) hk.2.2
 refine⟨h1.1,h1.2.1,fun j hj=>?_,(List.nodup_cons.1 ho.nd).2⟩
 have h2:=ho.inn j (by simp[hj])
 obtain⟨j,rfl⟩: ∃m:Nat,j=m:=⟨j.toNat,by omega⟩
 have hne:j≠k:=by rintro rfl;exact(List.nodup_cons.1 ho.nd).1 hj
 rw[h1.2.1,h1.2.2 j hne];exact h2
theorem retA_ok{b:Brd}: ∀{l:List Int} {p:Sta×Int},staOk b p.1=true→OnL p.1 l→staOk b (retA b l p).1=true∧(retA b l p).1.us.length=p.1.us.length
 | [],p,h,_=>⟨h,rfl⟩
 | u::l,p,h,ho=>by
  have h1:=OnL.next h ho
  simp only[retA]
  have h2:=retA_ok (l:=l) (p:=(retU b p.1 u,if retB b p.1 u then p.2+1 else p.2)) h1.1 h1.2.2
  exact⟨h2.1,h2.2.trans h1.2.1⟩
end Go.Proofs.YtlkcpadkjepchaaGreatDoor.X
set_option maxHeartbeats 1000000
set_option maxRecDepth 8000
set_option linter.unusedSimpArgs false
set_option linter.unusedVariables false
open Nat renaming reduceBEq→N1,reduceAdd→N2,reduceSub→N3,reduceMul→N4,reduceEqDiff→N5,reduceLeDiff→N6,reduceLT→N7
open Int renaming reduceLE→I1,reduceLT→I2,reduceToNat→I3
namespace Go.Proofs.YtlkcpadkjepchaaGreatDoor.X
open Go
theorem rng_pw(p:Nat→Bool)(n:Nat):(((List.range n).filter p).map fun k:Nat=>(k:Int)).Pairwise (· < ·):=by
 rw[List.pairwise_map]
 exact(List.Pairwise.filter p List.pairwise_lt_range).imp fun h=>by omega
theorem rng_mem{p:Nat→Bool}{n:Nat}{x:Int}(h:x∈((List.range n).filter p).map fun k:Nat=>(k:Int)): ∃k:Nat,x=k∧k<n∧p k=true:=by
 simp only[List.mem_map,List.mem_filter,List.mem_range] at h
 obtain⟨e,⟨h1,h2⟩,rfl⟩:=h
 exact⟨e,rfl,h1,h2⟩
theorem rng_le(p:Nat→Bool)(n:Nat):(((List.range n).filter p).map fun k:Nat=>(k:Int)).length≤n:=by
 rw[List.length_map];exact Nat.le_trans (List.length_filter_le _ _) (by simp)
theorem pw_nd{l:List Int}(h:l.Pairwise (· < ·)):l.Nodup:=h.imp fun h e=>by omega
theorem owner_cnt0{b:Brd}{s:Sta}{sd i:Int}(h:staOk b s=true)(hs:sd=0∨sd=1)(hi:0≤i):decide (cnt s.us i sd=0)=!decide (owner s i=sd):=by
 rw[Bool.eq_iff_iff]
 simp only[decide_eq_true_eq,Bool.not_eq_true',decide_eq_false_iff_not]
 constructor
 ·intro h0 ho
  simp only[owner] at ho
  split at ho
  ·rename_i v hv
   have hv1:=List.mem_of_find?_eq_some hv
   have hv2:=List.find?_some hv
   have:0<cnt s.us i sd:=List.countP_pos_iff.2 ⟨v,hv1,by simp only[inHex,decide_eq_true_eq] at hv2;simp only[isAt,Bool.and_eq_true,decide_eq_true_eq];exact⟨hv2,ho⟩⟩
   omega
  ·omega
 ·intro ho
  have:=owner_cnt (sd:=1-sd) (i:=i) h (by omega) hi (by omega)
  rwa [show 1-(1-sd)=sd by omega] at this
theorem dfs_mem{s:Sta}{i k:Int}(h:k∈dfs s i): ∃j:Nat,k=j∧j<s.us.length∧(unOf s j).at_=i:=by
 obtain⟨j,hj,rfl,_,hp⟩:=fil_mem h
 refine⟨j,rfl,hj,?_⟩
 rw[un_at hj];simpa only[inHex,decide_eq_true_eq] using hp
theorem dfs_own{b:Brd}{s:Sta}{i:Int}{j:Nat}(h:staOk b s=true)(hi:0≤i)(hj:j<s.us.length)(ha:(unOf s j).at_=i):(unOf s j).sd=owner s i:=by
 rw[un_at hj] at ha⊢
 have hsd:=un_sd (List.all_eq_true.1 (sta_all h) _ (List.getElem_mem hj))
 have h1:=owner_cnt0 h hsd hi
 have h2:0<cnt s.us i s.us[j].sd:=List.countP_pos_iff.2 ⟨_,List.getElem_mem hj,by simp only[isAt,Bool.and_eq_true,decide_eq_true_eq];exact⟨ha,trivial⟩⟩
 rw[show decide (cnt s.us i s.us[j].sd=0)=false by simp;omega] at h1
 simp at h1;exact h1.symm
theorem fil_congr{α:Type}{p q:α→Bool}{l:List α}(h: ∀u∈l,p u=q u)(n:Nat):fil p l n=fil q l n:=by
 simp only[fil]
 congr 1
 refine List.filter_congr fun i _=>?_
 cases e:l[i]? with
 | none=>rfl
 | some u=>exact h u (List.mem_of_getElem? e)
theorem dfs_is{b:Brd}{s:Sta}{i:Int}(h:staOk b s=true)(hi:0≤i):fil (isAt i (owner s i)) s.us s.us.length=dfs s i:=by
 refine fil_congr (fun u hu=>?_) _
 obtain⟨j,hj,rfl⟩:=List.getElem_of_mem hu
 rw[Bool.eq_iff_iff]
 simp only[isAt,inHex,Bool.and_eq_true,decide_eq_true_eq]
 refine⟨fun h=>h.1,fun ha=>⟨ha,?_⟩⟩
 have:=dfs_own h hi hj (by rw[un_at hj];exact ha)
 rwa [un_at hj] at this
structure BtOk(b:Brd)(s:Sta)(y:Bt):Prop where
 at1:0≤y.at_∧y.at_<(b.m.t.length:Int)
 ak0:y.ak≠[]
 ak1: ∀k∈y.ak,0≤k∧k<(s.us.length:Int)∧0≤(unOf s k).at_∧0≤dirOn b.m y.at_ (unOf s k).at_∧(unOf s k).sd≠owner s y.at_
 ak2:y.ak.Pairwise (· < ·)
 ak3:y.ak.length≤s.us.length
 df0:y.df≠[]
 df1:y.df=dfs s y.at_
 df2: ∀k∈y.df,0≤k∧k<(s.us.length:Int)∧(unOf s k).at_=y.at_∧(unOf s k).sd=owner s y.at_
 df3:y.df.Pairwise (· < ·)
 df4:y.df.length≤s.us.length
 own:owner s y.at_=0∨owner s y.at_=1
theorem btAt_ok{b:Brd}{s:Sta}{l:List Od}{i:Nat}(h:staOk b s=true)(hi:i<b.m.t.length)(hb:isBt b s l i=true):BtOk b s (btAt b s l i):=by
 simp only[isBt,Bool.and_eq_true,Bool.not_eq_true',List.isEmpty_eq_false_iff] at hb
 have hd: ∀k∈dfs s i,0≤k∧k<(s.us.length:Int)∧(unOf s k).at_=i∧(unOf s k).sd=owner s i:=by
  intro k hk
  obtain⟨j,rfl,hj,ha⟩:=dfs_mem hk
  exact⟨by omega,by omega,ha,dfs_own h (by omega) hj ha⟩
 refine⟨⟨by show(0:Int)≤i;omega,by show(i:Int)<_;omega⟩,hb.2,?_,rng_pw _ _,rng_le _ _,hb.1,rfl,hd,?_,fil_le (Nat.le_refl _),?_⟩
 ·intro k hk
  obtain⟨j,rfl,hj,hp⟩:=rng_mem hk
  simp only[attP,Bool.and_eq_true,Bool.not_eq_true',decide_eq_true_eq,decide_eq_false_iff_not] at hp
  exact⟨by omega,by omega,hp.1.2.1,hp.1.2.2,hp.1.1⟩
 ·simp only[btAt,dfs,fil];exact rng_pw _ _
 ·obtain⟨k,hk⟩:=List.exists_mem_of_ne_nil _ hb.1
  obtain⟨j,rfl,hj,ha⟩:=dfs_mem hk
  have:=dfs_own h (by omega) hj ha
  have h2:=un_sd (List.all_eq_true.1 (sta_all h) _ (List.getElem_mem hj))
  rw[un_at hj] at this
  show owner s (i:Int)=0∨owner s (i:Int)=1
  omega
theorem nextB_ok{b:Brd}{s:Sta}{l:List Od}{last:Int}{y:Bt}(h:staOk b s=true)(hn:nextB b s l last=some y):BtOk b s y∧last<y.at_:=by
 have h1:=List.mem_of_find?_eq_some hn
 have h2:=List.find?_some hn
 simp only[bat,batT,List.mem_map,List.mem_filter,List.mem_range] at h1
 obtain⟨i,⟨hi,hb⟩,rfl⟩:=h1
 exact⟨btAt_ok h hi hb,by simpa using h2⟩
theorem sumK_bnd{f:Un→Int}{s:Sta}{B:Int}: ∀{l:List Int},(∀k∈l,0≤f (unOf s k)∧f (unOf s k)≤B)→0≤sumK f s l∧sumK f s l≤B*l.length
 | [],_=>by simp[sumK]
 | k::l,h=>by
  have h1:=sumK_bnd (l:=l) fun j hj=>h j (by simp[hj])
  have h2:=h k (by simp)
  simp only[sumK,List.map_cons,List.sum_cons,List.length_cons] at h1⊢
  have:B*((l.length+1:Nat):Int)=B*(l.length:Int)+B:=by rw[Int.natCast_add,Int.mul_add];simp
  omega
theorem sumK_snoc(f:Un→Int)(s:Sta)(l:List Int)(k:Int):sumK f s (l++[k])=sumK f s l+f (unOf s k):=by simp[sumK,List.sum_append]
theorem force_un{b:Brd}{s:Sta}{k:Int}(h:staOk b s=true)(hk:0≤k∧k<(s.us.length:Int)):0≤forceU b (unOf s k)∧forceU b (unOf s k)≤36:=by
 obtain⟨k,rfl⟩: ∃m:Nat,k=m:=⟨k.toNat,by omega⟩
 exact force_bnd (sta_brd h) (sta_un h (k:=k) (by omega))
theorem atkF_un{b:Brd}{s:Sta}{k i:Int}(h:staOk b s=true)(hk:0≤k∧k<(s.us.length:Int)):0≤atkF b i (unOf s k)∧atkF b i (unOf s k)≤36:=by
 have:=force_un h hk
 simp only[atkF]
 split
 ·exact this
 ·have h1:=Int.tdiv_le_self 2 this.1
  have h2:=Int.tdiv_nonneg this.1 (show(0:Int)≤2 by omega)
  omega
theorem atk_bnd{b:Brd}{s:Sta}{i:Int}{l:List Int}(h:staOk b s=true)(hk: ∀k∈l,0≤k∧k<(s.us.length:Int)):0≤sumK (atkF b i) s l∧sumK (atkF b i) s l≤36*l.length:=sumK_bnd fun k hk'=>atkF_un h (hk k hk')
theorem def_bnd{b:Brd}{s:Sta}{l:List Int}(h:staOk b s=true)(hk: ∀k∈l,0≤k∧k<(s.us.length:Int)):0≤sumK (forceU b) s l∧sumK (forceU b) s l≤36*l.length:=sumK_bnd fun k hk'=>force_un h (hk k hk')
theorem ct_in{t:Ct}(h:ctOk t=true):(1≤t.cs.length∧t.cs.length≤8)∧(1≤t.d∧t.d≤2)∧(t.rs.length:Int)=5*t.d+1∧(∀i (hi:i<t.cs.length),(1≤(t.cs.getD i od0).a∧(t.cs.getD i od0).a≤20)∧1≤(t.cs.getD i od0).b∧(t.cs.getD i od0).b≤20)∧ ∀r∈t.rs,r.length=t.cs.length∧ ∀x∈r,0≤x∧x≤7:=by
 simp only[ctOk,ctRow,inR,Bool.and_eq_true,decide_eq_true_eq,List.all_eq_true] at h
 refine⟨by omega,by omega,by omega,fun i hi=>?_,fun r hr=>⟨by have:=(h.2 r hr).1;omega,fun x hx=>(h.2 r hr).2 x hx⟩⟩
 have:=h.1.2
 simp only[allI,List.all_eq_true,List.mem_range] at this
 have:=this i hi
 simp only[List.getElem?_eq_getElem hi,odOk,inR,Bool.and_eq_true,decide_eq_true_eq] at this
 have e:t.cs.getD i od0=t.cs[i]:=by simp[List.getD,hi]
 rw[e]
 omega
theorem colT_succ(t:Ct)(a d:Int)(n:Nat):colT t a d (n+1)=if d*(t.cs.getD n od0).a≤a*(t.cs.getD n od0).b then(n:Int) else colT t a d n:=by
 simp only[colT,List.range_succ,List.foldl_append,List.foldl_cons,List.foldl_nil]
theorem colT_bnd(t:Ct)(a d:Int): ∀n,0≤colT t a d n∧(colT t a d n<n∨colT t a d n=0)
 | 0=>by simp[colT]
 | n+1=>by
  have:=colT_bnd t a d n
  rw[colT_succ]
  split<;>omega
theorem colS_bnd{t:Ct}(h:ctOk t=true)(c sh:Int):0≤colS t c sh∧colS t c sh<(t.cs.length:Int):=by
 have:=(ct_in h).1
 simp only[colS]
 split
 ·omega
 ·split<;>omega
theorem mostU_in(s:Sta): ∀{l:List Int} (c:Int),l.foldl (fun c k=>if(unOf s c).st<(unOf s k).st then k else c) c∈c::l
 | [],c=>by simp
 | k::l,c=>by
  simp only[List.foldl_cons]
  have:=mostU_in s (l:=l) (if(unOf s c).st<(unOf s k).st then k else c)
  split at this<;>simp only[List.mem_cons] at this⊢ <;>rcases this with h | h<;>simp[*]
theorem most_in{s:Sta}{l:List Int}(h:l≠[]):mostU s l∈l:=by
 cases l with
 | nil=>exact absurd rfl h
 | cons k l=>
  have:=mostU_in s (l:=k::l) k
  show List.foldl _ k (k::l)∈k::l
  rcases List.mem_cons.1 this with h | h
  ·rw[h];simp
  ·exact h
theorem onL_mem{s:Sta}{l:List Int}{k:Int}(h:k∈onL s l):k∈l∧0≤(unOf s k).at_:=by
 simpa only[onL,List.mem_filter,decide_eq_true_eq] using h
theorem apl_same(s:Sta)(y:Bt){r:Int}(h:r=1∨r=4∨r=0):aplR s y r=s:=by
 simp only[aplR]
 rw[if_neg (by omega),if_neg (by omega),if_neg (by omega),if_neg (by omega)]
 rfl
theorem bt_df{b:Brd}{s:Sta}{y:Bt}(hy:BtOk b s y):OnL s y.df:=⟨fun k hk=>by have:=hy.df2 k hk;have:=hy.at1;omega,pw_nd hy.df3⟩
theorem bt_ak{b:Brd}{s:Sta}{y:Bt}(hy:BtOk b s y):OnL s y.ak:=⟨fun k hk=>by have:=hy.ak1 k hk;omega,pw_nd hy.ak2⟩
theorem after_ok{b:Brd}{s:Sta}{y:Bt}{r:Int}(h:staOk b s=true)(hy:BtOk b s y):staOk b (afterR b s y r)=true∧(afterR b s y r).us.length=s.us.length:=by
 simp only[afterR]
 split
 ·rename_i hr
  rw[apl_same s y (by omega)]
  exact retA_ok (p:=(s,0)) h (bt_df hy)
 ·split
  ·rw[apl_same s y (by omega)]
   exact retA_ok (p:=(s,0)) h (bt_ak hy)
  ·exact⟨apl_ok h y r,apl_len s y r h⟩
theorem step_go{b:Brd}{s:Sta}{k:Nat}{i:Int}(h:staOk b s=true)(hk:k<s.us.length)(ha:0≤(unOf s k).at_)(hi:inR 0 (b.m.w*b.m.h-1) i=true)(hc:0<costAt b (unOf s k).k i)(hr:0<roomR b s (unOf s k).sd i):staOk b ⟨s.t,s.w,goU s.us k i⟩=true:=by
 have hu:=List.all_eq_true.1 (sta_all h) _ (List.getElem_mem hk)
 have hsd:(unOf s k).sd=0∨(unOf s k).sd=1:=by rw[un_at hk];exact un_sd hu
 have:=room_cnt h hsd (by simp only[inR,Bool.and_eq_true,decide_eq_true_eq] at hi;omega) hr
 exact go_ok h hk ha hi hc this.1 this.2
theorem stepM_cost{b:Brd}{kd w i:Int}{d:Nat}(h:kindAsk b kd=true)(hw:0≤w∧w≤2)(hs:0<stepM b kd w i d):0<costAt b kd (nextM b.m i d)∧0≤nextM b.m i d∧nextM b.m i d<b.m.w*b.m.h:=by
 have h1:=(step_bnd (i:=i) (d:=d) h hw).2.2 (by omega)
 have h2:=cost_bnd h h1
 refine⟨?_,h1⟩
 simp only[stepM] at hs
 split at hs
 ·omega
 ·rename_i hn
  simp only[Bool.or_eq_true,decide_eq_true_eq] at hn
  omega
theorem adv_ok{b:Brd}{s:Sta}{k:Nat}{i:Int}(h:staOk b s=true)(hk:k<s.us.length)(ha:0≤(unOf s k).at_):staOk b (advU b s k i)=true∧(advU b s k i).us.length=s.us.length:=by
 simp only[advU]
 split
 ·rename_i hc
  simp only[canAd,Bool.and_eq_true,decide_eq_true_eq] at hc
  obtain⟨h1,h2,h3⟩:=hc
  have hu:=List.all_eq_true.1 (sta_all h) _ (List.getElem_mem hk)
  have hkd:kindAsk b (unOf s k).k=true:=un_kind (sta_brd h) (by rw[un_at hk];simp only[unOk,Bool.and_eq_true] at hu;exact hu.1.1.2)
  have hw:0≤s.w∧s.w≤2:=by
   have:=h
   simp only[staOk,staOk0,inR,Bool.and_eq_true,decide_eq_true_eq] at this;omega
  have h4:=stepM_cost hkd hw h2
  rw[(dir_spec h1).2] at h4
  exact⟨step_go h hk ha (by simp only[inR,Bool.and_eq_true,decide_eq_true_eq];omega) h4.1 h3,goU_len _ _ _⟩
 ·exact⟨h,rfl⟩
theorem afterB_ok{b:Brd}{s:Sta}{y:Bt}{r:Int}(h:staOk b s=true)(hy:BtOk b s y):staOk b (afterB b s y r)=true∧(afterB b s y r).us.length=s.us.length:=by
 have h1:=after_ok (r:=r) h hy
 simp only[afterB]
 split
 ·exact h1
 ·split
  ·exact h1
  ·rename_i k l e
   obtain⟨h2,h3⟩:=onL_mem (s:=afterR b s y r) (l:=y.ak) (k:=k) (by rw[e];simp)
   have h4:=hy.ak1 k h2
   obtain⟨k,rfl⟩: ∃m:Nat,k=m:=⟨k.toNat,by omega⟩
   have h5:=adv_ok (i:=y.at_) h1.1 (k:=k) (by rw[h1.2];omega) h3
   exact⟨h5.1,h5.2.trans h1.2⟩
theorem dmod_bnd{x m:Int}(hm:0<m)(hm2:m<4611686018427387904):0≤dmod x m∧dmod x m<m:=by
 have h1:=Int.lt_tmod_of_pos x hm
 have h2:=Int.tmod_lt_of_pos x hm
 simp only[dmod]
 rw[w64_id (by omega) (by omega)]
 exact⟨Int.tmod_nonneg _ (by omega),Int.tmod_lt_of_pos _ hm⟩
theorem mixS_bnd{p:Int×Int}(x:Int)(h1:0≤p.1∧p.1<2147483648)(h2:0≤p.2∧p.2<2147483648):(0≤(mixS p x).1∧(mixS p x).1<2147483648)∧0≤(mixS p x).2∧(mixS p x).2<2147483648:=by
 have ha:0≤mixA p.1 p.2 x∧mixA p.1 p.2 x<2147483647:=by
  have h3:=dmod_bnd (x:=x) (m:=2147483647) (by omega) (by omega)
  simp only[mixA]
  rw[w64_id (n:=16807*p.1) (by omega) (by omega),w64_id (n:=16807*p.1+dmod x 2147483647) (by omega) (by omega),w64_id (by omega) (by omega)]
  exact⟨Int.tmod_nonneg _ (by omega),Int.tmod_lt_of_pos _ (by omega)⟩
 have h3:=dmod_bnd (x:=x) (m:=2147483629) (by omega) (by omega)
 simp only[mixS]
 refine⟨by omega,?_⟩
 simp only[mixB]
 rw[w64_id (n:=39373*p.2) (by omega) (by omega),w64_id (n:=39373*p.2+dmod x 2147483629) (by omega) (by omega),w64_id (by omega) (by omega)]
 have h4:=Int.tmod_lt_of_pos (39373*p.2+dmod x 2147483629+mixA p.1 p.2 x) (show(0:Int)<2147483629 by omega)
 exact⟨Int.tmod_nonneg _ (by omega),by omega⟩
theorem mixF_bnd: ∀(l:List Int) (p:Int×Int),(0≤p.1∧p.1<2147483648)→(0≤p.2∧p.2<2147483648)→(0≤(l.foldl mixS p).1∧(l.foldl mixS p).1<2147483648)∧0≤(l.foldl mixS p).2∧(l.foldl mixS p).2<2147483648
 | [],p,h1,h2=>⟨h1,h2⟩
 | x::l,p,h1,h2=>by
  have:=mixS_bnd x h1 h2
  exact mixF_bnd l _ this.1 this.2
theorem mixL_bnd(l:List Int)(h:l.length<1000000000):0≤(mixL l).1∧(mixL l).1<2147483648:=by
 simp only[mixL,mixF]
 rw[w64_id (by omega) (by omega)]
 exact(mixF_bnd _ (7,(l.length:Int)+1) ⟨by simp,by simp⟩ ⟨by simp;omega,by simp;omega⟩).1
theorem die_bnd(a i:Int):1≤dieM a i∧dieM a i≤6:=by
 have h0:=mixL_bnd [a,i] (by simp)
 have h1:=Int.tmod_nonneg 6 h0.1
 have h2:=Int.tmod_lt_of_pos (mixL [a,i]).1 (show(0:Int)<6 by omega)
 simp only[dieM];omega
theorem roll_bnd{x:Se}(h:ctOk x.t=true)(seed:Int)(k:Nat):x.t.d≤rollB x seed k∧rollB x seed k≤6*x.t.d:=by
 have h1:=(ct_in h).2.1
 have a:=die_bnd (childM seed sBat) (2*(k:Int))
 have c:=die_bnd (childM seed sBat) (2*(k:Int)+1)
 simp only[rollB]
 split<;>omega
theorem row_in{t:Ct}(h:ctOk t=true){r:Int}(hr:t.d≤r∧r≤6*t.d):(r-t.d).toNat<t.rs.length:=by
 have:=(ct_in h).2
 omega
theorem res_bnd{x:Se}(h:ctOk x.t=true)(s:Sta)(y:Bt){r:Int}(hr:x.t.d≤r∧r≤6*x.t.d):0≤resB x s y r∧resB x s y r≤7:=by
 have h1:=ct_in h
 have h2:=row_in h hr
 have h3:x.t.rs.getD (r-x.t.d).toNat []=x.t.rs[(r-x.t.d).toNat]:=by simp[List.getD,h2]
 have h4:=h1.2.2.2.2 _ (List.getElem_mem h2)
 have h5:=colS_bnd h (colT x.t (sumK (atkF x.b y.at_) s y.ak) (sumK (forceU x.b) s y.df) x.t.cs.length) (shiftB x.b s y)
 have h6:(colB x.b s x.t y).toNat<x.t.rs[(r-x.t.d).toNat].length:=by simp only[colB];omega
 simp only[resB,h3]
 rw[show x.t.rs[(r-x.t.d).toNat].getD (colB x.b s x.t y).toNat 0=x.t.rs[(r-x.t.d).toNat][(colB x.b s x.t y).toNat] by simp only[List.getD,List.getElem?_eq_getElem h6,Option.getD_some]]
 exact h4.2 _ (List.getElem_mem h6)
end Go.Proofs.YtlkcpadkjepchaaGreatDoor.X
set_option maxHeartbeats 4000000
set_option maxRecDepth 8000
set_option linter.unusedSimpArgs false
set_option linter.unusedVariables false
open Nat renaming reduceBEq→N1,reduceAdd→N2,reduceSub→N3,reduceMul→N4,reduceEqDiff→N5,reduceLeDiff→N6,reduceLT→N7
open Int renaming reduceLE→I1,reduceLT→I2,reduceToNat→I3
namespace Go.Proofs.YtlkcpadkjepchaaGreatDoor.X
open Go
attribute [local irreducible] Ev
section
variable{C:CT}(hC:Closed Tryz.prog G1 md0 C)
include hC
end
end Go.Proofs.YtlkcpadkjepchaaGreatDoor.X
set_option maxHeartbeats 4000000
set_option maxRecDepth 8000
set_option linter.unusedSimpArgs false
set_option linter.unusedVariables false
open Nat renaming reduceBEq→N1,reduceAdd→N2,reduceSub→N3,reduceMul→N4,reduceEqDiff→N5,reduceLeDiff→N6,reduceLT→N7
open Int renaming reduceLE→I1,reduceLT→I2,reduceToNat→I3
namespace Go.Proofs.YtlkcpadkjepchaaGreatDoor.X
open Go
attribute [local irreducible] Ev
theorem getD_in{l:List Int}{j:Nat}(h:j<l.length):l.getD j 0∈l:=getD_mem h 0
section
variable{C:CT}(hC:Closed Tryz.prog G1 md0 C)
include hC
end
end Go.Proofs.YtlkcpadkjepchaaGreatDoor.X
set_option maxHeartbeats 4000000
set_option maxRecDepth 8000
set_option linter.unusedSimpArgs false
set_option linter.unusedVariables false
open Nat renaming reduceBEq→N1,reduceAdd→N2,reduceSub→N3,reduceMul→N4,reduceEqDiff→N5,reduceLeDiff→N6,reduceLT→N7
open Int renaming reduceLE→I1,reduceLT→I2,reduceToNat→I3
namespace Go.Proofs.YtlkcpadkjepchaaGreatDoor.X
open Go
attribute [local irreducible] Ev
structure SrcB(b:Brd)(l:List Int):Prop where
 h: ∀i∈l,0≤i∧i<b.m.w*b.m.h
 n:l.length<2^20
theorem kins_at{b:Brd}{k:Int}(h:kindAsk b k=true):(kins b.r.ks)[k.toNat]?=some (kinA (kindOf b k)):=by
 have hk:=kind_at h
 have:=kins_get (b:=b) (k:=k.toNat) (by omega)
 rwa [show((k.toNat:Nat):Int)=k by omega] at this
section
variable{C:CT}(hC:Closed Tryz.prog G1 md0 C)
include hC
theorem t173(b:Brd)(u:Un)(g:brdOk b=true)(hu:unOk b u=true)(hb:BrdB (2^50) b):Ev C 173 [brdF b,.agg (unA u)] (.int .i64 (forceU b u)):=by
 have hka:=un_kind g (show inR 0 (b.r.ks.length-1) u.k=true by simp only[unOk,Bool.and_eq_true] at hu;exact hu.1.1.2)
 have e2:=kins_at hka
 have hk2:=kind_at hka
 have b2:=hb.r.ks
 have hf:=force_bnd g hu
 have wf:IntKind.i64.wrap ((kindOf b u.k).st*u.st)=forceU b u:=wrap64 (by simp only[forceU] at hf;omega) (by simp only[forceU] at hf;omega)
 simp only[brdF,rulF,mpF,List.cons_append,List.nil_append,unA] at *
 refine rT hC Q173 ?_
 simp only[c173,push_cast,↓J1,↓J2,N1,N2,N3,reduceCtorEq,N4,N5,N6,reduceIte,N7,I1,I2,I3]
 simp only[e2,kinA,kins_length,wf,push_cast,↓J1,↓J2,N1,N2,N3,reduceCtorEq,N4,N5,N6,reduceIte,N7,I1,I2,I3]
 repeat (refine⟨by omega,?_⟩)
 all_goals first | done | omega | rfl
end
end Go.Proofs.YtlkcpadkjepchaaGreatDoor.X
