/- A part of the proof: lemmas on the machine or on the functions that the law reaches. No condition of its own. -/
import Derived.Test.YthggfnefjbckeaaGreatDoorXP2
set_option maxHeartbeats 4000000
set_option maxRecDepth 8000
set_option linter.unusedSimpArgs false
set_option linter.unusedVariables false
open Nat renaming reduceBEq→N1,reduceAdd→N2,reduceSub→N3,reduceMul→N4,reduceEqDiff→N5,reduceLeDiff→N6,reduceLT→N7
open Int renaming reduceLE→I1,reduceLT→I2,reduceToNat→I3
namespace Go.Proofs.YthggfnefjbckeaaGreatDoor.X
open Go
attribute [local irreducible] Ev
section
variable{C:CT}(hC:Closed Tryz.prog G1 md0 C)
include hC
theorem tIn(a b c:Int):Ev C 26 [.int .i64 a,.int .i64 b,.int .i64 c] (.bool (inR b c a)):=t26 hC a b c
theorem tRange(a b c:Int):Ev C 73 [.int .i64 a,.int .i64 b,.int .i64 c] (.bool (inR b c a)):=t73 hC a b c
theorem tIdx(a b:Int)(hb: -2^62≤b∧b≤2^62):Ev C 115 [.int .i64 a,.int .i64 b] (.bool (inR 0 (b-1) a)):=t115 hC a b hb
theorem t171(l:List Ter)(s:ByteArray)(hl:l.length<2^50):Ev C 171 [.sl (tersF l),.str s] (.int .i64 (gidx (fun x=>decide (x.n=s)) l)):=by
 refine rT hC Q171 ?_
 simp only[c171,tersF_length,push_cast,↓J1,↓J2,N1,N2,N3,reduceCtorEq,N4,N5,N6,reduceIte,N7,I1,I2,I3]
 refine RL_count (fun i=>⟨tb 20 .any [(1,.str s),(7,.sl (tersF l)),(8,.int .i64 (l.length:Int)),(9,.int .i64 (i:Int))],[],0⟩) (fun i=> ∀j (h:j<l.length),j<i→decide (l[j].n=s)=false) l.length 0 (hdA []) (by omega) (by intro j h h';omega) fun i hi' ht J hJ=>?_
 by_cases h1:i<l.length
 ·have e1:(tersF l)[i]?=some (terF l[i]):=by simp[tersF,h1]
  simp only[Int.toNat_natCast,e1,terF,push_cast,↓J1,↓J2,N1,N2,N3,reduceCtorEq,N4,N5,N6,reduceIte,N7,I1,I2,I3]
  refine ifB_intro (fun _=>?_) (fun h=>by simp at h;omega)
  repeat (refine⟨by omega,?_⟩)
  refine ifB_intro (fun h=>?_) (fun h=>?_)
  ·exact(gidx_at (p:=fun x=>decide (x.n=s)) h1 h ht).symm
  ·refine hJ h1 ?_ _ (hdA [])
   intro j hj hji
   by_cases hij:j=i
   ·subst hij;exact h
   ·exact ht j hj (by omega)
 ·simp only[push_cast,↓J1,↓J2,N1,N2,N3,reduceCtorEq,N4,N5,N6,reduceIte,N7,I1,I2,I3]
  refine ifB_intro (fun h=>by simp at h;omega) (fun h=>?_)
  exact(gidx_no fun j hj=>ht j hj (by omega)).symm
theorem t172(l:List Kin)(s:ByteArray)(hl:l.length<2^50):Ev C 172 [.sl (kins l),.str s] (.int .i64 (gidx (fun x=>decide (x.n=s)) l)):=by
 refine rT hC Q172 ?_
 simp only[c172,kins_length,push_cast,↓J1,↓J2,N1,N2,N3,reduceCtorEq,N4,N5,N6,reduceIte,N7,I1,I2,I3]
 refine RL_count (fun i=>⟨tb 20 .any [(1,.str s),(7,.sl (kins l)),(8,.int .i64 (l.length:Int)),(9,.int .i64 (i:Int))],[],0⟩) (fun i=> ∀j (h:j<l.length),j<i→decide (l[j].n=s)=false) l.length 0 (hdA []) (by omega) (by intro j h h';omega) fun i hi' ht J hJ=>?_
 by_cases h1:i<l.length
 ·have e1:(kins l)[i]?=some (kinA l[i]):=by simp[kins,h1]
  simp only[Int.toNat_natCast,e1,kinA,push_cast,↓J1,↓J2,N1,N2,N3,reduceCtorEq,N4,N5,N6,reduceIte,N7,I1,I2,I3]
  refine ifB_intro (fun _=>?_) (fun h=>by simp at h;omega)
  repeat (refine⟨by omega,?_⟩)
  refine ifB_intro (fun h=>?_) (fun h=>?_)
  ·exact(gidx_at (p:=fun x=>decide (x.n=s)) h1 h ht).symm
  ·refine hJ h1 ?_ _ (hdA [])
   intro j hj hji
   by_cases hij:j=i
   ·subst hij;exact h
   ·exact ht j hj (by omega)
 ·simp only[push_cast,↓J1,↓J2,N1,N2,N3,reduceCtorEq,N4,N5,N6,reduceIte,N7,I1,I2,I3]
  refine ifB_intro (fun h=>by simp at h;omega) (fun h=>?_)
  exact(gidx_no fun j hj=>ht j hj (by omega)).symm
theorem t170(s:ByteArray)(hs:s.size<2^50):Ev C 170 [.str s] (.bool (okName s)):=by
 refine rT hC Q170 ?_
 simp only[c170,push_cast,↓J1,↓J2,N1,N2,N3,reduceCtorEq,N4,N5,N6,reduceIte,N7,I1,I2,I3]
 refine RL_count (fun i=>⟨tb 23 .any [(0,.str s),(3,.int .i64 (i:Int))],[],0⟩) (fun i=> ∀j,j<i→(decide (97≤bt s j)&&decide (bt s j≤122))=true) s.size 0 (hdA []) (by omega) (by omega) fun i hi' ht J hJ=>?_
 by_cases h1:i<s.size
 ·simp only[push_cast,↓J1,↓J2,N1,N2,N3,reduceCtorEq,N4,N5,N6,reduceIte,N7,I1,I2,I3]
  refine ifB_intro (fun _=>?_) (fun h=>by simp at h;omega)
  repeat (refine⟨by omega,?_⟩)
  refine ifB_intro (fun h=>?_) (fun h=>?_)
  ·simp only[okName]
   rw[upto_no h1 (by simp at h⊢;omega)];rfl
  ·repeat (refine⟨by omega,?_⟩)
   refine ifB_intro (fun h2=>?_) (fun h2=>?_)
   ·simp only[okName]
    rw[upto_no h1 (by simp at h2⊢;omega)];rfl
   ·refine hJ h1 ?_ _ (hdA [])
    intro j hj
    by_cases hij:j=i
    ·subst hij;simp at h h2⊢;omega
    ·exact ht j (by omega)
 ·simp only[push_cast,↓J1,↓J2,N1,N2,N3,reduceCtorEq,N4,N5,N6,reduceIte,N7,I1,I2,I3]
  refine ifB_intro (fun h=>by simp at h;omega) (fun h=>?_)
  refine⟨_,tIn hC _ _ _,?_⟩
  simp only[push_cast,↓J1,↓J2,N1,N2,N3,reduceCtorEq,N4,N5,N6,reduceIte,N7,I1,I2,I3]
  simp only[okName]
  rw[upto_yes fun j hj=>ht j (by omega)];rfl
theorem t143(r:Rul)(hb:RulB (2^50) r):Ev C 143 [.agg (rulF r)] (.bool (rulOk r)):=by
 have hts:=hb.ts
 have hks:=hb.ks
 simp only[rulF]
 refine rT hC Q143 ?_
 simp only[c143,tersF_length,kins_length,push_cast,↓J1,↓J2,N1,N2,N3,reduceCtorEq,N4,N5,N6,reduceIte,N7,I1,I2,I3]
 repeat' (first
  | simp only[tersF_length,kins_length,push_cast,↓J1,↓J2,N1,N2,N3,reduceCtorEq,N4,N5,N6,reduceIte,N7,I1,I2,I3]
  | refine⟨_,tIn hC _ _ _,?_⟩
  | refine ifB_intro (fun h=>?_) (fun h=>?_))
 all_goals try (simp only[rulOk, *,Bool.false_and,Bool.and_false,Bool.true_and];done)
 rename_i g1
 have g2:=h
 clear h
 refine RL_count (fun i=>⟨tb 137 .any [(1,.ptr 0 none 0 0 0),(20,.sl (tersF r.ts)),(21,.int .i64 (r.ts.length:Int)),(22,.int .i64 (i:Int))],[(0,.var (rulF r))],1⟩) (fun i=> ∀j (h:j<r.ts.length),j<i→terOk r j r.ts[j]=true) r.ts.length 0 (hdA [(0,0)]) (by omega) (by intro j h h';omega) fun i hi' ht J hJ=>?_
 simp only[rulF]
 by_cases h1:i<r.ts.length
 ·have e1:(tersF r.ts)[i]?=some (terF r.ts[i]):=by simp[tersF,h1]
  have b1:=hb.t _ (List.getElem_mem h1)
  simp only[Int.toNat_natCast,e1,terF,push_cast,↓J1,↓J2,N1,N2,N3,reduceCtorEq,N4,N5,N6,reduceIte,N7,I1,I2,I3]
  refine ifB_intro (fun _=>?_) (fun h=>by simp at h;omega)
  repeat (refine⟨by omega,?_⟩)
  repeat' (first
  | simp only[tersF_length,kins_length,ints_length,push_cast,↓J1,↓J2,N1,N2,N3,reduceCtorEq,N4,N5,N6,reduceIte,N7,I1,I2,I3]
  | refine⟨_,t170 hC _ b1.1,?_⟩
  | refine⟨_,t171 hC _ _ hts,?_⟩
  | refine⟨_,t145 hC _ _ _ b1.2,?_⟩
  | refine⟨_,tIn hC _ _ _,?_⟩
  | refine ifB_intro (fun h=>?_) (fun h=>?_))
  all_goals first
   | (have hf:terOk r i r.ts[i]=false:=by clear hJ ht;simp only[terOk, *,Bool.and_false,Bool.false_and,Bool.and_true,Bool.true_and]
      simp only[rulOk,allI_no h1 hf,Bool.and_false,Bool.false_and];done)
   | (have hf:terOk r i r.ts[i]=true:=by clear hJ ht;simp only[terOk, *,Bool.and_false,Bool.false_and,Bool.and_true,Bool.true_and]
      refine hJ h1 (fun j hj hji=>?_) _ (hdA [(0,0)])
      by_cases hij:j=i
      ·subst hij;exact hf
      ·exact ht j hj (by omega))
 ·simp only[tersF_length,kins_length,push_cast,↓J1,↓J2,N1,N2,N3,reduceCtorEq,N4,N5,N6,reduceIte,N7,I1,I2,I3]
  refine ifB_intro (fun h=>by simp at h;omega) (fun h=>?_)
  have gt:allI (terOk r) r.ts=true:=allI_yes fun j hj=>ht j hj (by omega)
  clear ht hJ
  refine RL_count (fun i=>⟨tb 137 .any [(1,.ptr 0 none 0 0 0),(69,.sl (kins r.ks)),(70,.int .i64 (r.ks.length:Int)),(71,.int .i64 (i:Int))],[(0,.var (rulF r))],1⟩) (fun i=> ∀j (h:j<r.ks.length),j<i→kinOk r j r.ks[j]=true) r.ks.length 0 (hdA [(0,0)]) (by omega) (by intro j h h';omega) fun i hi' ht J hJ=>?_
  simp only[rulF]
  by_cases h1:i<r.ks.length
  ·have e1:(kins r.ks)[i]?=some (kinA r.ks[i]):=by simp[kins,h1]
   have b1:=hb.k _ (List.getElem_mem h1)
   simp only[Int.toNat_natCast,e1,kinA,push_cast,↓J1,↓J2,N1,N2,N3,reduceCtorEq,N4,N5,N6,reduceIte,N7,I1,I2,I3]
   refine ifB_intro (fun _=>?_) (fun h=>by simp at h;omega)
   repeat (refine⟨by omega,?_⟩)
   repeat' (first
  | simp only[tersF_length,kins_length,push_cast,↓J1,↓J2,N1,N2,N3,reduceCtorEq,N4,N5,N6,reduceIte,N7,I1,I2,I3]
  | refine⟨_,t170 hC _ b1,?_⟩
  | refine⟨_,t172 hC _ _ hks,?_⟩
  | refine⟨_,tIn hC _ _ _,?_⟩
  | refine ifB_intro (fun h=>?_) (fun h=>?_))
   all_goals first
    | (have hf:kinOk r i r.ks[i]=false:=by clear hJ ht;simp only[kinOk, *,Bool.and_false,Bool.false_and,Bool.and_true,Bool.true_and]
       simp only[rulOk,allI_no h1 hf,Bool.and_false,Bool.false_and];done)
    | (have hf:kinOk r i r.ks[i]=true:=by clear hJ ht;simp only[kinOk, *,Bool.and_false,Bool.false_and,Bool.and_true,Bool.true_and]
       refine hJ h1 (fun j hj hji=>?_) _ (hdA [(0,0)])
       by_cases hij:j=i
       ·subst hij;exact hf
       ·exact ht j hj (by omega))
  ·simp only[push_cast,↓J1,↓J2,N1,N2,N3,reduceCtorEq,N4,N5,N6,reduceIte,N7,I1,I2,I3]
   refine ifB_intro (fun h=>by simp at h;omega) (fun h=>?_)
   have gk:allI (kinOk r) r.ks=true:=allI_yes fun j hj=>ht j hj (by omega)
   rw[show rulOk r=tailOk r by simp only[rulOk,g1,g2,gt,gk,Bool.and_self,Bool.true_and]]
   clear ht hJ
   simp only[tailOk]
   refine⟨_,tIn hC _ _ _,?_⟩
   cases inR 1 4 r.stack
   ·simp only[push_cast,↓J1,↓J2,N1,N2,N3,reduceCtorEq,N4,N5,N6,reduceIte,N7,I1,I2,I3]
   ·simp only[push_cast,↓J1,↓J2,N1,N2,N3,reduceCtorEq,N4,N5,N6,reduceIte,N7,I1,I2,I3]
    refine⟨_,tIn hC _ _ _,?_⟩
    cases inR 0 9 r.river
    ·simp only[push_cast,↓J1,↓J2,N1,N2,N3,reduceCtorEq,N4,N5,N6,reduceIte,N7,I1,I2,I3]
    ·simp only[push_cast,↓J1,↓J2,N1,N2,N3,reduceCtorEq,N4,N5,N6,reduceIte,N7,I1,I2,I3]
     refine⟨_,tIn hC _ _ _,?_⟩
     cases inR 1 9 r.road
     ·simp only[push_cast,↓J1,↓J2,N1,N2,N3,reduceCtorEq,N4,N5,N6,reduceIte,N7,I1,I2,I3]
     ·simp only[push_cast,↓J1,↓J2,N1,N2,N3,reduceCtorEq,N4,N5,N6,reduceIte,N7,I1,I2,I3]
      refine⟨_,tIn hC _ _ _,?_⟩
      cases inR 0 20 r.supply
      ·simp only[push_cast,↓J1,↓J2,N1,N2,N3,reduceCtorEq,N4,N5,N6,reduceIte,N7,I1,I2,I3]
      ·simp only[push_cast,↓J1,↓J2,N1,N2,N3,reduceCtorEq,N4,N5,N6,reduceIte,N7,I1,I2,I3]
       refine⟨_,tIn hC _ _ _,?_⟩
       simp only[push_cast,↓J1,↓J2,N1,N2,N3,reduceCtorEq,N4,N5,N6,reduceIte,N7,I1,I2,I3]
end
end Go.Proofs.YthggfnefjbckeaaGreatDoor.X
set_option maxHeartbeats 4000000
set_option maxRecDepth 8000
set_option linter.unusedSimpArgs false
set_option linter.unusedVariables false
open Nat renaming reduceBEq→N1,reduceAdd→N2,reduceSub→N3,reduceMul→N4,reduceEqDiff→N5,reduceLeDiff→N6,reduceLT→N7
open Int renaming reduceLE→I1,reduceLT→I2,reduceToNat→I3
namespace Go.Proofs.YthggfnefjbckeaaGreatDoor.X
open Go
attribute [local irreducible] Ev
section
variable{C:CT}(hC:Closed Tryz.prog G1 md0 C)
include hC
theorem t149(l:List Int)(lo hi:Int)(hl:l.length<2^50):Ev C 149 [.sl (ints l),.int .i64 lo,.int .i64 hi] (.bool (upto l.length (risP l lo hi))):=by
 refine rT hC Q149 ?_
 simp only[c149,ints_length,push_cast,↓J1,↓J2,N1,N2,N3,reduceCtorEq,N4,N5,N6,reduceIte,N7,I1,I2,I3]
 refine RL_count (fun i=>⟨tb 35 .any [(0,.sl (ints l)),(1,.int .i64 lo),(2,.int .i64 hi),(9,.sl (ints l)),(10,.int .i64 (l.length:Int)),(11,.int .i64 (i:Int))],[],0⟩) (fun i=> ∀j,j<i→risP l lo hi j=true) l.length 0 (hdA []) (by omega) (by omega) fun i hi' ht J hJ=>?_
 by_cases h1:i<l.length
 ·have e1:(ints l)[i]?=some [.int .i64 (l.getD i 0)]:=cut_ints_get h1
  simp only[Int.toNat_natCast,e1,push_cast,↓J1,↓J2,N1,N2,N3,reduceCtorEq,N4,N5,N6,reduceIte,N7,I1,I2,I3]
  refine ifB_intro (fun _=>?_) (fun h=>by simp at h;omega)
  repeat (refine⟨by omega,?_⟩)
  refine⟨_,t26 hC _ _ _,?_⟩
  simp only[push_cast,↓J1,↓J2,N1,N2,N3,reduceCtorEq,N4,N5,N6,reduceIte,N7,I1,I2,I3]
  have go:risP l lo hi i=true→ ∀s,Head 0 s ⟨tb 35 .any [(0,.sl (ints l)),(1,.int .i64 lo),(2,.int .i64 hi),(9,.sl (ints l)),(10,.int .i64 (l.length:Int)),(11,.int .i64 ((i+1:Nat):Int))],[],0⟩→J s:=fun hp=>hJ h1 (by
   intro j hj
   by_cases h:j=i
   ·subst h;exact hp
   ·exact ht j (by omega))
  refine ifB_intro (fun h=>?_) (fun h=>?_)
  ·refine ifB_intro (fun h2=>?_) (fun h2=>?_)
   ·have hi0:0<i:=by simp at h2;omega
    have z:IntKind.i64.wrap ((i:Int)-1)=((i-1:Nat):Int):=by rw[wrap64 (by omega) (by omega)];omega
    have e2:(ints l)[i-1]?=some [.int .i64 (l.getD (i-1) 0)]:=cut_ints_get (by omega)
    simp only[z,Int.toNat_natCast,e2,push_cast,↓J1,↓J2,N1,N2,N3,reduceCtorEq,N4,N5,N6,reduceIte,N7,I1,I2,I3]
    repeat (refine⟨by omega,?_⟩)
    refine ifB_intro (fun h3=>?_) (fun h3=>?_)
    ·rw[upto_no h1]
     have: ¬l.getD (i-1) 0<l.getD i 0:=by simp only[decide_eq_true_eq] at h3;omega
     simp only[risP,this,decide_false,Bool.or_false,show¬i=0 by omega,Bool.and_false]
    ·refine go ?_ _ (hdA [])
     have:l.getD (i-1) 0<l.getD i 0:=by simp only[decide_eq_false_iff_not] at h3;omega
     simp only[risP,inR,h,this,decide_true,Bool.or_true,Bool.and_true]
   ·refine go ?_ _ (hdA [])
    have:i=0:=by simp at h2;omega
    simp only[risP,inR,h,this,decide_true,Bool.true_or,Bool.and_true]
    subst this;simpa using h
  ·rw[upto_no h1]
   simp only[risP,inR,h,Bool.false_and]
 ·obtain rfl:i=l.length:=by omega
  simp only[push_cast,↓J1,↓J2,N1,N2,N3,reduceCtorEq,N4,N5,N6,reduceIte,N7,I1,I2,I3]
  refine ifB_intro (fun h=>by simp at h) (fun h=>?_)
  exact(upto_yes ht).symm
theorem t160(l:List Int)(hl:l.length<2^50):Ev C 160 [.sl (ints l)] (.bool (upto (l.length-1) (incP l))):=by
 refine rT hC Q160 ?_
 simp only[c160,ints_length,push_cast,↓J1,↓J2,N1,N2,N3,reduceCtorEq,N4,N5,N6,reduceIte,N7,I1,I2,I3]
 refine RL_count (fun i=>⟨tb 20 .any [(0,.sl (ints l)),(3,.int .i64 ((i:Int)+1))],[],0⟩) (fun i=> ∀j,j<i→incP l j=true) (l.length-1) 0 (hdA []) (by omega) (by omega) fun i hi' ht J hJ=>?_
 by_cases h1:i<l.length-1
 ·have e1:(ints l)[i]?=some [.int .i64 (l.getD i 0)]:=cut_ints_get (by omega)
  have e2:(ints l)[i+1]?=some [.int .i64 (l.getD (i+1) 0)]:=cut_ints_get (by omega)
  have z1:IntKind.i64.wrap ((i:Int)+1-1)=i:=by rw[wrap64 (by omega) (by omega)];omega
  have z2:((i:Int)+1).toNat=i+1:=by omega
  simp only[Int.toNat_natCast,z1,z2,e1,e2,ints_length,push_cast,↓J1,↓J2,N1,N2,N3,reduceCtorEq,N4,N5,N6,reduceIte,N7,I1,I2,I3]
  refine ifB_intro (fun _=>?_) (fun h=>by simp at h;omega)
  repeat (refine⟨by omega,?_⟩)
  refine ifB_intro (fun h3=>?_) (fun h3=>?_)
  ·rw[upto_no h1]
   have: ¬l.getD i 0<l.getD (i+1) 0:=by simp only[decide_eq_true_eq] at h3;omega
   simp only[incP,this,decide_false]
  ·refine hJ h1 ?_ _ (hdA [] (hV:=?_))
   ·intro j hj
    by_cases h:j=i
    ·subst h
     simp only[decide_eq_false_iff_not] at h3
     exact decide_eq_true (by omega)
    ·exact ht j (by omega)
   ·simp only[keptV_cons,keptV_nil,tb_get,lk_same,lk_ne,lk_nil,ren,renL,lkp,N7,N1,N5,reduceIte,and_true,true_and,Nat.not_lt_zero,if_false,if_true,Nat.add_zero,Nat.zero_add]
    rw[wrap64 (n:=(i:Int)+1+1) (by omega) (by omega)]
    simp
 ·obtain rfl:i=l.length-1:=by omega
  simp only[ints_length,push_cast,↓J1,↓J2,N1,N2,N3,reduceCtorEq,N4,N5,N6,reduceIte,N7,I1,I2,I3]
  refine ifB_intro (fun h=>by simp at h;omega) (fun h=>?_)
  exact(upto_yes ht).symm
omit hC in
theorem wh_le{a b:Int}(ha:1≤a∧a≤10)(hb:1≤b∧b≤10):1≤a*b∧a*b≤100:=⟨by
 have:=Int.mul_le_mul ha.1 hb.1 (by omega) (by omega);omega,by
 have:=Int.mul_le_mul ha.2 hb.2 (by omega) (by omega);omega⟩
theorem t124(m:Mp)(hw:1≤m.w∧m.w≤10)(hh:1≤m.h∧m.h≤10):Ev C 124 [.agg (mpF m)] (.int .i64 (m.w*m.h)):=by
 have:=wh_le hw hh
 simp only[mpF]
 refine rT hC Q124 ?_
 simp only[c124,push_cast,↓J1,↓J2,N1,N2,N3,reduceCtorEq,N4,N5,N6,reduceIte,N7,I1,I2,I3]
 rw[wrap64 (by omega) (by omega)]
omit hC in
theorem hex_bnd{w i:Int}(hw:1≤w∧w≤10)(hi:0≤i∧i<300):(0≤i.tmod w∧i.tmod w<10)∧0≤i.tdiv w∧i.tdiv w≤300:=by
 have h1:=Int.tmod_lt_of_pos i (show(0:Int)<w by omega)
 have h2:=Int.tmod_nonneg w hi.1
 have h3:=Int.tdiv_nonneg hi.1 (show(0:Int)≤w by omega)
 have h4:=Int.tdiv_le_self (b:=w) hi.1
 omega
theorem t96(m:Mp)(i:Int)(hw:1≤m.w∧m.w≤10)(hh:1≤m.h∧m.h≤10)(hi:0≤i∧i<300):Ev C 96 [.agg (mpF m),.int .i64 i] (.agg [.int .i64 (i.tmod m.w),.int .i64 (i.tdiv m.w)]):=by
 have hb:=hex_bnd hw hi
 simp only[mpF]
 refine rT hC Q96 ?_
 simp only[c96,push_cast,↓J1,↓J2,N1,N2,N3,reduceCtorEq,N4,N5,N6,reduceIte,N7,I1,I2,I3]
 rw[wrap64 (by omega) (by omega)]
 refine⟨by omega,by omega,?_⟩
 exact rtA
omit hC in
theorem dq_bnd(d:Nat): -1≤dq d∧dq d≤1:=by
 unfold dq;match d with
 | 0 | 1 | 2 | 3 | 4 | 5=>decide
 | d+6=>simp
omit hC in
theorem dr_bnd(d:Nat): -1≤dr d∧dr d≤1:=by
 unfold dr;match d with
 | 0 | 1 | 2 | 3 | 4 | 5=>decide
 | d+6=>simp
theorem t95(q r d:Int)(hq: -1000≤q∧q≤1000)(hr: -1000≤r∧r≤1000)(hd:0≤d∧d<6):Ev C 95 [.agg [.int .i64 q,.int .i64 r],.int .i64 d] (.agg [.int .i64 (q+dq d.toNat),.int .i64 (r+dr d.toNat)]):=by
 have b1:=dq_bnd d.toNat
 have b2:=dr_bnd d.toNat
 obtain⟨k,rfl⟩: ∃k:Nat,d=k:=⟨d.toNat,by omega⟩
 simp only[Int.toNat_natCast] at *
 have e1:([[AV.int .i64 1],[AV.int .i64 1],[AV.int .i64 0],[AV.int .i64 (-1)],[AV.int .i64 (-1)],[AV.int .i64 0]]:List (List AV))[k]?=some [.int .i64 (dq k)]:=by
  have:k=0∨k=1∨k=2∨k=3∨k=4∨k=5:=by omega
  rcases this with rfl | rfl | rfl | rfl | rfl | rfl<;>rfl
 have e2:([[AV.int .i64 0],[AV.int .i64 (-1)],[AV.int .i64 (-1)],[AV.int .i64 0],[AV.int .i64 1],[AV.int .i64 1]]:List (List AV))[k]?=some [.int .i64 (dr k)]:=by
  have:k=0∨k=1∨k=2∨k=3∨k=4∨k=5:=by omega
  rcases this with rfl | rfl | rfl | rfl | rfl | rfl<;>rfl
 refine rT hC Q95 ?_
 simp only[c95,push_cast,↓J1,↓J2,N1,N2,N3,reduceCtorEq,N4,N5,N6,reduceIte,N7,I1,I2,I3]
 simp only[Int.toNat_natCast,e1,e2,wrap64 (n:=q+dq k) (by omega) (by omega),wrap64 (n:=r+dr k) (by omega) (by omega),push_cast,↓J1,↓J2,N1,N2,N3,reduceCtorEq,N4,N5,N6,reduceIte,N7,I1,I2,I3]
 refine⟨⟨by omega,by omega,by omega,by omega,?_⟩,by omega,by omega,by omega,by omega,?_⟩<;>exact rtA
theorem t94(m:Mp)(q r:Int)(hw:1≤m.w∧m.w≤10)(hh:1≤m.h∧m.h≤10)(hq: -1000≤q∧q≤1000)(hr: -1000≤r∧r≤1000):Ev C 94 [.agg (mpF m),.agg [.int .i64 q,.int .i64 r]] (.int .i64 (if inR 0 (m.w-1) q&&inR 0 (m.h-1) r then r*m.w+q else -1)):=by
 simp only[mpF]
 refine rT hC Q94 ?_
 simp only[c94,push_cast,↓J1,↓J2,N1,N2,N3,reduceCtorEq,N4,N5,N6,reduceIte,N7,I1,I2,I3]
 rw[wrap64 (n:=m.w-1) (by omega) (by omega)]
 refine⟨_,tIn hC _ _ _,?_⟩
 cases g1:inR 0 (m.w-1) q
 ·simp only[push_cast,↓J1,↓J2,N1,N2,N3,reduceCtorEq,N4,N5,N6,reduceIte,N7,I1,I2,I3]
 ·simp only[push_cast,↓J1,↓J2,N1,N2,N3,reduceCtorEq,N4,N5,N6,reduceIte,N7,I1,I2,I3]
  rw[wrap64 (n:=m.h-1) (by omega) (by omega)]
  refine⟨_,tIn hC _ _ _,?_⟩
  cases g2:inR 0 (m.h-1) r
  ·simp only[push_cast,↓J1,↓J2,N1,N2,N3,reduceCtorEq,N4,N5,N6,reduceIte,N7,I1,I2,I3]
  ·simp only[inR,Bool.and_eq_true,decide_eq_true_eq] at g1 g2
   have hm:0≤r*m.w∧r*m.w≤100:=⟨Int.mul_nonneg (by omega) (by omega),by
    have:=Int.mul_le_mul (show r≤10 by omega) hw.2 (by omega) (by omega);omega⟩
   simp only[push_cast,↓J1,↓J2,N1,N2,N3,reduceCtorEq,N4,N5,N6,reduceIte,N7,I1,I2,I3]
   rw[wrap64 (n:=r*m.w) (by omega) (by omega),wrap64 (by omega) (by omega)]
theorem t62(m:Mp)(i d:Int)(hw:1≤m.w∧m.w≤10)(hh:1≤m.h∧m.h≤10)(hi:0≤i∧i<300)(hd:0≤d∧d<6):Ev C 62 [.agg (mpF m),.int .i64 i,.int .i64 d] (.int .i64 (nextM m i d)):=by
 have hb:=hex_bnd hw hi
 have b1:=dq_bnd d.toNat
 have b2:=dr_bnd d.toNat
 have c1:=t96 hC m i hw hh hi
 have c2:=t95 hC (i.tmod m.w) (i.tdiv m.w) d (by omega) (by omega) hd
 have c3:=t94 hC m (i.tmod m.w+dq d.toNat) (i.tdiv m.w+dr d.toNat) hw hh (by omega) (by omega)
 simp only[mpF] at *
 refine rT hC Q62 ?_
 simp only[c62,push_cast,↓J1,↓J2,N1,N2,N3,reduceCtorEq,N4,N5,N6,reduceIte,N7,I1,I2,I3]
 refine⟨_,c1,?_⟩
 simp only[push_cast,↓J1,↓J2,N1,N2,N3,reduceCtorEq,N4,N5,N6,reduceIte,N7,I1,I2,I3]
 refine⟨_,c2,?_⟩
 simp only[push_cast,↓J1,↓J2,N1,N2,N3,reduceCtorEq,N4,N5,N6,reduceIte,N7,I1,I2,I3]
 refine⟨_,c3,?_⟩
 simp only[push_cast,↓J1,↓J2,N1,N2,N3,reduceCtorEq,N4,N5,N6,reduceIte,N7,I1,I2,I3]
 rfl
omit hC in
theorem e3_bnd{e:Int}(he:0≤e∧e<300):(0≤e.tdiv 3∧e.tdiv 3<300)∧0≤e.tmod 3∧e.tmod 3<6:=by
 have h1:=Int.tmod_lt_of_pos e (show(0:Int)<3 by omega)
 have h2:=Int.tmod_nonneg 3 he.1
 have h3:=Int.tdiv_nonneg he.1 (show(0:Int)≤3 by omega)
 have h4:=Int.tdiv_le_self (b:=3) he.1
 omega
theorem t173(m:Mp)(l:List Int)(hw:1≤m.w∧m.w≤10)(hh:1≤m.h∧m.h≤10)(hl:l.length<2^50):Ev C 173 [.agg (mpF m),.sl (ints l)] (.bool (edgesOk m l)):=by
 have hwh:=wh_le hw hh
 have c1:=t124 hC m hw hh
 have c2:=fun i d hi hd=>t62 hC m i d hw hh hi hd
 simp only[mpF] at *
 refine rT hC Q173 ?_
 simp only[c173,ints_length,push_cast,↓J1,↓J2,N1,N2,N3,reduceCtorEq,N4,N5,N6,reduceIte,N7,I1,I2,I3]
 refine RL_count (fun i=>⟨tb 36 .any [(1,.sl (ints l)),(2,.ptr 0 none 0 0 0),(7,.sl (ints l)),(8,.int .i64 (l.length:Int)),(9,.int .i64 (i:Int))],[(0,.var (mpF m))],1⟩) (fun i=>l.all (edgeOk m)=(l.drop i).all (edgeOk m)) l.length 0 (hdA [(0,0)]) (by omega) rfl fun i hi' ht J hJ=>?_
 simp only[mpF]
 by_cases h1:i<l.length
 ·have e1:(ints l)[i]?=some [.int .i64 l[i]]:=by simp[ints,h1]
  rw[List.drop_eq_getElem_cons h1,List.all_cons] at ht
  simp only[Int.toNat_natCast,e1,push_cast,↓J1,↓J2,N1,N2,N3,reduceCtorEq,N4,N5,N6,reduceIte,N7,I1,I2,I3]
  generalize l[i]=e at *
  refine ifB_intro (fun _=>?_) (fun h=>by simp at h;omega)
  repeat (refine⟨by omega,?_⟩)
  refine⟨_,c1,?_⟩
  simp only[push_cast,↓J1,↓J2,N1,N2,N3,reduceCtorEq,N4,N5,N6,reduceIte,N7,I1,I2,I3]
  rw[wrap64 (n:=3*(m.w*m.h)) (by omega) (by omega),wrap64 (n:=3*(m.w*m.h)-1) (by omega) (by omega)]
  refine⟨_,tIn hC _ _ _,?_⟩
  cases g1:inR 0 (3*(m.w*m.h)-1) e
  ·simp only[push_cast,↓J1,↓J2,N1,N2,N3,reduceCtorEq,N4,N5,N6,reduceIte,N7,I1,I2,I3]
   simp only[edgesOk,ht,edgeOk,g1,Bool.false_and]
  ·have he:=g1
   simp only[inR,Bool.and_eq_true,decide_eq_true_eq] at he
   have hb:=e3_bnd (e:=e) (by omega)
   simp only[wrap64 (n:=e.tdiv 3) (by omega) (by omega),push_cast,↓J1,↓J2,N1,N2,N3,reduceCtorEq,N4,N5,N6,reduceIte,N7,I1,I2,I3]
   repeat (refine⟨by omega,?_⟩)
   refine⟨_,c2 _ _ hb.1 hb.2,?_⟩
   simp only[push_cast,↓J1,↓J2,N1,N2,N3,reduceCtorEq,N4,N5,N6,reduceIte,N7,I1,I2,I3]
   refine ifB_intro (fun h=>?_) (fun h=>?_)
   ·simp only[edgesOk,ht,edgeOk,g1,h,Bool.false_and,Bool.and_false,Bool.not_true]
   ·refine hJ h1 ?_ _ (hdA [(0,0)])
    rw[ht];simp only[edgeOk,g1,h,Bool.true_and,Bool.and_self,Bool.not_false]
 ·simp only[push_cast,↓J1,↓J2,N1,N2,N3,reduceCtorEq,N4,N5,N6,reduceIte,N7,I1,I2,I3]
  refine ifB_intro (fun h=>by simp at h;omega) (fun h=>?_)
  refine⟨_,c1,?_⟩
  simp only[push_cast,↓J1,↓J2,N1,N2,N3,reduceCtorEq,N4,N5,N6,reduceIte,N7,I1,I2,I3]
  rw[wrap64 (n:=3*(m.w*m.h)) (by omega) (by omega),wrap64 (n:=3*(m.w*m.h)-1) (by omega) (by omega)]
  refine⟨_,t149 hC l _ _ hl,?_⟩
  simp only[push_cast,↓J1,↓J2,N1,N2,N3,reduceCtorEq,N4,N5,N6,reduceIte,N7,I1,I2,I3]
  rw[edgesOk,ht,List.drop_eq_nil_of_le (by omega)]
  rfl
theorem t144(m:Mp)(hb:MpB (2^50) m):Ev C 144 [.agg (mpF m)] (.bool (mpOk m)):=by
 have b1:=hb.t
 have b2:=hb.ri
 have b3:=hb.ro
 have c1:=t124 hC m
 have c2:=fun l=>t173 hC m l
 simp only[mpF,mpOk] at *
 refine rT hC Q144 ?_
 simp only[c144,ints_length,push_cast,↓J1,↓J2,N1,N2,N3,reduceCtorEq,N4,N5,N6,reduceIte,N7,I1,I2,I3]
 refine⟨_,tIn hC _ _ _,?_⟩
 cases g1:inR 1 10 m.w
 ·simp only[push_cast,↓J1,↓J2,N1,N2,N3,reduceCtorEq,N4,N5,N6,reduceIte,N7,I1,I2,I3]
 ·simp only[push_cast,↓J1,↓J2,N1,N2,N3,reduceCtorEq,N4,N5,N6,reduceIte,N7,I1,I2,I3]
  refine⟨_,tIn hC _ _ _,?_⟩
  cases g2:inR 1 10 m.h
  ·simp only[push_cast,↓J1,↓J2,N1,N2,N3,reduceCtorEq,N4,N5,N6,reduceIte,N7,I1,I2,I3]
  ·simp only[inR,Bool.and_eq_true,decide_eq_true_eq] at g1 g2
   simp only[ints_length,push_cast,↓J1,↓J2,N1,N2,N3,reduceCtorEq,N4,N5,N6,reduceIte,N7,I1,I2,I3]
   refine⟨_,c1 g1 g2,?_⟩
   simp only[push_cast,↓J1,↓J2,N1,N2,N3,reduceCtorEq,N4,N5,N6,reduceIte,N7,I1,I2,I3]
   cases g3:decide ((m.t.length:Int)=m.w*m.h)
   ·simp only[push_cast,↓J1,↓J2,N1,N2,N3,reduceCtorEq,N4,N5,N6,reduceIte,N7,I1,I2,I3]
   ·simp only[push_cast,↓J1,↓J2,N1,N2,N3,reduceCtorEq,N4,N5,N6,reduceIte,N7,I1,I2,I3]
    refine⟨_,t145 hC _ _ _ b1,?_⟩
    cases g4:m.t.all (inR 0 5)
    ·simp only[push_cast,↓J1,↓J2,N1,N2,N3,reduceCtorEq,N4,N5,N6,reduceIte,N7,I1,I2,I3]
    ·simp only[push_cast,↓J1,↓J2,N1,N2,N3,reduceCtorEq,N4,N5,N6,reduceIte,N7,I1,I2,I3]
     refine⟨_,c2 m.ri g1 g2 b2,?_⟩
     cases g5:edgesOk m m.ri
     ·simp only[push_cast,↓J1,↓J2,N1,N2,N3,reduceCtorEq,N4,N5,N6,reduceIte,N7,I1,I2,I3]
     ·simp only[push_cast,↓J1,↓J2,N1,N2,N3,reduceCtorEq,N4,N5,N6,reduceIte,N7,I1,I2,I3]
      refine⟨_,c2 m.ro g1 g2 b3,?_⟩
      simp only[push_cast,↓J1,↓J2,N1,N2,N3,reduceCtorEq,N4,N5,N6,reduceIte,N7,I1,I2,I3]
theorem t111(b:Brd)(hb:BrdB (2^50) b):Ev C 111 [brdF b] (.bool (brdOk b)):=by
 have c1:=t143 hC b.r hb.r
 have c2:=t144 hC b.m hb.m
 have b1:=hb.m.t
 have b2:=hb.r.ts
 simp only[brdF,rulF,mpF,brdOk,List.cons_append,List.nil_append] at *
 refine rT hC Q111 ?_
 simp only[c111,push_cast,↓J1,↓J2,N1,N2,N3,reduceCtorEq,N4,N5,N6,reduceIte,N7,I1,I2,I3]
 refine⟨_,c1,?_⟩
 cases g1:rulOk b.r
 ·simp only[push_cast,↓J1,↓J2,N1,N2,N3,reduceCtorEq,N4,N5,N6,reduceIte,N7,I1,I2,I3]
 ·simp only[push_cast,↓J1,↓J2,N1,N2,N3,reduceCtorEq,N4,N5,N6,reduceIte,N7,I1,I2,I3]
  refine⟨_,c2,?_⟩
  cases g2:mpOk b.m
  ·simp only[push_cast,↓J1,↓J2,N1,N2,N3,reduceCtorEq,N4,N5,N6,reduceIte,N7,I1,I2,I3]
  ·simp only[tersF_length,push_cast,↓J1,↓J2,N1,N2,N3,reduceCtorEq,N4,N5,N6,reduceIte,N7,I1,I2,I3]
   rw[wrap64 (by omega) (by omega)]
   refine⟨_,t145 hC _ _ _ b1,?_⟩
   simp only[push_cast,↓J1,↓J2,N1,N2,N3,reduceCtorEq,N4,N5,N6,reduceIte,N7,I1,I2,I3]
end
end Go.Proofs.YthggfnefjbckeaaGreatDoor.X
set_option maxHeartbeats 4000000
set_option maxRecDepth 8000
set_option linter.unusedSimpArgs false
set_option linter.unusedVariables false
open Nat renaming reduceBEq→N1,reduceAdd→N2,reduceSub→N3,reduceMul→N4,reduceEqDiff→N5,reduceLeDiff→N6,reduceLT→N7
open Int renaming reduceLE→I1,reduceLT→I2,reduceToNat→I3
namespace Go.Proofs.YthggfnefjbckeaaGreatDoor.X
open Go
attribute [local irreducible] Ev
section
variable{C:CT}(hC:Closed Tryz.prog G1 md0 C)
include hC
theorem t185(s:ByteArray)(hs:s.size<2^50):Ev C 185 [.str s] (.bool (okName s)):=by
 refine rT hC Q185 ?_
 simp only[c185,push_cast,↓J1,↓J2,N1,N2,N3,reduceCtorEq,N4,N5,N6,reduceIte,N7,I1,I2,I3]
 refine RL_count (fun i=>⟨tb 23 .any [(0,.str s),(3,.int .i64 (i:Int))],[],0⟩) (fun i=> ∀j,j<i→(decide (97≤bt s j)&&decide (bt s j≤122))=true) s.size 0 (hdA []) (by omega) (by omega) fun i hi' ht J hJ=>?_
 by_cases h1:i<s.size
 ·simp only[push_cast,↓J1,↓J2,N1,N2,N3,reduceCtorEq,N4,N5,N6,reduceIte,N7,I1,I2,I3]
  refine ifB_intro (fun _=>?_) (fun h=>by simp at h;omega)
  repeat (refine⟨by omega,?_⟩)
  refine ifB_intro (fun h=>?_) (fun h=>?_)
  ·simp only[okName]
   rw[upto_no h1 (by simp at h⊢;omega)];rfl
  ·repeat (refine⟨by omega,?_⟩)
   refine ifB_intro (fun h2=>?_) (fun h2=>?_)
   ·simp only[okName]
    rw[upto_no h1 (by simp at h2⊢;omega)];rfl
   ·refine hJ h1 ?_ _ (hdA [])
    intro j hj
    by_cases hij:j=i
    ·subst hij;simp at h h2⊢;omega
    ·exact ht j (by omega)
 ·simp only[push_cast,↓J1,↓J2,N1,N2,N3,reduceCtorEq,N4,N5,N6,reduceIte,N7,I1,I2,I3]
  refine ifB_intro (fun h=>by simp at h;omega) (fun h=>?_)
  refine⟨_,tRange hC _ _ _,?_⟩
  simp only[push_cast,↓J1,↓J2,N1,N2,N3,reduceCtorEq,N4,N5,N6,reduceIte,N7,I1,I2,I3]
  simp only[okName]
  rw[upto_yes fun j hj=>ht j (by omega)];rfl
omit hC in
theorem all_not{l:List Int}{p:Int→Bool}:(!l.any fun x=>!p x)=l.all p:=by simp[List.all_eq_not_any_not]
theorem t186(x:Int):Ev C 186 [.int .i64 x] (.bool (!inR 0 9 x)):=by
 refine rT hC Q186 ?_
 simp only[c186,push_cast,↓J1,↓J2,N1,N2,N3,reduceCtorEq,N4,N5,N6,reduceIte,N7,I1,I2,I3]
 refine⟨_,tRange hC _ _ _,?_⟩
 simp only[push_cast,↓J1,↓J2,N1,N2,N3,reduceCtorEq,N4,N5,N6,reduceIte,N7,I1,I2,I3]
omit hC in
theorem terB_eq(r:Rul)(i:Nat)(t:Ter):terOk r i t=((okName t.n&&decide ((t.c.length:Int)=(r.ks.length:Int))&&inR (-3) 3 t.s&&inR 0 3 t.h&&t.c.all (inR 0 9))&&decide (gidx (fun x=>decide (x.n=t.n)) r.ts=i)):=by
 simp only[terOk]
 cases okName t.n<;>cases decide (gidx (fun x=>decide (x.n=t.n)) r.ts=i)<;>cases decide ((t.c.length:Int)=(r.ks.length:Int))<;>cases inR (-3) 3 t.s<;>cases inR 0 3 t.h<;>cases t.c.all (inR 0 9)<;>rfl
omit hC in
theorem kinB_eq(r:Rul)(i:Nat)(k:Kin):kinOk r i k=((okName k.n&&inR 1 9 k.st&&inR 0 9 k.mv&&inR 1 4 k.sp&&inR 0 4 k.v)&&decide (gidx (fun x=>decide (x.n=k.n)) r.ks=i)):=by
 simp only[kinOk]
 cases okName k.n<;>cases decide (gidx (fun x=>decide (x.n=k.n)) r.ks=i)<;>cases inR 1 9 k.st<;>cases inR 0 9 k.mv<;>cases inR 1 4 k.sp<;>cases inR 0 4 k.v<;>rfl
theorem t176(t:Ter)(k:Int)(h1:t.n.size<2^50)(h2:t.c.length<2^50):Ev C 176 [.agg (terF t),.int .i64 k] (.bool (okName t.n&&decide ((t.c.length:Int)=k)&&inR (-3) 3 t.s&&inR 0 3 t.h&&t.c.all (inR 0 9))):=by
 have c1:=t155 hC t.c 186 [] _ h2 rfl rfl fun x _=>t186 hC x
 simp only[terF]
 refine rT hC Q176 ?_
 simp only[c176,push_cast,↓J1,↓J2,N1,N2,N3,reduceCtorEq,N4,N5,N6,reduceIte,N7,I1,I2,I3]
 refine⟨_,t185 hC _ h1,?_⟩
 cases okName t.n
 ·simp only[push_cast,↓J1,↓J2,N1,N2,N3,reduceCtorEq,N4,N5,N6,reduceIte,N7,I1,I2,I3]
 simp only[ints_length,push_cast,↓J1,↓J2,N1,N2,N3,reduceCtorEq,N4,N5,N6,reduceIte,N7,I1,I2,I3]
 cases decide ((t.c.length:Int)=k)
 ·simp only[push_cast,↓J1,↓J2,N1,N2,N3,reduceCtorEq,N4,N5,N6,reduceIte,N7,I1,I2,I3]
 simp only[push_cast,↓J1,↓J2,N1,N2,N3,reduceCtorEq,N4,N5,N6,reduceIte,N7,I1,I2,I3]
 refine⟨_,tRange hC _ _ _,?_⟩
 cases inR (-3) 3 t.s
 ·simp only[push_cast,↓J1,↓J2,N1,N2,N3,reduceCtorEq,N4,N5,N6,reduceIte,N7,I1,I2,I3]
 simp only[push_cast,↓J1,↓J2,N1,N2,N3,reduceCtorEq,N4,N5,N6,reduceIte,N7,I1,I2,I3]
 refine⟨_,tRange hC _ _ _,?_⟩
 cases inR 0 3 t.h
 ·simp only[push_cast,↓J1,↓J2,N1,N2,N3,reduceCtorEq,N4,N5,N6,reduceIte,N7,I1,I2,I3]
 simp only[push_cast,↓J1,↓J2,N1,N2,N3,reduceCtorEq,N4,N5,N6,reduceIte,N7,I1,I2,I3]
 refine⟨_,c1,?_⟩
 simp only[all_not,push_cast,↓J1,↓J2,N1,N2,N3,reduceCtorEq,N4,N5,N6,reduceIte,N7,I1,I2,I3]
theorem t187(l:List Ter)(f:FuncId)(caps:List AV)(p:Ter→Bool)(hl:l.length<2^50)(hm:md0 f=false)(hc:allF caps=true)
  (hp: ∀x∈l,Ev C f (.agg (terF x)::caps) (.bool (p x))):Ev C 187 [.sl (tersF l),.fn f caps] (.int .i64 (gidx p l)):=by
 have hr:renL 0 [] caps=caps:=renL_F hc
 refine rT hC Q187 ?_
 simp only[c187,tersF_length,push_cast,↓J1,↓J2,N1,N2,N3,reduceCtorEq,N4,N5,N6,reduceIte,N7,I1,I2,I3]
 refine RL_count (fun i=>⟨tb 19 .any [(0,.sl (tersF l)),(1,.fn f caps),(7,.int .i64 (l.length:Int)),(8,.int .i64 (i:Int))],[],0⟩) (fun i=> ∀j (h:j<l.length),j<i→p l[j]=false) l.length 0 (hdA []) (by omega) (by intro j h h';omega) fun i hi' ht J hJ=>?_
 by_cases h1:i<l.length
 ·have e1:(tersF l)[i]?=some (terF l[i]):=by simp[tersF,h1]
  have hp1:=hp _ (List.getElem_mem h1)
  simp only[terF] at hp1
  simp only[Int.toNat_natCast,e1,terF,hm,frzAL_F hc,frzOkL_F hc,push_cast,↓J1,↓J2,N1,N2,N3,reduceCtorEq,N4,N5,N6,reduceIte,N7,I1,I2,I3]
  refine ifB_intro (fun _=>?_) (fun h=>by simp at h;omega)
  repeat (refine⟨by omega,?_⟩)
  refine⟨_,hp1,?_⟩
  simp only[push_cast,↓J1,↓J2,N1,N2,N3,reduceCtorEq,N4,N5,N6,reduceIte,N7,I1,I2,I3]
  refine ifB_intro (fun h=>?_) (fun h=>?_)
  ·exact(gidx_at h1 h ht).symm
  ·refine hJ h1 ?_ _ (hdA [])
   intro j hj hji
   by_cases hij:j=i
   ·subst hij;exact h
   ·exact ht j hj (by omega)
 ·simp only[hm,push_cast,↓J1,↓J2,N1,N2,N3,reduceCtorEq,N4,N5,N6,reduceIte,N7,I1,I2,I3]
  refine ifB_intro (fun h=>by simp at h;omega) (fun h=>?_)
  exact(gidx_no fun j hj=>ht j hj (by omega)).symm
theorem t189(l:List Kin)(f:FuncId)(caps:List AV)(p:Kin→Bool)(hl:l.length<2^50)(hm:md0 f=false)(hc:allF caps=true)
  (hp: ∀x∈l,Ev C f (.agg (kinA x)::caps) (.bool (p x))):Ev C 189 [.sl (kins l),.fn f caps] (.int .i64 (gidx p l)):=by
 have hr:renL 0 [] caps=caps:=renL_F hc
 refine rT hC Q189 ?_
 simp only[c189,kins_length,push_cast,↓J1,↓J2,N1,N2,N3,reduceCtorEq,N4,N5,N6,reduceIte,N7,I1,I2,I3]
 refine RL_count (fun i=>⟨tb 19 .any [(0,.sl (kins l)),(1,.fn f caps),(7,.int .i64 (l.length:Int)),(8,.int .i64 (i:Int))],[],0⟩) (fun i=> ∀j (h:j<l.length),j<i→p l[j]=false) l.length 0 (hdA []) (by omega) (by intro j h h';omega) fun i hi' ht J hJ=>?_
 by_cases h1:i<l.length
 ·have e1:(kins l)[i]?=some (kinA l[i]):=by simp[kins,h1]
  have hp1:=hp _ (List.getElem_mem h1)
  simp only[kinA] at hp1
  simp only[Int.toNat_natCast,e1,kinA,hm,frzAL_F hc,frzOkL_F hc,push_cast,↓J1,↓J2,N1,N2,N3,reduceCtorEq,N4,N5,N6,reduceIte,N7,I1,I2,I3]
  refine ifB_intro (fun _=>?_) (fun h=>by simp at h;omega)
  repeat (refine⟨by omega,?_⟩)
  refine⟨_,hp1,?_⟩
  simp only[push_cast,↓J1,↓J2,N1,N2,N3,reduceCtorEq,N4,N5,N6,reduceIte,N7,I1,I2,I3]
  refine ifB_intro (fun h=>?_) (fun h=>?_)
  ·exact(gidx_at h1 h ht).symm
  ·refine hJ h1 ?_ _ (hdA [])
   intro j hj hji
   by_cases hij:j=i
   ·subst hij;exact h
   ·exact ht j hj (by omega)
 ·simp only[hm,push_cast,↓J1,↓J2,N1,N2,N3,reduceCtorEq,N4,N5,N6,reduceIte,N7,I1,I2,I3]
  refine ifB_intro (fun h=>by simp at h;omega) (fun h=>?_)
  exact(gidx_no fun j hj=>ht j hj (by omega)).symm
theorem t188(t:Ter)(s:ByteArray):Ev C 188 [.agg (terF t),.pf [.str s]] (.bool (decide (t.n=s))):=by
 simp only[terF]
 refine rT hC Q188 ?_
 simp only[c188,push_cast,↓J1,↓J2,N1,N2,N3,reduceCtorEq,N4,N5,N6,reduceIte,N7,I1,I2,I3]
theorem t177(l:List Ter)(s:ByteArray)(hl:l.length<2^50):Ev C 177 [.sl (tersF l),.str s] (.int .i64 (gidx (fun x=>decide (x.n=s)) l)):=by
 refine rT hC Q177 ?_
 simp only[c177,push_cast,↓J1,↓J2,N1,N2,N3,reduceCtorEq,N4,N5,N6,reduceIte,N7,I1,I2,I3]
 refine⟨_,t187 hC l 188 [.pf [.str s]] (fun x=>decide (x.n=s)) hl rfl rfl fun x _=>t188 hC x s,?_⟩
 simp only[push_cast,↓J1,↓J2,N1,N2,N3,reduceCtorEq,N4,N5,N6,reduceIte,N7,I1,I2,I3]
theorem t190(t:Kin)(s:ByteArray):Ev C 190 [.agg (kinA t),.pf [.str s]] (.bool (decide (t.n=s))):=by
 simp only[kinA]
 refine rT hC Q190 ?_
 simp only[c190,push_cast,↓J1,↓J2,N1,N2,N3,reduceCtorEq,N4,N5,N6,reduceIte,N7,I1,I2,I3]
theorem t179(l:List Kin)(s:ByteArray)(hl:l.length<2^50):Ev C 179 [.sl (kins l),.str s] (.int .i64 (gidx (fun x=>decide (x.n=s)) l)):=by
 refine rT hC Q179 ?_
 simp only[c179,push_cast,↓J1,↓J2,N1,N2,N3,reduceCtorEq,N4,N5,N6,reduceIte,N7,I1,I2,I3]
 refine⟨_,t189 hC l 190 [.pf [.str s]] (fun x=>decide (x.n=s)) hl rfl rfl fun x _=>t190 hC x s,?_⟩
 simp only[push_cast,↓J1,↓J2,N1,N2,N3,reduceCtorEq,N4,N5,N6,reduceIte,N7,I1,I2,I3]
theorem t178(k:Kin)(h1:k.n.size<2^50):Ev C 178 [.agg (kinA k)] (.bool (okName k.n&&inR 1 9 k.st&&inR 0 9 k.mv&&inR 1 4 k.sp&&inR 0 4 k.v)):=by
 simp only[kinA]
 refine rT hC Q178 ?_
 simp only[c178,push_cast,↓J1,↓J2,N1,N2,N3,reduceCtorEq,N4,N5,N6,reduceIte,N7,I1,I2,I3]
 refine⟨_,t185 hC _ h1,?_⟩
 cases okName k.n
 ·simp only[push_cast,↓J1,↓J2,N1,N2,N3,reduceCtorEq,N4,N5,N6,reduceIte,N7,I1,I2,I3]
 simp only[push_cast,↓J1,↓J2,N1,N2,N3,reduceCtorEq,N4,N5,N6,reduceIte,N7,I1,I2,I3]
 refine⟨_,tRange hC _ _ _,?_⟩
 cases inR 1 9 k.st
 ·simp only[push_cast,↓J1,↓J2,N1,N2,N3,reduceCtorEq,N4,N5,N6,reduceIte,N7,I1,I2,I3]
 simp only[push_cast,↓J1,↓J2,N1,N2,N3,reduceCtorEq,N4,N5,N6,reduceIte,N7,I1,I2,I3]
 refine⟨_,tRange hC _ _ _,?_⟩
 cases inR 0 9 k.mv
 ·simp only[push_cast,↓J1,↓J2,N1,N2,N3,reduceCtorEq,N4,N5,N6,reduceIte,N7,I1,I2,I3]
 simp only[push_cast,↓J1,↓J2,N1,N2,N3,reduceCtorEq,N4,N5,N6,reduceIte,N7,I1,I2,I3]
 refine⟨_,tRange hC _ _ _,?_⟩
 cases inR 1 4 k.sp
 ·simp only[push_cast,↓J1,↓J2,N1,N2,N3,reduceCtorEq,N4,N5,N6,reduceIte,N7,I1,I2,I3]
 simp only[push_cast,↓J1,↓J2,N1,N2,N3,reduceCtorEq,N4,N5,N6,reduceIte,N7,I1,I2,I3]
 refine⟨_,tRange hC _ _ _,?_⟩
 simp only[push_cast,↓J1,↓J2,N1,N2,N3,reduceCtorEq,N4,N5,N6,reduceIte,N7,I1,I2,I3]
theorem t153(r:Rul)(hb:RulB (2^50) r):Ev C 153 [.agg (rulF r)] (.bool (rulOk r)):=by
 have hts:=hb.ts
 have hks:=hb.ks
 simp only[rulF]
 refine rT hC Q153 ?_
 simp only[c153,tersF_length,kins_length,push_cast,↓J1,↓J2,N1,N2,N3,reduceCtorEq,N4,N5,N6,reduceIte,N7,I1,I2,I3]
 refine⟨_,tRange hC _ _ _,?_⟩
 cases g1:inR 1 6 (r.ts.length:Int)
 ·simp only[rulOk,g1,push_cast,↓J1,↓J2,N1,N2,N3,reduceCtorEq,N4,N5,N6,reduceIte,N7,I1,I2,I3]
 simp only[tersF_length,kins_length,push_cast,↓J1,↓J2,N1,N2,N3,reduceCtorEq,N4,N5,N6,reduceIte,N7,I1,I2,I3]
 refine⟨_,tRange hC _ _ _,?_⟩
 cases g2:inR 1 4 (r.ks.length:Int)
 ·simp only[rulOk,g1,g2,push_cast,↓J1,↓J2,N1,N2,N3,reduceCtorEq,N4,N5,N6,reduceIte,N7,I1,I2,I3]
 simp only[tersF_length,kins_length,push_cast,↓J1,↓J2,N1,N2,N3,reduceCtorEq,N4,N5,N6,reduceIte,N7,I1,I2,I3]
 refine RL_count (fun i=>⟨tb 87 .any [(1,.ptr 0 none 0 0 0),(20,.sl (tersF r.ts)),(21,.int .i64 (r.ts.length:Int)),(22,.int .i64 (i:Int))],[(0,.var (rulF r))],1⟩) (fun i=> ∀j (h:j<r.ts.length),j<i→terOk r j r.ts[j]=true) r.ts.length 0 (hdA [(0,0)]) (by omega) (by intro j h h';omega) fun i hi' ht J hJ=>?_
 simp only[rulF]
 by_cases h1:i<r.ts.length
 ·have e1:(tersF r.ts)[i]?=some (terF r.ts[i]):=by simp[tersF,h1]
  have b1:=hb.t _ (List.getElem_mem h1)
  have c1:=t176 hC r.ts[i] (r.ks.length:Int) b1.1 b1.2
  have eq:=terB_eq r i r.ts[i]
  simp only[terF] at c1
  simp only[Int.toNat_natCast,e1,terF,push_cast,↓J1,↓J2,N1,N2,N3,reduceCtorEq,N4,N5,N6,reduceIte,N7,I1,I2,I3]
  refine ifB_intro (fun _=>?_) (fun h=>by simp at h;omega)
  repeat (refine⟨by omega,?_⟩)
  simp only[tersF_length,kins_length,push_cast,↓J1,↓J2,N1,N2,N3,reduceCtorEq,N4,N5,N6,reduceIte,N7,I1,I2,I3]
  refine⟨_,c1,?_⟩
  generalize (okName r.ts[i].n&&decide ((r.ts[i].c.length:Int)=(r.ks.length:Int))&&inR (-3) 3 r.ts[i].s&&inR 0 3 r.ts[i].h&&r.ts[i].c.all (inR 0 9))=B at *
  cases B
  ·have hf:terOk r i r.ts[i]=false:=by rw[eq];rfl
   simp only[rulOk,allI_no h1 hf,push_cast,↓J1,↓J2,N1,N2,N3,reduceCtorEq,N4,N5,N6,reduceIte,N7,I1,I2,I3]
  simp only[push_cast,↓J1,↓J2,N1,N2,N3,reduceCtorEq,N4,N5,N6,reduceIte,N7,I1,I2,I3]
  refine⟨_,t177 hC _ _ hts,?_⟩
  simp only[push_cast,↓J1,↓J2,N1,N2,N3,reduceCtorEq,N4,N5,N6,reduceIte,N7,I1,I2,I3]
  refine ifB_intro (fun h=>?_) (fun h=>?_)
  ·have hf:terOk r i r.ts[i]=true:=by rw[eq];simpa using h
   refine hJ h1 (fun j hj hji=>?_) _ (hdA [(0,0)])
   by_cases hij:j=i
   ·subst hij;exact hf
   ·exact ht j hj (by omega)
  ·have hf:terOk r i r.ts[i]=false:=by rw[eq];simpa using h
   simp only[rulOk,allI_no h1 hf,push_cast,↓J1,↓J2,N1,N2,N3,reduceCtorEq,N4,N5,N6,reduceIte,N7,I1,I2,I3]
 ·simp only[tersF_length,kins_length,push_cast,↓J1,↓J2,N1,N2,N3,reduceCtorEq,N4,N5,N6,reduceIte,N7,I1,I2,I3]
  refine ifB_intro (fun h=>by simp at h;omega) (fun h=>?_)
  have gt:allI (terOk r) r.ts=true:=allI_yes fun j hj=>ht j hj (by omega)
  clear ht hJ
  refine RL_count (fun i=>⟨tb 87 .any [(1,.ptr 0 none 0 0 0),(44,.sl (kins r.ks)),(45,.int .i64 (r.ks.length:Int)),(46,.int .i64 (i:Int))],[(0,.var (rulF r))],1⟩) (fun i=> ∀j (h:j<r.ks.length),j<i→kinOk r j r.ks[j]=true) r.ks.length 0 (hdA [(0,0)]) (by omega) (by intro j h h';omega) fun i hi' ht J hJ=>?_
  simp only[rulF]
  by_cases h1:i<r.ks.length
  ·have e1:(kins r.ks)[i]?=some (kinA r.ks[i]):=by simp[kins,h1]
   have c1:=t178 hC r.ks[i] (hb.k _ (List.getElem_mem h1))
   have eq:=kinB_eq r i r.ks[i]
   simp only[kinA] at c1
   simp only[Int.toNat_natCast,e1,kinA,push_cast,↓J1,↓J2,N1,N2,N3,reduceCtorEq,N4,N5,N6,reduceIte,N7,I1,I2,I3]
   refine ifB_intro (fun _=>?_) (fun h=>by simp at h;omega)
   repeat (refine⟨by omega,?_⟩)
   refine⟨_,c1,?_⟩
   generalize (okName r.ks[i].n&&inR 1 9 r.ks[i].st&&inR 0 9 r.ks[i].mv&&inR 1 4 r.ks[i].sp&&inR 0 4 r.ks[i].v)=B at *
   cases B
   ·have hf:kinOk r i r.ks[i]=false:=by rw[eq];rfl
    simp only[rulOk,allI_no h1 hf,push_cast,↓J1,↓J2,N1,N2,N3,reduceCtorEq,N4,N5,N6,reduceIte,N7,I1,I2,I3]
   simp only[push_cast,↓J1,↓J2,N1,N2,N3,reduceCtorEq,N4,N5,N6,reduceIte,N7,I1,I2,I3]
   refine⟨_,t179 hC _ _ hks,?_⟩
   simp only[push_cast,↓J1,↓J2,N1,N2,N3,reduceCtorEq,N4,N5,N6,reduceIte,N7,I1,I2,I3]
   refine ifB_intro (fun h=>?_) (fun h=>?_)
   ·have hf:kinOk r i r.ks[i]=true:=by rw[eq];simpa using h
    refine hJ h1 (fun j hj hji=>?_) _ (hdA [(0,0)])
    by_cases hij:j=i
    ·subst hij;exact hf
    ·exact ht j hj (by omega)
   ·have hf:kinOk r i r.ks[i]=false:=by rw[eq];simpa using h
    simp only[rulOk,allI_no h1 hf,push_cast,↓J1,↓J2,N1,N2,N3,reduceCtorEq,N4,N5,N6,reduceIte,N7,I1,I2,I3]
  ·simp only[push_cast,↓J1,↓J2,N1,N2,N3,reduceCtorEq,N4,N5,N6,reduceIte,N7,I1,I2,I3]
   refine ifB_intro (fun h=>by simp at h;omega) (fun h=>?_)
   have gk:allI (kinOk r) r.ks=true:=allI_yes fun j hj=>ht j hj (by omega)
   rw[show rulOk r=tailOk r by simp only[rulOk,g1,g2,gt,gk,Bool.and_self,Bool.true_and]]
   clear ht hJ
   simp only[tailOk]
   refine⟨_,tRange hC _ _ _,?_⟩
   cases inR 1 4 r.stack
   ·simp only[push_cast,↓J1,↓J2,N1,N2,N3,reduceCtorEq,N4,N5,N6,reduceIte,N7,I1,I2,I3]
   simp only[push_cast,↓J1,↓J2,N1,N2,N3,reduceCtorEq,N4,N5,N6,reduceIte,N7,I1,I2,I3]
   refine⟨_,tRange hC _ _ _,?_⟩
   cases inR 0 9 r.river
   ·simp only[push_cast,↓J1,↓J2,N1,N2,N3,reduceCtorEq,N4,N5,N6,reduceIte,N7,I1,I2,I3]
   simp only[push_cast,↓J1,↓J2,N1,N2,N3,reduceCtorEq,N4,N5,N6,reduceIte,N7,I1,I2,I3]
   refine⟨_,tRange hC _ _ _,?_⟩
   cases inR 1 9 r.road
   ·simp only[push_cast,↓J1,↓J2,N1,N2,N3,reduceCtorEq,N4,N5,N6,reduceIte,N7,I1,I2,I3]
   simp only[push_cast,↓J1,↓J2,N1,N2,N3,reduceCtorEq,N4,N5,N6,reduceIte,N7,I1,I2,I3]
   refine⟨_,tRange hC _ _ _,?_⟩
   cases inR 0 20 r.supply
   ·simp only[push_cast,↓J1,↓J2,N1,N2,N3,reduceCtorEq,N4,N5,N6,reduceIte,N7,I1,I2,I3]
   simp only[push_cast,↓J1,↓J2,N1,N2,N3,reduceCtorEq,N4,N5,N6,reduceIte,N7,I1,I2,I3]
   refine⟨_,tRange hC _ _ _,?_⟩
   simp only[push_cast,↓J1,↓J2,N1,N2,N3,reduceCtorEq,N4,N5,N6,reduceIte,N7,I1,I2,I3]
end
end Go.Proofs.YthggfnefjbckeaaGreatDoor.X
set_option maxHeartbeats 4000000
set_option maxRecDepth 8000
set_option linter.unusedSimpArgs false
set_option linter.unusedVariables false
open Nat renaming reduceBEq→N1,reduceAdd→N2,reduceSub→N3,reduceMul→N4,reduceEqDiff→N5,reduceLeDiff→N6,reduceLT→N7
open Int renaming reduceLE→I1,reduceLT→I2,reduceToNat→I3
namespace Go.Proofs.YthggfnefjbckeaaGreatDoor.X
open Go
attribute [local irreducible] Ev
section
variable{C:CT}(hC:Closed Tryz.prog G1 md0 C)
include hC
theorem t168(m:Mp)(i:Int)(hw:1≤m.w∧m.w≤10)(hh:1≤m.h∧m.h≤10)(hi:0≤i∧i<300):Ev C 168 [.agg (mpF m),.int .i64 i] (.agg [.int .i64 (i.tmod m.w),.int .i64 (i.tdiv m.w)]):=by
 have hb:=hex_bnd hw hi
 simp only[mpF]
 refine rT hC Q168 ?_
 simp only[c168,push_cast,↓J1,↓J2,N1,N2,N3,reduceCtorEq,N4,N5,N6,reduceIte,N7,I1,I2,I3]
 rw[wrap64 (by omega) (by omega)]
 refine⟨by omega,by omega,?_⟩
 exact rtA
theorem t167(q r d:Int)(hq: -1000≤q∧q≤1000)(hr: -1000≤r∧r≤1000)(hd:0≤d∧d<6):Ev C 167 [.agg [.int .i64 q,.int .i64 r],.int .i64 d,.int .i64 1] (.agg [.int .i64 (q+dq d.toNat),.int .i64 (r+dr d.toNat)]):=by
 have b1:=dq_bnd d.toNat
 have b2:=dr_bnd d.toNat
 obtain⟨k,rfl⟩: ∃k:Nat,d=k:=⟨d.toNat,by omega⟩
 have hk:k=0∨k=1∨k=2∨k=3∨k=4∨k=5:=by omega
 simp only[Int.toNat_natCast] at *
 have e1:List.drop (k*2) dirs= .int .i64 (dq k):: .int .i64 (dr k)::List.drop (k*2+2) dirs:=by
  rcases hk with rfl | rfl | rfl | rfl | rfl | rfl<;>rfl
 refine rT hC Q167 ?_
 simp only[c167,push_cast,↓J1,↓J2,N1,N2,N3,reduceCtorEq,N4,N5,N6,reduceIte,N7,I1,I2,I3]
 simp only[Int.toNat_natCast,e1,push_cast,↓J1,↓J2,N1,N2,N3,reduceCtorEq,N4,N5,N6,reduceIte,N7,I1,I2,I3]
 repeat (refine⟨by omega,?_⟩)
 rw[wrap64 (n:=1*dq k) (by omega) (by omega),wrap64 (n:=1*dr k) (by omega) (by omega)]
 rw[wrap64 (by omega) (by omega),wrap64 (by omega) (by omega)]
 simp only[Int.one_mul]
 exact rtA
theorem t166(m:Mp)(q r:Int)(hw:1≤m.w∧m.w≤10)(hh:1≤m.h∧m.h≤10)(hq: -1000≤q∧q≤1000)(hr: -1000≤r∧r≤1000):Ev C 166 [.agg (mpF m),.agg [.int .i64 q,.int .i64 r]] (.int .i64 (if inR 0 (m.w-1) q&&inR 0 (m.h-1) r then r*m.w+q else -1)):=by
 simp only[mpF]
 refine rT hC Q166 ?_
 simp only[c166,push_cast,↓J1,↓J2,N1,N2,N3,reduceCtorEq,N4,N5,N6,reduceIte,N7,I1,I2,I3]
 refine⟨_,tIdx hC _ _ (by omega),?_⟩
 cases g1:inR 0 (m.w-1) q
 ·simp only[push_cast,↓J1,↓J2,N1,N2,N3,reduceCtorEq,N4,N5,N6,reduceIte,N7,I1,I2,I3]
 ·simp only[push_cast,↓J1,↓J2,N1,N2,N3,reduceCtorEq,N4,N5,N6,reduceIte,N7,I1,I2,I3]
  refine⟨_,tIdx hC _ _ (by omega),?_⟩
  cases g2:inR 0 (m.h-1) r
  ·simp only[push_cast,↓J1,↓J2,N1,N2,N3,reduceCtorEq,N4,N5,N6,reduceIte,N7,I1,I2,I3]
  ·simp only[inR,Bool.and_eq_true,decide_eq_true_eq] at g1 g2
   have hm:0≤r*m.w∧r*m.w≤100:=⟨Int.mul_nonneg (by omega) (by omega),by
    have:=Int.mul_le_mul (show r≤10 by omega) hw.2 (by omega) (by omega);omega⟩
   simp only[push_cast,↓J1,↓J2,N1,N2,N3,reduceCtorEq,N4,N5,N6,reduceIte,N7,I1,I2,I3]
   rw[wrap64 (n:=r*m.w) (by omega) (by omega),wrap64 (by omega) (by omega)]
theorem t138(m:Mp)(i d:Int)(hw:1≤m.w∧m.w≤10)(hh:1≤m.h∧m.h≤10)(hi:0≤i∧i<300)(hd:0≤d∧d<6):Ev C 138 [.agg (mpF m),.int .i64 i,.int .i64 d] (.int .i64 (nextM m i d)):=by
 have hb:=hex_bnd hw hi
 have b1:=dq_bnd d.toNat
 have b2:=dr_bnd d.toNat
 have c1:=t168 hC m i hw hh hi
 have c2:=t167 hC (i.tmod m.w) (i.tdiv m.w) d (by omega) (by omega) hd
 have c3:=t166 hC m (i.tmod m.w+dq d.toNat) (i.tdiv m.w+dr d.toNat) hw hh (by omega) (by omega)
 simp only[mpF] at *
 refine rT hC Q138 ?_
 simp only[c138,push_cast,↓J1,↓J2,N1,N2,N3,reduceCtorEq,N4,N5,N6,reduceIte,N7,I1,I2,I3]
 refine⟨_,c1,?_⟩
 simp only[push_cast,↓J1,↓J2,N1,N2,N3,reduceCtorEq,N4,N5,N6,reduceIte,N7,I1,I2,I3]
 refine⟨_,c2,?_⟩
 simp only[push_cast,↓J1,↓J2,N1,N2,N3,reduceCtorEq,N4,N5,N6,reduceIte,N7,I1,I2,I3]
 refine⟨_,c3,?_⟩
 simp only[push_cast,↓J1,↓J2,N1,N2,N3,reduceCtorEq,N4,N5,N6,reduceIte,N7,I1,I2,I3]
 rfl
theorem t180(m:Mp)(e:Int)(hw:1≤m.w∧m.w≤10)(hh:1≤m.h∧m.h≤10):Ev C 180 [.agg (mpF m),.int .i64 e] (.bool (edgeOk m e)):=by
 have hwh:=wh_le hw hh
 have c2:=fun i d hi hd=>t138 hC m i d hw hh hi hd
 simp only[mpF] at *
 refine rT hC Q180 ?_
 simp only[c180,push_cast,↓J1,↓J2,N1,N2,N3,reduceCtorEq,N4,N5,N6,reduceIte,N7,I1,I2,I3]
 rw[wrap64 (n:=3*m.w) (by omega) (by omega),Int.mul_assoc,wrap64 (n:=3*(m.w*m.h)) (by omega) (by omega),wrap64 (n:=3*(m.w*m.h)-1) (by omega) (by omega)]
 refine⟨_,tRange hC _ _ _,?_⟩
 simp only[edgeOk]
 cases g1:inR 0 (3*(m.w*m.h)-1) e
 ·simp only[push_cast,↓J1,↓J2,N1,N2,N3,reduceCtorEq,N4,N5,N6,reduceIte,N7,I1,I2,I3]
 ·have he:=g1
  simp only[inR,Bool.and_eq_true,decide_eq_true_eq] at he
  have hb:=e3_bnd (e:=e) (by omega)
  simp only[wrap64 (n:=e.tdiv 3) (by omega) (by omega),push_cast,↓J1,↓J2,N1,N2,N3,reduceCtorEq,N4,N5,N6,reduceIte,N7,I1,I2,I3]
  repeat (refine⟨by omega,?_⟩)
  refine⟨_,c2 _ _ hb.1 hb.2,?_⟩
  simp only[push_cast,↓J1,↓J2,N1,N2,N3,reduceCtorEq,N4,N5,N6,reduceIte,N7,I1,I2,I3]
  rw[Bool.eq_iff_iff];simp
omit hC in
theorem edges_eq(m:Mp)(l:List Int):(upto (l.length-1) (incP l)&&l.all (edgeOk m))=edgesOk m l:=by
 have hin:l.all (edgeOk m)=true→ ∀x∈l,inR 0 (3*(m.w*m.h)-1) x=true:=fun h x hx=>by
  have:=List.all_eq_true.1 h x hx
  simp only[edgeOk,Bool.and_eq_true] at this
  exact this.1
 rw[edgesOk,Bool.eq_iff_iff,Bool.and_eq_true,Bool.and_eq_true,upto_iff,upto_iff]
 constructor
 ·rintro⟨h1,h2⟩
  refine⟨h2,fun j hj=>?_⟩
  have hm:l.getD j 0∈l:=by simp only[List.getD,List.getElem?_eq_getElem hj];exact List.getElem_mem hj
  simp only[risP,hin h2 _ hm,Bool.true_and,Bool.or_eq_true,decide_eq_true_eq]
  by_cases h0:j=0
  ·exact .inl h0
  ·right
   have:=h1 (j-1) (by omega)
   simp only[incP,decide_eq_true_eq] at this
   rwa [show j-1+1=j by omega] at this
 ·rintro⟨h2,h⟩
  refine⟨fun j hj=>?_,h2⟩
  have:=h (j+1) (by omega)
  simp only[risP,Bool.and_eq_true,Bool.or_eq_true,decide_eq_true_eq] at this
  simp only[incP,decide_eq_true_eq]
  have:=this.2
  simp only[Nat.add_sub_cancel] at this
  omega
def rows2(m:Mp):List (List AV):=[[.sl (ints m.ri)],[.sl (ints m.ro)]]
def two(m:Mp)(i:Nat):List Int:=if i=0 then m.ri else m.ro
omit hC in
theorem rows2_get{m:Mp}{i:Nat}(h:i<2):(rows2 m)[i]?=some [.sl (ints (two m i))]:=by
 have:i=0∨i=1:=by omega
 rcases this with rfl | rfl<;>rfl
omit hC in
theorem two_len{m:Mp}(hb:MpB (2^50) m)(i:Nat):(two m i).length<2^50:=by
 unfold two;split
 ·exact hb.ri
 ·exact hb.ro
omit hC in
theorem two_no{m:Mp}{i:Nat}(h:i<2)(hf:edgesOk m (two m i)=false):(edgesOk m m.ri&&edgesOk m m.ro)=false:=by
 have:i=0∨i=1:=by omega
 rcases this with rfl | rfl
 ·rw[show edgesOk m m.ri=false from hf];rfl
 ·rw[show edgesOk m m.ro=false from hf,Bool.and_false]
theorem t154(m:Mp)(hb:MpB (2^50) m):Ev C 154 [.agg (mpF m)] (.bool (mpOk m)):=by
 have b1:=hb.t
 have c1:=fun e hw hh=>t180 hC m e hw hh
 simp only[mpF] at *
 refine rT hC Q154 ?_
 simp only[c154,ints_length,push_cast,↓J1,↓J2,N1,N2,N3,reduceCtorEq,N4,N5,N6,reduceIte,N7,I1,I2,I3]
 refine⟨_,tRange hC _ _ _,?_⟩
 cases g1:inR 1 10 m.w
 ·simp only[mpOk,g1,push_cast,↓J1,↓J2,N1,N2,N3,reduceCtorEq,N4,N5,N6,reduceIte,N7,I1,I2,I3]
 simp only[push_cast,↓J1,↓J2,N1,N2,N3,reduceCtorEq,N4,N5,N6,reduceIte,N7,I1,I2,I3]
 refine⟨_,tRange hC _ _ _,?_⟩
 cases g2:inR 1 10 m.h
 ·simp only[mpOk,g1,g2,push_cast,↓J1,↓J2,N1,N2,N3,reduceCtorEq,N4,N5,N6,reduceIte,N7,I1,I2,I3]
 have hw:=g1
 have hh:=g2
 simp only[inR,Bool.and_eq_true,decide_eq_true_eq] at hw hh
 have hwh:=wh_le hw hh
 simp only[ints_length,push_cast,↓J1,↓J2,N1,N2,N3,reduceCtorEq,N4,N5,N6,reduceIte,N7,I1,I2,I3]
 rw[wrap64 (n:=m.w*m.h) (by omega) (by omega)]
 cases g3:decide ((m.t.length:Int)=m.w*m.h)
 ·simp only[mpOk,g1,g2,g3,push_cast,↓J1,↓J2,N1,N2,N3,reduceCtorEq,N4,N5,N6,reduceIte,N7,I1,I2,I3]
 simp only[ints_length,push_cast,↓J1,↓J2,N1,N2,N3,reduceCtorEq,N4,N5,N6,reduceIte,N7,I1,I2,I3]
 refine RL_count (fun i=>⟨tb 66 .any [(1,.ptr 0 none 0 0 0),(31,.sl (ints m.t)),(32,.int .i64 (m.t.length:Int)),(33,.int .i64 (i:Int))],[(0,.var (mpF m))],1⟩) (fun i=>m.t.all (inR 0 5)=(m.t.drop i).all (inR 0 5)) m.t.length 0 (hdA [(0,0)]) (by omega) rfl fun i hi' ht J hJ=>?_
 simp only[mpF]
 by_cases h1:i<m.t.length
 ·have e1:(ints m.t)[i]?=some [.int .i64 m.t[i]]:=by simp[ints,h1]
  rw[List.drop_eq_getElem_cons h1,List.all_cons] at ht
  simp only[Int.toNat_natCast,e1,push_cast,↓J1,↓J2,N1,N2,N3,reduceCtorEq,N4,N5,N6,reduceIte,N7,I1,I2,I3]
  refine ifB_intro (fun _=>?_) (fun h=>by simp at h;omega)
  repeat (refine⟨by omega,?_⟩)
  refine⟨_,tIdx hC _ 6 (by omega),?_⟩
  cases g4:inR 0 (6-1) m.t[i]
  ·have:m.t.all (inR 0 5)=false:=by rw[ht,show inR 0 5 m.t[i]=false from g4];rfl
   simp only[mpOk,this,push_cast,↓J1,↓J2,N1,N2,N3,reduceCtorEq,N4,N5,N6,reduceIte,N7,I1,I2,I3]
  ·simp only[push_cast,↓J1,↓J2,N1,N2,N3,reduceCtorEq,N4,N5,N6,reduceIte,N7,I1,I2,I3]
   refine hJ h1 ?_ _ (hdA [(0,0)])
   rw[ht,show inR 0 5 m.t[i]=true from g4,Bool.true_and]
 ·simp only[ints_length,push_cast,↓J1,↓J2,N1,N2,N3,reduceCtorEq,N4,N5,N6,reduceIte,N7,I1,I2,I3]
  refine ifB_intro (fun h=>by simp at h;omega) (fun h=>?_)
  rw[List.drop_eq_nil_of_le (by omega)] at ht
  clear hJ
  have g4:m.t.all (inR 0 5)=true:=ht
  rw[show mpOk m=(edgesOk m m.ri&&edgesOk m m.ro) by simp only[mpOk,g1,g2,g3,g4,Bool.true_and]]
  refine RL_count (fun i=>⟨tb 66 .any [(1,.ptr 0 none 0 0 0),(45,.ref 1 none 1 0 2),(46,.int .i64 2),(47,.int .i64 (i:Int))],[(1,.slice 1 (rows2 m)),(0,.var (mpF m))],2⟩) (fun i=> ∀j,j<i→edgesOk m (two m j)=true) 2 0 (hdA [(1,1),(0,0)]) (by omega) (by omega) fun i hi' ht J hJ=>?_
  simp only[mpF]
  by_cases h1:i<2
  ·have e1:=rows2_get h1 (m:=m)
   have hl:=two_len hb i
   have hno:=two_no h1 (m:=m)
   generalize hL:two m i=l at *
   simp only[Int.toNat_natCast,e1,push_cast,↓J1,↓J2,N1,N2,N3,reduceCtorEq,N4,N5,N6,reduceIte,N7,I1,I2,I3]
   refine ifB_intro (fun _=>?_) (fun h=>by simp at h;omega)
   repeat (refine⟨by omega,?_⟩)
   refine⟨_,t160 hC l hl,?_⟩
   cases g5:upto (l.length-1) (incP l)
   ·have hf:edgesOk m l=false:=by rw[←edges_eq,g5];rfl
    simp only[hno hf,push_cast,↓J1,↓J2,N1,N2,N3,reduceCtorEq,N4,N5,N6,reduceIte,N7,I1,I2,I3]
   simp only[ints_length,push_cast,↓J1,↓J2,N1,N2,N3,reduceCtorEq,N4,N5,N6,reduceIte,N7,I1,I2,I3]
   have eqe:=edges_eq m l
   rw[g5,Bool.true_and] at eqe
   refine RL_count (fun k=>⟨tb 66 .any [(1,.ptr 0 none 0 0 0),(45,.ref 1 none 1 0 2),(46,.int .i64 2),(47,.int .i64 (i:Int)),(54,.sl (ints l)),(55,.int .i64 (l.length:Int)),(56,.int .i64 (k:Int))],[(1,.slice 1 (rows2 m)),(0,.var (mpF m))],2⟩) (fun k=>l.all (edgeOk m)=(l.drop k).all (edgeOk m)) l.length 0 (hdA [(1,1),(0,0)]) (by omega) rfl fun k hk' hk J' hJ'=>?_
   simp only[mpF]
   by_cases h2:k<l.length
   ·have e2:(ints l)[k]?=some [.int .i64 l[k]]:=by simp[ints,h2]
    rw[List.drop_eq_getElem_cons h2,List.all_cons] at hk
    simp only[Int.toNat_natCast,e2,push_cast,↓J1,↓J2,N1,N2,N3,reduceCtorEq,N4,N5,N6,reduceIte,N7,I1,I2,I3]
    refine ifB_intro (fun _=>?_) (fun h=>by simp at h;omega)
    repeat (refine⟨by omega,?_⟩)
    refine⟨_,c1 l[k] hw hh,?_⟩
    cases g6:edgeOk m l[k]
    ·have hf:edgesOk m l=false:=by rw[←eqe,hk,g6];rfl
     simp only[hno hf,push_cast,↓J1,↓J2,N1,N2,N3,reduceCtorEq,N4,N5,N6,reduceIte,N7,I1,I2,I3]
    ·simp only[push_cast,↓J1,↓J2,N1,N2,N3,reduceCtorEq,N4,N5,N6,reduceIte,N7,I1,I2,I3]
     refine hJ' h2 ?_ _ (hdA [(1,1),(0,0)])
     rw[hk,g6,Bool.true_and]
   ·simp only[ints_length,push_cast,↓J1,↓J2,N1,N2,N3,reduceCtorEq,N4,N5,N6,reduceIte,N7,I1,I2,I3]
    refine ifB_intro (fun h=>by simp at h;omega) (fun h=>?_)
    rw[List.drop_eq_nil_of_le (by omega)] at hk
    have hf:edgesOk m l=true:=by rw[←eqe,hk];rfl
    refine hJ h1 (fun j hj=>?_) _ (hdA [(1,1),(0,0)])
    by_cases hij:j=i
    ·subst hij;rw[hL];exact hf
    ·exact ht j (by omega)
  ·simp only[push_cast,↓J1,↓J2,N1,N2,N3,reduceCtorEq,N4,N5,N6,reduceIte,N7,I1,I2,I3]
   refine ifB_intro (fun h=>by simp at h;omega) (fun h=>?_)
   have a1:edgesOk m m.ri=true:=ht 0 (by omega)
   have a2:edgesOk m m.ro=true:=ht 1 (by omega)
   rw[a1,a2];rfl
theorem t156(x:Int)(b:Brd):Ev C 156 [.int .i64 x,.pf (rulF b.r++mpF b.m)] (.bool (decide ((b.r.ts.length:Int)≤x))):=by
 simp only[rulF,mpF,List.cons_append,List.nil_append]
 refine rT hC Q156 ?_
 simp only[c156,tersF_length,push_cast,↓J1,↓J2,N1,N2,N3,reduceCtorEq,N4,N5,N6,reduceIte,N7,I1,I2,I3]
omit hC in
theorem brd_eq{b:Brd}(h:mpOk b.m=true):(!b.m.t.any fun x=>decide ((b.r.ts.length:Int)≤x))=b.m.t.all (inR 0 (b.r.ts.length-1)):=by
 have h5:b.m.t.all (inR 0 5)=true:=by
  simp only[mpOk,Bool.and_eq_true] at h;exact h.1.1.2
 rw[List.all_eq_true] at h5
 rw[Bool.eq_iff_iff]
 simp only[Bool.not_eq_true',List.any_eq_false,List.all_eq_true,decide_eq_true_eq]
 constructor
 ·intro h1 x hx
  have:=h1 x hx;have h6:=h5 x hx
  simp only[inR,Bool.and_eq_true,decide_eq_true_eq] at h6⊢;omega
 ·intro h1 x hx
  have:=h1 x hx
  simp only[inR,Bool.and_eq_true,decide_eq_true_eq] at this;omega
theorem t130(b:Brd)(hb:BrdB (2^50) b):Ev C 130 [brdF b] (.bool (brdOk b)):=by
 have c1:=t153 hC b.r hb.r
 have c2:=t154 hC b.m hb.m
 have c3:=t155 hC b.m.t 156 [.pf (rulF b.r++mpF b.m)] _ hb.m.t rfl rfl fun x _=>t156 hC x b
 simp only[brdF,rulF,mpF,brdOk,List.cons_append,List.nil_append] at *
 refine rT hC Q130 ?_
 simp only[c130,push_cast,↓J1,↓J2,N1,N2,N3,reduceCtorEq,N4,N5,N6,reduceIte,N7,I1,I2,I3]
 refine⟨_,c1,?_⟩
 cases g1:rulOk b.r
 ·simp only[push_cast,↓J1,↓J2,N1,N2,N3,reduceCtorEq,N4,N5,N6,reduceIte,N7,I1,I2,I3]
 simp only[push_cast,↓J1,↓J2,N1,N2,N3,reduceCtorEq,N4,N5,N6,reduceIte,N7,I1,I2,I3]
 refine⟨_,c2,?_⟩
 cases g2:mpOk b.m
 ·simp only[push_cast,↓J1,↓J2,N1,N2,N3,reduceCtorEq,N4,N5,N6,reduceIte,N7,I1,I2,I3]
 simp only[push_cast,↓J1,↓J2,N1,N2,N3,reduceCtorEq,N4,N5,N6,reduceIte,N7,I1,I2,I3]
 refine⟨_,c3,?_⟩
 simp only[push_cast,↓J1,↓J2,N1,N2,N3,reduceCtorEq,N4,N5,N6,reduceIte,N7,I1,I2,I3]
 exact brd_eq g2
end
end Go.Proofs.YthggfnefjbckeaaGreatDoor.X
set_option maxHeartbeats 4000000
set_option maxRecDepth 8000
set_option linter.unusedSimpArgs false
set_option linter.unusedVariables false
open Nat renaming reduceBEq→N1,reduceAdd→N2,reduceSub→N3,reduceMul→N4,reduceEqDiff→N5,reduceLeDiff→N6,reduceLT→N7
open Int renaming reduceLE→I1,reduceLT→I2,reduceToNat→I3
namespace Go.Proofs.YthggfnefjbckeaaGreatDoor.X
open Go
attribute [local irreducible] Ev
section
variable{C:CT}(hC:Closed Tryz.prog G1 md0 C)
include hC
omit hC in
theorem RulB.mono{A B:Nat}{r:Rul}(h:A≤B)(hb:RulB A r):RulB B r:=⟨by have:=hb.ts;omega,by have:=hb.ks;omega,fun x hx=>by have:=hb.t x hx;omega,fun x hx=>by have:=hb.k x hx;omega⟩
omit hC in
theorem MpB.mono{A B:Nat}{m:Mp}(h:A≤B)(hb:MpB A m):MpB B m:=⟨by have:=hb.t;omega,by have:=hb.ri;omega,by have:=hb.ro;omega⟩
omit hC in
theorem BrdB.mono{A B:Nat}{b:Brd}(h:A≤B)(hb:BrdB A b):BrdB B b:=⟨hb.r.mono h,hb.m.mono h⟩
omit hC in
theorem mp_wh{m:Mp}(h:mpOk m=true):(1≤m.w∧m.w≤10)∧1≤m.h∧m.h≤10:=by
 simp only[mpOk,inR,Bool.and_eq_true,decide_eq_true_eq] at h
 exact⟨h.1.1.1.1.1,h.1.1.1.1.2⟩
omit hC in
theorem brd_mp{b:Brd}(h:brdOk b=true):mpOk b.m=true:=by
 simp only[brdOk,Bool.and_eq_true] at h;exact h.1.2
omit hC in
theorem brd_ru{b:Brd}(h:brdOk b=true):rulOk b.r=true:=by
 simp only[brdOk,Bool.and_eq_true] at h;exact h.1.1
def kindAsk(b:Brd)(k:Int):Bool:=brdOk b&&inR 0 (b.r.ks.length-1) k
def k0:Kin:=⟨ByteArray.empty,0,0,0,false,0⟩
def kindOf(b:Brd)(k:Int):Kin:=b.r.ks.getD k.toNat k0
omit hC in
theorem kins_get{b:Brd}{k:Nat}(h:k<b.r.ks.length):(kins b.r.ks)[k]?=some (kinA (kindOf b k)):=by
 simp[kins,kindOf,List.getD,h]
omit hC in
theorem kind_at{b:Brd}{k:Int}(h:kindAsk b k=true):0≤k∧k<b.r.ks.length:=by
 simp only[kindAsk,inR,Bool.and_eq_true,decide_eq_true_eq] at h
 omega
theorem t123(b:Brd)(k a:Int)(hb:BrdB (2^50) b):Ev C 123 [brdF b,.int .i64 k,.int .i64 a] (.bool (kindAsk b k&&inR 0 (b.m.w*b.m.h-1) a)):=by
 have c1:=t111 hC b hb
 have b2:=hb.r.ks
 simp only[brdF,rulF,mpF,List.cons_append,List.nil_append,kindAsk] at *
 refine rT hC Q123 ?_
 simp only[c123,push_cast,↓J1,↓J2,N1,N2,N3,reduceCtorEq,N4,N5,N6,reduceIte,N7,I1,I2,I3]
 refine⟨_,c1,?_⟩
 cases g1:brdOk b
 ·simp only[push_cast,↓J1,↓J2,N1,N2,N3,reduceCtorEq,N4,N5,N6,reduceIte,N7,I1,I2,I3]
 have hm:=mp_wh (brd_mp g1)
 have hwh:=wh_le hm.1 hm.2
 have c2:=t124 hC b.m hm.1 hm.2
 simp only[mpF] at c2
 simp only[kins_length,push_cast,↓J1,↓J2,N1,N2,N3,reduceCtorEq,N4,N5,N6,reduceIte,N7,I1,I2,I3]
 rw[wrap64 (n:=(b.r.ks.length:Int)-1) (by omega) (by omega)]
 refine⟨_,tIn hC _ _ _,?_⟩
 cases g2:inR 0 ((b.r.ks.length:Int)-1) k
 ·simp only[push_cast,↓J1,↓J2,N1,N2,N3,reduceCtorEq,N4,N5,N6,reduceIte,N7,I1,I2,I3]
 simp only[push_cast,↓J1,↓J2,N1,N2,N3,reduceCtorEq,N4,N5,N6,reduceIte,N7,I1,I2,I3]
 refine⟨_,c2,?_⟩
 simp only[push_cast,↓J1,↓J2,N1,N2,N3,reduceCtorEq,N4,N5,N6,reduceIte,N7,I1,I2,I3]
 rw[wrap64 (n:=b.m.w*b.m.h-1) (by omega) (by omega)]
 refine⟨_,tIn hC _ _ _,?_⟩
 simp only[push_cast,↓J1,↓J2,N1,N2,N3,reduceCtorEq,N4,N5,N6,reduceIte,N7,I1,I2,I3]
theorem t183(b:Brd)(k:Int)(hb:BrdB (2^50) b):Ev C 183 [brdF b,.int .i64 k] (.bool (kindAsk b k)):=by
 have c1:=t130 hC b hb
 have b2:=hb.r.ks
 simp only[brdF,rulF,mpF,List.cons_append,List.nil_append,kindAsk] at *
 refine rT hC Q183 ?_
 simp only[c183,push_cast,↓J1,↓J2,N1,N2,N3,reduceCtorEq,N4,N5,N6,reduceIte,N7,I1,I2,I3]
 refine⟨_,c1,?_⟩
 cases g1:brdOk b
 ·simp only[push_cast,↓J1,↓J2,N1,N2,N3,reduceCtorEq,N4,N5,N6,reduceIte,N7,I1,I2,I3]
 simp only[kins_length,push_cast,↓J1,↓J2,N1,N2,N3,reduceCtorEq,N4,N5,N6,reduceIte,N7,I1,I2,I3]
 refine⟨_,tIdx hC _ _ (by omega),?_⟩
 simp only[push_cast,↓J1,↓J2,N1,N2,N3,reduceCtorEq,N4,N5,N6,reduceIte,N7,I1,I2,I3]
end
end Go.Proofs.YthggfnefjbckeaaGreatDoor.X
