/- A part of the proof: lemmas on the machine or on the functions that the law reaches. No condition of its own. -/
import Derived.Test.YthggfnefjbckeaaGreatDoorXP3
set_option maxHeartbeats 4000000
set_option maxRecDepth 8000
set_option linter.unusedSimpArgs false
set_option linter.unusedVariables false
open Nat renaming reduceBEq→N1,reduceAdd→N2,reduceSub→N3,reduceMul→N4,reduceEqDiff→N5,reduceLeDiff→N6,reduceLT→N7
open Int renaming reduceLE→I1,reduceLT→I2,reduceToNat→I3
namespace Go.Proofs.YthggfnefjbckeaaGreatDoor.X
open Go
attribute [local irreducible] Ev
structure Wk where
 sd:Int
 at_:Int
 pt:Int
 q:List Int
 deriving DecidableEq
section
variable{C:CT}(hC:Closed Tryz.prog G1 md0 C)
include hC
omit hC in
theorem brd_wh{b:Brd}(h:brdOk b=true):(b.m.t.length:Int)=b.m.w*b.m.h∧1≤b.m.w*b.m.h∧b.m.w*b.m.h≤100:=by
 have h1:=brd_mp h
 have h2:=mp_wh h1
 simp only[mpOk,Bool.and_eq_true,decide_eq_true_eq] at h1
 exact⟨h1.1.1.1.2,wh_le h2.1 h2.2⟩
theorem t35(x:Int):Ev C 35 [.int .i64 x] (.bool (inR 0 1 x)):=by
 refine rT hC Q35 ?_
 simp only[c35,push_cast,↓J1,↓J2,N1,N2,N3,reduceCtorEq,N4,N5,N6,reduceIte,N7,I1,I2,I3]
 refine⟨_,tRange hC _ _ _,?_⟩
 simp only[push_cast,↓J1,↓J2,N1,N2,N3,reduceCtorEq,N4,N5,N6,reduceIte,N7,I1,I2,I3]
theorem t134(b:Brd):Ev C 134 [brdF b] (.int .i64 (b.m.t.length:Int)):=by
 simp only[brdF,rulF,mpF,List.cons_append,List.nil_append]
 refine rT hC Q134 ?_
 simp only[c134,ints_length,push_cast,↓J1,↓J2,N1,N2,N3,reduceCtorEq,N4,N5,N6,reduceIte,N7,I1,I2,I3]
omit hC in
theorem szBrd_le{b:Brd}{v:Int}(h0:0≤v)(hB:v≤2^50): -1≤szBrd b v∧szBrd b v≤v:=by
 have h1:=szRul_le (r:=b.r) h0 hB
 simp only[szBrd,andThen]
 split
 ·omega
 ·have h2:=szMp_le (m:=b.m) (v:=szRul b.r v) (by omega)
  split<;>omega
end
end Go.Proofs.YthggfnefjbckeaaGreatDoor.X
set_option maxHeartbeats 4000000
set_option maxRecDepth 8000
set_option linter.unusedSimpArgs false
set_option linter.unusedVariables false
open Nat renaming reduceBEq→N1,reduceAdd→N2,reduceSub→N3,reduceMul→N4,reduceEqDiff→N5,reduceLeDiff→N6,reduceLT→N7
open Int renaming reduceLE→I1,reduceLT→I2,reduceToNat→I3
namespace Go.Proofs.YthggfnefjbckeaaGreatDoor.X
open Go
attribute [local irreducible] Ev
section
variable{C:CT}(hC:Closed Tryz.prog G1 md0 C)
include hC
end
end Go.Proofs.YthggfnefjbckeaaGreatDoor.X
set_option maxHeartbeats 2000000
set_option maxRecDepth 8000
set_option linter.unusedSimpArgs false
set_option linter.unusedVariables false
open Nat renaming reduceBEq→N1,reduceAdd→N2,reduceSub→N3,reduceMul→N4,reduceEqDiff→N5,reduceLeDiff→N6,reduceLT→N7
open Int renaming reduceLE→I1,reduceLT→I2,reduceToNat→I3
namespace Go.Proofs.YthggfnefjbckeaaGreatDoor.X
open Go
structure Un where
 sd:Int
 k:Int
 at_:Int
 st:Int
 deriving DecidableEq
def unA(u:Un):List AV:=[.int .i64 u.sd,.int .i64 u.k,.int .i64 u.at_,.int .i64 u.st]
def uns(l:List Un):List (List AV):=l.map unA
theorem uns_length(l:List Un):(uns l).length=l.length:=by simp[uns]
theorem uns_get{l:List Un}{i:Nat}(h:i<l.length):(uns l)[i]?=some (unA l[i]):=by simp[uns,h]
theorem frzLL_uns(l:List Un):frzLL (uns l)=uns l:=by
 unfold uns
 induction l with
 | nil=>rfl
 | cons x l ih=>simp only[List.map_cons,frzLL,unA,frzL,frzT,ih]
theorem own_uns(l:List Un):ownRLL (uns l)=true:=by
 unfold uns
 induction l with
 | nil=>rfl
 | cons x l ih=>simp only[List.map_cons,ownRLL,unA,ownRL,ownR,Bool.and_true,Bool.true_and];exact ih
structure Sta where
 t:Int
 w:Int
 us:List Un
 deriving DecidableEq
def staF(s:Sta):List AV:=[.int .i64 s.t,.int .i64 s.w,.sl (uns s.us)]
def staO(s:Sta):List AV:=[.int .i64 s.t,.int .i64 s.w,.ow 4 (uns s.us)]
def szSta(s:Sta)(v:Int):Int:=sub1 v s.us.length
def ter0:Ter:=⟨ByteArray.empty,[],0,0,false⟩
def terAt(b:Brd)(i:Int):Ter:=b.r.ts.getD (b.m.t.getD i.toNat 0).toNat ter0
def costAt(b:Brd)(k i:Int):Int:=(terAt b i).c.getD k.toNat 0
def placed(b:Brd)(u:Un):Bool:=decide (0<u.st)&&inR 0 (b.m.w*b.m.h-1) u.at_&&decide (0<costAt b u.k u.at_)
def unOk(b:Brd)(u:Un):Bool:=inR 0 1 u.sd&&inR 0 (b.r.ks.length-1) u.k&&inR 0 (kindOf b u.k).sp u.st&&(decide (u.at_= -1)||placed b u)
def isAt(a sd:Int)(u:Un):Bool:=decide (u.at_=a)&&decide (u.sd=sd)
def cnt(us:List Un)(a sd:Int):Nat:=us.countP (isAt a sd)
def stackOk(b:Brd)(us:List Un)(u:Un):Bool:=!(decide (0≤u.at_)&&(decide (0<cnt us u.at_ (1-u.sd))||decide (b.r.stack<(cnt us u.at_ u.sd:Int))))
def staOk0(b:Brd)(s:Sta):Bool:=inR 0 b.r.turns s.t&&inR 0 2 s.w&&decide ((s.us.length:Int)≤12)&&s.us.all (unOk b)&&s.us.all (stackOk b s.us)
def staOk(b:Brd)(s:Sta):Bool:=brdOk b&&staOk0 b s
theorem cnt_take_le(us:List Un)(n:Nat)(a sd:Int):cnt (us.take n) a sd≤cnt us a sd:=(List.take_sublist n us).countP_le
theorem cnt_succ{us:List Un}{i:Nat}(h:i<us.length)(a sd:Int):cnt (us.take (i+1)) a sd=cnt (us.take i) a sd+if isAt a sd us[i] then 1 else 0:=by
 rw[cnt,List.take_succ_eq_append_getElem h,List.countP_append]
 simp only[List.countP_cons,List.countP_nil,Nat.zero_add,cnt]
theorem cnt_le_len(us:List Un)(a sd:Int):cnt us a sd≤us.length:=List.countP_le_length
theorem cnt_last{a sd:Int}: ∀{us:List Un},0<cnt us a sd→ ∃m,∃h:m<us.length,isAt a sd us[m]=true∧cnt (us.take (m+1)) a sd=cnt us a sd:=by
 intro us
 have key: ∀n,n≤us.length→0<cnt (us.take n) a sd→ ∃m,∃h:m<us.length,isAt a sd us[m]=true∧cnt (us.take (m+1)) a sd=cnt (us.take n) a sd:=by
  intro n
  induction n with
  | zero=>intro _ h;simp[cnt] at h
  | succ n ih=>
   intro hn h
   have hs:=cnt_succ (us:=us) (i:=n) (by omega) a sd
   by_cases hi:isAt a sd us[n]=true
   ·exact⟨n,by omega,hi,rfl⟩
   ·rw[if_neg hi,Nat.add_zero] at hs
    obtain⟨m,hm,h1,h2⟩:=ih (by omega) (by omega)
    exact⟨m,hm,h1,by omega⟩
 intro h
 obtain⟨m,hm,h1,h2⟩:=key us.length (Nat.le_refl _) (by rw[List.take_length];exact h)
 exact⟨m,hm,h1,by rw[h2,List.take_length]⟩
theorem stack_mono{b:Brd}{us:List Un}{u:Un}(n:Nat)(h:stackOk b us u=true):stackOk b (us.take n) u=true:=by
 simp only[stackOk,Bool.not_eq_true',Bool.and_eq_false_iff,Bool.or_eq_false_iff,decide_eq_false_iff_not] at h⊢
 have h1:=cnt_take_le us n u.at_ (1-u.sd)
 have h2:=cnt_take_le us n u.at_ u.sd
 rcases h with h | ⟨h,h'⟩
 ·exact .inl h
 ·exact .inr ⟨by omega,by omega⟩
theorem un_sd{b:Brd}{u:Un}(h:unOk b u=true):u.sd=0∨u.sd=1:=by
 simp only[unOk,inR,Bool.and_eq_true,decide_eq_true_eq] at h
 omega
theorem stack_all{b:Brd}{us:List Un}(hu: ∀i (h:i<us.length),unOk b us[i]=true)(hs: ∀i (h:i<us.length),stackOk b (us.take (i+1)) us[i]=true):us.all (stackOk b us)=true:=by
 rw[List.all_eq_true]
 intro u hm
 obtain⟨i,hi,rfl⟩:=List.getElem_of_mem hm
 simp only[stackOk,Bool.not_eq_true',Bool.and_eq_false_iff,Bool.or_eq_false_iff,decide_eq_false_iff_not]
 by_cases ha:0≤us[i].at_
 ·right
  constructor
  ·intro hc
   obtain⟨j,hj,h1,h2⟩:=cnt_last hc
   simp only[isAt,Bool.and_eq_true,decide_eq_true_eq] at h1
   rcases Nat.lt_trichotomy i j with hij | hij | hij
   ·have:=hs j hj
    simp only[stackOk,Bool.not_eq_true',Bool.and_eq_false_iff,Bool.or_eq_false_iff,decide_eq_false_iff_not] at this
    rcases this with this | ⟨this,_⟩
    ·omega
    ·apply this
     refine List.countP_pos_iff.2 ⟨us[i],?_,?_⟩
     ·exact List.mem_take_iff_getElem.2 ⟨i,by omega,rfl⟩
     ·simp only[isAt,Bool.and_eq_true,decide_eq_true_eq];omega
   ·subst hij;rcases un_sd (hu i hi) with e | e<;>omega
   ·have:=hs i hi
    simp only[stackOk,Bool.not_eq_true',Bool.and_eq_false_iff,Bool.or_eq_false_iff,decide_eq_false_iff_not] at this
    rcases this with this | ⟨this,_⟩
    ·omega
    ·apply this
     refine List.countP_pos_iff.2 ⟨us[j],?_,?_⟩
     ·exact List.mem_take_iff_getElem.2 ⟨j,by omega,rfl⟩
     ·simp only[isAt,Bool.and_eq_true,decide_eq_true_eq];omega
  ·intro hc
   have hp:0<cnt us us[i].at_ us[i].sd:=List.countP_pos_iff.2 ⟨us[i],List.getElem_mem hi,by simp[isAt]⟩
   obtain⟨j,hj,h1,h2⟩:=cnt_last hp
   simp only[isAt,Bool.and_eq_true,decide_eq_true_eq] at h1
   have:=hs j hj
   simp only[stackOk,Bool.not_eq_true',Bool.and_eq_false_iff,Bool.or_eq_false_iff,decide_eq_false_iff_not,h1.1,h1.2] at this
   rcases this with this | ⟨_,this⟩
   ·omega
   ·omega
 ·exact .inl ha
def tblRow(us:List Un)(h:Nat):List AV:=[.int .i64 (cnt us h 0:Int),.int .i64 (cnt us h 1:Int)]
def tblR(us:List Un)(n:Nat):List (List AV):=(List.range n).map (tblRow us)
theorem tblR_length(us:List Un)(n:Nat):(tblR us n).length=n:=by simp[tblR]
theorem tblR_get{us:List Un}{n h:Nat}(hh:h<n):(tblR us n)[h]?=some (tblRow us h):=by simp[tblR,hh]
theorem tblR_nil(n:Nat):tblR [] n=List.replicate n [.int .i64 0,.int .i64 0]:=by
 apply List.ext_getElem (by simp[tblR])
 intro i h1 h2
 simp[tblR,tblRow,cnt]
theorem tblR_away{us:List Un}{i n:Nat}(h:i<us.length)(ha:us[i].at_<0):tblR (us.take (i+1)) n=tblR (us.take i) n:=by
 unfold tblR
 apply List.map_congr_left
 intro x _
 simp only[tblRow,cnt_succ h]
 have e: ∀sd,isAt (x:Int) sd us[i]=false:=fun sd=>by simp only[isAt,Bool.and_eq_false_iff,decide_eq_false_iff_not];omega
 simp[e]
theorem tblR_add{us:List Un}{i n a s:Nat}(h:i<us.length)(ha:us[i].at_=a)(hs:us[i].sd=s)(hs2:s<2)(han:a<n):tblR (us.take (i+1)) n=(tblR (us.take i) n).set a ((tblRow (us.take i) a).set s (.int .i64 ((cnt (us.take i) a s:Int)+1))):=by
 apply List.ext_getElem (by simp[tblR])
 intro x h1 h2
 rw[List.getElem_set]
 simp only[tblR,List.getElem_map,List.getElem_range]
 by_cases hx:a=x
 ·subst hx
  rw[if_pos rfl]
  have e: ∀sd:Int,isAt (a:Int) sd us[i]=decide ((s:Int)=sd):=fun sd=>by simp[isAt,ha,hs]
  have:s=0∨s=1:=by omega
  rcases this with rfl | rfl<;>simp[tblRow,cnt_succ h,e]
 ·rw[if_neg hx]
  have e: ∀sd,isAt (x:Int) sd us[i]=false:=fun sd=>by simp only[isAt,Bool.and_eq_false_iff,decide_eq_false_iff_not];omega
  simp[tblRow,cnt_succ h,e]
def fil{α:Type}(p:α→Bool)(l:List α)(n:Nat):List Int:=((List.range n).filter fun i=>match l[i]? with | some u=>p u | none=>false).map fun(i:Nat)=>(i:Int)
theorem fil_succ{α:Type}{p:α→Bool}{l:List α}{n:Nat}(h:n<l.length):fil p l (n+1)=if p l[n] then fil p l n++[(n:Int)] else fil p l n:=by
 simp only[fil,List.range_succ,List.filter_append,List.map_append,List.filter_cons,List.filter_nil,List.getElem?_eq_getElem h]
 split<;>simp
theorem fil_len{α:Type}{p:α→Bool}{l:List α}: ∀{n:Nat},n≤l.length→(fil p l n).length=(l.take n).countP p:=by
 intro n
 induction n with
 | zero=>intro _;simp[fil]
 | succ n ih=>
  intro h
  rw[fil_succ (by omega),List.take_succ_eq_append_getElem h,List.countP_append]
  have:=ih (by omega)
  split<;>rename_i hp<;>simp[this,hp]
theorem fil_le{α:Type}{p:α→Bool}{l:List α}{n:Nat}(h:n≤l.length):(fil p l n).length≤l.length:=by
 rw[fil_len h]
 have:=List.countP_le_length (p:=p) (l:=l.take n)
 simp at this;omega
theorem fil_mem{α:Type}{p:α→Bool}{l:List α}{n:Nat}{x:Int}(h:x∈fil p l n): ∃k:Nat,∃hk:k<l.length,x=k∧k<n∧p l[k]=true:=by
 simp only[fil,List.mem_map,List.mem_filter,List.mem_range] at h
 obtain⟨k,⟨h1,h2⟩,rfl⟩:=h
 split at h2
 ·rename_i u hu
  have hk:=(List.getElem?_eq_some_iff.1 hu)
  exact⟨k,hk.1,rfl,h1,by rw[hk.2];exact h2⟩
 ·cases h2
theorem terOk_len{b:Brd}(g:brdOk b=true){i:Nat}(h:i<b.r.ts.length):b.r.ts[i].c.length=b.r.ks.length∧ ∀x∈b.r.ts[i].c,0≤x∧x≤9:=by
 have hr:=brd_ru g
 simp only[rulOk,Bool.and_eq_true] at hr
 have:=allI_get hr.1.1.2 i h
 simp only[terOk,Bool.and_eq_true,decide_eq_true_eq,List.all_eq_true] at this
 refine⟨by have:=this.1.1.1.2;omega,fun x hx=>?_⟩
 have:=this.1.1.2 x hx
 simp only[inR,Bool.and_eq_true,decide_eq_true_eq] at this
 exact this
theorem ter_in{b:Brd}(g:brdOk b=true){i:Nat}(h:i<b.m.t.length):0≤b.m.t.getD i 0∧b.m.t.getD i 0<b.r.ts.length:=by
 have:b.m.t.all (inR 0 (b.r.ts.length-1))=true:=by simp only[brdOk,Bool.and_eq_true] at g;exact g.2
 rw[List.all_eq_true] at this
 have:=this (b.m.t[i]) (List.getElem_mem h)
 simp only[inR,Bool.and_eq_true,decide_eq_true_eq] at this
 simp only[List.getD,List.getElem?_eq_getElem h,Option.getD_some]
 omega
end Go.Proofs.YthggfnefjbckeaaGreatDoor.X
set_option maxHeartbeats 4000000
set_option maxRecDepth 8000
set_option linter.unusedSimpArgs false
set_option linter.unusedVariables false
open Nat renaming reduceBEq→N1,reduceAdd→N2,reduceSub→N3,reduceMul→N4,reduceEqDiff→N5,reduceLeDiff→N6,reduceLT→N7
open Int renaming reduceLE→I1,reduceLT→I2,reduceToNat→I3
namespace Go.Proofs.YthggfnefjbckeaaGreatDoor.X
open Go
attribute [local irreducible] Ev
section
variable{C:CT}(hC:Closed Tryz.prog G1 md0 C)
include hC
theorem t24(l:List Un)(v:Int)(hv:0≤v∧v<2^50)(hl:l.length<2^50):Ev C 24 [.sl (uns l),.int .i64 v] (.int .i64 (sub1 v l.length)):=by
 refine rT hC Q24 ?_
 simp only[c24,uns_length,push_cast,↓J1,↓J2,N1,N2,N3,reduceCtorEq,N4,N5,N6,reduceIte,N7,I1,I2,I3]
 rw[wrap64 (by omega) (by omega)]
 refine ifB_intro (fun h=>?_) (fun h=>?_)
 ·have h':v<l.length:=by simp at h;omega
  simp only[sub1,if_pos h']
 ·have h': ¬v<l.length:=by simp at h;omega
  simp only[sub1,if_neg h']
theorem t6(s:Sta)(v:Int)(hv:0≤v∧v<2^50)(hl:s.us.length<2^50):Ev C 6 [.agg (staF s),.int .i64 v] (.int .i64 (szSta s v)):=by
 simp only[staF]
 refine rT hC Q6 ?_
 simp only[c6,push_cast,↓J1,↓J2,N1,N2,N3,reduceCtorEq,N4,N5,N6,reduceIte,N7,I1,I2,I3]
 refine⟨_,t24 hC _ _ hv hl,?_⟩
 simp only[push_cast,↓J1,↓J2,N1,N2,N3,reduceCtorEq,N4,N5,N6,reduceIte,N7,I1,I2,I3]
 have h1:=sub1_le (n:=s.us.length) hv.1
 refine ifB_intro (fun h=>?_) (fun h=>?_)
 ·have:=of_decide_eq_true h;simp only[szSta];omega
 ·rfl
theorem t70(o:Un):Ev C 70 [.agg (unA o)] (.agg (unA o)):=by
 simp only[unA]
 refine rT hC Q70 ?_
 simp only[c70,push_cast,↓J1,↓J2,N1,N2,N3,reduceCtorEq,N4,N5,N6,reduceIte,N7,I1,I2,I3]
 exact rtA
theorem t33(l:List Un)(hl:l.length<2^30):Ev C 33 [.sl (uns l)] (.ow 4 (uns l)):=by
 refine rT hC Q33 ?_ (by simp only[ownR,own_uns])
 simp only[c33,uns_length,push_cast,↓J1,↓J2,N1,N2,N3,reduceCtorEq,N4,N5,N6,reduceIte,N7,I1,I2,I3]
 repeat (refine⟨by omega,?_⟩)
 refine RL_count (fun i=>⟨tb 23 .any [(0,.sl (uns l)),(3,.ref 0 none 4 0 l.length),(4,.int .i64 (i:Int))],[(0,.slice 4 ((l.take i).map unA++List.replicate (l.length-i) [.int .i64 0,.int .i64 0,.int .i64 0,.int .i64 0]))],1⟩) (fun _=>True) l.length 0 (hdA [(0,0)]) (by omega) trivial fun i hi _ J hJ=>?_
 by_cases h1:i<l.length
 ·have e1:(uns l)[i]?=some (unA l[i]):=by simp[uns,h1]
  rw[show l.length-i=(l.length-(i+1))+1 by omega,List.replicate_succ]
  simp only[uns_length,Int.toNat_natCast,e1,unA,push_cast,↓J1,↓J2,N1,N2,N3,reduceCtorEq,N4,N5,N6,reduceIte,N7,I1,I2,I3]
  refine ifB_intro (fun _=>?_) (fun h=>by simp at h;omega)
  repeat (refine⟨by omega,?_⟩)
  refine⟨_,t70 hC l[i],?_⟩
  simp only[Int.toNat_natCast,unA,unA,List.take_length,mid_get (show((l.take i).map unA).length=i by simp;omega),mid_set (show((l.take i).map unA).length=i by simp;omega),push_cast,↓J1,↓J2,N1,N2,N3,reduceCtorEq,N4,N5,N6,reduceIte,N7,I1,I2,I3]
  repeat (refine⟨by omega,?_⟩)
  refine hJ h1 trivial _ (hdA [(0,0)] (hh:=?_))
  rw[List.take_succ_eq_append_getElem h1,List.map_append,List.append_assoc]
  simp only[hdel,canR,canB,renO,renL,ren,lkp,hget,N7,N5,Nat.not_lt_zero,if_false,if_true,reduceIte,List.append_nil,List.nil_append]
  rfl
 ·simp only[uns_length,Int.toNat_natCast,push_cast,↓J1,↓J2,N1,N2,N3,reduceCtorEq,N4,N5,N6,reduceIte,N7,I1,I2,I3]
  refine ifB_intro (fun h=>by simp at h;omega) (fun h=>?_)
  rw[List.take_of_length_le (by omega),show l.length-i=0 by omega]
  exact RetTo_ow (by simp[hget,uns]) (by simp[uns])
theorem t9(s:Sta)(hl:s.us.length<2^30):Ev C 9 [.agg (staF s)] (.agg (staO s)):=by
 simp only[staF,staO]
 refine rT hC Q9 ?_ (by simp only[ownR,ownRL,own_uns,Bool.and_true])
 simp only[c9,push_cast,↓J1,↓J2,N1,N2,N3,reduceCtorEq,N4,N5,N6,reduceIte,N7,I1,I2,I3]
 refine⟨_,t33 hC _ hl,?_⟩
 simp only[push_cast,↓J1,↓J2,N1,N2,N3,reduceCtorEq,N4,N5,N6,reduceIte,N7,I1,I2,I3]
 exact rtA
theorem t81(t u:Un):Ev C 81 [.agg (unA t),.agg (unA u)] (.bool (decide (t=u))):=by
 obtain⟨a1,a2,a3,a4⟩:=t
 obtain⟨b1,b2,b3,b4⟩:=u
 simp only[unA]
 refine rT hC Q81 ?_
 simp only[c81,push_cast,↓J1,↓J2,N1,N2,N3,reduceCtorEq,N4,N5,N6,reduceIte,N7,I1,I2,I3]
 repeat' (first
  | simp only[push_cast,↓J1,↓J2,N1,N2,N3,reduceCtorEq,N4,N5,N6,reduceIte,N7,I1,I2,I3]
  | refine ifB_intro (fun h=>?_) (fun h=>?_))
 all_goals simp_all
theorem t42(l m:List Un)(hl:l.length<2^50)(hm:m.length<2^50):Ev C 42 [.sl (uns l),.sl (uns m)] (.bool (decide (l=m))):=by
 refine rT hC Q42 ?_
 simp only[c42,uns_length,push_cast,↓J1,↓J2,N1,N2,N3,reduceCtorEq,N4,N5,N6,reduceIte,N7,I1,I2,I3]
 refine ifB_intro (fun h=>?_) (fun h=>?_)
 ·have hlm:l.length=m.length:=by simp at h;omega
  refine RL_count (fun i=>⟨tb 27 .any [(0,.sl (uns l)),(1,.sl (uns m)),(5,.int .i64 (i:Int))],[],0⟩) (fun i=>l.take i=m.take i) l.length 0 (hdA []) (by omega) rfl fun i hi ht J hJ=>?_
  by_cases h1:i<l.length
  ·have h2:i<m.length:=by omega
   have e1:(uns l)[i]?=some (unA l[i]):=by simp[uns,h1]
   have e2:(uns m)[i]?=some (unA m[i]):=by simp[uns,h2]
   simp only[uns_length,Int.toNat_natCast,e1,e2,unA,push_cast,↓J1,↓J2,N1,N2,N3,reduceCtorEq,N4,N5,N6,reduceIte,N7,I1,I2,I3]
   refine ifB_intro (fun _=>?_) (fun h=>by simp at h;omega)
   repeat (refine⟨by omega,?_⟩)
   refine⟨_,t81 hC l[i] m[i],?_⟩
   simp only[push_cast,↓J1,↓J2,N1,N2,N3,reduceCtorEq,N4,N5,N6,reduceIte,N7,I1,I2,I3]
   refine ifB_intro (fun h=>?_) (fun h=>?_)
   ·refine hJ h1 ?_ _ (hdA [])
    rw[List.take_succ_eq_append_getElem h1,List.take_succ_eq_append_getElem h2,ht,of_decide_eq_true h]
   ·have: ¬l=m:=by rintro rfl;simp at h
    simp[this]
  ·simp only[uns_length,Int.toNat_natCast,push_cast,↓J1,↓J2,N1,N2,N3,reduceCtorEq,N4,N5,N6,reduceIte,N7,I1,I2,I3]
   refine ifB_intro (fun h=>by simp at h;omega) (fun h=>?_)
   rw[List.take_of_length_le (by omega),List.take_of_length_le (by omega)] at ht
   simp[ht]
 ·have: ¬l=m:=by rintro rfl;simp at h
  simp[this]
theorem t12(s u:Sta)(h1:s.us.length<2^50)(h2:u.us.length<2^50):Ev C 12 [.agg (staF s),.agg (staF u)] (.bool (decide (s=u))):=by
 have c1:=t42 hC s.us u.us h1 h2
 clear h1 h2
 obtain⟨a1,a2,a3⟩:=s
 obtain⟨b1,b2,b3⟩:=u
 simp only[staF] at *
 refine rT hC Q12 ?_
 simp only[c12,push_cast,↓J1,↓J2,N1,N2,N3,reduceCtorEq,N4,N5,N6,reduceIte,N7,I1,I2,I3]
 repeat' (first
  | simp only[push_cast,↓J1,↓J2,N1,N2,N3,reduceCtorEq,N4,N5,N6,reduceIte,N7,I1,I2,I3]
  | refine⟨_,c1,?_⟩
  | refine ifB_intro (fun h=>?_) (fun h=>?_))
 all_goals (clear c1;simp_all)
end
end Go.Proofs.YthggfnefjbckeaaGreatDoor.X
set_option maxHeartbeats 4000000
set_option maxRecDepth 8000
set_option linter.unusedSimpArgs false
set_option linter.unusedVariables false
open Nat renaming reduceBEq→N1,reduceAdd→N2,reduceSub→N3,reduceMul→N4,reduceEqDiff→N5,reduceLeDiff→N6,reduceLT→N7
open Int renaming reduceLE→I1,reduceLT→I2,reduceToNat→I3
namespace Go.Proofs.YthggfnefjbckeaaGreatDoor.X
open Go
attribute [local irreducible] Ev
section
variable{C:CT}(hC:Closed Tryz.prog G1 md0 C)
include hC
theorem t174(b:Brd)(i:Int)(g:brdOk b=true)(hi:inR 0 (b.m.w*b.m.h-1) i=true)(hb:BrdB (2^50) b):C 174 [brdF b,.int .i64 i] [(0,.var (rulF b.r++mpF b.m))] 1 (fun v h' n'=>v= .agg (terF (terAt b i))∧h'=[(2,.var (terF (terAt b i))),(1,.var (rulF b.r++mpF b.m)),(0,.var (rulF b.r++mpF b.m))]∧n'=3):=by
 have hwh:=brd_wh g
 have b1:=hb.m.t
 have b2:=hb.r.ts
 simp only[inR,Bool.and_eq_true,decide_eq_true_eq] at hi
 obtain⟨i,rfl⟩: ∃k:Nat,i=k:=⟨i.toNat,by omega⟩
 have h1:i<b.m.t.length:=by omega
 have ht:=ter_in g h1
 have e1:=ints_get h1
 obtain⟨j,hj⟩: ∃k:Nat,b.m.t.getD i 0=k:=⟨(b.m.t.getD i 0).toNat,by omega⟩
 have h2:j<b.r.ts.length:=by omega
 have e2:(tersF b.r.ts)[j]?=some (terF b.r.ts[j]):=by simp[tersF,h2]
 have e3:terAt b i=b.r.ts[j]:=by simp only[terAt,Int.toNat_natCast,hj];simp[h2]
 rw[e3]
 rw[hj] at e1
 simp only[brdF,rulF,mpF,List.cons_append,List.nil_append,terF] at *
 refine Closed.rT hC Q174 ?_
 simp only[c174,push_cast,↓J1,↓J2,N1,N2,N3,reduceCtorEq,N4,N5,N6,reduceIte,N7,I1,I2,I3]
 simp only[Int.toNat_natCast,e1,push_cast,↓J1,↓J2,N1,N2,N3,reduceCtorEq,N4,N5,N6,reduceIte,N7,I1,I2,I3]
 repeat (refine⟨by omega,?_⟩)
 simp only[Int.toNat_natCast,e2,tersF_length,ints_length,push_cast,↓J1,↓J2,N1,N2,N3,reduceCtorEq,N4,N5,N6,reduceIte,N7,I1,I2,I3]
 repeat (refine⟨by omega,?_⟩)
theorem t182(b:Brd)(i:Int)(g:brdOk b=true)(hi:inR 0 (b.m.w*b.m.h-1) i=true)(hb:BrdB (2^50) b):C 182 [brdF b,.int .i64 i] [(0,.var (rulF b.r++mpF b.m))] 1 (fun v h' n'=>v= .agg (terF (terAt b i))∧h'=[(2,.var (terF (terAt b i))),(1,.var (rulF b.r++mpF b.m)),(0,.var (rulF b.r++mpF b.m))]∧n'=3):=by
 have hwh:=brd_wh g
 have b1:=hb.m.t
 have b2:=hb.r.ts
 simp only[inR,Bool.and_eq_true,decide_eq_true_eq] at hi
 obtain⟨i,rfl⟩: ∃k:Nat,i=k:=⟨i.toNat,by omega⟩
 have h1:i<b.m.t.length:=by omega
 have ht:=ter_in g h1
 have e1:=ints_get h1
 obtain⟨j,hj⟩: ∃k:Nat,b.m.t.getD i 0=k:=⟨(b.m.t.getD i 0).toNat,by omega⟩
 have h2:j<b.r.ts.length:=by omega
 have e2:(tersF b.r.ts)[j]?=some (terF b.r.ts[j]):=by simp[tersF,h2]
 have e3:terAt b i=b.r.ts[j]:=by simp only[terAt,Int.toNat_natCast,hj];simp[h2]
 rw[e3]
 rw[hj] at e1
 simp only[brdF,rulF,mpF,List.cons_append,List.nil_append,terF] at *
 refine Closed.rT hC Q182 ?_
 simp only[c182,push_cast,↓J1,↓J2,N1,N2,N3,reduceCtorEq,N4,N5,N6,reduceIte,N7,I1,I2,I3]
 simp only[Int.toNat_natCast,e1,push_cast,↓J1,↓J2,N1,N2,N3,reduceCtorEq,N4,N5,N6,reduceIte,N7,I1,I2,I3]
 repeat (refine⟨by omega,?_⟩)
 simp only[Int.toNat_natCast,e2,tersF_length,ints_length,push_cast,↓J1,↓J2,N1,N2,N3,reduceCtorEq,N4,N5,N6,reduceIte,N7,I1,I2,I3]
 repeat (refine⟨by omega,?_⟩)
omit hC in
theorem cost_get{b:Brd}{k:Nat}{i:Int}(g:brdOk b=true)(hk:k<b.r.ks.length)(hi:inR 0 (b.m.w*b.m.h-1) i=true):(ints (terAt b i).c)[k]?=some [.int .i64 (costAt b k i)]∧0≤costAt b k i∧costAt b k i≤9∧(terAt b i).c.length=b.r.ks.length:=by
 have hwh:=brd_wh g
 simp only[inR,Bool.and_eq_true,decide_eq_true_eq] at hi
 have h1:i.toNat<b.m.t.length:=by omega
 have ht:=ter_in g h1
 have h2:(b.m.t.getD i.toNat 0).toNat<b.r.ts.length:=by omega
 have e:terAt b i=b.r.ts[(b.m.t.getD i.toNat 0).toNat]:=by
  simp only[terAt]
  rw[List.getD,List.getElem?_eq_getElem h2,Option.getD_some]
 have hl:=terOk_len g h2
 rw[←e] at hl
 have h3:k<(terAt b i).c.length:=by omega
 have hm:costAt b k i∈(terAt b i).c:=by
  simp only[costAt,Int.toNat_natCast,List.getD,List.getElem?_eq_getElem h3,Option.getD_some]
  exact List.getElem_mem h3
 refine⟨?_,(hl.2 _ hm).1,(hl.2 _ hm).2,hl.1⟩
 have:=ints_get h3
 simpa only[costAt,Int.toNat_natCast] using this
theorem t146(b:Brd)(k i:Int)(g:brdOk b=true)(hk:inR 0 (b.r.ks.length-1) k=true)(hi:inR 0 (b.m.w*b.m.h-1) i=true)(hb:BrdB (2^50) b):Ev C 146 [brdF b,.int .i64 k,.int .i64 i] (.int .i64 (costAt b k i)):=by
 have c1:=t174 hC b i g hi hb
 have hk':=hk
 simp only[inR,Bool.and_eq_true,decide_eq_true_eq] at hk'
 obtain⟨k,rfl⟩: ∃m:Nat,k=m:=⟨k.toNat,by omega⟩
 have hc:=cost_get (k:=k) g (by omega) hi
 have b2:=hb.r.ks
 simp only[brdF,rulF,mpF,List.cons_append,List.nil_append,terF] at *
 refine rT hC Q146 ?_
 simp only[c146,push_cast,↓J1,↓J2,N1,N2,N3,reduceCtorEq,N4,N5,N6,reduceIte,N7,I1,I2,I3]
 refine⟨_,c1,?_⟩
 rintro v h' n' ⟨rfl,rfl,rfl⟩ _
 simp only[Int.toNat_natCast,hc.1,push_cast,↓J1,↓J2,N1,N2,N3,reduceCtorEq,N4,N5,N6,reduceIte,N7,I1,I2,I3]
 omega
theorem t162(b:Brd)(k i:Int)(g:brdOk b=true)(hk:inR 0 (b.r.ks.length-1) k=true)(hi:inR 0 (b.m.w*b.m.h-1) i=true)(hb:BrdB (2^50) b):Ev C 162 [brdF b,.int .i64 k,.int .i64 i] (.int .i64 (costAt b k i)):=by
 have c1:=t182 hC b i g hi hb
 have hk':=hk
 simp only[inR,Bool.and_eq_true,decide_eq_true_eq] at hk'
 obtain⟨k,rfl⟩: ∃m:Nat,k=m:=⟨k.toNat,by omega⟩
 have hc:=cost_get (k:=k) g (by omega) hi
 have b2:=hb.r.ks
 simp only[brdF,rulF,mpF,List.cons_append,List.nil_append,terF] at *
 refine rT hC Q162 ?_
 simp only[c162,push_cast,↓J1,↓J2,N1,N2,N3,reduceCtorEq,N4,N5,N6,reduceIte,N7,I1,I2,I3]
 refine⟨_,c1,?_⟩
 rintro v h' n' ⟨rfl,rfl,rfl⟩ _
 simp only[Int.toNat_natCast,hc.1,push_cast,↓J1,↓J2,N1,N2,N3,reduceCtorEq,N4,N5,N6,reduceIte,N7,I1,I2,I3]
 omega
omit hC in
theorem un_kind{b:Brd}{u:Un}(g:brdOk b=true)(h:inR 0 (b.r.ks.length-1) u.k=true):kindAsk b u.k=true:=by
 simp only[kindAsk,g,h,Bool.and_self]
theorem t112(b:Brd)(u:Un)(g:brdOk b=true)(hb:BrdB (2^50) b):Ev C 112 [brdF b,.agg (unA u)] (.bool (unOk b u)):=by
 have hwh:=brd_wh g
 have hm:=mp_wh (brd_mp g)
 have c2:=t124 hC b.m hm.1 hm.2
 have c3:=fun hk hi=>t146 hC b u.k u.at_ g hk hi hb
 have b2:=hb.r.ks
 have e0:=fun(k:Nat) (h:k<b.r.ks.length)=>kins_get h
 simp only[brdF,rulF,mpF,List.cons_append,List.nil_append,unA,unOk,placed] at *
 refine rT hC Q112 ?_
 simp only[c112,push_cast,↓J1,↓J2,N1,N2,N3,reduceCtorEq,N4,N5,N6,reduceIte,N7,I1,I2,I3]
 refine⟨_,tIn hC _ _ _,?_⟩
 cases inR 0 1 u.sd
 ·simp only[push_cast,↓J1,↓J2,N1,N2,N3,reduceCtorEq,N4,N5,N6,reduceIte,N7,I1,I2,I3]
 simp only[kins_length,push_cast,↓J1,↓J2,N1,N2,N3,reduceCtorEq,N4,N5,N6,reduceIte,N7,I1,I2,I3]
 rw[wrap64 (n:=(b.r.ks.length:Int)-1) (by omega) (by omega)]
 refine⟨_,tIn hC _ _ _,?_⟩
 cases g2:inR 0 ((b.r.ks.length:Int)-1) u.k
 ·simp only[push_cast,↓J1,↓J2,N1,N2,N3,reduceCtorEq,N4,N5,N6,reduceIte,N7,I1,I2,I3]
 have hk:=g2
 simp only[inR,Bool.and_eq_true,decide_eq_true_eq] at hk
 obtain⟨k,ek⟩: ∃m:Nat,u.k=m:=⟨u.k.toNat,by omega⟩
 have e1:=e0 k (by omega)
 rw[←ek] at e1
 have en:u.k.toNat=k:=by omega
 simp only[en,e1,kinA,kins_length,push_cast,↓J1,↓J2,N1,N2,N3,reduceCtorEq,N4,N5,N6,reduceIte,N7,I1,I2,I3]
 repeat (refine⟨by omega,?_⟩)
 refine⟨_,tIn hC _ _ _,?_⟩
 cases inR 0 (kindOf b u.k).sp u.st
 ·simp only[push_cast,↓J1,↓J2,N1,N2,N3,reduceCtorEq,N4,N5,N6,reduceIte,N7,I1,I2,I3]
 simp only[push_cast,↓J1,↓J2,N1,N2,N3,reduceCtorEq,N4,N5,N6,reduceIte,N7,I1,I2,I3]
 cases decide (u.at_= -1)
 ·simp only[push_cast,↓J1,↓J2,N1,N2,N3,reduceCtorEq,N4,N5,N6,reduceIte,N7,I1,I2,I3]
  cases decide (0<u.st)
  ·simp only[push_cast,↓J1,↓J2,N1,N2,N3,reduceCtorEq,N4,N5,N6,reduceIte,N7,I1,I2,I3]
  simp only[push_cast,↓J1,↓J2,N1,N2,N3,reduceCtorEq,N4,N5,N6,reduceIte,N7,I1,I2,I3]
  refine⟨_,c2,?_⟩
  simp only[push_cast,↓J1,↓J2,N1,N2,N3,reduceCtorEq,N4,N5,N6,reduceIte,N7,I1,I2,I3]
  rw[wrap64 (n:=b.m.w*b.m.h-1) (by omega) (by omega)]
  refine⟨_,tIn hC _ _ _,?_⟩
  cases g3:inR 0 (b.m.w*b.m.h-1) u.at_
  ·simp only[push_cast,↓J1,↓J2,N1,N2,N3,reduceCtorEq,N4,N5,N6,reduceIte,N7,I1,I2,I3]
  simp only[push_cast,↓J1,↓J2,N1,N2,N3,reduceCtorEq,N4,N5,N6,reduceIte,N7,I1,I2,I3]
  refine⟨_,c3 g2 g3,?_⟩
  simp only[push_cast,↓J1,↓J2,N1,N2,N3,reduceCtorEq,N4,N5,N6,reduceIte,N7,I1,I2,I3]
 ·simp only[push_cast,↓J1,↓J2,N1,N2,N3,reduceCtorEq,N4,N5,N6,reduceIte,N7,I1,I2,I3]
theorem t135(b:Brd)(u:Un)(g:brdOk b=true)(hb:BrdB (2^50) b):Ev C 135 [brdF b,.agg (unA u)] (.bool (unOk b u)):=by
 have hwh:=brd_wh g
 have c2:=t134 hC b
 rw[hwh.1] at c2
 have c3:=fun hk hi=>t162 hC b u.k u.at_ g hk hi hb
 have cz:=fun hk hi=>(cost_get (b:=b) (k:=u.k.toNat) (i:=u.at_) g hk hi).2
 have b2:=hb.r.ks
 have e0:=fun(k:Nat) (h:k<b.r.ks.length)=>kins_get h
 simp only[brdF,rulF,mpF,List.cons_append,List.nil_append,unA,unOk,placed] at *
 refine rT hC Q135 ?_
 simp only[c135,push_cast,↓J1,↓J2,N1,N2,N3,reduceCtorEq,N4,N5,N6,reduceIte,N7,I1,I2,I3]
 refine⟨_,t35 hC _,?_⟩
 cases inR 0 1 u.sd
 ·simp only[push_cast,↓J1,↓J2,N1,N2,N3,reduceCtorEq,N4,N5,N6,reduceIte,N7,I1,I2,I3]
 simp only[kins_length,push_cast,↓J1,↓J2,N1,N2,N3,reduceCtorEq,N4,N5,N6,reduceIte,N7,I1,I2,I3]
 refine⟨_,tIdx hC _ _ (by omega),?_⟩
 cases g2:inR 0 ((b.r.ks.length:Int)-1) u.k
 ·simp only[push_cast,↓J1,↓J2,N1,N2,N3,reduceCtorEq,N4,N5,N6,reduceIte,N7,I1,I2,I3]
 have hk:=g2
 simp only[inR,Bool.and_eq_true,decide_eq_true_eq] at hk
 obtain⟨k,ek⟩: ∃m:Nat,u.k=m:=⟨u.k.toNat,by omega⟩
 have e1:=e0 k (by omega)
 rw[←ek] at e1
 have en:u.k.toNat=k:=by omega
 simp only[en,e1,kinA,kins_length,push_cast,↓J1,↓J2,N1,N2,N3,reduceCtorEq,N4,N5,N6,reduceIte,N7,I1,I2,I3]
 repeat (refine⟨by omega,?_⟩)
 refine⟨_,tRange hC _ _ _,?_⟩
 cases inR 0 (kindOf b u.k).sp u.st
 ·simp only[push_cast,↓J1,↓J2,N1,N2,N3,reduceCtorEq,N4,N5,N6,reduceIte,N7,I1,I2,I3]
 simp only[push_cast,↓J1,↓J2,N1,N2,N3,reduceCtorEq,N4,N5,N6,reduceIte,N7,I1,I2,I3]
 cases decide (u.at_= -1)
 ·simp only[push_cast,↓J1,↓J2,N1,N2,N3,reduceCtorEq,N4,N5,N6,reduceIte,N7,I1,I2,I3]
  cases decide (0<u.st)
  ·simp only[push_cast,↓J1,↓J2,N1,N2,N3,reduceCtorEq,N4,N5,N6,reduceIte,N7,I1,I2,I3]
  simp only[push_cast,↓J1,↓J2,N1,N2,N3,reduceCtorEq,N4,N5,N6,reduceIte,N7,I1,I2,I3]
  refine⟨_,c2,?_⟩
  simp only[push_cast,↓J1,↓J2,N1,N2,N3,reduceCtorEq,N4,N5,N6,reduceIte,N7,I1,I2,I3]
  refine⟨_,tIdx hC _ _ (by omega),?_⟩
  cases g3:inR 0 (b.m.w*b.m.h-1) u.at_
  ·simp only[push_cast,↓J1,↓J2,N1,N2,N3,reduceCtorEq,N4,N5,N6,reduceIte,N7,I1,I2,I3]
  simp only[push_cast,↓J1,↓J2,N1,N2,N3,reduceCtorEq,N4,N5,N6,reduceIte,N7,I1,I2,I3]
  refine⟨_,c3 g2 g3,?_⟩
  have hz:=cz (by omega) g3
  rw[Int.toNat_of_nonneg (by omega)] at hz
  simp only[push_cast,↓J1,↓J2,N1,N2,N3,reduceCtorEq,N4,N5,N6,reduceIte,N7,I1,I2,I3]
  rw[Bool.eq_iff_iff]
  simp only[Bool.not_eq_true',decide_eq_false_iff_not,decide_eq_true_eq]
  omega
 ·simp only[push_cast,↓J1,↓J2,N1,N2,N3,reduceCtorEq,N4,N5,N6,reduceIte,N7,I1,I2,I3]
end
end Go.Proofs.YthggfnefjbckeaaGreatDoor.X
set_option maxHeartbeats 4000000
set_option maxRecDepth 8000
set_option linter.unusedSimpArgs false
set_option linter.unusedVariables false
open Nat renaming reduceBEq→N1,reduceAdd→N2,reduceSub→N3,reduceMul→N4,reduceEqDiff→N5,reduceLeDiff→N6,reduceLT→N7
open Int renaming reduceLE→I1,reduceLT→I2,reduceToNat→I3
namespace Go.Proofs.YthggfnefjbckeaaGreatDoor.X
open Go
attribute [local irreducible] Ev
def un0:Un:=⟨0,0,0,0⟩
def unOf(s:Sta)(u:Int):Un:=s.us.getD u.toNat un0
theorem sta_brd{b:Brd}{s:Sta}(h:staOk b s=true):brdOk b=true:=by
 simp only[staOk,Bool.and_eq_true] at h;exact h.1
theorem sta_len{b:Brd}{s:Sta}(h:staOk b s=true):s.us.length≤12:=by
 simp only[staOk,staOk0,Bool.and_eq_true,decide_eq_true_eq] at h;omega
theorem unOk_at{b:Brd}{u:Un}(h:unOk b u=true)(ha: ¬u.at_<0):0≤u.at_∧u.at_<b.m.w*b.m.h:=by
 simp only[unOk,placed,inR,Bool.and_eq_true,Bool.or_eq_true,decide_eq_true_eq] at h
 omega
theorem ints_sn(l:List Int)(x:Int):ints l++[[.int .i64 x]]=ints (l++[x]):=by simp[ints]
theorem fil_cnt{us:List Un}{a sd:Int}:(fil (isAt a sd) us us.length).length=cnt us a sd:=by
 rw[fil_len (Nat.le_refl _),List.take_length];rfl
section
variable{C:CT}(hC:Closed Tryz.prog G1 md0 C)
include hC
theorem t113(s:Sta)(a sd:Int)(hl:s.us.length<2^40):Ev C 113 [.agg (staF s),.int .i64 a,.int .i64 sd] (.ow 1 (ints (fil (isAt a sd) s.us s.us.length))):=by
 simp only[staF]
 refine rT hC Q113 ?_ (own_ints _)
 simp only[c113,uns_length,push_cast,↓J1,↓J2,N1,N2,N3,reduceCtorEq,N4,N5,N6,reduceIte,N7,I1,I2,I3]
 refine RL_count (fun i=>⟨tb 34 .any [(7,.ref 0 none 1 0 (fil (isAt a sd) s.us i).length),(1,.int .i64 a),(2,.int .i64 sd),(11,.sl (uns s.us)),(12,.int .i64 (s.us.length:Int)),(13,.int .i64 (i:Int))],[(0,.slice 1 (ints (fil (isAt a sd) s.us i)))],1⟩) (fun _=>True) s.us.length 0 (hdO 7 0 1 []) (by omega) trivial fun i hi _ J hJ=>?_
 by_cases h1:i<s.us.length
 ·have e1:=uns_get h1
  have e2:=fil_succ (p:=(isAt a sd)) h1
  have hfl:=fil_le (p:=(isAt a sd)) hi
  have tk:List.take (fil (isAt a sd) s.us i).length (ints (fil (isAt a sd) s.us i))=ints (fil (isAt a sd) s.us i):=List.take_of_length_le (by rw[ints_length];omega)
  generalize s.us[i]=u at *
  simp only[Int.toNat_natCast,e1,unA,push_cast,↓J1,↓J2,N1,N2,N3,reduceCtorEq,N4,N5,N6,reduceIte,N7,I1,I2,I3]
  refine ifB_intro (fun _=>?_) (fun h=>by simp at h;omega)
  repeat (refine⟨by omega,?_⟩)
  cases g1:decide (u.at_=a)
  ·have hp:(isAt a sd) u=false:=by simp only[isAt,g1,Bool.false_and,Bool.and_false]
   rw[hp,if_neg Bool.false_ne_true] at e2
   simp only[g1,push_cast,↓J1,↓J2,N1,N2,N3,reduceCtorEq,N4,N5,N6,reduceIte,N7,I1,I2,I3]
   exact hJ h1 trivial _ (by rw[e2];exact(hdA [(0,0)]))
  cases g2:decide (u.sd=sd)
  ·have hp:(isAt a sd) u=false:=by simp only[isAt,g1,g2,Bool.false_and,Bool.and_false]
   rw[hp,if_neg Bool.false_ne_true] at e2
   simp only[g1,g2,push_cast,↓J1,↓J2,N1,N2,N3,reduceCtorEq,N4,N5,N6,reduceIte,N7,I1,I2,I3]
   exact hJ h1 trivial _ (by rw[e2];exact(hdA [(0,0)]))
  have hp:(isAt a sd) u=true:=by simp only[isAt,g1,g2,Bool.and_self]
  rw[hp,if_pos rfl] at e2
  simp only[g1,g2,tk,ints_length,allScs,apYR_sc,push_cast,↓J1,↓J2,N1,N2,N3,reduceCtorEq,N4,N5,N6,reduceIte,N7,I1,I2,I3]
  repeat (refine⟨by omega,?_⟩)
  refine hJ h1 trivial _ ?_
  rw[e2]
  refine(hdA [(3,0)] (hh:=?_))
  simp only[canR,canB,renO,renL,ren,lkp,hget,N7,N5,Nat.not_lt_zero,if_false,if_true,reduceIte,List.append_nil,List.nil_append,ints_sn]
  all_goals rfl
 ·simp only[uns_length,push_cast,↓J1,↓J2,N1,N2,N3,reduceCtorEq,N4,N5,N6,reduceIte,N7,I1,I2,I3]
  refine ifB_intro (fun h=>by simp at h;omega) (fun h=>?_)
  obtain rfl:i=s.us.length:=by omega
  exact RetTo_ow rfl (by rw[ints_length])
theorem t82(b:Brd)(s:Sta)(hb:BrdB (2^50) b)(hl:s.us.length<2^40):Ev C 82 [brdF b,.agg (staF s)] (.bool (staOk b s)):=by
 have c1:=t111 hC b hb
 have c2:=fun u g=>t112 hC b u g hb
 have c3:=fun a sd=>t113 hC s a sd hl
 simp only[brdF,rulF,mpF,List.cons_append,List.nil_append,staF] at *
 refine rT hC Q82 ?_
 simp only[c82,push_cast,↓J1,↓J2,N1,N2,N3,reduceCtorEq,N4,N5,N6,reduceIte,N7,I1,I2,I3]
 refine⟨_,c1,?_⟩
 cases g1:brdOk b
 ·simp only[staOk,g1,push_cast,↓J1,↓J2,N1,N2,N3,reduceCtorEq,N4,N5,N6,reduceIte,N7,I1,I2,I3]
 simp only[push_cast,↓J1,↓J2,N1,N2,N3,reduceCtorEq,N4,N5,N6,reduceIte,N7,I1,I2,I3]
 refine⟨_,tIn hC _ _ _,?_⟩
 cases g2:inR 0 b.r.turns s.t
 ·simp only[staOk,staOk0,g1,g2,push_cast,↓J1,↓J2,N1,N2,N3,reduceCtorEq,N4,N5,N6,reduceIte,N7,I1,I2,I3]
 simp only[push_cast,↓J1,↓J2,N1,N2,N3,reduceCtorEq,N4,N5,N6,reduceIte,N7,I1,I2,I3]
 refine⟨_,tIn hC _ _ _,?_⟩
 cases g3:inR 0 2 s.w
 ·simp only[staOk,staOk0,g1,g2,g3,push_cast,↓J1,↓J2,N1,N2,N3,reduceCtorEq,N4,N5,N6,reduceIte,N7,I1,I2,I3]
 have e12:decide (12<(s.us.length:Int))=!decide ((s.us.length:Int)≤12):=by rw[Bool.eq_iff_iff];simp
 simp only[uns_length,e12,push_cast,↓J1,↓J2,N1,N2,N3,reduceCtorEq,N4,N5,N6,reduceIte,N7,I1,I2,I3]
 cases g4:decide ((s.us.length:Int)≤12)
 ·simp only[staOk,staOk0,g1,g2,g3,g4,push_cast,↓J1,↓J2,N1,N2,N3,reduceCtorEq,N4,N5,N6,reduceIte,N7,I1,I2,I3]
 simp only[uns_length,push_cast,↓J1,↓J2,N1,N2,N3,reduceCtorEq,N4,N5,N6,reduceIte,N7,I1,I2,I3]
 rw[show staOk b s=(s.us.all (unOk b)&&s.us.all (stackOk b s.us)) by simp only[staOk,staOk0,g1,g2,g3,g4,Bool.true_and]]
 refine RL_count (fun i=>⟨tb 80 .any [(2,.ptr 0 none 0 0 0),(3,.ptr 1 none 0 0 0),(34,.sl (uns s.us)),(35,.int .i64 (s.us.length:Int)),(36,.int .i64 (i:Int))],[(1,.var (staF s)),(0,.var (rulF b.r++mpF b.m))],2⟩) (fun i=>s.us.all (unOk b)=(s.us.drop i).all (unOk b)) s.us.length 0 (hdA [(1,1),(0,0)]) (by omega) rfl fun i hi ht J hJ=>?_
 simp only[brdF,rulF,mpF,List.cons_append,List.nil_append,staF]
 by_cases h1:i<s.us.length
 ·have e1:=uns_get h1
  rw[List.drop_eq_getElem_cons h1,List.all_cons] at ht
  generalize s.us[i]=u at *
  have c2':=c2 u g1
  simp only[Int.toNat_natCast,e1,unA,push_cast,↓J1,↓J2,N1,N2,N3,reduceCtorEq,N4,N5,N6,reduceIte,N7,I1,I2,I3] at c2'⊢
  refine ifB_intro (fun _=>?_) (fun h=>by simp at h;omega)
  repeat (refine⟨by omega,?_⟩)
  refine⟨_,c2',?_⟩
  cases g5:unOk b u
  ·rw[ht,g5]
   simp only[Bool.false_and,push_cast,↓J1,↓J2,N1,N2,N3,reduceCtorEq,N4,N5,N6,reduceIte,N7,I1,I2,I3]
  simp only[push_cast,↓J1,↓J2,N1,N2,N3,reduceCtorEq,N4,N5,N6,reduceIte,N7,I1,I2,I3]
  exact hJ h1 (by rw[ht,g5,Bool.true_and]) _ (hdA [(1,1),(0,0)])
 ·simp only[uns_length,push_cast,↓J1,↓J2,N1,N2,N3,reduceCtorEq,N4,N5,N6,reduceIte,N7,I1,I2,I3]
  refine ifB_intro (fun h=>by simp at h;omega) (fun h=>?_)
  rw[List.drop_eq_nil_of_le (by omega)] at ht
  have hall:s.us.all (unOk b)=true:=by rw[ht];rfl
  rw[hall,Bool.true_and]
  clear hJ ht h1 hi
  refine RL_count (fun i=>⟨tb 80 .any [(2,.ptr 0 none 0 0 0),(3,.ptr 1 none 0 0 0),(46,.sl (uns s.us)),(47,.int .i64 (s.us.length:Int)),(48,.int .i64 (i:Int))],[(1,.var (staF s)),(0,.var (rulF b.r++mpF b.m))],2⟩) (fun i=>s.us.all (stackOk b s.us)=(s.us.drop i).all (stackOk b s.us)) s.us.length 0 (hdA [(1,1),(0,0)]) (by omega) rfl fun i hi ht J hJ=>?_
  simp only[brdF,rulF,mpF,List.cons_append,List.nil_append,staF]
  by_cases h1:i<s.us.length
  ·have e1:=uns_get h1
   have hsd:=un_sd (List.all_eq_true.1 hall _ (List.getElem_mem h1))
   rw[List.drop_eq_getElem_cons h1,List.all_cons] at ht
   generalize s.us[i]=u at *
   have es:stackOk b s.us u=!(decide (0≤u.at_)&&(decide (0<(cnt s.us u.at_ (1-u.sd):Int))||decide (b.r.stack<(cnt s.us u.at_ u.sd:Int)))):=by simp[stackOk]
   simp only[Int.toNat_natCast,e1,unA,push_cast,↓J1,↓J2,N1,N2,N3,reduceCtorEq,N4,N5,N6,reduceIte,N7,I1,I2,I3]
   refine ifB_intro (fun _=>?_) (fun h=>by simp at h;omega)
   repeat (refine⟨by omega,?_⟩)
   cases g5:decide (0≤u.at_)
   ·have:stackOk b s.us u=true:=by rw[es,g5];rfl
    simp only[push_cast,↓J1,↓J2,N1,N2,N3,reduceCtorEq,N4,N5,N6,reduceIte,N7,I1,I2,I3]
    exact hJ h1 (by rw[ht,this,Bool.true_and]) _ (hdA [(1,1),(0,0)])
   rw[g5,Bool.true_and] at es
   simp only[push_cast,↓J1,↓J2,N1,N2,N3,reduceCtorEq,N4,N5,N6,reduceIte,N7,I1,I2,I3]
   rw[wrap64 (n:=1-u.sd) (by omega) (by omega)]
   refine⟨_,c3 _ _,?_⟩
   simp only[ints_length,fil_cnt,push_cast,↓J1,↓J2,N1,N2,N3,reduceCtorEq,N4,N5,N6,reduceIte,N7,I1,I2,I3]
   cases g6:decide (0<(cnt s.us u.at_ (1-u.sd):Int))
   ·rw[g6,Bool.false_or] at es
    simp only[push_cast,↓J1,↓J2,N1,N2,N3,reduceCtorEq,N4,N5,N6,reduceIte,N7,I1,I2,I3]
    refine⟨_,c3 _ _,?_⟩
    simp only[ints_length,fil_cnt,push_cast,↓J1,↓J2,N1,N2,N3,reduceCtorEq,N4,N5,N6,reduceIte,N7,I1,I2,I3]
    cases g7:decide (b.r.stack<(cnt s.us u.at_ u.sd:Int))
    ·rw[g7] at es
     simp only[push_cast,↓J1,↓J2,N1,N2,N3,reduceCtorEq,N4,N5,N6,reduceIte,N7,I1,I2,I3]
     exact hJ h1 (by rw[ht,es];rfl) _ (hdA [(1,1),(0,0)])
    ·rw[g7] at es
     rw[ht,es]
     simp only[push_cast,↓J1,↓J2,N1,N2,N3,reduceCtorEq,N4,N5,N6,reduceIte,N7,I1,I2,I3]
   ·rw[g6] at es
    rw[ht,es]
    simp only[push_cast,↓J1,↓J2,N1,N2,N3,reduceCtorEq,N4,N5,N6,reduceIte,N7,I1,I2,I3]
  ·simp only[uns_length,push_cast,↓J1,↓J2,N1,N2,N3,reduceCtorEq,N4,N5,N6,reduceIte,N7,I1,I2,I3]
   refine ifB_intro (fun h=>by simp at h;omega) (fun h=>?_)
   rw[ht,List.drop_eq_nil_of_le (by omega)]
   rfl
theorem t101(b:Brd)(s:Sta)(g1:brdOk b=true)(hb:BrdB (2^50) b)(hl:s.us.length<2^40):Ev C 101 [brdF b,.agg (staF s)] (.bool (staOk0 b s)):=by
 have c1:=t134 hC b
 have hwh:=brd_wh g1
 have c2:=fun u=>t135 hC b u g1 hb
 simp only[brdF,rulF,mpF,List.cons_append,List.nil_append,staF] at *
 refine rT hC Q101 ?_
 simp only[c101,push_cast,↓J1,↓J2,N1,N2,N3,reduceCtorEq,N4,N5,N6,reduceIte,N7,I1,I2,I3]
 refine⟨_,tRange hC _ _ _,?_⟩
 cases g2:inR 0 b.r.turns s.t
 ·simp only[staOk0,g2,push_cast,↓J1,↓J2,N1,N2,N3,reduceCtorEq,N4,N5,N6,reduceIte,N7,I1,I2,I3]
 simp only[push_cast,↓J1,↓J2,N1,N2,N3,reduceCtorEq,N4,N5,N6,reduceIte,N7,I1,I2,I3]
 refine⟨_,tRange hC _ _ _,?_⟩
 cases g3:inR 0 2 s.w
 ·simp only[staOk0,g2,g3,push_cast,↓J1,↓J2,N1,N2,N3,reduceCtorEq,N4,N5,N6,reduceIte,N7,I1,I2,I3]
 have e12:decide (12<(s.us.length:Int))=!decide ((s.us.length:Int)≤12):=by rw[Bool.eq_iff_iff];simp
 simp only[uns_length,e12,push_cast,↓J1,↓J2,N1,N2,N3,reduceCtorEq,N4,N5,N6,reduceIte,N7,I1,I2,I3]
 cases g4:decide ((s.us.length:Int)≤12)
 ·simp only[staOk0,g2,g3,g4,push_cast,↓J1,↓J2,N1,N2,N3,reduceCtorEq,N4,N5,N6,reduceIte,N7,I1,I2,I3]
 simp only[uns_length,push_cast,↓J1,↓J2,N1,N2,N3,reduceCtorEq,N4,N5,N6,reduceIte,N7,I1,I2,I3]
 rw[show staOk0 b s=(s.us.all (unOk b)&&s.us.all (stackOk b s.us)) by simp only[staOk0,g2,g3,g4,Bool.true_and]]
 refine⟨_,c1,?_⟩
 simp only[Int.toNat_natCast,uns_length,push_cast,↓J1,↓J2,N1,N2,N3,reduceCtorEq,N4,N5,N6,reduceIte,N7,I1,I2,I3]
 repeat (refine⟨by omega,?_⟩)
 refine RL_count (fun i=>⟨tb 80 .any [(2,.ptr 0 none 0 0 0),(5,.ref 1 none 2 0 b.m.t.length),(31,.sl (uns s.us)),(32,.int .i64 (s.us.length:Int)),(33,.int .i64 (i:Int))],[(1,.slice 2 (tblR (s.us.take i) b.m.t.length)),(0,.var (rulF b.r++mpF b.m))],2⟩) (fun i=> ∀j (h:j<s.us.length),j<i→unOk b s.us[j]=true∧stackOk b (s.us.take (j+1)) s.us[j]=true) s.us.length 0 (hdA [(2,1),(0,0)] (hh:=?_)) (by omega) (by intro j h h';omega) fun i hi ht J hJ=>?_
 ·rw[List.take_zero,tblR_nil];simp only[canR,canB,renO,renL,ren,lkp,hget,N7,N5,Nat.not_lt_zero,if_false,if_true,reduceIte,List.append_nil,List.nil_append];rfl
 simp only[brdF,rulF,mpF,List.cons_append,List.nil_append,staF]
 by_cases h1:i<s.us.length
 ·have e1:=uns_get h1
  have bad:(unOk b s.us[i]=false∨stackOk b (s.us.take (i+1)) s.us[i]=false)→(s.us.all (unOk b)&&s.us.all (stackOk b s.us))=false:=by
   rintro(h | h)
   ·rw[show s.us.all (unOk b)=false from List.all_eq_false.2 ⟨_,List.getElem_mem h1,by simp[h]⟩];rfl
   ·rw[show s.us.all (stackOk b s.us)=false from List.all_eq_false.2 ⟨_,List.getElem_mem h1,by
     intro hh
     rw[stack_mono (i+1) hh] at h;cases h⟩,Bool.and_false]
  have good:unOk b s.us[i]=true→stackOk b (s.us.take (i+1)) s.us[i]=true→ ∀j (h:j<s.us.length),j<i+1→unOk b s.us[j]=true∧stackOk b (s.us.take (j+1)) s.us[j]=true:=by
   intro k1 k2 j hj hji
   by_cases hij:j=i
   ·subst hij;exact⟨k1,k2⟩
   ·exact ht j hj (by omega)
  have hJ':=fun k1 k2=>hJ h1 (good k1 k2)
  have taway:=tblR_away (n:=b.m.t.length) h1
  have tadd:=fun a s'=>tblR_add (n:=b.m.t.length) (a:=a) (s:=s') h1
  clear hJ good ht
  generalize hu:s.us[i]=u at *
  have c2':=c2 u
  simp only[Int.toNat_natCast,e1,unA,push_cast,↓J1,↓J2,N1,N2,N3,reduceCtorEq,N4,N5,N6,reduceIte,N7,I1,I2,I3] at c2'⊢
  refine ifB_intro (fun _=>?_) (fun h=>by simp at h;omega)
  repeat (refine⟨by omega,?_⟩)
  refine⟨_,c2',?_⟩
  cases g5:unOk b u
  ·simp only[bad (.inl g5),push_cast,↓J1,↓J2,N1,N2,N3,reduceCtorEq,N4,N5,N6,reduceIte,N7,I1,I2,I3]
  simp only[push_cast,↓J1,↓J2,N1,N2,N3,reduceCtorEq,N4,N5,N6,reduceIte,N7,I1,I2,I3]
  have hsd:=un_sd g5
  have es:stackOk b (s.us.take (i+1)) u=!(decide (0≤u.at_)&&(decide (0<(cnt (s.us.take (i+1)) u.at_ (1-u.sd):Int))||decide (b.r.stack<(cnt (s.us.take (i+1)) u.at_ u.sd:Int)))):=by simp[stackOk]
  by_cases g6:u.at_<0
  ·have g6':decide (u.at_<0)=true:=decide_eq_true g6
   simp only[g6',push_cast,↓J1,↓J2,N1,N2,N3,reduceCtorEq,N4,N5,N6,reduceIte,N7,I1,I2,I3]
   refine hJ' g5 (by rw[es,decide_eq_false (by omega)];rfl) _ ?_
   rw[taway g6]
   exact(hdA [(1,1),(0,0)])
  have g6':decide (u.at_<0)=false:=decide_eq_false g6
  have hat:=unOk_at g5 (by omega)
  obtain⟨a,ha⟩: ∃a:Nat,u.at_=a:=⟨u.at_.toNat,by omega⟩
  have han:a<b.m.t.length:=by omega
  have ea:=fun us=>tblR_get (us:=us) han
  rw[decide_eq_true (show(0:Int)≤u.at_ by omega),Bool.true_and] at es
  have cl:=cnt_le_len (s.us.take i) a 0
  have cl1:=cnt_le_len (s.us.take i) a 1
  have tl:(s.us.take i).length≤s.us.length:=by rw[List.length_take];omega
  have ga:decide ((a:Int)<0)=false:=decide_eq_false (by omega)
  rw[ha] at es
  rcases hsd with h0 | h0
  ·have tadd':=tadd a 0 ha h0 (by omega) han
   rw[h0] at es
   have w1:IntKind.i64.wrap (1-0)=1:=by decide
   have w2:IntKind.i64.wrap ((cnt (s.us.take i) (a:Int) 0:Int)+1)=(cnt (s.us.take i) (a:Int) 0:Int)+1:=wrap64 (by omega) (by omega)
   simp only[tblRow,List.set_cons_zero,List.set_cons_succ,Int.cast_ofNat_Int] at tadd'
   simp only[ha,ga,h0,w1,ea,tblR_length,tblRow,Int.toNat_natCast,push_cast,↓J1,↓J2,N1,N2,N3,reduceCtorEq,N4,N5,N6,reduceIte,N7,I1,I2,I3]
   repeat (refine⟨by omega,?_⟩)
   simp only[w2,←tadd',ea,tblR_length,tblRow,Int.toNat_natCast,push_cast,↓J1,↓J2,N1,N2,N3,reduceCtorEq,N4,N5,N6,reduceIte,N7,I1,I2,I3]
   rw[show(1:Int)-0=1 by decide] at es
   cases g7:decide (0<(cnt (s.us.take (i+1)) (a:Int) 1:Int))
   ·rw[g7,Bool.false_or] at es
    simp only[tblR_length,ea,tblRow,Int.toNat_natCast,push_cast,↓J1,↓J2,N1,N2,N3,reduceCtorEq,N4,N5,N6,reduceIte,N7,I1,I2,I3]
    repeat (refine⟨by omega,?_⟩)
    cases g8:decide (b.r.stack<(cnt (s.us.take (i+1)) (a:Int) 0:Int))
    ·rw[g8] at es
     simp only[push_cast,↓J1,↓J2,N1,N2,N3,reduceCtorEq,N4,N5,N6,reduceIte,N7,I1,I2,I3]
     exact hJ' g5 es _ (hdA [(1,1),(0,0)])
    ·rw[g8] at es
     simp only[bad (.inr es),push_cast,↓J1,↓J2,N1,N2,N3,reduceCtorEq,N4,N5,N6,reduceIte,N7,I1,I2,I3]
   ·rw[g7] at es
    simp only[bad (.inr es),push_cast,↓J1,↓J2,N1,N2,N3,reduceCtorEq,N4,N5,N6,reduceIte,N7,I1,I2,I3]
  ·have tadd':=tadd a 1 ha h0 (by omega) han
   rw[h0] at es
   have w1:IntKind.i64.wrap (1-1)=0:=by decide
   have w2:IntKind.i64.wrap ((cnt (s.us.take i) (a:Int) 1:Int)+1)=(cnt (s.us.take i) (a:Int) 1:Int)+1:=wrap64 (by omega) (by omega)
   simp only[tblRow,List.set_cons_zero,List.set_cons_succ,Int.cast_ofNat_Int] at tadd'
   simp only[ha,ga,h0,w1,ea,tblR_length,tblRow,Int.toNat_natCast,push_cast,↓J1,↓J2,N1,N2,N3,reduceCtorEq,N4,N5,N6,reduceIte,N7,I1,I2,I3]
   repeat (refine⟨by omega,?_⟩)
   simp only[w2,←tadd',ea,tblR_length,tblRow,Int.toNat_natCast,push_cast,↓J1,↓J2,N1,N2,N3,reduceCtorEq,N4,N5,N6,reduceIte,N7,I1,I2,I3]
   rw[show(1:Int)-1=0 by decide] at es
   cases g7:decide (0<(cnt (s.us.take (i+1)) (a:Int) 0:Int))
   ·rw[g7,Bool.false_or] at es
    simp only[tblR_length,ea,tblRow,Int.toNat_natCast,push_cast,↓J1,↓J2,N1,N2,N3,reduceCtorEq,N4,N5,N6,reduceIte,N7,I1,I2,I3]
    repeat (refine⟨by omega,?_⟩)
    cases g8:decide (b.r.stack<(cnt (s.us.take (i+1)) (a:Int) 1:Int))
    ·rw[g8] at es
     simp only[push_cast,↓J1,↓J2,N1,N2,N3,reduceCtorEq,N4,N5,N6,reduceIte,N7,I1,I2,I3]
     exact hJ' g5 es _ (hdA [(1,1),(0,0)])
    ·rw[g8] at es
     simp only[bad (.inr es),push_cast,↓J1,↓J2,N1,N2,N3,reduceCtorEq,N4,N5,N6,reduceIte,N7,I1,I2,I3]
   ·rw[g7] at es
    simp only[bad (.inr es),push_cast,↓J1,↓J2,N1,N2,N3,reduceCtorEq,N4,N5,N6,reduceIte,N7,I1,I2,I3]
 ·simp only[uns_length,push_cast,↓J1,↓J2,N1,N2,N3,reduceCtorEq,N4,N5,N6,reduceIte,N7,I1,I2,I3]
  refine ifB_intro (fun h=>by simp at h;omega) (fun h=>?_)
  have hall:s.us.all (unOk b)=true:=by
   rw[List.all_eq_true];intro u hm
   obtain⟨j,hj,rfl⟩:=List.getElem_of_mem hm
   exact(ht j hj (by omega)).1
  rw[hall,stack_all (fun j hj=>(ht j hj (by omega)).1) (fun j hj=>(ht j hj (by omega)).2)]
  rfl
end
end Go.Proofs.YthggfnefjbckeaaGreatDoor.X
set_option maxHeartbeats 4000000
set_option maxRecDepth 8000
set_option linter.unusedSimpArgs false
set_option linter.unusedVariables false
open Nat renaming reduceBEq→N1,reduceAdd→N2,reduceSub→N3,reduceMul→N4,reduceEqDiff→N5,reduceLeDiff→N6,reduceLT→N7
open Int renaming reduceLE→I1,reduceLT→I2,reduceToNat→I3
namespace Go.Proofs.YthggfnefjbckeaaGreatDoor.X
open Go
attribute [local irreducible] Ev
section
variable{C:CT}(hC:Closed Tryz.prog G1 md0 C)
include hC
end
end Go.Proofs.YthggfnefjbckeaaGreatDoor.X
set_option maxHeartbeats 4000000
set_option maxRecDepth 8000
set_option linter.unusedSimpArgs false
set_option linter.unusedVariables false
open Nat renaming reduceBEq→N1,reduceAdd→N2,reduceSub→N3,reduceMul→N4,reduceEqDiff→N5,reduceLeDiff→N6,reduceLT→N7
open Int renaming reduceLE→I1,reduceLT→I2,reduceToNat→I3
namespace Go.Proofs.YthggfnefjbckeaaGreatDoor.X
open Go
attribute [local irreducible] Ev
def hasI(l:List Int)(n:Int):Bool:=l.any fun x=>decide (x=n)
def edgeM(m:Mp)(i:Int)(d:Nat):Int:=if d<3 then 3*i+d else 3*nextM m i d+d-3
def freeE(m:Mp)(e:Int):Bool:=!hasI m.ri e||hasI m.ro e
def first6(p:Nat→Bool):Option Nat:=(List.range 6).find? p
def wayFree(b:Brd)(a i:Int):Bool:=match first6 (fun d=>decide (nextM b.m a d=i)) with
 | some d=>freeE b.m (edgeM b.m a d)
 | none=>false
def zonOf(b:Brd)(u:Un)(i:Int):Bool:=decide (0≤u.at_)&&(kindOf b u.k).z&&!decide (costAt b u.k i=0)&&wayFree b u.at_ i
def zonS(b:Brd)(sd i:Int)(u:Un):Bool:=decide (u.sd=sd)&&zonOf b u i
def inZon(b:Brd)(s:Sta)(sd i:Int):Bool:=s.us.any (zonS b sd i)
theorem nextM_bnd{m:Mp}{i d:Int}(hw:1≤m.w∧m.w≤10)(hh:1≤m.h∧m.h≤10): -1≤nextM m i d∧nextM m i d<m.w*m.h:=by
 have hwh:=wh_le hw hh
 simp only[nextM]
 split
 ·rename_i h
  simp only[inR,Bool.and_eq_true,decide_eq_true_eq] at h
  generalize i.tdiv m.w+dr d.toNat=r at *
  generalize i.tmod m.w+dq d.toNat=q at *
  have h1:0≤r*m.w:=Int.mul_nonneg (by omega) (by omega)
  have h2:r*m.w≤(m.h-1)*m.w:=Int.mul_le_mul_of_nonneg_right (by omega) (by omega)
  have h3:(m.h-1)*m.w=m.w*m.h-m.w:=by rw[Int.sub_mul,Int.one_mul,Int.mul_comm]
  omega
 ·omega
theorem hasI_no{l:List Int}{n:Int}(h: ∀j (h:j<l.length),decide (l[j]=n)=false):hasI l n=false:=by
 simp only[hasI,List.any_eq_false]
 intro x hx
 obtain⟨j,hj,rfl⟩:=List.getElem_of_mem hx
 simpa using h j hj
theorem hasI_yes{l:List Int}{n:Int}{j:Nat}(hj:j<l.length)(h:decide (l[j]=n)=true):hasI l n=true:=by
 simp only[hasI,List.any_eq_true]
 exact⟨_,List.getElem_mem hj,h⟩
def iidx(l:List Int)(n:Int):Int:=gidx (fun x=>decide (n=x)) l
theorem iidx_has(l:List Int)(n:Int):decide (0≤iidx l n)=hasI l n:=by
 have:=fidx_any (fun x=>decide (n=x)) l
 have e:iidx l n=fidx (fun x=>decide (n=x)) l:=rfl
 rw[e,this]
 simp only[hasI]
 congr 1;funext x;rw[Bool.eq_iff_iff];simp;exact eq_comm
section
variable{C:CT}(hC:Closed Tryz.prog G1 md0 C)
include hC
theorem t126(l:List Int)(n:Int)(hl:l.length<2^50):Ev C 126 [.sl (ints l),.int .i64 n] (.bool (hasI l n)):=by
 refine rT hC Q126 ?_
 simp only[c126,ints_length,push_cast,↓J1,↓J2,N1,N2,N3,reduceCtorEq,N4,N5,N6,reduceIte,N7,I1,I2,I3]
 refine RL_count (fun i=>⟨tb 17 .any [(1,.int .i64 n),(7,.sl (ints l)),(8,.int .i64 (l.length:Int)),(9,.int .i64 (i:Int))],[],0⟩) (fun i=> ∀j (h:j<l.length),j<i→decide (l[j]=n)=false) l.length 0 (hdA []) (by omega) (by intro j h h';omega) fun i hi' ht J hJ=>?_
 by_cases h1:i<l.length
 ·have e1:(ints l)[i]?=some [.int .i64 l[i]]:=by simp[ints,h1]
  simp only[Int.toNat_natCast,e1,push_cast,↓J1,↓J2,N1,N2,N3,reduceCtorEq,N4,N5,N6,reduceIte,N7,I1,I2,I3]
  refine ifB_intro (fun _=>?_) (fun h=>by simp at h;omega)
  repeat (refine⟨by omega,?_⟩)
  refine ifB_intro (fun h=>?_) (fun h=>?_)
  ·rw[hasI_yes h1 h];first | done | rfl
  ·refine hJ h1 ?_ _ (hdA [])
   intro j hj hji
   by_cases hij:j=i
   ·subst hij;exact h
   ·exact ht j hj (by omega)
 ·simp only[ints_length,push_cast,↓J1,↓J2,N1,N2,N3,reduceCtorEq,N4,N5,N6,reduceIte,N7,I1,I2,I3]
  refine ifB_intro (fun h=>by simp at h;omega) (fun h=>?_)
  rw[hasI_no fun j hj=>ht j hj (by omega)];first | done | rfl
theorem t169(l:List Int)(n:Int)(hl:l.length<2^50):Ev C 169 [.sl (ints l),.int .i64 n] (.int .i64 (iidx l n)):=by
 refine rT hC Q169 ?_
 simp only[c169,ints_length,push_cast,↓J1,↓J2,N1,N2,N3,reduceCtorEq,N4,N5,N6,reduceIte,N7,I1,I2,I3]
 refine RL_count (fun i=>⟨tb 19 .any [(0,.sl (ints l)),(1,.int .i64 n),(7,.int .i64 (l.length:Int)),(8,.int .i64 (i:Int))],[],0⟩) (fun i=> ∀j (h:j<l.length),j<i→decide (n=l[j])=false) l.length 0 (hdA []) (by omega) (by intro j h h';omega) fun i hi' ht J hJ=>?_
 by_cases h1:i<l.length
 ·have e1:(ints l)[i]?=some [.int .i64 l[i]]:=by simp[ints,h1]
  simp only[Int.toNat_natCast,e1,push_cast,↓J1,↓J2,N1,N2,N3,reduceCtorEq,N4,N5,N6,reduceIte,N7,I1,I2,I3]
  refine ifB_intro (fun _=>?_) (fun h=>by simp at h;omega)
  repeat (refine⟨by omega,?_⟩)
  refine ifB_intro (fun h=>?_) (fun h=>?_)
  ·exact(gidx_at (p:=fun x=>decide (n=x)) h1 h ht).symm
  ·refine hJ h1 ?_ _ (hdA [])
   intro j hj hji
   by_cases hij:j=i
   ·subst hij;exact h
   ·exact ht j hj (by omega)
 ·simp only[ints_length,push_cast,↓J1,↓J2,N1,N2,N3,reduceCtorEq,N4,N5,N6,reduceIte,N7,I1,I2,I3]
  refine ifB_intro (fun h=>by simp at h;omega) (fun h=>?_)
  exact(gidx_no fun j hj=>ht j hj (by omega)).symm
theorem t140(l:List Int)(n:Int)(hl:l.length<2^50):Ev C 140 [.sl (ints l),.int .i64 n] (.bool (hasI l n)):=by
 refine rT hC Q140 ?_
 simp only[c140,push_cast,↓J1,↓J2,N1,N2,N3,reduceCtorEq,N4,N5,N6,reduceIte,N7,I1,I2,I3]
 refine⟨_,t169 hC l n hl,?_⟩
 simp only[iidx_has,push_cast,↓J1,↓J2,N1,N2,N3,reduceCtorEq,N4,N5,N6,reduceIte,N7,I1,I2,I3]
theorem t164(m:Mp)(i:Int)(d:Nat)(hw:1≤m.w∧m.w≤10)(hh:1≤m.h∧m.h≤10)(hi:0≤i∧i<100)(hd:d<6)(hn:0≤nextM m i d):Ev C 164 [.agg (mpF m),.int .i64 i,.int .i64 (d:Int)] (.int .i64 (edgeM m i d)):=by
 have c1:=t138 hC m i d hw hh (by omega) (by omega)
 have hb:=nextM_bnd (i:=i) (d:=d) hw hh
 have hwh:=wh_le hw hh
 simp only[mpF] at *
 refine rT hC Q164 ?_
 simp only[c164,push_cast,↓J1,↓J2,N1,N2,N3,reduceCtorEq,N4,N5,N6,reduceIte,N7,I1,I2,I3]
 refine⟨_,c1,?_⟩
 have g1:decide (nextM m i d<0)=false:=decide_eq_false (by omega)
 simp only[g1,push_cast,↓J1,↓J2,N1,N2,N3,reduceCtorEq,N4,N5,N6,reduceIte,N7,I1,I2,I3]
 by_cases g2:d<3
 ·have g3:decide ((d:Int)<3)=true:=decide_eq_true (by omega)
  simp only[g3,push_cast,↓J1,↓J2,N1,N2,N3,reduceCtorEq,N4,N5,N6,reduceIte,N7,I1,I2,I3]
  rw[wrap64 (n:=3*i) (by omega) (by omega),wrap64 (by omega) (by omega)]
  simp only[edgeM,if_pos g2]
 ·have g3:decide ((d:Int)<3)=false:=decide_eq_false (by omega)
  simp only[g3,push_cast,↓J1,↓J2,N1,N2,N3,reduceCtorEq,N4,N5,N6,reduceIte,N7,I1,I2,I3]
  rw[wrap64 (n:=3*nextM m i d) (by omega) (by omega),wrap64 (n:=3*nextM m i d+d) (by omega) (by omega),wrap64 (by omega) (by omega)]
  simp only[edgeM,if_neg g2]
theorem t175(m:Mp)(i:Int)(d:Nat)(hw:1≤m.w∧m.w≤10)(hh:1≤m.h∧m.h≤10)(hi:0≤i∧i<100)(hd:d<6):Ev C 175 [.agg (mpF m),.int .i64 i,.int .i64 (d:Int)] (.int .i64 (edgeM m i d)):=by
 have c1:=t62 hC m i d hw hh (by omega) (by omega)
 have hb:=nextM_bnd (i:=i) (d:=d) hw hh
 have hwh:=wh_le hw hh
 simp only[mpF] at *
 refine rT hC Q175 ?_
 simp only[c175,push_cast,↓J1,↓J2,N1,N2,N3,reduceCtorEq,N4,N5,N6,reduceIte,N7,I1,I2,I3]
 by_cases g2:d<3
 ·have g3:decide ((d:Int)<3)=true:=decide_eq_true (by omega)
  simp only[g3,push_cast,↓J1,↓J2,N1,N2,N3,reduceCtorEq,N4,N5,N6,reduceIte,N7,I1,I2,I3]
  rw[wrap64 (n:=3*i) (by omega) (by omega),wrap64 (by omega) (by omega)]
  simp only[edgeM,if_pos g2]
 ·have g3:decide ((d:Int)<3)=false:=decide_eq_false (by omega)
  simp only[g3,push_cast,↓J1,↓J2,N1,N2,N3,reduceCtorEq,N4,N5,N6,reduceIte,N7,I1,I2,I3]
  refine⟨_,c1,?_⟩
  simp only[push_cast,↓J1,↓J2,N1,N2,N3,reduceCtorEq,N4,N5,N6,reduceIte,N7,I1,I2,I3]
  rw[wrap64 (n:=3*nextM m i d) (by omega) (by omega),wrap64 (n:=3*nextM m i d+d) (by omega) (by omega),wrap64 (by omega) (by omega)]
  simp only[edgeM,if_neg g2]
theorem t152(m:Mp)(i:Int)(d:Nat)(hw:1≤m.w∧m.w≤10)(hh:1≤m.h∧m.h≤10)(hi:0≤i∧i<100)(hd:d<6)(hb:MpB (2^50) m):Ev C 152 [.agg (mpF m),.int .i64 i,.int .i64 (d:Int)] (.bool (hasI m.ri (edgeM m i d))):=by
 have c1:=t175 hC m i d hw hh hi hd
 have c2:=t126 hC m.ri (edgeM m i d) hb.ri
 simp only[mpF] at *
 refine rT hC Q152 ?_
 simp only[c152,push_cast,↓J1,↓J2,N1,N2,N3,reduceCtorEq,N4,N5,N6,reduceIte,N7,I1,I2,I3]
 refine⟨_,c1,?_⟩
 simp only[push_cast,↓J1,↓J2,N1,N2,N3,reduceCtorEq,N4,N5,N6,reduceIte,N7,I1,I2,I3]
 refine⟨_,c2,?_⟩
 simp only[push_cast,↓J1,↓J2,N1,N2,N3,reduceCtorEq,N4,N5,N6,reduceIte,N7,I1,I2,I3]
theorem t150(m:Mp)(i:Int)(d:Nat)(hw:1≤m.w∧m.w≤10)(hh:1≤m.h∧m.h≤10)(hi:0≤i∧i<100)(hd:d<6)(hb:MpB (2^50) m):Ev C 150 [.agg (mpF m),.int .i64 i,.int .i64 (d:Int)] (.bool (hasI m.ro (edgeM m i d))):=by
 have c1:=t175 hC m i d hw hh hi hd
 have c2:=t126 hC m.ro (edgeM m i d) hb.ro
 simp only[mpF] at *
 refine rT hC Q150 ?_
 simp only[c150,push_cast,↓J1,↓J2,N1,N2,N3,reduceCtorEq,N4,N5,N6,reduceIte,N7,I1,I2,I3]
 refine⟨_,c1,?_⟩
 simp only[push_cast,↓J1,↓J2,N1,N2,N3,reduceCtorEq,N4,N5,N6,reduceIte,N7,I1,I2,I3]
 refine⟨_,c2,?_⟩
 simp only[push_cast,↓J1,↓J2,N1,N2,N3,reduceCtorEq,N4,N5,N6,reduceIte,N7,I1,I2,I3]
end
end Go.Proofs.YthggfnefjbckeaaGreatDoor.X
set_option maxHeartbeats 4000000
set_option maxRecDepth 8000
set_option linter.unusedSimpArgs false
set_option linter.unusedVariables false
open Nat renaming reduceBEq→N1,reduceAdd→N2,reduceSub→N3,reduceMul→N4,reduceEqDiff→N5,reduceLeDiff→N6,reduceLT→N7
open Int renaming reduceLE→I1,reduceLT→I2,reduceToNat→I3
namespace Go.Proofs.YthggfnefjbckeaaGreatDoor.X
open Go
attribute [local irreducible] Ev
section
variable{C:CT}(hC:Closed Tryz.prog G1 md0 C)
include hC
end
end Go.Proofs.YthggfnefjbckeaaGreatDoor.X
