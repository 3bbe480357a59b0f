/- A part of the proof: lemmas on the machine or on the functions that the law reaches. No condition of its own. -/
import Derived.Test.YthggfnefjbckeaaGreatDoorXP4
import Derived.Test.YthggfnefjbckeaaGreatDoorXP5
set_option maxHeartbeats 4000000
set_option maxRecDepth 8000
set_option linter.unusedSimpArgs false
set_option linter.unusedVariables false
open Nat renaming reduceBEq→N1,reduceAdd→N2,reduceSub→N3,reduceMul→N4,reduceEqDiff→N5,reduceLeDiff→N6,reduceLT→N7
open Int renaming reduceLE→I1,reduceLT→I2,reduceToNat→I3
namespace Go.Proofs.YthggfnefjbckeaaGreatDoor.X
open Go
attribute [local irreducible] Ev
structure Od where
 a:Int
 b:Int
 deriving DecidableEq
def odA(o:Od):List AV:=[.int .i64 o.a,.int .i64 o.b]
def ods(l:List Od):List (List AV):=l.map odA
theorem ods_length(l:List Od):(ods l).length=l.length:=by simp[ods]
theorem frzLL_ods(l:List Od):frzLL (ods l)=ods l:=by
 unfold ods
 induction l with
 | nil=>rfl
 | cons x l ih=>simp only[List.map_cons,frzLL,odA,frzL,frzT,ih]
theorem own_ods(l:List Od):ownRLL (ods l)=true:=by
 unfold ods
 induction l with
 | nil=>rfl
 | cons x l ih=>simp only[List.map_cons,ownRLL,odA,ownRL,ownR,Bool.and_true,Bool.true_and];exact ih
theorem own_owss(W:List (List Int)):ownRLL (owss W)=true:=by have:=own_intss W;simpa only[ownR] using this
structure Ct where
 cs:List Od
 d:Int
 rs:List (List Int)
 deriving DecidableEq
def ctF(t:Ct):List AV:=[.sl (ods t.cs),.int .i64 t.d,.sl (intss t.rs)]
def ctO(t:Ct):List AV:=[.ow 2 (ods t.cs),.int .i64 t.d,.ow 1 (owss t.rs)]
structure SSB(B:Nat)(W:List (List Int)):Prop where
 l:W.length<B
 r: ∀r∈W,r.length<B
structure CtB(B:Nat)(t:Ct):Prop where
 c:t.cs.length<B
 r:SSB B t.rs
def sz1(l:List Od)(v:Int):Int:=sub1 v l.length
def szCt(t:Ct):Int→Int:=andThen (sz1 t.cs) (szSS t.rs)
def szCl(W:List (List Int))(v:Int):Int:=if szSS W v<0 then -1 else szSS W v
theorem szRows_rng: ∀(W:List (List Int)) (v:Int),0≤v→ -1≤szRows W v∧szRows W v≤v
 | [],v,h=>by simp only[szRows];omega
 | r::W,v,h=>by
  simp only[szRows]
  split
  ·omega
  ·have:=szRows_rng W (v-r.length) (by omega);omega
theorem szSS_rng{W:List (List Int)}{v:Int}(h:0≤v): -1≤szSS W v∧szSS W v≤v:=by
 simp only[szSS]
 split
 ·omega
 ·have:=szRows_rng W (v-W.length) (by omega);omega
theorem szSS_pos{W:List (List Int)}{v:Int}(h0:0≤v)(hv:v≤1048576)(h:0≤szSS W v):SSB (2^21) W:=by
 have:=szSS_le h0 h
 exact⟨by omega,fun r hr=>by have:=this.2 r hr;omega⟩
theorem szCl_rng{W:List (List Int)}{v:Int}(h:0≤v): -1≤szCl W v∧szCl W v≤v:=by
 have:=szSS_rng (W:=W) h
 simp only[szCl];split<;>omega
theorem szCt_rng{t:Ct}{v:Int}(h:0≤v): -1≤szCt t v∧szCt t v≤v:=by
 have h1: -1≤sz1 t.cs v∧sz1 t.cs v≤v:=sub1_le h
 simp only[szCt,andThen]
 split
 ·omega
 ·have:=szSS_rng (W:=t.rs) (v:=sz1 t.cs v) (by omega)
  split<;>omega
theorem SSB.mono{A B:Nat}{W:List (List Int)}(h:A≤B)(hb:SSB A W):SSB B W:=⟨by have:=hb.l;omega,fun r hr=>by have:=hb.r r hr;omega⟩
theorem CtB.mono{A B:Nat}{t:Ct}(h:A≤B)(hb:CtB A t):CtB B t:=⟨by have:=hb.c;omega,hb.r.mono h⟩
theorem szCt_pos{t:Ct}{v:Int}(h0:0≤v)(hv:v≤1048576)(h:0≤szCt t v):CtB (2^21) t:=by
 have h1: -1≤sz1 t.cs v∧sz1 t.cs v≤v:=sub1_le h0
 simp only[szCt,andThen] at h
 split at h
 ·omega
 split at h
 ·omega
 have h2:=sub1_pos (v:=v) (n:=t.cs.length) (by show 0≤sz1 t.cs v;omega)
 exact⟨by omega,szSS_pos (by omega) (by omega) h⟩
def od0:Od:=⟨0,0⟩
def prevO(cs:List Od)(i:Nat):Od:=cs.getD (i-1) od0
def odOk(cs:List Od)(i:Nat)(o:Od):Bool:=inR 1 20 o.a&&inR 1 20 o.b&&!(decide (0<(i:Int))&&decide (IntKind.i64.wrap (o.a*(prevO cs i).b)≤IntKind.i64.wrap ((prevO cs i).a*o.b)))
def ctRow(n:Nat)(r:List Int):Bool:=decide ((r.length:Int)=(n:Int))&&r.all (inR 0 7)
def ctOk(t:Ct):Bool:=inR 1 8 t.cs.length&&inR 1 2 t.d&&decide ((t.rs.length:Int)=5*t.d+1)&&allI (odOk t.cs) t.cs&&t.rs.all (ctRow t.cs.length)
section
variable{C:CT}(hC:Closed Tryz.prog G1 md0 C)
include hC
theorem t55(l:List Od)(v:Int)(hv:0≤v∧v<2^50)(hl:l.length<2^50):Ev C 55 [.sl (ods l),.int .i64 v] (.int .i64 (sz1 l v)):=by
 refine rT hC Q55 ?_
 simp only[c55,ods_length,push_cast,↓J1,↓J2,N1,N2,N3,reduceCtorEq,N4,N5,N6,reduceIte,N7,I1,I2,I3]
 rw[wrap64 (by omega) (by omega)]
 refine ifB_intro (fun h=>?_) (fun h=>?_)
 ·have h':v<l.length:=by simp at h;omega
  simp only[sz1,sub1,if_pos h']
 ·have h': ¬v<l.length:=by simp at h;omega
  simp only[sz1,sub1,if_neg h']
theorem t21(t:Ct)(v:Int)(hv:0≤v∧v<2^50)(hb:CtB (2^50) t):Ev C 21 [.agg (ctF t),.int .i64 v] (.int .i64 (szCt t v)):=by
 have h1:=sub1_le (n:=t.cs.length) hv.1
 simp only[ctF]
 refine rT hC Q21 ?_
 simp only[c21,push_cast,↓J1,↓J2,N1,N2,N3,reduceCtorEq,N4,N5,N6,reduceIte,N7,I1,I2,I3]
 refine⟨_,t55 hC _ _ hv hb.c,?_⟩
 simp only[push_cast,↓J1,↓J2,N1,N2,N3,reduceCtorEq,N4,N5,N6,reduceIte,N7,I1,I2,I3]
 refine ifB_intro (fun h=>?_) (fun h=>?_)
 ·simp only[szCt,andThen,if_pos (of_decide_eq_true h)]
 ·have hn:=of_decide_eq_false h
  refine⟨_,t23 hC _ _ ⟨by omega,by simp only[sz1] at*;omega⟩ hb.r.l hb.r.r,?_⟩
  simp only[push_cast,↓J1,↓J2,N1,N2,N3,reduceCtorEq,N4,N5,N6,reduceIte,N7,I1,I2,I3]
  refine ifB_intro (fun h=>?_) (fun h=>?_)
  ·simp only[szCt,andThen,if_neg hn,if_pos (of_decide_eq_true h)]
  ·simp only[szCt,andThen,if_neg hn,if_neg (of_decide_eq_false h)]
theorem t99(o:Od):Ev C 99 [.agg (odA o)] (.agg (odA o)):=by
 simp only[odA]
 refine rT hC Q99 ?_
 simp only[c99,push_cast,↓J1,↓J2,N1,N2,N3,reduceCtorEq,N4,N5,N6,reduceIte,N7,I1,I2,I3]
 exact rtA
theorem t68(l:List Od)(hl:l.length<2^30):Ev C 68 [.sl (ods l)] (.ow 2 (ods l)):=by
 refine rT hC Q68 ?_ (by simp only[ownR,own_ods])
 simp only[c68,ods_length,push_cast,↓J1,↓J2,N1,N2,N3,reduceCtorEq,N4,N5,N6,reduceIte,N7,I1,I2,I3]
 repeat (refine⟨by omega,?_⟩)
 refine RL_count (fun i=>⟨tb 23 .any [(0,.sl (ods l)),(3,.ref 0 none 2 0 l.length),(4,.int .i64 (i:Int))],[(0,.slice 2 ((l.take i).map odA++List.replicate (l.length-i) [.int .i64 0,.int .i64 0]))],1⟩) (fun _=>True) l.length 0 (hdA [(0,0)]) (by omega) trivial fun i hi _ J hJ=>?_
 by_cases h1:i<l.length
 ·have e1:(ods l)[i]?=some (odA l[i]):=by simp[ods,h1]
  rw[show l.length-i=(l.length-(i+1))+1 by omega,List.replicate_succ]
  simp only[ods_length,Int.toNat_natCast,e1,odA,push_cast,↓J1,↓J2,N1,N2,N3,reduceCtorEq,N4,N5,N6,reduceIte,N7,I1,I2,I3]
  refine ifB_intro (fun _=>?_) (fun h=>by simp at h;omega)
  repeat (refine⟨by omega,?_⟩)
  refine⟨_,t99 hC l[i],?_⟩
  simp only[Int.toNat_natCast,odA,odA,List.take_length,mid_get (show((l.take i).map odA).length=i by simp;omega),mid_set (show((l.take i).map odA).length=i by simp;omega),push_cast,↓J1,↓J2,N1,N2,N3,reduceCtorEq,N4,N5,N6,reduceIte,N7,I1,I2,I3]
  repeat (refine⟨by omega,?_⟩)
  refine hJ h1 trivial _ (hdA [(0,0)] (hh:=?_))
  rw[List.take_succ_eq_append_getElem h1,List.map_append,List.append_assoc]
  simp only[hdel,canR,canB,renO,renL,ren,lkp,hget,N7,N5,Nat.not_lt_zero,if_false,if_true,reduceIte,List.append_nil,List.nil_append]
  rfl
 ·simp only[ods_length,Int.toNat_natCast,push_cast,↓J1,↓J2,N1,N2,N3,reduceCtorEq,N4,N5,N6,reduceIte,N7,I1,I2,I3]
  refine ifB_intro (fun h=>by simp at h;omega) (fun h=>?_)
  rw[List.take_of_length_le (by omega),show l.length-i=0 by omega]
  exact RetTo_ow (by simp[hget,ods]) (by simp[ods])
theorem t30(t:Ct)(hb:CtB (2^30) t):Ev C 30 [.agg (ctF t)] (.agg (ctO t)):=by
 simp only[ctF,ctO]
 refine rT hC Q30 ?_ (by simp only[ownR,ownRL,own_ods,own_owss,Bool.and_true])
 simp only[c30,push_cast,↓J1,↓J2,N1,N2,N3,reduceCtorEq,N4,N5,N6,reduceIte,N7,I1,I2,I3]
 refine⟨_,t68 hC _ hb.c,?_⟩
 simp only[push_cast,↓J1,↓J2,N1,N2,N3,reduceCtorEq,N4,N5,N6,reduceIte,N7,I1,I2,I3]
 refine⟨_,t32 hC _ hb.r.l hb.r.r,?_⟩
 simp only[push_cast,↓J1,↓J2,N1,N2,N3,reduceCtorEq,N4,N5,N6,reduceIte,N7,I1,I2,I3]
 exact rtA
theorem t110(t u:Od):Ev C 110 [.agg (odA t),.agg (odA u)] (.bool (decide (t=u))):=by
 obtain⟨a1,a2⟩:=t
 obtain⟨b1,b2⟩:=u
 simp only[odA]
 refine rT hC Q110 ?_
 simp only[c110,push_cast,↓J1,↓J2,N1,N2,N3,reduceCtorEq,N4,N5,N6,reduceIte,N7,I1,I2,I3]
 repeat' (first
  | simp only[push_cast,↓J1,↓J2,N1,N2,N3,reduceCtorEq,N4,N5,N6,reduceIte,N7,I1,I2,I3]
  | refine ifB_intro (fun h=>?_) (fun h=>?_))
 all_goals simp_all
theorem t79(l m:List Od)(hl:l.length<2^50)(hm:m.length<2^50):Ev C 79 [.sl (ods l),.sl (ods m)] (.bool (decide (l=m))):=by
 refine rT hC Q79 ?_
 simp only[c79,ods_length,push_cast,↓J1,↓J2,N1,N2,N3,reduceCtorEq,N4,N5,N6,reduceIte,N7,I1,I2,I3]
 refine ifB_intro (fun h=>?_) (fun h=>?_)
 ·have hlm:l.length=m.length:=by simp at h;omega
  refine RL_count (fun i=>⟨tb 27 .any [(0,.sl (ods l)),(1,.sl (ods m)),(5,.int .i64 (i:Int))],[],0⟩) (fun i=>l.take i=m.take i) l.length 0 (hdA []) (by omega) rfl fun i hi ht J hJ=>?_
  by_cases h1:i<l.length
  ·have h2:i<m.length:=by omega
   have e1:(ods l)[i]?=some (odA l[i]):=by simp[ods,h1]
   have e2:(ods m)[i]?=some (odA m[i]):=by simp[ods,h2]
   simp only[ods_length,Int.toNat_natCast,e1,e2,odA,push_cast,↓J1,↓J2,N1,N2,N3,reduceCtorEq,N4,N5,N6,reduceIte,N7,I1,I2,I3]
   refine ifB_intro (fun _=>?_) (fun h=>by simp at h;omega)
   repeat (refine⟨by omega,?_⟩)
   refine⟨_,t110 hC l[i] m[i],?_⟩
   simp only[push_cast,↓J1,↓J2,N1,N2,N3,reduceCtorEq,N4,N5,N6,reduceIte,N7,I1,I2,I3]
   refine ifB_intro (fun h=>?_) (fun h=>?_)
   ·refine hJ h1 ?_ _ (hdA [])
    rw[List.take_succ_eq_append_getElem h1,List.take_succ_eq_append_getElem h2,ht,of_decide_eq_true h]
   ·have: ¬l=m:=by rintro rfl;simp at h
    simp[this]
  ·simp only[ods_length,Int.toNat_natCast,push_cast,↓J1,↓J2,N1,N2,N3,reduceCtorEq,N4,N5,N6,reduceIte,N7,I1,I2,I3]
   refine ifB_intro (fun h=>by simp at h;omega) (fun h=>?_)
   rw[List.take_of_length_le (by omega),List.take_of_length_le (by omega)] at ht
   simp[ht]
 ·have: ¬l=m:=by rintro rfl;simp at h
  simp[this]
theorem t39(t u:Ct)(h1:CtB (2^50) t)(h2:CtB (2^50) u):Ev C 39 [.agg (ctF t),.agg (ctF u)] (.bool (decide (t=u))):=by
 have c1:=t79 hC t.cs u.cs h1.c h2.c
 have c2:=t41 hC t.rs u.rs h1.r.l h2.r.l h1.r.r h2.r.r
 clear h1 h2
 obtain⟨a1,a2,a3⟩:=t
 obtain⟨b1,b2,b3⟩:=u
 simp only[ctF] at *
 refine rT hC Q39 ?_
 simp only[c39,push_cast,↓J1,↓J2,N1,N2,N3,reduceCtorEq,N4,N5,N6,reduceIte,N7,I1,I2,I3]
 repeat' (first
  | simp only[push_cast,↓J1,↓J2,N1,N2,N3,reduceCtorEq,N4,N5,N6,reduceIte,N7,I1,I2,I3]
  | refine⟨_,c1,?_⟩
  | refine⟨_,c2,?_⟩
  | refine ifB_intro (fun h=>?_) (fun h=>?_))
 all_goals (clear c1 c2;simp_all)
theorem t148(d:Int)(hd:1≤d∧d≤2):Ev C 148 [.int .i64 d] (.int .i64 (5*d+1)):=by
 refine rT hC Q148 ?_
 simp only[c148,push_cast,↓J1,↓J2,N1,N2,N3,reduceCtorEq,N4,N5,N6,reduceIte,N7,I1,I2,I3]
 rw[wrap64 (n:=5*d) (by omega) (by omega),wrap64 (by omega) (by omega)]
theorem t158(x:Int):Ev C 158 [.int .i64 x] (.bool (inR 0 7 x)):=by
 refine rT hC Q158 ?_
 simp only[c158,push_cast,↓J1,↓J2,N1,N2,N3,reduceCtorEq,N4,N5,N6,reduceIte,N7,I1,I2,I3]
 refine⟨_,tRange hC _ _ _,?_⟩
 simp only[push_cast,↓J1,↓J2,N1,N2,N3,reduceCtorEq,N4,N5,N6,reduceIte,N7,I1,I2,I3]
theorem t157(x:Int):Ev C 157 [.int .i64 x] (.bool (!inR 0 7 x)):=by
 refine rT hC Q157 ?_
 simp only[c157,push_cast,↓J1,↓J2,N1,N2,N3,reduceCtorEq,N4,N5,N6,reduceIte,N7,I1,I2,I3]
 refine⟨_,t158 hC _,?_⟩
 simp only[push_cast,↓J1,↓J2,N1,N2,N3,reduceCtorEq,N4,N5,N6,reduceIte,N7,I1,I2,I3]
theorem t120(t:Ct)(hb:CtB (2^50) t):Ev C 120 [.agg (ctF t)] (.bool (ctOk t)):=by
 have b1:=hb.c
 have b2:=hb.r.l
 simp only[ctF]
 refine rT hC Q120 ?_
 simp only[c120,ods_length,intss_length,push_cast,↓J1,↓J2,N1,N2,N3,reduceCtorEq,N4,N5,N6,reduceIte,N7,I1,I2,I3]
 refine⟨_,tIn hC _ _ _,?_⟩
 cases g1:inR 1 8 (t.cs.length:Int)
 ·simp only[ctOk,g1,push_cast,↓J1,↓J2,N1,N2,N3,reduceCtorEq,N4,N5,N6,reduceIte,N7,I1,I2,I3]
 simp only[push_cast,↓J1,↓J2,N1,N2,N3,reduceCtorEq,N4,N5,N6,reduceIte,N7,I1,I2,I3]
 refine⟨_,tIn hC _ _ _,?_⟩
 cases g2:inR 1 2 t.d
 ·simp only[ctOk,g1,g2,push_cast,↓J1,↓J2,N1,N2,N3,reduceCtorEq,N4,N5,N6,reduceIte,N7,I1,I2,I3]
 have hd:=g2
 simp only[inR,Bool.and_eq_true,decide_eq_true_eq] at hd
 simp only[intss_length,push_cast,↓J1,↓J2,N1,N2,N3,reduceCtorEq,N4,N5,N6,reduceIte,N7,I1,I2,I3]
 refine⟨_,t148 hC _ hd,?_⟩
 simp only[push_cast,↓J1,↓J2,N1,N2,N3,reduceCtorEq,N4,N5,N6,reduceIte,N7,I1,I2,I3]
 cases g3:decide ((t.rs.length:Int)=5*t.d+1)
 ·simp only[ctOk,g1,g2,g3,push_cast,↓J1,↓J2,N1,N2,N3,reduceCtorEq,N4,N5,N6,reduceIte,N7,I1,I2,I3]
 simp only[ods_length,push_cast,↓J1,↓J2,N1,N2,N3,reduceCtorEq,N4,N5,N6,reduceIte,N7,I1,I2,I3]
 refine RL_count (fun i=>⟨tb 90 .any [(1,.ptr 0 none 0 0 0),(28,.sl (ods t.cs)),(29,.int .i64 (t.cs.length:Int)),(30,.int .i64 (i:Int))],[(0,.var (ctF t))],1⟩) (fun i=> ∀j (h:j<t.cs.length),j<i→odOk t.cs j t.cs[j]=true) t.cs.length 0 (hdA [(0,0)]) (by omega) (by intro j h h';omega) fun i hi' ht J hJ=>?_
 simp only[ctF]
 by_cases h1:i<t.cs.length
 ·have e1:(ods t.cs)[i]?=some (odA t.cs[i]):=by simp[ods,h1]
  have fin:odOk t.cs i t.cs[i]=true→ ∀(s:St),Head 0 s ⟨tb 90 .any [(1,.ptr 0 none 0 0 0),(28,.sl (ods t.cs)),(29,.int .i64 (t.cs.length:Int)),(30,.int .i64 ((i+1:Nat):Int))],[(0,.var (ctF t))],1⟩→J s:=fun hf=>by
   refine hJ h1 (fun j hj hji=>?_)
   by_cases hij:j=i
   ·subst hij;exact hf
   ·exact ht j hj (by omega)
  have bad:odOk t.cs i t.cs[i]=false→ctOk t=false:=fun hf=>by simp only[ctOk,allI_no h1 hf,Bool.and_false,Bool.false_and]
  clear hJ ht
  have eo:odOk t.cs i t.cs[i]=(inR 1 20 t.cs[i].a&&inR 1 20 t.cs[i].b&&!(decide (0<(i:Int))&&decide (IntKind.i64.wrap (t.cs[i].a*(prevO t.cs i).b)≤IntKind.i64.wrap ((prevO t.cs i).a*t.cs[i].b)))):=rfl
  rw[eo] at fin bad
  clear eo
  generalize t.cs[i]=o at *
  simp only[Int.toNat_natCast,e1,odA,push_cast,↓J1,↓J2,N1,N2,N3,reduceCtorEq,N4,N5,N6,reduceIte,N7,I1,I2,I3]
  refine ifB_intro (fun _=>?_) (fun h=>by simp at h;omega)
  repeat (refine⟨by omega,?_⟩)
  refine⟨_,tIn hC _ _ _,?_⟩
  cases g4:inR 1 20 o.a
  ·simp only[bad (by rw[g4];rfl),push_cast,↓J1,↓J2,N1,N2,N3,reduceCtorEq,N4,N5,N6,reduceIte,N7,I1,I2,I3]
  simp only[push_cast,↓J1,↓J2,N1,N2,N3,reduceCtorEq,N4,N5,N6,reduceIte,N7,I1,I2,I3]
  refine⟨_,tIn hC _ _ _,?_⟩
  cases g5:inR 1 20 o.b
  ·simp only[bad (by rw[g4,g5];rfl),push_cast,↓J1,↓J2,N1,N2,N3,reduceCtorEq,N4,N5,N6,reduceIte,N7,I1,I2,I3]
  simp only[push_cast,↓J1,↓J2,N1,N2,N3,reduceCtorEq,N4,N5,N6,reduceIte,N7,I1,I2,I3]
  by_cases h0:i=0
  ·have ei:decide (0<(i:Int))=false:=decide_eq_false (by omega)
   simp only[ei,push_cast,↓J1,↓J2,N1,N2,N3,reduceCtorEq,N4,N5,N6,reduceIte,N7,I1,I2,I3]
   exact fin (by rw[g4,g5,ei];rfl) _ (hdA [(0,0)])
  ·have ei:decide (0<(i:Int))=true:=decide_eq_true (by omega)
   have ep:(ods t.cs)[i-1]?=some (odA (prevO t.cs i)):=by simp[ods,prevO,List.getD,show i-1<t.cs.length by omega]
   have en:((i:Int)-1).toNat=i-1:=by omega
   generalize prevO t.cs i=p at *
   simp only[ei,wrap64 (n:=(i:Int)-1) (by omega) (by omega),en,ep,odA,push_cast,↓J1,↓J2,N1,N2,N3,reduceCtorEq,N4,N5,N6,reduceIte,N7,I1,I2,I3]
   repeat (refine⟨by omega,?_⟩)
   cases g6:decide (IntKind.i64.wrap (o.a*p.b)≤IntKind.i64.wrap (p.a*o.b))
   ·simp only[push_cast,↓J1,↓J2,N1,N2,N3,reduceCtorEq,N4,N5,N6,reduceIte,N7,I1,I2,I3]
    exact fin (by rw[g4,g5,ei,g6];rfl) _ (hdA [(0,0)])
   ·simp only[bad (by rw[g4,g5,ei,g6];rfl),push_cast,↓J1,↓J2,N1,N2,N3,reduceCtorEq,N4,N5,N6,reduceIte,N7,I1,I2,I3]
 ·simp only[ods_length,intss_length,push_cast,↓J1,↓J2,N1,N2,N3,reduceCtorEq,N4,N5,N6,reduceIte,N7,I1,I2,I3]
  refine ifB_intro (fun h=>by simp at h;omega) (fun h=>?_)
  have gt:allI (odOk t.cs) t.cs=true:=allI_yes fun j hj=>ht j hj (by omega)
  clear ht hJ
  rw[show ctOk t=t.rs.all (ctRow t.cs.length) by simp only[ctOk,g1,g2,g3,gt,Bool.true_and]]
  refine RL_count (fun i=>⟨tb 90 .any [(1,.ptr 0 none 0 0 0),(72,.sl (intss t.rs)),(73,.int .i64 (t.rs.length:Int)),(74,.int .i64 (i:Int))],[(0,.var (ctF t))],1⟩) (fun i=>t.rs.all (ctRow t.cs.length)=(t.rs.drop i).all (ctRow t.cs.length)) t.rs.length 0 (hdA [(0,0)]) (by omega) rfl fun i hi' ht J hJ=>?_
  simp only[ctF]
  by_cases h1:i<t.rs.length
  ·have e1:(intss t.rs)[i]?=some [.sl (ints t.rs[i])]:=by simp[intss,h1]
   have hr:=hb.r.r _ (List.getElem_mem h1)
   rw[List.drop_eq_getElem_cons h1,List.all_cons] at ht
   generalize t.rs[i]=r at *
   have c1:=t145 hC r 0 7 hr
   simp only[Int.toNat_natCast,e1,push_cast,↓J1,↓J2,N1,N2,N3,reduceCtorEq,N4,N5,N6,reduceIte,N7,I1,I2,I3]
   refine ifB_intro (fun _=>?_) (fun h=>by simp at h;omega)
   repeat (refine⟨by omega,?_⟩)
   simp only[ints_length,ods_length,push_cast,↓J1,↓J2,N1,N2,N3,reduceCtorEq,N4,N5,N6,reduceIte,N7,I1,I2,I3]
   cases g4:decide ((r.length:Int)=(t.cs.length:Int))
   ·rw[ht,show ctRow t.cs.length r=false by simp only[ctRow,g4,Bool.false_and]]
    simp only[push_cast,↓J1,↓J2,N1,N2,N3,reduceCtorEq,N4,N5,N6,reduceIte,N7,I1,I2,I3]
   simp only[push_cast,↓J1,↓J2,N1,N2,N3,reduceCtorEq,N4,N5,N6,reduceIte,N7,I1,I2,I3]
   refine⟨_,c1,?_⟩
   cases g5:r.all (inR 0 7)
   ·rw[ht,show ctRow t.cs.length r=false by simp only[ctRow,g4,g5,Bool.and_false]]
    simp only[push_cast,↓J1,↓J2,N1,N2,N3,reduceCtorEq,N4,N5,N6,reduceIte,N7,I1,I2,I3]
   ·simp only[push_cast,↓J1,↓J2,N1,N2,N3,reduceCtorEq,N4,N5,N6,reduceIte,N7,I1,I2,I3]
    refine hJ h1 ?_ _ (hdA [(0,0)])
    rw[ht,show ctRow t.cs.length r=true by simp only[ctRow,g4,g5,Bool.and_true],Bool.true_and]
  ·simp only[intss_length,push_cast,↓J1,↓J2,N1,N2,N3,reduceCtorEq,N4,N5,N6,reduceIte,N7,I1,I2,I3]
   refine ifB_intro (fun h=>by simp at h;omega) (fun h=>?_)
   rw[ht,List.drop_eq_nil_of_le (by omega)]
   rfl
theorem t131(t:Ct)(hb:CtB (2^50) t):Ev C 131 [.agg (ctF t)] (.bool (ctOk t)):=by
 have b1:=hb.c
 have b2:=hb.r.l
 simp only[ctF]
 refine rT hC Q131 ?_
 simp only[c131,ods_length,intss_length,push_cast,↓J1,↓J2,N1,N2,N3,reduceCtorEq,N4,N5,N6,reduceIte,N7,I1,I2,I3]
 refine⟨_,tRange hC _ _ _,?_⟩
 cases g1:inR 1 8 (t.cs.length:Int)
 ·simp only[ctOk,g1,push_cast,↓J1,↓J2,N1,N2,N3,reduceCtorEq,N4,N5,N6,reduceIte,N7,I1,I2,I3]
 simp only[push_cast,↓J1,↓J2,N1,N2,N3,reduceCtorEq,N4,N5,N6,reduceIte,N7,I1,I2,I3]
 refine⟨_,tRange hC _ _ _,?_⟩
 cases g2:inR 1 2 t.d
 ·simp only[ctOk,g1,g2,push_cast,↓J1,↓J2,N1,N2,N3,reduceCtorEq,N4,N5,N6,reduceIte,N7,I1,I2,I3]
 have hd:=g2
 simp only[inR,Bool.and_eq_true,decide_eq_true_eq] at hd
 simp only[intss_length,push_cast,↓J1,↓J2,N1,N2,N3,reduceCtorEq,N4,N5,N6,reduceIte,N7,I1,I2,I3]
 rw[wrap64 (n:=5*t.d) (by omega) (by omega),wrap64 (n:=5*t.d+1) (by omega) (by omega)]
 cases g3:decide ((t.rs.length:Int)=5*t.d+1)
 ·simp only[ctOk,g1,g2,g3,push_cast,↓J1,↓J2,N1,N2,N3,reduceCtorEq,N4,N5,N6,reduceIte,N7,I1,I2,I3]
 simp only[ods_length,push_cast,↓J1,↓J2,N1,N2,N3,reduceCtorEq,N4,N5,N6,reduceIte,N7,I1,I2,I3]
 refine RL_count (fun i=>⟨tb 90 .any [(1,.ptr 0 none 0 0 0),(29,.sl (ods t.cs)),(30,.int .i64 (t.cs.length:Int)),(31,.int .i64 (i:Int))],[(0,.var (ctF t))],1⟩) (fun i=> ∀j (h:j<t.cs.length),j<i→odOk t.cs j t.cs[j]=true) t.cs.length 0 (hdA [(0,0)]) (by omega) (by intro j h h';omega) fun i hi' ht J hJ=>?_
 simp only[ctF]
 by_cases h1:i<t.cs.length
 ·have e1:(ods t.cs)[i]?=some (odA t.cs[i]):=by simp[ods,h1]
  have fin:odOk t.cs i t.cs[i]=true→ ∀(s:St),Head 0 s ⟨tb 90 .any [(1,.ptr 0 none 0 0 0),(29,.sl (ods t.cs)),(30,.int .i64 (t.cs.length:Int)),(31,.int .i64 ((i+1:Nat):Int))],[(0,.var (ctF t))],1⟩→J s:=fun hf=>by
   refine hJ h1 (fun j hj hji=>?_)
   by_cases hij:j=i
   ·subst hij;exact hf
   ·exact ht j hj (by omega)
  have bad:odOk t.cs i t.cs[i]=false→ctOk t=false:=fun hf=>by simp only[ctOk,allI_no h1 hf,Bool.and_false,Bool.false_and]
  clear hJ ht
  have eo:odOk t.cs i t.cs[i]=(inR 1 20 t.cs[i].a&&inR 1 20 t.cs[i].b&&!(decide (0<(i:Int))&&decide (IntKind.i64.wrap (t.cs[i].a*(prevO t.cs i).b)≤IntKind.i64.wrap ((prevO t.cs i).a*t.cs[i].b)))):=rfl
  rw[eo] at fin bad
  clear eo
  generalize t.cs[i]=o at *
  simp only[Int.toNat_natCast,e1,odA,push_cast,↓J1,↓J2,N1,N2,N3,reduceCtorEq,N4,N5,N6,reduceIte,N7,I1,I2,I3]
  refine ifB_intro (fun _=>?_) (fun h=>by simp at h;omega)
  repeat (refine⟨by omega,?_⟩)
  refine⟨_,tRange hC _ _ _,?_⟩
  cases g4:inR 1 20 o.a
  ·simp only[bad (by rw[g4];rfl),push_cast,↓J1,↓J2,N1,N2,N3,reduceCtorEq,N4,N5,N6,reduceIte,N7,I1,I2,I3]
  simp only[push_cast,↓J1,↓J2,N1,N2,N3,reduceCtorEq,N4,N5,N6,reduceIte,N7,I1,I2,I3]
  refine⟨_,tRange hC _ _ _,?_⟩
  cases g5:inR 1 20 o.b
  ·simp only[bad (by rw[g4,g5];rfl),push_cast,↓J1,↓J2,N1,N2,N3,reduceCtorEq,N4,N5,N6,reduceIte,N7,I1,I2,I3]
  simp only[push_cast,↓J1,↓J2,N1,N2,N3,reduceCtorEq,N4,N5,N6,reduceIte,N7,I1,I2,I3]
  by_cases h0:i=0
  ·have ei:decide (0<(i:Int))=false:=decide_eq_false (by omega)
   simp only[ei,push_cast,↓J1,↓J2,N1,N2,N3,reduceCtorEq,N4,N5,N6,reduceIte,N7,I1,I2,I3]
   exact fin (by rw[g4,g5,ei];rfl) _ (hdA [(0,0)])
  ·have ei:decide (0<(i:Int))=true:=decide_eq_true (by omega)
   have ep:(ods t.cs)[i-1]?=some (odA (prevO t.cs i)):=by simp[ods,prevO,List.getD,show i-1<t.cs.length by omega]
   have en:((i:Int)-1).toNat=i-1:=by omega
   generalize prevO t.cs i=p at *
   simp only[ei,wrap64 (n:=(i:Int)-1) (by omega) (by omega),en,ep,odA,push_cast,↓J1,↓J2,N1,N2,N3,reduceCtorEq,N4,N5,N6,reduceIte,N7,I1,I2,I3]
   repeat (refine⟨by omega,?_⟩)
   cases g6:decide (IntKind.i64.wrap (o.a*p.b)≤IntKind.i64.wrap (p.a*o.b))
   ·simp only[push_cast,↓J1,↓J2,N1,N2,N3,reduceCtorEq,N4,N5,N6,reduceIte,N7,I1,I2,I3]
    exact fin (by rw[g4,g5,ei,g6];rfl) _ (hdA [(0,0)])
   ·simp only[bad (by rw[g4,g5,ei,g6];rfl),push_cast,↓J1,↓J2,N1,N2,N3,reduceCtorEq,N4,N5,N6,reduceIte,N7,I1,I2,I3]
 ·simp only[ods_length,intss_length,push_cast,↓J1,↓J2,N1,N2,N3,reduceCtorEq,N4,N5,N6,reduceIte,N7,I1,I2,I3]
  refine ifB_intro (fun h=>by simp at h;omega) (fun h=>?_)
  have gt:allI (odOk t.cs) t.cs=true:=allI_yes fun j hj=>ht j hj (by omega)
  clear ht hJ
  rw[show ctOk t=t.rs.all (ctRow t.cs.length) by simp only[ctOk,g1,g2,g3,gt,Bool.true_and]]
  refine RL_count (fun i=>⟨tb 90 .any [(1,.ptr 0 none 0 0 0),(73,.sl (intss t.rs)),(74,.int .i64 (t.rs.length:Int)),(75,.int .i64 (i:Int))],[(0,.var (ctF t))],1⟩) (fun i=>t.rs.all (ctRow t.cs.length)=(t.rs.drop i).all (ctRow t.cs.length)) t.rs.length 0 (hdA [(0,0)]) (by omega) rfl fun i hi' ht J hJ=>?_
  simp only[ctF]
  by_cases h1:i<t.rs.length
  ·have e1:(intss t.rs)[i]?=some [.sl (ints t.rs[i])]:=by simp[intss,h1]
   have hr:=hb.r.r _ (List.getElem_mem h1)
   rw[List.drop_eq_getElem_cons h1,List.all_cons] at ht
   generalize t.rs[i]=r at *
   have c1:=t155 hC r 157 [] _ hr rfl rfl fun x _=>t157 hC x
   have e7:(r.any fun x=>!inR 0 7 x)=!r.all (inR 0 7):=by rw[←all_not];simp
   rw[e7] at c1
   simp only[Int.toNat_natCast,e1,push_cast,↓J1,↓J2,N1,N2,N3,reduceCtorEq,N4,N5,N6,reduceIte,N7,I1,I2,I3]
   refine ifB_intro (fun _=>?_) (fun h=>by simp at h;omega)
   repeat (refine⟨by omega,?_⟩)
   simp only[ints_length,ods_length,push_cast,↓J1,↓J2,N1,N2,N3,reduceCtorEq,N4,N5,N6,reduceIte,N7,I1,I2,I3]
   cases g4:decide ((r.length:Int)=(t.cs.length:Int))
   ·rw[ht,show ctRow t.cs.length r=false by simp only[ctRow,g4,Bool.false_and]]
    simp only[push_cast,↓J1,↓J2,N1,N2,N3,reduceCtorEq,N4,N5,N6,reduceIte,N7,I1,I2,I3]
   simp only[push_cast,↓J1,↓J2,N1,N2,N3,reduceCtorEq,N4,N5,N6,reduceIte,N7,I1,I2,I3]
   refine⟨_,c1,?_⟩
   cases g5:r.all (inR 0 7)
   ·rw[ht,show ctRow t.cs.length r=false by simp only[ctRow,g4,g5,Bool.and_false]]
    simp only[push_cast,↓J1,↓J2,N1,N2,N3,reduceCtorEq,N4,N5,N6,reduceIte,N7,I1,I2,I3]
   ·simp only[push_cast,↓J1,↓J2,N1,N2,N3,reduceCtorEq,N4,N5,N6,reduceIte,N7,I1,I2,I3]
    refine hJ h1 ?_ _ (hdA [(0,0)])
    rw[ht,show ctRow t.cs.length r=true by simp only[ctRow,g4,g5,Bool.and_true],Bool.true_and]
  ·simp only[intss_length,push_cast,↓J1,↓J2,N1,N2,N3,reduceCtorEq,N4,N5,N6,reduceIte,N7,I1,I2,I3]
   refine ifB_intro (fun h=>by simp at h;omega) (fun h=>?_)
   rw[ht,List.drop_eq_nil_of_le (by omega)]
   rfl
end
end Go.Proofs.YthggfnefjbckeaaGreatDoor.X
set_option maxHeartbeats 4000000
set_option maxRecDepth 8000
set_option linter.unusedSimpArgs false
set_option linter.unusedVariables false
open Nat renaming reduceBEq→N1,reduceAdd→N2,reduceSub→N3,reduceMul→N4,reduceEqDiff→N5,reduceLeDiff→N6,reduceLT→N7
open Int renaming reduceLE→I1,reduceLT→I2,reduceToNat→I3
namespace Go.Proofs.YthggfnefjbckeaaGreatDoor.X
open Go
attribute [local irreducible] Ev
structure Se where
 b:Brd
 t:Ct
 c:List (List Int)
 src:List (List Int)
 deriving DecidableEq
def seF(s:Se):AV:= .agg (rulF s.b.r++mpF s.b.m++ctF s.t++[.sl (intss s.c),.sl (intss s.src)])
def seO(s:Se):AV:= .agg (rulO s.b.r++mpO s.b.m++ctO s.t++[.ow 1 (owss s.c),.ow 1 (owss s.src)])
structure SeB(B:Nat)(s:Se):Prop where
 b:BrdB B s.b
 t:CtB B s.t
 c:SSB B s.c
 s:SSB B s.src
def szSe(s:Se):Int→Int:=andThen (andThen (andThen (szBrd s.b) (szCt s.t)) (szCl s.c)) (szSS s.src)
theorem andThen_nn{f g:Int→Int}{v:Int}(h:0≤andThen f g v):0≤f v∧0≤g (f v)∧andThen f g v=g (f v):=by
 have e:andThen f g v=if f v<0 then -1 else if g (f v)<0 then -1 else g (f v):=rfl
 rw[e] at h⊢
 split at h
 ·omega
 split at h
 ·omega
 rename_i h1 h2
 rw[if_neg h1,if_neg h2]
 exact⟨by omega,by omega,rfl⟩
theorem szSe_pos{s:Se}(h:0≤szSe s 1048576):SeB (2^21) s:=by
 obtain⟨h1,h2,_⟩:=andThen_nn h
 obtain⟨h3,h4,e3⟩:=andThen_nn h1
 obtain⟨h5,h6,e5⟩:=andThen_nn h3
 have u1:=szBrd_le (b:=s.b) (v:=1048576) (by omega) (by omega)
 have u2:=szCt_rng (t:=s.t) h5
 have u3:=szCl_rng (W:=s.c) (v:=szCt s.t (szBrd s.b 1048576)) h6
 rw[e5] at h4 e3
 rw[e3] at h2
 have p3:0≤szSS s.c (szCt s.t (szBrd s.b 1048576)):=by
  simp only[szCl] at h4
  split at h4<;>omega
 exact⟨szBrd_pos h5,szCt_pos h5 (by omega) h6,szSS_pos h6 (by omega) p3,szSS_pos h4 (by omega) h2⟩
theorem SeB.mono{A B:Nat}{s:Se}(h:A≤B)(hb:SeB A s):SeB B s:=⟨hb.b.mono h,hb.t.mono h,hb.c.mono h,hb.s.mono h⟩
def srcOk(b:Brd)(l:List Int):Bool:=decide ((l.length:Int)≤6)&&upto l.length (risP l 0 (b.m.w*b.m.h-1))
def seOk(s:Se):Bool:=brdOk s.b&&ctOk s.t&&goodW s.c&&decide ((s.src.length:Int)=2)&&srcOk s.b (s.src.getD 0 [])&&srcOk s.b (s.src.getD 1 [])
theorem src_get{W:List (List Int)}{k:Nat}(h:k<W.length):(intss W)[k]?=some [.sl (ints (W.getD k []))]:=by simp[intss,List.getD,h]
theorem src_mem{W:List (List Int)}{k:Nat}(h:k<W.length):W.getD k []∈W:=by
 simp only[List.getD,List.getElem?_eq_getElem h,Option.getD_some];exact List.getElem_mem h
theorem ris_eq(cut:List Int)(hi:Int):(upto (cut.length-1) (incP cut)&&cut.all (inR 0 hi))=upto cut.length (risP cut 0 hi):=by
 rw[Bool.eq_iff_iff,Bool.and_eq_true,upto_iff,upto_iff]
 rw[List.all_eq_true]
 constructor
 ·rintro⟨h1,h2⟩ j hj
  have hm:cut.getD j 0∈cut:=by simp only[List.getD,List.getElem?_eq_getElem hj];exact List.getElem_mem hj
  simp only[risP,h2 _ hm,Bool.true_and,Bool.or_eq_true,decide_eq_true_eq]
  by_cases h0:j=0
  ·exact .inl h0
  ·right
   have:=h1 (j-1) (by omega)
   simp only[incP,decide_eq_true_eq] at this
   rwa [show j-1+1=j by omega] at this
 ·intro h
  refine⟨fun j hj=>?_,fun x hx=>?_⟩
  ·have:=h (j+1) (by omega)
   simp only[risP,Bool.and_eq_true,Bool.or_eq_true,decide_eq_true_eq] at this
   simp only[incP,decide_eq_true_eq]
   have:=this.2
   simp only[Nat.add_sub_cancel] at this
   omega
  ·obtain⟨j,hj,rfl⟩:=List.getElem_of_mem hx
   have:=h j hj
   simp only[risP,Bool.and_eq_true] at this
   simpa [List.getD,hj] using this.1
section
variable{C:CT}(hC:Closed Tryz.prog G1 md0 C)
include hC
theorem t122(b:Brd)(l:List Int)(g:brdOk b=true)(hl:l.length<2^50):Ev C 122 [brdF b,.sl (ints l)] (.bool (srcOk b l)):=by
 have hwh:=brd_wh g
 have hm:=mp_wh (brd_mp g)
 have c2:=t124 hC b.m hm.1 hm.2
 simp only[brdF,rulF,mpF,ctF,clA,List.cons_append,List.nil_append,srcOk] at *
 refine rT hC Q122 ?_
 simp only[c122,ints_length,push_cast,↓J1,↓J2,N1,N2,N3,reduceCtorEq,N4,N5,N6,reduceIte,N7,I1,I2,I3]
 cases decide ((l.length:Int)≤6)
 ·simp only[push_cast,↓J1,↓J2,N1,N2,N3,reduceCtorEq,N4,N5,N6,reduceIte,N7,I1,I2,I3]
 simp only[push_cast,↓J1,↓J2,N1,N2,N3,reduceCtorEq,N4,N5,N6,reduceIte,N7,I1,I2,I3]
 refine⟨_,c2,?_⟩
 simp only[push_cast,↓J1,↓J2,N1,N2,N3,reduceCtorEq,N4,N5,N6,reduceIte,N7,I1,I2,I3]
 rw[wrap64 (n:=b.m.w*b.m.h-1) (by omega) (by omega)]
 refine⟨_,t149 hC l _ _ hl,?_⟩
 simp only[push_cast,↓J1,↓J2,N1,N2,N3,reduceCtorEq,N4,N5,N6,reduceIte,N7,I1,I2,I3]
theorem t161(x:Int)(b:Brd)(g:brdOk b=true):Ev C 161 [.int .i64 x,.pf (rulF b.r++mpF b.m)] (.bool (!inR 0 (b.m.w*b.m.h-1) x)):=by
 have hwh:=brd_wh g
 have c1:=t134 hC b
 rw[hwh.1] at c1
 simp only[brdF,rulF,mpF,ctF,clA,List.cons_append,List.nil_append] at *
 refine rT hC Q161 ?_
 simp only[c161,push_cast,↓J1,↓J2,N1,N2,N3,reduceCtorEq,N4,N5,N6,reduceIte,N7,I1,I2,I3]
 refine⟨_,c1,?_⟩
 simp only[push_cast,↓J1,↓J2,N1,N2,N3,reduceCtorEq,N4,N5,N6,reduceIte,N7,I1,I2,I3]
 refine⟨_,tIdx hC _ _ (by omega),?_⟩
 simp only[push_cast,↓J1,↓J2,N1,N2,N3,reduceCtorEq,N4,N5,N6,reduceIte,N7,I1,I2,I3]
theorem t133(b:Brd)(l:List Int)(g:brdOk b=true)(hl:l.length<2^50):Ev C 133 [brdF b,.sl (ints l)] (.bool (srcOk b l)):=by
 have c3:=t155 hC l 161 [.pf (rulF b.r++mpF b.m)] _ hl rfl rfl fun x _=>t161 hC x b g
 rw[srcOk,←ris_eq]
 simp only[brdF,rulF,mpF,ctF,clA,List.cons_append,List.nil_append] at *
 refine rT hC Q133 ?_
 simp only[c133,ints_length,push_cast,↓J1,↓J2,N1,N2,N3,reduceCtorEq,N4,N5,N6,reduceIte,N7,I1,I2,I3]
 cases decide ((l.length:Int)≤6)
 ·simp only[push_cast,↓J1,↓J2,N1,N2,N3,reduceCtorEq,N4,N5,N6,reduceIte,N7,I1,I2,I3]
 simp only[push_cast,↓J1,↓J2,N1,N2,N3,reduceCtorEq,N4,N5,N6,reduceIte,N7,I1,I2,I3]
 refine⟨_,t160 hC l hl,?_⟩
 cases upto (l.length-1) (incP l)
 ·simp only[push_cast,↓J1,↓J2,N1,N2,N3,reduceCtorEq,N4,N5,N6,reduceIte,N7,I1,I2,I3]
 simp only[push_cast,↓J1,↓J2,N1,N2,N3,reduceCtorEq,N4,N5,N6,reduceIte,N7,I1,I2,I3]
 refine⟨_,c3,?_⟩
 simp only[all_not,push_cast,↓J1,↓J2,N1,N2,N3,reduceCtorEq,N4,N5,N6,reduceIte,N7,I1,I2,I3]
theorem t89(s:Se)(hb:SeB (2^50) s):Ev C 89 [seF s] (.bool (seOk s)):=by
 have c1:=t111 hC s.b hb.b
 have c2:=t120 hC s.t hb.t
 have c3:=t121 hC s.c hb.c.l hb.c.r
 have c4:=fun l g h=>t122 hC s.b l g h
 simp only[seF,brdF,rulF,mpF,ctF,clA,List.cons_append,List.nil_append,seOk] at *
 refine rT hC Q89 ?_
 simp only[c89,push_cast,↓J1,↓J2,N1,N2,N3,reduceCtorEq,N4,N5,N6,reduceIte,N7,I1,I2,I3]
 refine⟨_,c1,?_⟩
 cases g1:brdOk s.b
 ·simp only[push_cast,↓J1,↓J2,N1,N2,N3,reduceCtorEq,N4,N5,N6,reduceIte,N7,I1,I2,I3]
 simp only[push_cast,↓J1,↓J2,N1,N2,N3,reduceCtorEq,N4,N5,N6,reduceIte,N7,I1,I2,I3]
 refine⟨_,c2,?_⟩
 cases g2:ctOk s.t
 ·simp only[push_cast,↓J1,↓J2,N1,N2,N3,reduceCtorEq,N4,N5,N6,reduceIte,N7,I1,I2,I3]
 simp only[push_cast,↓J1,↓J2,N1,N2,N3,reduceCtorEq,N4,N5,N6,reduceIte,N7,I1,I2,I3]
 refine⟨_,c3,?_⟩
 cases g3:goodW s.c
 ·simp only[push_cast,↓J1,↓J2,N1,N2,N3,reduceCtorEq,N4,N5,N6,reduceIte,N7,I1,I2,I3]
 simp only[intss_length,push_cast,↓J1,↓J2,N1,N2,N3,reduceCtorEq,N4,N5,N6,reduceIte,N7,I1,I2,I3]
 cases g4:decide ((s.src.length:Int)=2)
 ·simp only[push_cast,↓J1,↓J2,N1,N2,N3,reduceCtorEq,N4,N5,N6,reduceIte,N7,I1,I2,I3]
 have hl:=of_decide_eq_true g4
 have e0:=src_get (W:=s.src) (k:=0) (by omega)
 have e1:=src_get (W:=s.src) (k:=1) (by omega)
 have m0:=hb.s.r _ (src_mem (W:=s.src) (k:=0) (by omega))
 have m1:=hb.s.r _ (src_mem (W:=s.src) (k:=1) (by omega))
 have n0:(0:Int).toNat=0:=rfl
 have n1:(1:Int).toNat=1:=rfl
 simp only[n0,e0,push_cast,↓J1,↓J2,N1,N2,N3,reduceCtorEq,N4,N5,N6,reduceIte,N7,I1,I2,I3]
 repeat (refine⟨by omega,?_⟩)
 refine⟨_,c4 _ g1 m0,?_⟩
 cases srcOk s.b (s.src.getD 0 [])
 ·simp only[push_cast,↓J1,↓J2,N1,N2,N3,reduceCtorEq,N4,N5,N6,reduceIte,N7,I1,I2,I3]
 simp only[n1,e1,push_cast,↓J1,↓J2,N1,N2,N3,reduceCtorEq,N4,N5,N6,reduceIte,N7,I1,I2,I3]
 repeat (refine⟨by omega,?_⟩)
 refine⟨_,c4 _ g1 m1,?_⟩
 simp only[push_cast,↓J1,↓J2,N1,N2,N3,reduceCtorEq,N4,N5,N6,reduceIte,N7,I1,I2,I3]
theorem t100(s:Se)(hb:SeB (2^50) s):Ev C 100 [seF s] (.bool (seOk s)):=by
 have c1:=t130 hC s.b hb.b
 have c2:=t131 hC s.t hb.t
 have c3:=t132 hC s.c hb.c.l hb.c.r
 have c4:=fun l g h=>t133 hC s.b l g h
 simp only[seF,brdF,rulF,mpF,ctF,clA,List.cons_append,List.nil_append,seOk] at *
 refine rT hC Q100 ?_
 simp only[c100,push_cast,↓J1,↓J2,N1,N2,N3,reduceCtorEq,N4,N5,N6,reduceIte,N7,I1,I2,I3]
 refine⟨_,c1,?_⟩
 cases g1:brdOk s.b
 ·simp only[push_cast,↓J1,↓J2,N1,N2,N3,reduceCtorEq,N4,N5,N6,reduceIte,N7,I1,I2,I3]
 simp only[push_cast,↓J1,↓J2,N1,N2,N3,reduceCtorEq,N4,N5,N6,reduceIte,N7,I1,I2,I3]
 refine⟨_,c2,?_⟩
 cases g2:ctOk s.t
 ·simp only[push_cast,↓J1,↓J2,N1,N2,N3,reduceCtorEq,N4,N5,N6,reduceIte,N7,I1,I2,I3]
 simp only[push_cast,↓J1,↓J2,N1,N2,N3,reduceCtorEq,N4,N5,N6,reduceIte,N7,I1,I2,I3]
 refine⟨_,c3,?_⟩
 cases g3:goodW s.c
 ·simp only[push_cast,↓J1,↓J2,N1,N2,N3,reduceCtorEq,N4,N5,N6,reduceIte,N7,I1,I2,I3]
 simp only[intss_length,push_cast,↓J1,↓J2,N1,N2,N3,reduceCtorEq,N4,N5,N6,reduceIte,N7,I1,I2,I3]
 cases g4:decide ((s.src.length:Int)=2)
 ·simp only[push_cast,↓J1,↓J2,N1,N2,N3,reduceCtorEq,N4,N5,N6,reduceIte,N7,I1,I2,I3]
 have hl:=of_decide_eq_true g4
 have e0:=src_get (W:=s.src) (k:=0) (by omega)
 have e1:=src_get (W:=s.src) (k:=1) (by omega)
 have m0:=hb.s.r _ (src_mem (W:=s.src) (k:=0) (by omega))
 have m1:=hb.s.r _ (src_mem (W:=s.src) (k:=1) (by omega))
 have n0:(0:Int).toNat=0:=rfl
 have n1:(1:Int).toNat=1:=rfl
 simp only[n0,e0,push_cast,↓J1,↓J2,N1,N2,N3,reduceCtorEq,N4,N5,N6,reduceIte,N7,I1,I2,I3]
 repeat (refine⟨by omega,?_⟩)
 refine⟨_,c4 _ g1 m0,?_⟩
 cases srcOk s.b (s.src.getD 0 [])
 ·simp only[push_cast,↓J1,↓J2,N1,N2,N3,reduceCtorEq,N4,N5,N6,reduceIte,N7,I1,I2,I3]
 simp only[n1,e1,push_cast,↓J1,↓J2,N1,N2,N3,reduceCtorEq,N4,N5,N6,reduceIte,N7,I1,I2,I3]
 repeat (refine⟨by omega,?_⟩)
 refine⟨_,c4 _ g1 m1,?_⟩
 simp only[push_cast,↓J1,↓J2,N1,N2,N3,reduceCtorEq,N4,N5,N6,reduceIte,N7,I1,I2,I3]
theorem t5(s:Se)(v:Int)(hv:0≤v∧v<2^50)(hb:SeB (2^50) s):Ev C 5 [seF s,.int .i64 v] (.int .i64 (szSe s v)):=by
 have c1:=t20 hC s.b v hv hb.b
 have c2:=fun h=>t21 hC s.t (szBrd s.b v) h hb.t
 have c3:=fun h=>t22 hC s.c (szCt s.t (szBrd s.b v)) h hb.c.l hb.c.r
 have c4:=fun h=>t23 hC s.src (szCl s.c (szCt s.t (szBrd s.b v))) h hb.s.l hb.s.r
 rw[show(if szSS s.c (szCt s.t (szBrd s.b v))<0 then -1 else szSS s.c (szCt s.t (szBrd s.b v)))=szCl s.c (szCt s.t (szBrd s.b v)) from rfl] at c3
 have u1:=szBrd_le (b:=s.b) (v:=v) hv.1 (by omega)
 simp only[seF,brdF,rulF,mpF,ctF,clA,List.cons_append,List.nil_append,szSe] at *
 refine rT hC Q5 ?_
 simp only[c5,push_cast,↓J1,↓J2,N1,N2,N3,reduceCtorEq,N4,N5,N6,reduceIte,N7,I1,I2,I3]
 refine⟨_,c1,?_⟩
 simp only[push_cast,↓J1,↓J2,N1,N2,N3,reduceCtorEq,N4,N5,N6,reduceIte,N7,I1,I2,I3]
 refine ifB_intro (fun h=>?_) (fun h=>?_)
 ·simp[andThen,of_decide_eq_true h]
 have h1:=of_decide_eq_false h
 have u2:=szCt_rng (t:=s.t) (v:=szBrd s.b v) (by omega)
 refine⟨_,c2 ⟨by omega,by omega⟩,?_⟩
 simp only[push_cast,↓J1,↓J2,N1,N2,N3,reduceCtorEq,N4,N5,N6,reduceIte,N7,I1,I2,I3]
 refine ifB_intro (fun h=>?_) (fun h=>?_)
 ·simp[andThen,h1,of_decide_eq_true h]
 have h2:=of_decide_eq_false h
 have u3:=szCl_rng (W:=s.c) (v:=szCt s.t (szBrd s.b v)) (by omega)
 refine⟨_,c3 ⟨by omega,by omega⟩,?_⟩
 simp only[push_cast,↓J1,↓J2,N1,N2,N3,reduceCtorEq,N4,N5,N6,reduceIte,N7,I1,I2,I3]
 refine ifB_intro (fun h=>?_) (fun h=>?_)
 ·simp[andThen,h1,h2,of_decide_eq_true h]
 have h3:=of_decide_eq_false h
 refine⟨_,c4 ⟨by omega,by omega⟩,?_⟩
 simp only[push_cast,↓J1,↓J2,N1,N2,N3,reduceCtorEq,N4,N5,N6,reduceIte,N7,I1,I2,I3]
 refine ifB_intro (fun h=>?_) (fun h=>?_)
 ·simp[andThen,h1,h2,h3,of_decide_eq_true h]
 ·simp[andThen,h1,h2,h3,of_decide_eq_false h]
theorem t8(s:Se)(hb:SeB (2^30) s):Ev C 8 [seF s] (seO s):=by
 have c1:=t29 hC s.b hb.b
 have c2:=t30 hC s.t hb.t
 have c3:=t31 hC s.c hb.c.l hb.c.r
 have c4:=t32 hC s.src hb.s.l hb.s.r
 simp only[seF,seO,brdF,rulF,mpF,ctF,clA,List.cons_append,List.nil_append,brdO,rulO,mpO,ctO,clO] at *
 refine rT hC Q8 ?_ (by simp only[ownR,ownRL,own_ters,own_kins,own_ints1,own_ods,own_owss,Bool.and_true])
 simp only[c8,push_cast,↓J1,↓J2,N1,N2,N3,reduceCtorEq,N4,N5,N6,reduceIte,N7,I1,I2,I3]
 refine⟨_,c1,?_⟩
 simp only[push_cast,↓J1,↓J2,N1,N2,N3,reduceCtorEq,N4,N5,N6,reduceIte,N7,I1,I2,I3]
 refine⟨_,c2,?_⟩
 simp only[push_cast,↓J1,↓J2,N1,N2,N3,reduceCtorEq,N4,N5,N6,reduceIte,N7,I1,I2,I3]
 refine⟨_,c3,?_⟩
 simp only[push_cast,↓J1,↓J2,N1,N2,N3,reduceCtorEq,N4,N5,N6,reduceIte,N7,I1,I2,I3]
 refine⟨_,c4,?_⟩
 simp only[push_cast,↓J1,↓J2,N1,N2,N3,reduceCtorEq,N4,N5,N6,reduceIte,N7,I1,I2,I3]
 exact rtA
theorem t11(s u:Se)(h1:SeB (2^50) s)(h2:SeB (2^50) u):Ev C 11 [seF s,seF u] (.bool (decide (s=u))):=by
 have c1:=t38 hC s.b u.b h1.b h2.b
 have c2:=t39 hC s.t u.t h1.t h2.t
 have c3:=t40 hC s.c u.c h1.c.l h2.c.l h1.c.r h2.c.r
 have c4:=t41 hC s.src u.src h1.s.l h2.s.l h1.s.r h2.s.r
 clear h1 h2
 obtain⟨a1,a2,a3,a4⟩:=s
 obtain⟨b1,b2,b3,b4⟩:=u
 simp only[seF,brdF,rulF,mpF,ctF,clA,List.cons_append,List.nil_append] at *
 refine rT hC Q11 ?_
 simp only[c11,push_cast,↓J1,↓J2,N1,N2,N3,reduceCtorEq,N4,N5,N6,reduceIte,N7,I1,I2,I3]
 repeat' (first
  | simp only[push_cast,↓J1,↓J2,N1,N2,N3,reduceCtorEq,N4,N5,N6,reduceIte,N7,I1,I2,I3]
  | refine⟨_,c1,?_⟩
  | refine⟨_,c2,?_⟩
  | refine⟨_,c3,?_⟩
  | refine⟨_,c4,?_⟩
  | refine ifB_intro (fun h=>?_) (fun h=>?_))
 all_goals (clear c1 c2 c3 c4;simp_all)
end
end Go.Proofs.YthggfnefjbckeaaGreatDoor.X
set_option maxHeartbeats 1000000
set_option maxRecDepth 8000
set_option linter.unusedSimpArgs false
set_option linter.unusedVariables false
open Nat renaming reduceBEq→N1,reduceAdd→N2,reduceSub→N3,reduceMul→N4,reduceEqDiff→N5,reduceLeDiff→N6,reduceLT→N7
open Int renaming reduceLE→I1,reduceLT→I2,reduceToNat→I3
namespace Go.Proofs.YthggfnefjbckeaaGreatDoor.X
open Go
def w64(n:Int):Int:=IntKind.i64.wrap n
section
variable{C:CT}(hC:Closed Tryz.prog G1 md0 C)
include hC
theorem t90(n:Int):Ev C 90 [.int .i64 n] (.bool (inR 0 4611686016279904236 n)):=by
 refine rT hC Q90 ?_
 simp only[c90,push_cast,↓J1,↓J2,N1,N2,N3,reduceCtorEq,N4,N5,N6,reduceIte,N7,I1,I2,I3]
 refine⟨_,t26 hC _ _ _,?_⟩
 simp only[push_cast,↓J1,↓J2,N1,N2,N3,reduceCtorEq,N4,N5,N6,reduceIte,N7,I1,I2,I3]
 rfl
end
end Go.Proofs.YthggfnefjbckeaaGreatDoor.X
set_option maxHeartbeats 4000000
set_option maxRecDepth 8000
set_option linter.unusedSimpArgs false
set_option linter.unusedVariables false
open Nat renaming reduceBEq→N1,reduceAdd→N2,reduceSub→N3,reduceMul→N4,reduceEqDiff→N5,reduceLeDiff→N6,reduceLT→N7
open Int renaming reduceLE→I1,reduceLT→I2,reduceToNat→I3
namespace Go.Proofs.YthggfnefjbckeaaGreatDoor.X
open Go
attribute [local irreducible] Ev
def onSide(sd:Int)(u:Un):Bool:=decide (u.sd=sd)&&decide (0≤u.at_)
def gaOk(x:Se)(s:Sta):Bool:=seOk x&&staOk x.b s
theorem se_brd{x:Se}(h:seOk x=true):brdOk x.b=true:=by
 simp only[seOk,Bool.and_eq_true] at h;exact h.1.1.1.1.1
theorem ga_eq{x:Se}{s:Sta}(h:seOk x=true):gaOk x s=staOk0 x.b s:=by
 simp only[gaOk,staOk,h,se_brd h,Bool.true_and]
def overOk(x:Se)(s:Sta):Bool:=decide (s.t=x.b.r.turns)||decide ((((fil (onSide 0) s.us s.us.length).length:Nat):Int)=0)||decide ((((fil (onSide 1) s.us s.us.length).length:Nat):Int)=0)
section
variable{C:CT}(hC:Closed Tryz.prog G1 md0 C)
include hC
theorem t36(s:Sta)(sd:Int)(hl:s.us.length<2^40):Ev C 36 [.agg (staF s),.int .i64 sd] (.ow 1 (ints (fil (onSide sd) s.us s.us.length))):=by
 simp only[staF]
 refine rT hC Q36 ?_ (own_ints _)
 simp only[c36,uns_length,push_cast,↓J1,↓J2,N1,N2,N3,reduceCtorEq,N4,N5,N6,reduceIte,N7,I1,I2,I3]
 refine RL_count (fun i=>⟨tb 32 .any [(5,.ref 0 none 1 0 (fil (onSide sd) s.us i).length),(1,.int .i64 sd),(10,.sl (uns s.us)),(11,.int .i64 (s.us.length:Int)),(12,.int .i64 (i:Int))],[(0,.slice 1 (ints (fil (onSide sd) s.us i)))],1⟩) (fun _=>True) s.us.length 0 (hdA [(1,0)]) (by omega) trivial fun i hi _ J hJ=>?_
 by_cases h1:i<s.us.length
 ·have e1:=uns_get h1
  have e2:=fil_succ (p:=(onSide sd)) h1
  have hfl:=fil_le (p:=(onSide sd)) hi
  have tk:List.take (fil (onSide sd) s.us i).length (ints (fil (onSide sd) s.us i))=ints (fil (onSide sd) s.us i):=List.take_of_length_le (by rw[ints_length];omega)
  generalize s.us[i]=u at *
  simp only[Int.toNat_natCast,e1,unA,push_cast,↓J1,↓J2,N1,N2,N3,reduceCtorEq,N4,N5,N6,reduceIte,N7,I1,I2,I3]
  refine ifB_intro (fun _=>?_) (fun h=>by simp at h;omega)
  repeat (refine⟨by omega,?_⟩)
  cases g1:decide (u.sd=sd)
  ·have hp:(onSide sd) u=false:=by simp only[onSide,g1,Bool.false_and,Bool.and_false]
   rw[hp,if_neg Bool.false_ne_true] at e2
   simp only[g1,push_cast,↓J1,↓J2,N1,N2,N3,reduceCtorEq,N4,N5,N6,reduceIte,N7,I1,I2,I3]
   exact hJ h1 trivial _ (by rw[e2];exact(hdA [(0,0)]))
  cases g2:decide (0≤u.at_)
  ·have hp:(onSide sd) u=false:=by simp only[onSide,g1,g2,Bool.false_and,Bool.and_false]
   rw[hp,if_neg Bool.false_ne_true] at e2
   simp only[g1,g2,push_cast,↓J1,↓J2,N1,N2,N3,reduceCtorEq,N4,N5,N6,reduceIte,N7,I1,I2,I3]
   exact hJ h1 trivial _ (by rw[e2];exact(hdA [(0,0)]))
  have hp:(onSide sd) u=true:=by simp only[onSide,g1,g2,Bool.and_self]
  rw[hp,if_pos rfl] at e2
  simp only[g1,g2,tk,ints_length,allScs,apYR_sc,push_cast,↓J1,↓J2,N1,N2,N3,reduceCtorEq,N4,N5,N6,reduceIte,N7,I1,I2,I3]
  repeat (refine⟨by omega,?_⟩)
  refine hJ h1 trivial _ ?_
  rw[e2]
  refine(hdA [(3,0)] (hh:=?_))
  simp only[canR,canB,renO,renL,ren,lkp,hget,N7,N5,Nat.not_lt_zero,if_false,if_true,reduceIte,List.append_nil,List.nil_append,ints_sn]
  all_goals rfl
 ·simp only[uns_length,push_cast,↓J1,↓J2,N1,N2,N3,reduceCtorEq,N4,N5,N6,reduceIte,N7,I1,I2,I3]
  refine ifB_intro (fun h=>by simp at h;omega) (fun h=>?_)
  obtain rfl:i=s.us.length:=by omega
  exact RetTo_ow rfl (by rw[ints_length])
theorem t27(s:Sta)(sd:Int)(hl:s.us.length<2^40):Ev C 27 [.agg (staF s),.int .i64 sd] (.ow 1 (ints (fil (onSide sd) s.us s.us.length))):=by
 simp only[staF]
 refine rT hC Q27 ?_ (own_ints _)
 simp only[c27,uns_length,push_cast,↓J1,↓J2,N1,N2,N3,reduceCtorEq,N4,N5,N6,reduceIte,N7,I1,I2,I3]
 refine RL_count (fun i=>⟨tb 31 .any [(5,.ref 0 none 1 0 (fil (onSide sd) s.us i).length),(1,.int .i64 sd),(9,.sl (uns s.us)),(10,.int .i64 (s.us.length:Int)),(11,.int .i64 (i:Int))],[(0,.slice 1 (ints (fil (onSide sd) s.us i)))],1⟩) (fun _=>True) s.us.length 0 (hdO 5 0 1 []) (by omega) trivial fun i hi _ J hJ=>?_
 by_cases h1:i<s.us.length
 ·have e1:=uns_get h1
  have e2:=fil_succ (p:=(onSide sd)) h1
  have hfl:=fil_le (p:=(onSide sd)) hi
  have tk:List.take (fil (onSide sd) s.us i).length (ints (fil (onSide sd) s.us i))=ints (fil (onSide sd) s.us i):=List.take_of_length_le (by rw[ints_length];omega)
  generalize s.us[i]=u at *
  simp only[Int.toNat_natCast,e1,unA,push_cast,↓J1,↓J2,N1,N2,N3,reduceCtorEq,N4,N5,N6,reduceIte,N7,I1,I2,I3]
  refine ifB_intro (fun _=>?_) (fun h=>by simp at h;omega)
  repeat (refine⟨by omega,?_⟩)
  cases g1:decide (u.sd=sd)
  ·have hp:(onSide sd) u=false:=by simp only[onSide,g1,Bool.false_and,Bool.and_false]
   rw[hp,if_neg Bool.false_ne_true] at e2
   simp only[g1,push_cast,↓J1,↓J2,N1,N2,N3,reduceCtorEq,N4,N5,N6,reduceIte,N7,I1,I2,I3]
   exact hJ h1 trivial _ (by rw[e2];exact(hdA [(0,0)]))
  cases g2:decide (0≤u.at_)
  ·have hp:(onSide sd) u=false:=by simp only[onSide,g1,g2,Bool.false_and,Bool.and_false]
   rw[hp,if_neg Bool.false_ne_true] at e2
   simp only[g1,g2,push_cast,↓J1,↓J2,N1,N2,N3,reduceCtorEq,N4,N5,N6,reduceIte,N7,I1,I2,I3]
   exact hJ h1 trivial _ (by rw[e2];exact(hdA [(0,0)]))
  have hp:(onSide sd) u=true:=by simp only[onSide,g1,g2,Bool.and_self]
  rw[hp,if_pos rfl] at e2
  simp only[g1,g2,tk,ints_length,allScs,apYR_sc,push_cast,↓J1,↓J2,N1,N2,N3,reduceCtorEq,N4,N5,N6,reduceIte,N7,I1,I2,I3]
  repeat (refine⟨by omega,?_⟩)
  refine hJ h1 trivial _ ?_
  rw[e2]
  refine(hdA [(3,0)] (hh:=?_))
  simp only[canR,canB,renO,renL,ren,lkp,hget,N7,N5,Nat.not_lt_zero,if_false,if_true,reduceIte,List.append_nil,List.nil_append,ints_sn]
  all_goals rfl
 ·simp only[uns_length,push_cast,↓J1,↓J2,N1,N2,N3,reduceCtorEq,N4,N5,N6,reduceIte,N7,I1,I2,I3]
  refine ifB_intro (fun h=>by simp at h;omega) (fun h=>?_)
  obtain rfl:i=s.us.length:=by omega
  exact RetTo_ow rfl (by rw[ints_length])
theorem t71(x:Se)(s:Sta)(hb:SeB (2^50) x)(hl:s.us.length<2^40):Ev C 71 [seF x,.agg (staF s)] (.bool (gaOk x s)):=by
 have c1:=t100 hC x hb
 have c2:=fun g=>t101 hC x.b s g hb.b hl
 simp only[seF,brdF,rulF,mpF,ctF,clA,List.cons_append,List.nil_append,staF] at *
 refine rT hC Q71 ?_
 simp only[c71,push_cast,↓J1,↓J2,N1,N2,N3,reduceCtorEq,N4,N5,N6,reduceIte,N7,I1,I2,I3]
 refine⟨_,c1,?_⟩
 cases g1:seOk x
 ·simp only[gaOk,g1,Bool.false_and,push_cast,↓J1,↓J2,N1,N2,N3,reduceCtorEq,N4,N5,N6,reduceIte,N7,I1,I2,I3]
 simp only[push_cast,↓J1,↓J2,N1,N2,N3,reduceCtorEq,N4,N5,N6,reduceIte,N7,I1,I2,I3]
 refine⟨_,c2 (se_brd g1),?_⟩
 simp only[ga_eq g1,push_cast,↓J1,↓J2,N1,N2,N3,reduceCtorEq,N4,N5,N6,reduceIte,N7,I1,I2,I3]
theorem t57(x:Se)(s:Sta)(sd:Int)(hb:SeB (2^50) x)(hl:s.us.length<2^40):Ev C 57 [seF x,.agg (staF s),.int .i64 sd] (.bool (gaOk x s&&inR 0 4611686016279904236 sd)):=by
 have c1:=t89 hC x hb
 have c2:=t82 hC x.b s hb.b hl
 have c3:=t90 hC sd
 simp only[seF,brdF,rulF,mpF,ctF,clA,List.cons_append,List.nil_append,staF] at *
 refine rT hC Q57 ?_
 simp only[c57,push_cast,↓J1,↓J2,N1,N2,N3,reduceCtorEq,N4,N5,N6,reduceIte,N7,I1,I2,I3]
 refine⟨_,c1,?_⟩
 cases g1:seOk x
 ·simp only[gaOk,g1,Bool.false_and,push_cast,↓J1,↓J2,N1,N2,N3,reduceCtorEq,N4,N5,N6,reduceIte,N7,I1,I2,I3]
 simp only[push_cast,↓J1,↓J2,N1,N2,N3,reduceCtorEq,N4,N5,N6,reduceIte,N7,I1,I2,I3]
 refine⟨_,c2,?_⟩
 cases g2:staOk x.b s
 ·simp only[gaOk,g1,g2,Bool.false_and,Bool.and_false,push_cast,↓J1,↓J2,N1,N2,N3,reduceCtorEq,N4,N5,N6,reduceIte,N7,I1,I2,I3]
 simp only[push_cast,↓J1,↓J2,N1,N2,N3,reduceCtorEq,N4,N5,N6,reduceIte,N7,I1,I2,I3]
 refine⟨_,c3,?_⟩
 simp only[gaOk,g1,g2,Bool.true_and,Bool.and_self,push_cast,↓J1,↓J2,N1,N2,N3,reduceCtorEq,N4,N5,N6,reduceIte,N7,I1,I2,I3]
theorem t72(x:Se)(s:Sta)(hl:s.us.length<2^40):Ev C 72 [brdF x.b,.agg (staF s)] (.bool (overOk x s)):=by
 have c1:=fun sd=>t36 hC s sd hl
 simp only[seF,brdF,rulF,mpF,ctF,clA,List.cons_append,List.nil_append,staF] at *
 refine rT hC Q72 ?_
 simp only[c72,push_cast,↓J1,↓J2,N1,N2,N3,reduceCtorEq,N4,N5,N6,reduceIte,N7,I1,I2,I3]
 cases g1:decide (s.t=x.b.r.turns)
 ·simp only[push_cast,↓J1,↓J2,N1,N2,N3,reduceCtorEq,N4,N5,N6,reduceIte,N7,I1,I2,I3]
  refine⟨_,c1 0,?_⟩
  simp only[ints_length,push_cast,↓J1,↓J2,N1,N2,N3,reduceCtorEq,N4,N5,N6,reduceIte,N7,I1,I2,I3]
  cases g2:decide ((((fil (onSide 0) s.us s.us.length).length:Nat):Int)=0)
  ·simp only[push_cast,↓J1,↓J2,N1,N2,N3,reduceCtorEq,N4,N5,N6,reduceIte,N7,I1,I2,I3]
   refine⟨_,c1 1,?_⟩
   simp only[overOk,g1,g2,Bool.false_or,ints_length,push_cast,↓J1,↓J2,N1,N2,N3,reduceCtorEq,N4,N5,N6,reduceIte,N7,I1,I2,I3]
  ·simp only[overOk,g1,g2,Bool.or_true,Bool.true_or,push_cast,↓J1,↓J2,N1,N2,N3,reduceCtorEq,N4,N5,N6,reduceIte,N7,I1,I2,I3]
 ·simp only[overOk,g1,Bool.true_or,push_cast,↓J1,↓J2,N1,N2,N3,reduceCtorEq,N4,N5,N6,reduceIte,N7,I1,I2,I3]
theorem t58(x:Se)(s:Sta)(hl:s.us.length<2^40):Ev C 58 [seF x,.agg (staF s)] (.bool (overOk x s)):=by
 have c1:=fun sd=>t27 hC s sd hl
 simp only[seF,brdF,rulF,mpF,ctF,clA,List.cons_append,List.nil_append,staF] at *
 refine rT hC Q58 ?_
 simp only[c58,push_cast,↓J1,↓J2,N1,N2,N3,reduceCtorEq,N4,N5,N6,reduceIte,N7,I1,I2,I3]
 cases g1:decide (s.t=x.b.r.turns)
 ·simp only[push_cast,↓J1,↓J2,N1,N2,N3,reduceCtorEq,N4,N5,N6,reduceIte,N7,I1,I2,I3]
  refine⟨_,c1 0,?_⟩
  simp only[ints_length,push_cast,↓J1,↓J2,N1,N2,N3,reduceCtorEq,N4,N5,N6,reduceIte,N7,I1,I2,I3]
  cases g2:decide ((((fil (onSide 0) s.us s.us.length).length:Nat):Int)=0)
  ·simp only[push_cast,↓J1,↓J2,N1,N2,N3,reduceCtorEq,N4,N5,N6,reduceIte,N7,I1,I2,I3]
   refine⟨_,c1 1,?_⟩
   simp only[overOk,g1,g2,Bool.false_or,ints_length,push_cast,↓J1,↓J2,N1,N2,N3,reduceCtorEq,N4,N5,N6,reduceIte,N7,I1,I2,I3]
  ·simp only[overOk,g1,g2,Bool.or_true,Bool.true_or,push_cast,↓J1,↓J2,N1,N2,N3,reduceCtorEq,N4,N5,N6,reduceIte,N7,I1,I2,I3]
 ·simp only[overOk,g1,Bool.true_or,push_cast,↓J1,↓J2,N1,N2,N3,reduceCtorEq,N4,N5,N6,reduceIte,N7,I1,I2,I3]
end
end Go.Proofs.YthggfnefjbckeaaGreatDoor.X
set_option maxHeartbeats 1000000
set_option maxRecDepth 8000
set_option linter.unusedSimpArgs false
set_option linter.unusedVariables false
open Nat renaming reduceBEq→N1,reduceAdd→N2,reduceSub→N3,reduceMul→N4,reduceEqDiff→N5,reduceLeDiff→N6,reduceLT→N7
open Int renaming reduceLE→I1,reduceLT→I2,reduceToNat→I3
namespace Go.Proofs.YthggfnefjbckeaaGreatDoor.X
open Go
def nbT(m:Mp)(c:Int)(j:Nat):List Int:=((List.range j).map fun d=>nextM m c (d:Nat)).filter fun k=>decide (0≤k)
def nbs(m:Mp)(c:Int):List Int:=nbT m c 6
theorem nbT_succ(m:Mp)(c:Int)(j:Nat):nbT m c (j+1)=if 0≤nextM m c (j:Nat) then nbT m c j++[nextM m c (j:Nat)] else nbT m c j:=by
 simp only[nbT,List.range_succ,List.map_append,List.filter_append,List.map_cons,List.map_nil]
 by_cases h:0≤nextM m c (j:Nat)
 ·simp[h]
 ·simp[h]
theorem nbT_le(m:Mp)(c:Int)(j:Nat):(nbT m c j).length≤j:=by
 simp only[nbT];exact Nat.le_trans (List.length_filter_le _ _) (by simp)
theorem brd_t{b:Brd}(g:brdOk b=true):(b.m.t.length:Int)=b.m.w*b.m.h:=by
 have:=brd_mp g
 simp only[mpOk,Bool.and_eq_true,decide_eq_true_eq] at this
 exact this.1.1.1.2
def ctl(b:Brd)(s:Sta)(i:Int):Int:=if 0≤owner s i then owner s i else if inZon b s 0 i then if inZon b s 1 i then 2 else 0 else if inZon b s 1 i then 1 else -1
end Go.Proofs.YthggfnefjbckeaaGreatDoor.X
set_option maxHeartbeats 1000000
set_option maxRecDepth 8000
set_option linter.unusedSimpArgs false
set_option linter.unusedVariables false
open Nat renaming reduceBEq→N1,reduceAdd→N2,reduceSub→N3,reduceMul→N4,reduceEqDiff→N5,reduceLeDiff→N6,reduceLT→N7
open Int renaming reduceLE→I1,reduceLT→I2,reduceToNat→I3
namespace Go.Proofs.YthggfnefjbckeaaGreatDoor.X
open Go
def wRoad(w:Int):Int:=if 0<w then w-1 else w
def stepM(b:Brd)(kd w i:Int)(d:Nat):Int:=
 if decide (nextM b.m i d<0)||decide (costAt b kd (nextM b.m i d)=0) then 0
 else if hasI b.m.ro (edgeM b.m i d) then b.r.road+wRoad w
 else costAt b kd (nextM b.m i d)+w+(if hasI b.m.ri (edgeM b.m i d) then b.r.river else 0)
def fwd(b:Brd)(kd w:Int):Way:=⟨fun k d=>stepM b kd w k d,fun k _=>k,fun k d=>(nextM b.m k d).toNat⟩
def bwd(b:Brd)(kd w:Int):Way:=⟨fun k d=>stepM b kd w k d,fun k d=>(nextM b.m k d).toNat,fun k _=>k⟩
theorem cost_bnd{b:Brd}{kd i:Int}(h:kindAsk b kd=true)(hi:0≤i∧i<b.m.w*b.m.h):0≤costAt b kd i∧costAt b kd i≤9:=by
 have hk:=kind_at h
 have g:brdOk b=true:=by simp only[kindAsk,Bool.and_eq_true] at h;exact h.1
 have:=cost_get (b:=b) (k:=kd.toNat) (i:=i) g (by omega) (by simp only[inR,Bool.and_eq_true,decide_eq_true_eq];omega)
 rw[show((kd.toNat:Nat):Int)=kd by omega] at this
 exact⟨this.2.1,this.2.2.1⟩
theorem step_bnd{b:Brd}{kd w i:Int}{d:Nat}(h:kindAsk b kd=true)(hw:0≤w∧w≤2):0≤stepM b kd w i d∧stepM b kd w i d≤20∧(stepM b kd w i d≠0→0≤nextM b.m i d∧nextM b.m i d<b.m.w*b.m.h):=by
 have g:brdOk b=true:=by simp only[kindAsk,Bool.and_eq_true] at h;exact h.1
 have hm:=mp_wh (brd_mp g)
 have hr:=brd_ru g
 simp only[rulOk,tailOk,inR,Bool.and_eq_true,decide_eq_true_eq] at hr
 have hn:=nextM_bnd (m:=b.m) (i:=i) (d:=d) hm.1 hm.2
 simp only[stepM]
 by_cases g1:(decide (nextM b.m i d<0)||decide (costAt b kd (nextM b.m i d)=0))=true
 ·rw[if_pos g1];omega
 rw[if_neg g1]
 simp only[Bool.or_eq_true,decide_eq_true_eq,not_or] at g1
 have hc:=cost_bnd h (i:=nextM b.m i d) (by omega)
 refine⟨?_,?_,fun _=>by omega⟩
 ·simp only[wRoad];split
  ·split<;>omega
  ·split<;>omega
 ·simp only[wRoad];split
  ·split<;>omega
  ·split<;>omega
theorem fwd_ok{b:Brd}{kd w:Int}(h:kindAsk b kd=true)(hw:0≤w∧w≤2):WayOk b.m.t.length (fwd b kd w):=by
 have g:brdOk b=true:=by simp only[kindAsk,Bool.and_eq_true] at h;exact h.1
 have ht:=brd_t g
 refine⟨fun k d hk hd hc=>?_⟩
 have:=step_bnd (i:=k) (d:=d) h hw
 simp only[fwd] at hc⊢
 refine⟨by omega,hk,by have:=this.2.2 hc;omega⟩
theorem bwd_ok{b:Brd}{kd w:Int}(h:kindAsk b kd=true)(hw:0≤w∧w≤2):WayOk b.m.t.length (bwd b kd w):=by
 have g:brdOk b=true:=by simp only[kindAsk,Bool.and_eq_true] at h;exact h.1
 have ht:=brd_t g
 refine⟨fun k d hk hd hc=>?_⟩
 have:=step_bnd (i:=k) (d:=d) h hw
 simp only[bwd] at hc⊢
 refine⟨by omega,by have:=this.2.2 hc;omega,hk⟩
theorem brd_n{b:Brd}(g:brdOk b=true):b.m.t.length≤100∧1≤b.m.t.length:=by
 have hm:=mp_wh (brd_mp g)
 have hwh:=wh_le hm.1 hm.2
 have:=brd_t g
 omega
def farF(b:Brd)(kd w:Int)(i:Nat):List Int:=rxF (fwd b kd w) b.m.t.length i
def farB(b:Brd)(kd w:Int)(i:Nat):List Int:=rxF (bwd b kd w) b.m.t.length i
inductive Rch(b:Brd)(kd w:Int)(i:Nat):Nat→Prop where
 | rfl:Rch b kd w i i
 | step {x d:Nat}:Rch b kd w i x→x<b.m.t.length→d<6→stepM b kd w x d≠0→Rch b kd w i (nextM b.m x d).toNat
theorem farF_rch{b:Brd}{kd w:Int}{i:Nat}(h:kindAsk b kd=true)(hw:0≤w∧w≤2)(hi:i<b.m.t.length): ∀(m y:Nat),y<b.m.t.length→0≤(farF b kd w i).getD y 0→(farF b kd w i).getD y 0≤m→Rch b kd w i y:=by
 have g:brdOk b=true:=by simp only[kindAsk,Bool.and_eq_true] at h;exact h.1
 have hf:=rxF_far (brd_n g).1 (fwd_ok h hw) hi
 intro m
 induction m with
 | zero=>
  intro y hy h0 hm
  by_cases hyi:y=i
  ·subst hyi;exact .rfl
  ·obtain⟨k,d,hk,hd,hc,e,h1,h2⟩:=hf.tig y hy h0 hyi
   have:=(fwd_ok h hw).ok k d hk hd hc
   simp only[farF] at hm
   omega
 | succ m ih=>
  intro y hy h0 hm
  by_cases hyi:y=i
  ·subst hyi;exact .rfl
  ·obtain⟨k,d,hk,hd,hc,e,h1,h2⟩:=hf.tig y hy h0 hyi
   have hx:=(fwd_ok h hw).ok k d hk hd hc
   have:=ih k hk (by simpa only[farF,fwd] using h1) (by simp only[farF,fwd] at hm h2 hx⊢;omega)
   rw[←e]
   exact .step this hk hd hc
theorem rch_back{b:Brd}{kd w:Int}{i k:Nat}(h:kindAsk b kd=true)(hw:0≤w∧w≤2)(hk:k<b.m.t.length){y:Nat}(hr:Rch b kd w i y):0≤(farB b kd w k).getD y 0→0≤(farB b kd w k).getD i 0:=by
 have g:brdOk b=true:=by simp only[kindAsk,Bool.and_eq_true] at h;exact h.1
 have hf:=rxF_far (brd_n g).1 (bwd_ok h hw) hk
 induction hr with
 | rfl=>exact fun h=>h
 | step _ hx hd hc ih=>exact fun h0=>ih (hf.rel _ _ hx hd hc h0).1
theorem reach_back{b:Brd}{kd w:Int}{i k:Nat}(h:kindAsk b kd=true)(hw:0≤w∧w≤2)(hi:i<b.m.t.length)(hk:k<b.m.t.length)(h0:0≤(farF b kd w i).getD k 0):0≤(farB b kd w k).getD i 0:=by
 have g:brdOk b=true:=by simp only[kindAsk,Bool.and_eq_true] at h;exact h.1
 refine rch_back h hw hk (farF_rch h hw hi ((farF b kd w i).getD k 0).toNat k hk h0 (by omega)) ?_
 have:=(rxF_far (brd_n g).1 (bwd_ok h hw) hk).at_
 simp only[farB]
 omega
def pgood(b:Brd)(kd w:Int)(to:List Int)(x:Nat)(d:Nat):Bool:=decide (stepM b kd w x d≠0)&&(decide (0≤to.getD (nextM b.m x d).toNat 0)&&decide (to.getD (nextM b.m x d).toNat 0+stepM b kd w x d=to.getD x 0))
def pI(b:Brd)(kd w:Int)(to:List Int)(i k:Nat):Nat→Nat×List Int
 | 0=>(i,[])
 | j+1=>if(pI b kd w to i k j).1=k then pI b kd w to i k j else match first6 (pgood b kd w to (pI b kd w to i k j).1) with
  | some d=>((nextM b.m (pI b kd w to i k j).1 d).toNat,(pI b kd w to i k j).2++[(d:Int)])
  | none=>pI b kd w to i k j
theorem first6_some{p:Nat→Bool}{d:Nat}(hd:d<6)(h:p d=true): ∃d,d<6∧first6 p=some d∧p d=true∧ ∀j,j<d→p j=false:=by
 cases e:first6 p with
 | none=>
  simp only[first6,List.find?_range_eq_none] at e
  have:=e d hd
  simp[h] at this
 | some x=>
  simp only[first6,List.find?_range_eq_some] at e
  exact⟨x,by simpa using e.2.1,rfl,e.1,fun j hj=>by simpa using e.2.2 j hj⟩
theorem pgood_some{b:Brd}{kd w:Int}{k x:Nat}(h:kindAsk b kd=true)(hw:0≤w∧w≤2)(hk:k<b.m.t.length)(hx:x<b.m.t.length)(hxk:x≠k)(h0:0≤(farB b kd w k).getD x 0): ∃d,d<6∧first6 (pgood b kd w (farB b kd w k) x)=some d∧pgood b kd w (farB b kd w k) x d=true∧ ∀j,j<d→pgood b kd w (farB b kd w k) x j=false:=by
 have g:brdOk b=true:=by simp only[kindAsk,Bool.and_eq_true] at h;exact h.1
 have hf:=rxF_far (brd_n g).1 (bwd_ok h hw) hk
 obtain⟨y,d,hy,hd,hc,e,h1,h2⟩:=hf.tig x hx h0 hxk
 have h3:=hf.rel y d hy hd hc h1
 simp only[bwd] at e hc
 subst e
 refine first6_some hd ?_
 simp only[pgood,Bool.and_eq_true,decide_eq_true_eq]
 simp only[farB]
 simp only[bwd] at h1 h2 h3⊢
 exact⟨hc,h1,by omega⟩
theorem pI_ok{b:Brd}{kd w:Int}{i k:Nat}(h:kindAsk b kd=true)(hw:0≤w∧w≤2)(hi:i<b.m.t.length)(hk:k<b.m.t.length)(h0:0≤(farB b kd w k).getD i 0)(j:Nat)(hj: ∀m,m<j→(pI b kd w (farB b kd w k) i k m).1≠k):(pI b kd w (farB b kd w k) i k j).1<b.m.t.length∧0≤(farB b kd w k).getD (pI b kd w (farB b kd w k) i k j).1 0∧(farB b kd w k).getD (pI b kd w (farB b kd w k) i k j).1 0+j≤(farB b kd w k).getD i 0∧(pI b kd w (farB b kd w k) i k j).2.length=j∧ ∀d∈(pI b kd w (farB b kd w k) i k j).2,0≤d∧d<6:=by
 induction j with
 | zero=>exact⟨hi,h0,by simp[pI],rfl,fun d hd=>by simp[pI] at hd⟩
 | succ j ih=>
  obtain⟨i1,i2,i3,i4,i5⟩:=ih fun m hm=>hj m (by omega)
  have hne:=hj j (by omega)
  obtain⟨d,hd,e,hg,_⟩:=pgood_some h hw hk i1 hne i2
  simp only[pI,if_neg hne,e]
  simp only[pgood,Bool.and_eq_true,decide_eq_true_eq] at hg
  have hs:=step_bnd (i:=(pI b kd w (farB b kd w k) i k j).1) (d:=d) h hw
  have ht:=brd_t (show brdOk b=true by simp only[kindAsk,Bool.and_eq_true] at h;exact h.1)
  have hn:=hs.2.2 hg.1
  refine⟨by omega,hg.2.1,by omega,by simp only[List.length_append,i4,List.length_singleton],fun x hx=>?_⟩
  rcases List.mem_append.1 hx with hx | hx
  ·exact i5 x hx
  ·rw[List.mem_singleton.1 hx];omega
def pN(b:Brd)(kd w:Int)(to:List Int)(i k:Nat):Nat:=(List.range 2002).findIdx fun j=>decide ((pI b kd w to i k j).1=k)
def pthM(b:Brd)(kd w:Int)(i k:Nat):List Int:=(pI b kd w (farB b kd w k) i k (pN b kd w (farB b kd w k) i k)).2
theorem pN_lt{b:Brd}{kd w:Int}{to:List Int}{i k j:Nat}(h:j<pN b kd w to i k):(pI b kd w to i k j).1≠k:=by
 have hle:pN b kd w to i k≤2002:=by simp only[pN];exact Nat.le_trans List.findIdx_le_length (by simp)
 have:=List.not_of_lt_findIdx (xs:=List.range 2002) (p:=fun j=>decide ((pI b kd w to i k j).1=k)) (i:=j) h
 simpa only[List.getElem_range,decide_eq_false_iff_not] using this
theorem pN_end{b:Brd}{kd w:Int}{i k:Nat}(h:kindAsk b kd=true)(hw:0≤w∧w≤2)(hi:i<b.m.t.length)(hk:k<b.m.t.length)(h0:0≤(farB b kd w k).getD i 0):(pI b kd w (farB b kd w k) i k (pN b kd w (farB b kd w k) i k)).1=k:=by
 have g:brdOk b=true:=by simp only[kindAsk,Bool.and_eq_true] at h;exact h.1
 have hl:=(rxF_far (brd_n g).1 (bwd_ok h hw) hk).len
 have hlt:pN b kd w (farB b kd w k) i k<(List.range 2002).length:=by
  simp only[pN]
  refine List.findIdx_lt_length_of_exists ?_
  by_cases hex: ∃j,j<2002∧(pI b kd w (farB b kd w k) i k j).1=k
  ·obtain⟨j,h1,h2⟩:=hex
   exact⟨j,by simpa using h1,by simpa using h2⟩
  ·exfalso
   have h1:=pI_ok h hw hi hk h0 2001 fun m hm e=>hex ⟨m,by omega,e⟩
   have h2:=rxF_bnd (brd_n g).1 (bwd_ok h hw) hk _ (getD_mem (l:=farB b kd w k) (i:=i) (by simp only[farB,hl];exact hi) 0)
   omega
 have h1:decide ((pI b kd w (farB b kd w k) i k ((List.range 2002)[pN b kd w (farB b kd w k) i k]'hlt)).1=k)=true:=List.findIdx_getElem (w:=hlt)
 rw[List.getElem_range hlt] at h1
 exact of_decide_eq_true h1
theorem pN_le{b:Brd}{kd w:Int}{to:List Int}{i k:Nat}:pN b kd w to i k≤2002:=by
 simp only[pN];exact Nat.le_trans List.findIdx_le_length (by simp)
end Go.Proofs.YthggfnefjbckeaaGreatDoor.X
