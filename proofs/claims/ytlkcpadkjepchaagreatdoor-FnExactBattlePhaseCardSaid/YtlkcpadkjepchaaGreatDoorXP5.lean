/- A part of the proof: lemmas on the machine or on the functions that the law reaches. No condition of its own. -/
import Derived.Test.YtlkcpadkjepchaaGreatDoorXP4
set_option maxHeartbeats 1000000
set_option maxRecDepth 8000
set_option linter.unusedSimpArgs false
set_option linter.unusedVariables false
open Nat renaming reduceBEq→N1,reduceAdd→N2,reduceSub→N3,reduceMul→N4,reduceEqDiff→N5,reduceLeDiff→N6,reduceLT→N7
open Int renaming reduceLE→I1,reduceLT→I2,reduceToNat→I3
namespace Go.Proofs.YtlkcpadkjepchaaGreatDoor.X
open Go
theorem sum3{a b c:Int}(ha:inR 0 36 a=true)(hb:inR 0 36 b=true)(hc:inR 0 36 c=true):sumW [a,b,c]=a+b+c:=by
 simp only[inR,Bool.and_eq_true,decide_eq_true_eq] at ha hb hc
 simp only[sumW,List.foldl]
 rw[Int.zero_add,wrap64 (n:=a) (by omega) (by omega),wrap64 (n:=a+b) (by omega) (by omega),wrap64 (by omega) (by omega)]
section
variable{C:CT}(hC:Closed Tryz.prog G1 md0 C)
include hC
theorem t162(r:List Int)(hr:r.length<2^50):Ev C 162 [.sl (ints r)] (.int .i64 (sumW r)):=by
 refine rT hC Q162 ?_
 simp only[c162,ints,List.length_map,push_cast,↓J1,↓J2,N1,N2,N3,reduceCtorEq,N4,N5,N6,reduceIte,N7,I1,I2,I3]
 refine RL_count (fun i=>⟨tb 17 .any [(3,.int .i64 (sumW (r.take i))),(6,.sl (r.map fun n=>[.int .i64 n])),(7,.int .i64 (r.length:Int)),(8,.int .i64 (i:Int))],[],0⟩) (fun _=>True) r.length 0 (head_tb [] rfl (by simp only[keptV_cons,keptV_nil,tb_get,lk_same,lk_ne,lk_nil,ren,renL,lkp,N7,N1,N5,reduceIte,and_true,true_and,Nat.not_lt_zero,if_false,if_true,Nat.add_zero,Nat.zero_add];simp[sumW]) rfl) (by omega) trivial fun i hi _ J hJ=>?_
 by_cases h1:i<r.length
 ·simp only[List.length_map,Int.toNat_natCast,List.getElem?_map,List.getElem?_eq_getElem h1,push_cast,↓J1,↓J2,N1,N2,N3,reduceCtorEq,N4,N5,N6,reduceIte,N7,I1,I2,I3]
  refine ifB_intro (fun _=>⟨by omega,?_⟩) (fun h=>by simp at h;omega)
  refine hJ h1 trivial _ (hdA [] (hV:=?_))
  simp only[keptV_cons,keptV_nil,tb_get,lk_same,lk_ne,lk_nil,ren,renL,lkp,N7,N1,N5,reduceIte,and_true,true_and,Nat.not_lt_zero,if_false,if_true,Nat.add_zero,Nat.zero_add]
  rw[wrap64 (n:=(i:Int)+1) (by omega) (by omega),sumW_succ h1]
  simp
 ·simp only[List.length_map,Int.toNat_natCast,List.getElem?_map,push_cast,↓J1,↓J2,N1,N2,N3,reduceCtorEq,N4,N5,N6,reduceIte,N7,I1,I2,I3]
  refine ifB_intro (fun h=>by simp at h;omega) (fun h=>?_)
  rw[List.take_of_length_le (by omega)]
theorem t89(W:List (List Int))(hW:W.length<2^50)(hr: ∀r∈W,r.length<2^50):Ev C 89 [clA W] (.bool (goodW W)):=by
 simp only[clA,goodW]
 refine rT hC Q89 ?_
 simp only[c89,intss,List.length_map,push_cast,↓J1,↓J2,N1,N2,N3,reduceCtorEq,N4,N5,N6,reduceIte,N7,I1,I2,I3]
 refine ifB_intro (fun h=>?_) (fun h=>?_)
 ·have h3:W.length=3:=by simp at h;omega
  rw[show(decide (W.length=3)&&W.all rowOk)=W.all rowOk by simp[h3]]
  refine RL_count (fun i=>⟨tb 39 .any [(10,.sl (W.map fun r=>[.sl (ints r)])),(11,.int .i64 (W.length:Int)),(12,.int .i64 (i:Int))],[],0⟩) (fun i=>W.all rowOk=(W.drop i).all rowOk) W.length 0 (hdA []) (by omega) rfl fun i hi ht J hJ=>?_
  by_cases h1:i<W.length
  ·have hri:=hr _ (List.getElem_mem h1)
   rw[List.drop_eq_getElem_cons h1,List.all_cons] at ht
   simp only[List.length_map,Int.toNat_natCast,List.getElem?_map,List.getElem?_eq_getElem h1,push_cast,↓J1,↓J2,N1,N2,N3,reduceCtorEq,N4,N5,N6,reduceIte,N7,I1,I2,I3]
   generalize W[i]=r at *
   refine ifB_intro (fun _=>⟨by omega,?_⟩) (fun h=>by simp at h;omega)
   rw[ints_length]
   refine ifB_intro (fun h=>?_) (fun h=>?_)
   ·refine⟨_,t138 hC r _ _ hri,?_⟩
    simp only[push_cast,↓J1,↓J2,N1,N2,N3,reduceCtorEq,N4,N5,N6,reduceIte,N7,I1,I2,I3]
    have h5:r.length=3:=by simp at h;omega
    refine ifB_intro (fun h=>?_) (fun h=>?_)
    ·obtain⟨a,b,c,rfl⟩: ∃a b c,r=[a,b,c]:=by
      match r,h5 with
      | [a,b,c],_=>exact⟨a,b,c,rfl⟩
     simp only[ints,push_cast,↓J1,↓J2,N1,N2,N3,reduceCtorEq,N4,N5,N6,reduceIte,N7,I1,I2,I3]
     simp only[List.all_cons,List.all_nil,Bool.and_true,Bool.and_eq_true] at h
     have e3:=sum3 h.1 h.2.1 h.2.2
     have e4:rowOk [a,b,c]=decide (a+b+c=36):=by
      simp[rowOk,e3,h.1,h.2.1,h.2.2]
     have b1:=h.1;have b2:=h.2.1;have b3:=h.2.2
     simp only[inR,Bool.and_eq_true,decide_eq_true_eq] at b1 b2 b3
     rw[wrap64 (n:=a+b) (by omega) (by omega),wrap64 (n:=a+b+c) (by omega) (by omega)]
     refine ifB_intro (fun hh=>?_) (fun hh=>?_)
     ·refine hJ h1 ?_ _ (hdA [])
      rw[ht,e4,hh];rfl
     ·rw[ht,e4,hh];rfl
    ·rw[ht];simp only[rowOk,h,Bool.and_false,Bool.false_and]
   ·have h5: ¬r.length=3:=by simp at h;omega
    rw[ht];simp[rowOk,h5]
  ·simp only[List.length_map,Int.toNat_natCast,List.getElem?_map,push_cast,↓J1,↓J2,N1,N2,N3,reduceCtorEq,N4,N5,N6,reduceIte,N7,I1,I2,I3]
   refine ifB_intro (fun h=>by simp at h;omega) (fun h=>?_)
   rw[ht,List.drop_eq_nil_of_le (by omega)]
   rfl
 ·have h3: ¬W.length=3:=by simp at h;omega
  simp[h3]
theorem t110(W:List (List Int))(hW:W.length<2^50)(hr: ∀r∈W,r.length<2^50):Ev C 110 [clA W] (.bool (goodW W)):=by
 simp only[clA,goodW]
 refine rT hC Q110 ?_
 simp only[c110,intss,List.length_map,push_cast,↓J1,↓J2,N1,N2,N3,reduceCtorEq,N4,N5,N6,reduceIte,N7,I1,I2,I3]
 refine ifB_intro (fun h=>?_) (fun h=>?_)
 ·have h3:W.length=3:=by simp at h;omega
  rw[show(decide (W.length=3)&&W.all rowOk)=W.all rowOk by simp[h3]]
  refine RL_count (fun i=>⟨tb 37 .any [(12,.sl (W.map fun r=>[.sl (ints r)])),(13,.int .i64 (W.length:Int)),(14,.int .i64 (i:Int))],[],0⟩) (fun i=>W.all rowOk=(W.drop i).all rowOk) W.length 0 (hdA []) (by omega) rfl fun i hi ht J hJ=>?_
  by_cases h1:i<W.length
  ·have hri:=hr _ (List.getElem_mem h1)
   rw[List.drop_eq_getElem_cons h1,List.all_cons] at ht
   simp only[List.length_map,Int.toNat_natCast,List.getElem?_map,List.getElem?_eq_getElem h1,push_cast,↓J1,↓J2,N1,N2,N3,reduceCtorEq,N4,N5,N6,reduceIte,N7,I1,I2,I3]
   generalize W[i]=r at *
   refine ifB_intro (fun _=>⟨by omega,?_⟩) (fun h=>by simp at h;omega)
   rw[ints_length]
   refine ifB_intro (fun h=>?_) (fun h=>?_)
   ·refine⟨_,t162 hC r hri,?_⟩
    simp only[push_cast,↓J1,↓J2,N1,N2,N3,reduceCtorEq,N4,N5,N6,reduceIte,N7,I1,I2,I3]
    have h5:r.length=3:=by simp at h;omega
    refine ifB_intro (fun h=>?_) (fun h=>?_)
    ·have e4:rowOk r=r.all (inR 0 36):=by
      simp only[rowOk,h5,h,decide_true,Bool.true_and,Bool.and_true]
     refine RL_count (fun k=>⟨tb 37 .any [(12,.sl (W.map fun r=>[.sl (ints r)])),(13,.int .i64 (W.length:Int)),(14,.int .i64 (i:Int)),(26,.sl (r.map fun n=>[.int .i64 n])),(27,.int .i64 (r.length:Int)),(28,.int .i64 (k:Int))],[],0⟩) (fun k=>r.all (inR 0 36)=(r.drop k).all (inR 0 36)) r.length 0 (head_tb [] rfl (by simp only[ints,List.length_map,keptV_cons,keptV_nil,tb_get,lk_same,lk_ne,lk_nil,ren,renL,lkp,N7,N1,N5,reduceIte,and_true,true_and,Nat.not_lt_zero,if_false,if_true,Nat.add_zero,Nat.zero_add];simp) rfl) (by omega) rfl fun k hk hkt J' hJ'=>?_
     by_cases h6:k<r.length
     ·rw[List.drop_eq_getElem_cons h6,List.all_cons] at hkt
      simp only[List.length_map,Int.toNat_natCast,List.getElem?_map,List.getElem?_eq_getElem h6,push_cast,↓J1,↓J2,N1,N2,N3,reduceCtorEq,N4,N5,N6,reduceIte,N7,I1,I2,I3]
      refine ifB_intro (fun _=>⟨by omega,_,t68 hC _ _ _,?_⟩) (fun h=>by simp at h;omega)
      simp only[push_cast,↓J1,↓J2,N1,N2,N3,reduceCtorEq,N4,N5,N6,reduceIte,N7,I1,I2,I3]
      refine ifB_intro (fun hh=>?_) (fun hh=>?_)
      ·refine hJ' h6 ?_ _ (hdA [])
       rw[hkt];simp only[inR] at hh⊢;rw[hh];rfl
      ·rw[ht,e4,hkt];simp only[inR] at hh⊢;rw[hh];rfl
     ·simp only[List.length_map,Int.toNat_natCast,List.getElem?_map,push_cast,↓J1,↓J2,N1,N2,N3,reduceCtorEq,N4,N5,N6,reduceIte,N7,I1,I2,I3]
      refine ifB_intro (fun h=>by simp at h;omega) (fun h=>?_)
      rw[List.drop_eq_nil_of_le (by omega)] at hkt
      refine hJ h1 ?_ _ (hdA [])
      rw[ht,e4,hkt];rfl
    ·rw[ht];simp only[rowOk,h,Bool.and_false,Bool.false_and]
   ·have h5: ¬r.length=3:=by simp at h;omega
    rw[ht];simp[rowOk,h5]
  ·simp only[List.length_map,Int.toNat_natCast,List.getElem?_map,push_cast,↓J1,↓J2,N1,N2,N3,reduceCtorEq,N4,N5,N6,reduceIte,N7,I1,I2,I3]
   refine ifB_intro (fun h=>by simp at h;omega) (fun h=>?_)
   rw[ht,List.drop_eq_nil_of_le (by omega)]
   rfl
 ·have h3: ¬W.length=3:=by simp at h;omega
  simp[h3]
end
end Go.Proofs.YtlkcpadkjepchaaGreatDoor.X
set_option maxHeartbeats 4000000
set_option maxRecDepth 8000
set_option linter.unusedSimpArgs false
set_option linter.unusedVariables false
open Nat renaming reduceBEq→N1,reduceAdd→N2,reduceSub→N3,reduceMul→N4,reduceEqDiff→N5,reduceLeDiff→N6,reduceLT→N7
open Int renaming reduceLE→I1,reduceLT→I2,reduceToNat→I3
namespace Go.Proofs.YtlkcpadkjepchaaGreatDoor.X
open Go
attribute [local irreducible] Ev
structure Od where
 a:Int
 b:Int
 deriving DecidableEq
def odA(o:Od):List AV:=[.int .i64 o.a,.int .i64 o.b]
def ods(l:List Od):List (List AV):=l.map odA
theorem ods_length(l:List Od):(ods l).length=l.length:=by simp[ods]
theorem frzLL_ods(l:List Od):frzLL (ods l)=ods l:=by
 unfold ods
 induction l with
 | nil=>rfl
 | cons x l ih=>simp only[List.map_cons,frzLL,odA,frzL,frzT,ih]
theorem own_ods(l:List Od):ownRLL (ods l)=true:=by
 unfold ods
 induction l with
 | nil=>rfl
 | cons x l ih=>simp only[List.map_cons,ownRLL,odA,ownRL,ownR,Bool.and_true,Bool.true_and];exact ih
theorem own_owss(W:List (List Int)):ownRLL (owss W)=true:=by have:=own_intss W;simpa only[ownR] using this
structure Ct where
 cs:List Od
 d:Int
 rs:List (List Int)
 deriving DecidableEq
def ctF(t:Ct):List AV:=[.sl (ods t.cs),.int .i64 t.d,.sl (intss t.rs)]
def ctO(t:Ct):List AV:=[.ow 2 (ods t.cs),.int .i64 t.d,.ow 1 (owss t.rs)]
structure SSB(B:Nat)(W:List (List Int)):Prop where
 l:W.length<B
 r: ∀r∈W,r.length<B
structure CtB(B:Nat)(t:Ct):Prop where
 c:t.cs.length<B
 r:SSB B t.rs
def sz1(l:List Od)(v:Int):Int:=sub1 v l.length
def szCt(t:Ct):Int→Int:=andThen (sz1 t.cs) (szSS t.rs)
def szCl(W:List (List Int))(v:Int):Int:=if szSS W v<0 then -1 else szSS W v
theorem szRows_rng: ∀(W:List (List Int)) (v:Int),0≤v→ -1≤szRows W v∧szRows W v≤v
 | [],v,h=>by simp only[szRows];omega
 | r::W,v,h=>by
  simp only[szRows]
  split
  ·omega
  ·have:=szRows_rng W (v-r.length) (by omega);omega
theorem szSS_rng{W:List (List Int)}{v:Int}(h:0≤v): -1≤szSS W v∧szSS W v≤v:=by
 simp only[szSS]
 split
 ·omega
 ·have:=szRows_rng W (v-W.length) (by omega);omega
theorem szSS_pos{W:List (List Int)}{v:Int}(h0:0≤v)(hv:v≤1048576)(h:0≤szSS W v):SSB (2^21) W:=by
 have:=szSS_le h0 h
 exact⟨by omega,fun r hr=>by have:=this.2 r hr;omega⟩
theorem szCl_rng{W:List (List Int)}{v:Int}(h:0≤v): -1≤szCl W v∧szCl W v≤v:=by
 have:=szSS_rng (W:=W) h
 simp only[szCl];split<;>omega
theorem szCt_rng{t:Ct}{v:Int}(h:0≤v): -1≤szCt t v∧szCt t v≤v:=by
 have h1: -1≤sz1 t.cs v∧sz1 t.cs v≤v:=sub1_le h
 simp only[szCt,andThen]
 split
 ·omega
 ·have:=szSS_rng (W:=t.rs) (v:=sz1 t.cs v) (by omega)
  split<;>omega
theorem SSB.mono{A B:Nat}{W:List (List Int)}(h:A≤B)(hb:SSB A W):SSB B W:=⟨by have:=hb.l;omega,fun r hr=>by have:=hb.r r hr;omega⟩
theorem CtB.mono{A B:Nat}{t:Ct}(h:A≤B)(hb:CtB A t):CtB B t:=⟨by have:=hb.c;omega,hb.r.mono h⟩
theorem szCt_pos{t:Ct}{v:Int}(h0:0≤v)(hv:v≤1048576)(h:0≤szCt t v):CtB (2^21) t:=by
 have h1: -1≤sz1 t.cs v∧sz1 t.cs v≤v:=sub1_le h0
 simp only[szCt,andThen] at h
 split at h
 ·omega
 split at h
 ·omega
 have h2:=sub1_pos (v:=v) (n:=t.cs.length) (by show 0≤sz1 t.cs v;omega)
 exact⟨by omega,szSS_pos (by omega) (by omega) h⟩
def od0:Od:=⟨0,0⟩
def prevO(cs:List Od)(i:Nat):Od:=cs.getD (i-1) od0
def odOk(cs:List Od)(i:Nat)(o:Od):Bool:=inR 1 20 o.a&&inR 1 20 o.b&&!(decide (0<(i:Int))&&decide (IntKind.i64.wrap (o.a*(prevO cs i).b)≤IntKind.i64.wrap ((prevO cs i).a*o.b)))
def ctRow(n:Nat)(r:List Int):Bool:=decide ((r.length:Int)=(n:Int))&&r.all (inR 0 7)
def ctOk(t:Ct):Bool:=inR 1 8 t.cs.length&&inR 1 2 t.d&&decide ((t.rs.length:Int)=5*t.d+1)&&allI (odOk t.cs) t.cs&&t.rs.all (ctRow t.cs.length)
section
variable{C:CT}(hC:Closed Tryz.prog G1 md0 C)
include hC
theorem t53(l:List Od)(v:Int)(hv:0≤v∧v<2^50)(hl:l.length<2^50):Ev C 53 [.sl (ods l),.int .i64 v] (.int .i64 (sz1 l v)):=by
 refine rT hC Q53 ?_
 simp only[c53,ods_length,push_cast,↓J1,↓J2,N1,N2,N3,reduceCtorEq,N4,N5,N6,reduceIte,N7,I1,I2,I3]
 rw[wrap64 (by omega) (by omega)]
 refine ifB_intro (fun h=>?_) (fun h=>?_)
 ·have h':v<l.length:=by simp at h;omega
  simp only[sz1,sub1,if_pos h']
 ·have h': ¬v<l.length:=by simp at h;omega
  simp only[sz1,sub1,if_neg h']
theorem t23(t:Ct)(v:Int)(hv:0≤v∧v<2^50)(hb:CtB (2^50) t):Ev C 23 [.agg (ctF t),.int .i64 v] (.int .i64 (szCt t v)):=by
 have h1:=sub1_le (n:=t.cs.length) hv.1
 simp only[ctF]
 refine rT hC Q23 ?_
 simp only[c23,push_cast,↓J1,↓J2,N1,N2,N3,reduceCtorEq,N4,N5,N6,reduceIte,N7,I1,I2,I3]
 refine⟨_,t53 hC _ _ hv hb.c,?_⟩
 simp only[push_cast,↓J1,↓J2,N1,N2,N3,reduceCtorEq,N4,N5,N6,reduceIte,N7,I1,I2,I3]
 refine ifB_intro (fun h=>?_) (fun h=>?_)
 ·simp only[szCt,andThen,if_pos (of_decide_eq_true h)]
 ·have hn:=of_decide_eq_false h
  refine⟨_,t25 hC _ _ ⟨by omega,by simp only[sz1] at*;omega⟩ hb.r.l hb.r.r,?_⟩
  simp only[push_cast,↓J1,↓J2,N1,N2,N3,reduceCtorEq,N4,N5,N6,reduceIte,N7,I1,I2,I3]
  refine ifB_intro (fun h=>?_) (fun h=>?_)
  ·simp only[szCt,andThen,if_neg hn,if_pos (of_decide_eq_true h)]
  ·simp only[szCt,andThen,if_neg hn,if_neg (of_decide_eq_false h)]
theorem t107(o:Od):Ev C 107 [.agg (odA o)] (.agg (odA o)):=by
 simp only[odA]
 refine rT hC Q107 ?_
 simp only[c107,push_cast,↓J1,↓J2,N1,N2,N3,reduceCtorEq,N4,N5,N6,reduceIte,N7,I1,I2,I3]
 exact rtA
theorem t63(l:List Od)(hl:l.length<2^30):Ev C 63 [.sl (ods l)] (.ow 2 (ods l)):=by
 refine rT hC Q63 ?_ (by simp only[ownR,own_ods])
 simp only[c63,ods_length,push_cast,↓J1,↓J2,N1,N2,N3,reduceCtorEq,N4,N5,N6,reduceIte,N7,I1,I2,I3]
 repeat (refine⟨by omega,?_⟩)
 refine RL_count (fun i=>⟨tb 23 .any [(0,.sl (ods l)),(3,.ref 0 none 2 0 l.length),(4,.int .i64 (i:Int))],[(0,.slice 2 ((l.take i).map odA++List.replicate (l.length-i) [.int .i64 0,.int .i64 0]))],1⟩) (fun _=>True) l.length 0 (hdA [(0,0)]) (by omega) trivial fun i hi _ J hJ=>?_
 by_cases h1:i<l.length
 ·have e1:(ods l)[i]?=some (odA l[i]):=by simp[ods,h1]
  rw[show l.length-i=(l.length-(i+1))+1 by omega,List.replicate_succ]
  simp only[ods_length,Int.toNat_natCast,e1,odA,push_cast,↓J1,↓J2,N1,N2,N3,reduceCtorEq,N4,N5,N6,reduceIte,N7,I1,I2,I3]
  refine ifB_intro (fun _=>?_) (fun h=>by simp at h;omega)
  repeat (refine⟨by omega,?_⟩)
  refine⟨_,t107 hC l[i],?_⟩
  simp only[Int.toNat_natCast,odA,odA,List.take_length,mid_get (show((l.take i).map odA).length=i by simp;omega),mid_set (show((l.take i).map odA).length=i by simp;omega),push_cast,↓J1,↓J2,N1,N2,N3,reduceCtorEq,N4,N5,N6,reduceIte,N7,I1,I2,I3]
  repeat (refine⟨by omega,?_⟩)
  refine hJ h1 trivial _ (hdA [(0,0)] (hh:=?_))
  rw[List.take_succ_eq_append_getElem h1,List.map_append,List.append_assoc]
  simp only[hdel,canR,canB,renO,renL,ren,lkp,hget,N7,N5,Nat.not_lt_zero,if_false,if_true,reduceIte,List.append_nil,List.nil_append]
  rfl
 ·simp only[ods_length,Int.toNat_natCast,push_cast,↓J1,↓J2,N1,N2,N3,reduceCtorEq,N4,N5,N6,reduceIte,N7,I1,I2,I3]
  refine ifB_intro (fun h=>by simp at h;omega) (fun h=>?_)
  rw[List.take_of_length_le (by omega),show l.length-i=0 by omega]
  exact RetTo_ow (by simp[hget,ods]) (by simp[ods])
theorem t30(t:Ct)(hb:CtB (2^30) t):Ev C 30 [.agg (ctF t)] (.agg (ctO t)):=by
 simp only[ctF,ctO]
 refine rT hC Q30 ?_ (by simp only[ownR,ownRL,own_ods,own_owss,Bool.and_true])
 simp only[c30,push_cast,↓J1,↓J2,N1,N2,N3,reduceCtorEq,N4,N5,N6,reduceIte,N7,I1,I2,I3]
 refine⟨_,t63 hC _ hb.c,?_⟩
 simp only[push_cast,↓J1,↓J2,N1,N2,N3,reduceCtorEq,N4,N5,N6,reduceIte,N7,I1,I2,I3]
 refine⟨_,t32 hC _ hb.r.l hb.r.r,?_⟩
 simp only[push_cast,↓J1,↓J2,N1,N2,N3,reduceCtorEq,N4,N5,N6,reduceIte,N7,I1,I2,I3]
 exact rtA
theorem t131(t u:Od):Ev C 131 [.agg (odA t),.agg (odA u)] (.bool (decide (t=u))):=by
 obtain⟨a1,a2⟩:=t
 obtain⟨b1,b2⟩:=u
 simp only[odA]
 refine rT hC Q131 ?_
 simp only[c131,push_cast,↓J1,↓J2,N1,N2,N3,reduceCtorEq,N4,N5,N6,reduceIte,N7,I1,I2,I3]
 repeat' (first
  | simp only[push_cast,↓J1,↓J2,N1,N2,N3,reduceCtorEq,N4,N5,N6,reduceIte,N7,I1,I2,I3]
  | refine ifB_intro (fun h=>?_) (fun h=>?_))
 all_goals simp_all
theorem t79(l m:List Od)(hl:l.length<2^50)(hm:m.length<2^50):Ev C 79 [.sl (ods l),.sl (ods m)] (.bool (decide (l=m))):=by
 refine rT hC Q79 ?_
 simp only[c79,ods_length,push_cast,↓J1,↓J2,N1,N2,N3,reduceCtorEq,N4,N5,N6,reduceIte,N7,I1,I2,I3]
 refine ifB_intro (fun h=>?_) (fun h=>?_)
 ·have hlm:l.length=m.length:=by simp at h;omega
  refine RL_count (fun i=>⟨tb 27 .any [(0,.sl (ods l)),(1,.sl (ods m)),(5,.int .i64 (i:Int))],[],0⟩) (fun i=>l.take i=m.take i) l.length 0 (hdA []) (by omega) rfl fun i hi ht J hJ=>?_
  by_cases h1:i<l.length
  ·have h2:i<m.length:=by omega
   have e1:(ods l)[i]?=some (odA l[i]):=by simp[ods,h1]
   have e2:(ods m)[i]?=some (odA m[i]):=by simp[ods,h2]
   simp only[ods_length,Int.toNat_natCast,e1,e2,odA,push_cast,↓J1,↓J2,N1,N2,N3,reduceCtorEq,N4,N5,N6,reduceIte,N7,I1,I2,I3]
   refine ifB_intro (fun _=>?_) (fun h=>by simp at h;omega)
   repeat (refine⟨by omega,?_⟩)
   refine⟨_,t131 hC l[i] m[i],?_⟩
   simp only[push_cast,↓J1,↓J2,N1,N2,N3,reduceCtorEq,N4,N5,N6,reduceIte,N7,I1,I2,I3]
   refine ifB_intro (fun h=>?_) (fun h=>?_)
   ·refine hJ h1 ?_ _ (hdA [])
    rw[List.take_succ_eq_append_getElem h1,List.take_succ_eq_append_getElem h2,ht,of_decide_eq_true h]
   ·have: ¬l=m:=by rintro rfl;simp at h
    simp[this]
  ·simp only[ods_length,Int.toNat_natCast,push_cast,↓J1,↓J2,N1,N2,N3,reduceCtorEq,N4,N5,N6,reduceIte,N7,I1,I2,I3]
   refine ifB_intro (fun h=>by simp at h;omega) (fun h=>?_)
   rw[List.take_of_length_le (by omega),List.take_of_length_le (by omega)] at ht
   simp[ht]
 ·have: ¬l=m:=by rintro rfl;simp at h
  simp[this]
theorem t41(t u:Ct)(h1:CtB (2^50) t)(h2:CtB (2^50) u):Ev C 41 [.agg (ctF t),.agg (ctF u)] (.bool (decide (t=u))):=by
 have c1:=t79 hC t.cs u.cs h1.c h2.c
 have c2:=t43 hC t.rs u.rs h1.r.l h2.r.l h1.r.r h2.r.r
 clear h1 h2
 obtain⟨a1,a2,a3⟩:=t
 obtain⟨b1,b2,b3⟩:=u
 simp only[ctF] at *
 refine rT hC Q41 ?_
 simp only[c41,push_cast,↓J1,↓J2,N1,N2,N3,reduceCtorEq,N4,N5,N6,reduceIte,N7,I1,I2,I3]
 repeat' (first
  | simp only[push_cast,↓J1,↓J2,N1,N2,N3,reduceCtorEq,N4,N5,N6,reduceIte,N7,I1,I2,I3]
  | refine⟨_,c1,?_⟩
  | refine⟨_,c2,?_⟩
  | refine ifB_intro (fun h=>?_) (fun h=>?_))
 all_goals (clear c1 c2;simp_all)
theorem t139(d:Int)(hd:1≤d∧d≤2):Ev C 139 [.int .i64 d] (.int .i64 (5*d+1)):=by
 refine rT hC Q139 ?_
 simp only[c139,push_cast,↓J1,↓J2,N1,N2,N3,reduceCtorEq,N4,N5,N6,reduceIte,N7,I1,I2,I3]
 rw[wrap64 (n:=5*d) (by omega) (by omega),wrap64 (by omega) (by omega)]
theorem t161(x:Int):Ev C 161 [.int .i64 x] (.bool (inR 0 7 x)):=by
 refine rT hC Q161 ?_
 simp only[c161,push_cast,↓J1,↓J2,N1,N2,N3,reduceCtorEq,N4,N5,N6,reduceIte,N7,I1,I2,I3]
 refine⟨_,tRange hC _ _ _,?_⟩
 simp only[push_cast,↓J1,↓J2,N1,N2,N3,reduceCtorEq,N4,N5,N6,reduceIte,N7,I1,I2,I3]
theorem t160(x:Int):Ev C 160 [.int .i64 x] (.bool (!inR 0 7 x)):=by
 refine rT hC Q160 ?_
 simp only[c160,push_cast,↓J1,↓J2,N1,N2,N3,reduceCtorEq,N4,N5,N6,reduceIte,N7,I1,I2,I3]
 refine⟨_,t161 hC _,?_⟩
 simp only[push_cast,↓J1,↓J2,N1,N2,N3,reduceCtorEq,N4,N5,N6,reduceIte,N7,I1,I2,I3]
theorem t88(t:Ct)(hb:CtB (2^50) t):Ev C 88 [.agg (ctF t)] (.bool (ctOk t)):=by
 have b1:=hb.c
 have b2:=hb.r.l
 simp only[ctF]
 refine rT hC Q88 ?_
 simp only[c88,ods_length,intss_length,push_cast,↓J1,↓J2,N1,N2,N3,reduceCtorEq,N4,N5,N6,reduceIte,N7,I1,I2,I3]
 refine⟨_,tIn hC _ _ _,?_⟩
 cases g1:inR 1 8 (t.cs.length:Int)
 ·simp only[ctOk,g1,push_cast,↓J1,↓J2,N1,N2,N3,reduceCtorEq,N4,N5,N6,reduceIte,N7,I1,I2,I3]
 simp only[push_cast,↓J1,↓J2,N1,N2,N3,reduceCtorEq,N4,N5,N6,reduceIte,N7,I1,I2,I3]
 refine⟨_,tIn hC _ _ _,?_⟩
 cases g2:inR 1 2 t.d
 ·simp only[ctOk,g1,g2,push_cast,↓J1,↓J2,N1,N2,N3,reduceCtorEq,N4,N5,N6,reduceIte,N7,I1,I2,I3]
 have hd:=g2
 simp only[inR,Bool.and_eq_true,decide_eq_true_eq] at hd
 simp only[intss_length,push_cast,↓J1,↓J2,N1,N2,N3,reduceCtorEq,N4,N5,N6,reduceIte,N7,I1,I2,I3]
 refine⟨_,t139 hC _ hd,?_⟩
 simp only[push_cast,↓J1,↓J2,N1,N2,N3,reduceCtorEq,N4,N5,N6,reduceIte,N7,I1,I2,I3]
 cases g3:decide ((t.rs.length:Int)=5*t.d+1)
 ·simp only[ctOk,g1,g2,g3,push_cast,↓J1,↓J2,N1,N2,N3,reduceCtorEq,N4,N5,N6,reduceIte,N7,I1,I2,I3]
 simp only[ods_length,push_cast,↓J1,↓J2,N1,N2,N3,reduceCtorEq,N4,N5,N6,reduceIte,N7,I1,I2,I3]
 refine RL_count (fun i=>⟨tb 90 .any [(1,.ptr 0 none 0 0 0),(28,.sl (ods t.cs)),(29,.int .i64 (t.cs.length:Int)),(30,.int .i64 (i:Int))],[(0,.var (ctF t))],1⟩) (fun i=> ∀j (h:j<t.cs.length),j<i→odOk t.cs j t.cs[j]=true) t.cs.length 0 (hdA [(0,0)]) (by omega) (by intro j h h';omega) fun i hi' ht J hJ=>?_
 simp only[ctF]
 by_cases h1:i<t.cs.length
 ·have e1:(ods t.cs)[i]?=some (odA t.cs[i]):=by simp[ods,h1]
  have fin:odOk t.cs i t.cs[i]=true→ ∀(s:St),Head 0 s ⟨tb 90 .any [(1,.ptr 0 none 0 0 0),(28,.sl (ods t.cs)),(29,.int .i64 (t.cs.length:Int)),(30,.int .i64 ((i+1:Nat):Int))],[(0,.var (ctF t))],1⟩→J s:=fun hf=>by
   refine hJ h1 (fun j hj hji=>?_)
   by_cases hij:j=i
   ·subst hij;exact hf
   ·exact ht j hj (by omega)
  have bad:odOk t.cs i t.cs[i]=false→ctOk t=false:=fun hf=>by simp only[ctOk,allI_no h1 hf,Bool.and_false,Bool.false_and]
  clear hJ ht
  have eo:odOk t.cs i t.cs[i]=(inR 1 20 t.cs[i].a&&inR 1 20 t.cs[i].b&&!(decide (0<(i:Int))&&decide (IntKind.i64.wrap (t.cs[i].a*(prevO t.cs i).b)≤IntKind.i64.wrap ((prevO t.cs i).a*t.cs[i].b)))):=rfl
  rw[eo] at fin bad
  clear eo
  generalize t.cs[i]=o at *
  simp only[Int.toNat_natCast,e1,odA,push_cast,↓J1,↓J2,N1,N2,N3,reduceCtorEq,N4,N5,N6,reduceIte,N7,I1,I2,I3]
  refine ifB_intro (fun _=>?_) (fun h=>by simp at h;omega)
  repeat (refine⟨by omega,?_⟩)
  refine⟨_,tIn hC _ _ _,?_⟩
  cases g4:inR 1 20 o.a
  ·simp only[bad (by rw[g4];rfl),push_cast,↓J1,↓J2,N1,N2,N3,reduceCtorEq,N4,N5,N6,reduceIte,N7,I1,I2,I3]
  simp only[push_cast,↓J1,↓J2,N1,N2,N3,reduceCtorEq,N4,N5,N6,reduceIte,N7,I1,I2,I3]
  refine⟨_,tIn hC _ _ _,?_⟩
  cases g5:inR 1 20 o.b
  ·simp only[bad (by rw[g4,g5];rfl),push_cast,↓J1,↓J2,N1,N2,N3,reduceCtorEq,N4,N5,N6,reduceIte,N7,I1,I2,I3]
  simp only[push_cast,↓J1,↓J2,N1,N2,N3,reduceCtorEq,N4,N5,N6,reduceIte,N7,I1,I2,I3]
  by_cases h0:i=0
  ·have ei:decide (0<(i:Int))=false:=decide_eq_false (by omega)
   simp only[ei,push_cast,↓J1,↓J2,N1,N2,N3,reduceCtorEq,N4,N5,N6,reduceIte,N7,I1,I2,I3]
   exact fin (by rw[g4,g5,ei];rfl) _ (hdA [(0,0)])
  ·have ei:decide (0<(i:Int))=true:=decide_eq_true (by omega)
   have ep:(ods t.cs)[i-1]?=some (odA (prevO t.cs i)):=by simp[ods,prevO,List.getD,show i-1<t.cs.length by omega]
   have en:((i:Int)-1).toNat=i-1:=by omega
   generalize prevO t.cs i=p at *
   simp only[ei,wrap64 (n:=(i:Int)-1) (by omega) (by omega),en,ep,odA,push_cast,↓J1,↓J2,N1,N2,N3,reduceCtorEq,N4,N5,N6,reduceIte,N7,I1,I2,I3]
   repeat (refine⟨by omega,?_⟩)
   cases g6:decide (IntKind.i64.wrap (o.a*p.b)≤IntKind.i64.wrap (p.a*o.b))
   ·simp only[push_cast,↓J1,↓J2,N1,N2,N3,reduceCtorEq,N4,N5,N6,reduceIte,N7,I1,I2,I3]
    exact fin (by rw[g4,g5,ei,g6];rfl) _ (hdA [(0,0)])
   ·simp only[bad (by rw[g4,g5,ei,g6];rfl),push_cast,↓J1,↓J2,N1,N2,N3,reduceCtorEq,N4,N5,N6,reduceIte,N7,I1,I2,I3]
 ·simp only[ods_length,intss_length,push_cast,↓J1,↓J2,N1,N2,N3,reduceCtorEq,N4,N5,N6,reduceIte,N7,I1,I2,I3]
  refine ifB_intro (fun h=>by simp at h;omega) (fun h=>?_)
  have gt:allI (odOk t.cs) t.cs=true:=allI_yes fun j hj=>ht j hj (by omega)
  clear ht hJ
  rw[show ctOk t=t.rs.all (ctRow t.cs.length) by simp only[ctOk,g1,g2,g3,gt,Bool.true_and]]
  refine RL_count (fun i=>⟨tb 90 .any [(1,.ptr 0 none 0 0 0),(72,.sl (intss t.rs)),(73,.int .i64 (t.rs.length:Int)),(74,.int .i64 (i:Int))],[(0,.var (ctF t))],1⟩) (fun i=>t.rs.all (ctRow t.cs.length)=(t.rs.drop i).all (ctRow t.cs.length)) t.rs.length 0 (hdA [(0,0)]) (by omega) rfl fun i hi' ht J hJ=>?_
  simp only[ctF]
  by_cases h1:i<t.rs.length
  ·have e1:(intss t.rs)[i]?=some [.sl (ints t.rs[i])]:=by simp[intss,h1]
   have hr:=hb.r.r _ (List.getElem_mem h1)
   rw[List.drop_eq_getElem_cons h1,List.all_cons] at ht
   generalize t.rs[i]=r at *
   have c1:=t138 hC r 0 7 hr
   simp only[Int.toNat_natCast,e1,push_cast,↓J1,↓J2,N1,N2,N3,reduceCtorEq,N4,N5,N6,reduceIte,N7,I1,I2,I3]
   refine ifB_intro (fun _=>?_) (fun h=>by simp at h;omega)
   repeat (refine⟨by omega,?_⟩)
   simp only[ints_length,ods_length,push_cast,↓J1,↓J2,N1,N2,N3,reduceCtorEq,N4,N5,N6,reduceIte,N7,I1,I2,I3]
   cases g4:decide ((r.length:Int)=(t.cs.length:Int))
   ·rw[ht,show ctRow t.cs.length r=false by simp only[ctRow,g4,Bool.false_and]]
    simp only[push_cast,↓J1,↓J2,N1,N2,N3,reduceCtorEq,N4,N5,N6,reduceIte,N7,I1,I2,I3]
   simp only[push_cast,↓J1,↓J2,N1,N2,N3,reduceCtorEq,N4,N5,N6,reduceIte,N7,I1,I2,I3]
   refine⟨_,c1,?_⟩
   cases g5:r.all (inR 0 7)
   ·rw[ht,show ctRow t.cs.length r=false by simp only[ctRow,g4,g5,Bool.and_false]]
    simp only[push_cast,↓J1,↓J2,N1,N2,N3,reduceCtorEq,N4,N5,N6,reduceIte,N7,I1,I2,I3]
   ·simp only[push_cast,↓J1,↓J2,N1,N2,N3,reduceCtorEq,N4,N5,N6,reduceIte,N7,I1,I2,I3]
    refine hJ h1 ?_ _ (hdA [(0,0)])
    rw[ht,show ctRow t.cs.length r=true by simp only[ctRow,g4,g5,Bool.and_true],Bool.true_and]
  ·simp only[intss_length,push_cast,↓J1,↓J2,N1,N2,N3,reduceCtorEq,N4,N5,N6,reduceIte,N7,I1,I2,I3]
   refine ifB_intro (fun h=>by simp at h;omega) (fun h=>?_)
   rw[ht,List.drop_eq_nil_of_le (by omega)]
   rfl
theorem t109(t:Ct)(hb:CtB (2^50) t):Ev C 109 [.agg (ctF t)] (.bool (ctOk t)):=by
 have b1:=hb.c
 have b2:=hb.r.l
 simp only[ctF]
 refine rT hC Q109 ?_
 simp only[c109,ods_length,intss_length,push_cast,↓J1,↓J2,N1,N2,N3,reduceCtorEq,N4,N5,N6,reduceIte,N7,I1,I2,I3]
 refine⟨_,tRange hC _ _ _,?_⟩
 cases g1:inR 1 8 (t.cs.length:Int)
 ·simp only[ctOk,g1,push_cast,↓J1,↓J2,N1,N2,N3,reduceCtorEq,N4,N5,N6,reduceIte,N7,I1,I2,I3]
 simp only[push_cast,↓J1,↓J2,N1,N2,N3,reduceCtorEq,N4,N5,N6,reduceIte,N7,I1,I2,I3]
 refine⟨_,tRange hC _ _ _,?_⟩
 cases g2:inR 1 2 t.d
 ·simp only[ctOk,g1,g2,push_cast,↓J1,↓J2,N1,N2,N3,reduceCtorEq,N4,N5,N6,reduceIte,N7,I1,I2,I3]
 have hd:=g2
 simp only[inR,Bool.and_eq_true,decide_eq_true_eq] at hd
 simp only[intss_length,push_cast,↓J1,↓J2,N1,N2,N3,reduceCtorEq,N4,N5,N6,reduceIte,N7,I1,I2,I3]
 rw[wrap64 (n:=5*t.d) (by omega) (by omega),wrap64 (n:=5*t.d+1) (by omega) (by omega)]
 cases g3:decide ((t.rs.length:Int)=5*t.d+1)
 ·simp only[ctOk,g1,g2,g3,push_cast,↓J1,↓J2,N1,N2,N3,reduceCtorEq,N4,N5,N6,reduceIte,N7,I1,I2,I3]
 simp only[ods_length,push_cast,↓J1,↓J2,N1,N2,N3,reduceCtorEq,N4,N5,N6,reduceIte,N7,I1,I2,I3]
 refine RL_count (fun i=>⟨tb 90 .any [(1,.ptr 0 none 0 0 0),(29,.sl (ods t.cs)),(30,.int .i64 (t.cs.length:Int)),(31,.int .i64 (i:Int))],[(0,.var (ctF t))],1⟩) (fun i=> ∀j (h:j<t.cs.length),j<i→odOk t.cs j t.cs[j]=true) t.cs.length 0 (hdA [(0,0)]) (by omega) (by intro j h h';omega) fun i hi' ht J hJ=>?_
 simp only[ctF]
 by_cases h1:i<t.cs.length
 ·have e1:(ods t.cs)[i]?=some (odA t.cs[i]):=by simp[ods,h1]
  have fin:odOk t.cs i t.cs[i]=true→ ∀(s:St),Head 0 s ⟨tb 90 .any [(1,.ptr 0 none 0 0 0),(29,.sl (ods t.cs)),(30,.int .i64 (t.cs.length:Int)),(31,.int .i64 ((i+1:Nat):Int))],[(0,.var (ctF t))],1⟩→J s:=fun hf=>by
   refine hJ h1 (fun j hj hji=>?_)
   by_cases hij:j=i
   ·subst hij;exact hf
   ·exact ht j hj (by omega)
  have bad:odOk t.cs i t.cs[i]=false→ctOk t=false:=fun hf=>by simp only[ctOk,allI_no h1 hf,Bool.and_false,Bool.false_and]
  clear hJ ht
  have eo:odOk t.cs i t.cs[i]=(inR 1 20 t.cs[i].a&&inR 1 20 t.cs[i].b&&!(decide (0<(i:Int))&&decide (IntKind.i64.wrap (t.cs[i].a*(prevO t.cs i).b)≤IntKind.i64.wrap ((prevO t.cs i).a*t.cs[i].b)))):=rfl
  rw[eo] at fin bad
  clear eo
  generalize t.cs[i]=o at *
  simp only[Int.toNat_natCast,e1,odA,push_cast,↓J1,↓J2,N1,N2,N3,reduceCtorEq,N4,N5,N6,reduceIte,N7,I1,I2,I3]
  refine ifB_intro (fun _=>?_) (fun h=>by simp at h;omega)
  repeat (refine⟨by omega,?_⟩)
  refine⟨_,tRange hC _ _ _,?_⟩
  cases g4:inR 1 20 o.a
  ·simp only[bad (by rw[g4];rfl),push_cast,↓J1,↓J2,N1,N2,N3,reduceCtorEq,N4,N5,N6,reduceIte,N7,I1,I2,I3]
  simp only[push_cast,↓J1,↓J2,N1,N2,N3,reduceCtorEq,N4,N5,N6,reduceIte,N7,I1,I2,I3]
  refine⟨_,tRange hC _ _ _,?_⟩
  cases g5:inR 1 20 o.b
  ·simp only[bad (by rw[g4,g5];rfl),push_cast,↓J1,↓J2,N1,N2,N3,reduceCtorEq,N4,N5,N6,reduceIte,N7,I1,I2,I3]
  simp only[push_cast,↓J1,↓J2,N1,N2,N3,reduceCtorEq,N4,N5,N6,reduceIte,N7,I1,I2,I3]
  by_cases h0:i=0
  ·have ei:decide (0<(i:Int))=false:=decide_eq_false (by omega)
   simp only[ei,push_cast,↓J1,↓J2,N1,N2,N3,reduceCtorEq,N4,N5,N6,reduceIte,N7,I1,I2,I3]
   exact fin (by rw[g4,g5,ei];rfl) _ (hdA [(0,0)])
  ·have ei:decide (0<(i:Int))=true:=decide_eq_true (by omega)
   have ep:(ods t.cs)[i-1]?=some (odA (prevO t.cs i)):=by simp[ods,prevO,List.getD,show i-1<t.cs.length by omega]
   have en:((i:Int)-1).toNat=i-1:=by omega
   generalize prevO t.cs i=p at *
   simp only[ei,wrap64 (n:=(i:Int)-1) (by omega) (by omega),en,ep,odA,push_cast,↓J1,↓J2,N1,N2,N3,reduceCtorEq,N4,N5,N6,reduceIte,N7,I1,I2,I3]
   repeat (refine⟨by omega,?_⟩)
   cases g6:decide (IntKind.i64.wrap (o.a*p.b)≤IntKind.i64.wrap (p.a*o.b))
   ·simp only[push_cast,↓J1,↓J2,N1,N2,N3,reduceCtorEq,N4,N5,N6,reduceIte,N7,I1,I2,I3]
    exact fin (by rw[g4,g5,ei,g6];rfl) _ (hdA [(0,0)])
   ·simp only[bad (by rw[g4,g5,ei,g6];rfl),push_cast,↓J1,↓J2,N1,N2,N3,reduceCtorEq,N4,N5,N6,reduceIte,N7,I1,I2,I3]
 ·simp only[ods_length,intss_length,push_cast,↓J1,↓J2,N1,N2,N3,reduceCtorEq,N4,N5,N6,reduceIte,N7,I1,I2,I3]
  refine ifB_intro (fun h=>by simp at h;omega) (fun h=>?_)
  have gt:allI (odOk t.cs) t.cs=true:=allI_yes fun j hj=>ht j hj (by omega)
  clear ht hJ
  rw[show ctOk t=t.rs.all (ctRow t.cs.length) by simp only[ctOk,g1,g2,g3,gt,Bool.true_and]]
  refine RL_count (fun i=>⟨tb 90 .any [(1,.ptr 0 none 0 0 0),(73,.sl (intss t.rs)),(74,.int .i64 (t.rs.length:Int)),(75,.int .i64 (i:Int))],[(0,.var (ctF t))],1⟩) (fun i=>t.rs.all (ctRow t.cs.length)=(t.rs.drop i).all (ctRow t.cs.length)) t.rs.length 0 (hdA [(0,0)]) (by omega) rfl fun i hi' ht J hJ=>?_
  simp only[ctF]
  by_cases h1:i<t.rs.length
  ·have e1:(intss t.rs)[i]?=some [.sl (ints t.rs[i])]:=by simp[intss,h1]
   have hr:=hb.r.r _ (List.getElem_mem h1)
   rw[List.drop_eq_getElem_cons h1,List.all_cons] at ht
   generalize t.rs[i]=r at *
   have c1:=t158 hC r 160 [] _ hr rfl rfl fun x _=>t160 hC x
   have e7:(r.any fun x=>!inR 0 7 x)=!r.all (inR 0 7):=by rw[←all_not];simp
   rw[e7] at c1
   simp only[Int.toNat_natCast,e1,push_cast,↓J1,↓J2,N1,N2,N3,reduceCtorEq,N4,N5,N6,reduceIte,N7,I1,I2,I3]
   refine ifB_intro (fun _=>?_) (fun h=>by simp at h;omega)
   repeat (refine⟨by omega,?_⟩)
   simp only[ints_length,ods_length,push_cast,↓J1,↓J2,N1,N2,N3,reduceCtorEq,N4,N5,N6,reduceIte,N7,I1,I2,I3]
   cases g4:decide ((r.length:Int)=(t.cs.length:Int))
   ·rw[ht,show ctRow t.cs.length r=false by simp only[ctRow,g4,Bool.false_and]]
    simp only[push_cast,↓J1,↓J2,N1,N2,N3,reduceCtorEq,N4,N5,N6,reduceIte,N7,I1,I2,I3]
   simp only[push_cast,↓J1,↓J2,N1,N2,N3,reduceCtorEq,N4,N5,N6,reduceIte,N7,I1,I2,I3]
   refine⟨_,c1,?_⟩
   cases g5:r.all (inR 0 7)
   ·rw[ht,show ctRow t.cs.length r=false by simp only[ctRow,g4,g5,Bool.and_false]]
    simp only[push_cast,↓J1,↓J2,N1,N2,N3,reduceCtorEq,N4,N5,N6,reduceIte,N7,I1,I2,I3]
   ·simp only[push_cast,↓J1,↓J2,N1,N2,N3,reduceCtorEq,N4,N5,N6,reduceIte,N7,I1,I2,I3]
    refine hJ h1 ?_ _ (hdA [(0,0)])
    rw[ht,show ctRow t.cs.length r=true by simp only[ctRow,g4,g5,Bool.and_true],Bool.true_and]
  ·simp only[intss_length,push_cast,↓J1,↓J2,N1,N2,N3,reduceCtorEq,N4,N5,N6,reduceIte,N7,I1,I2,I3]
   refine ifB_intro (fun h=>by simp at h;omega) (fun h=>?_)
   rw[ht,List.drop_eq_nil_of_le (by omega)]
   rfl
end
end Go.Proofs.YtlkcpadkjepchaaGreatDoor.X
set_option maxHeartbeats 4000000
set_option maxRecDepth 8000
set_option linter.unusedSimpArgs false
set_option linter.unusedVariables false
open Nat renaming reduceBEq→N1,reduceAdd→N2,reduceSub→N3,reduceMul→N4,reduceEqDiff→N5,reduceLeDiff→N6,reduceLT→N7
open Int renaming reduceLE→I1,reduceLT→I2,reduceToNat→I3
namespace Go.Proofs.YtlkcpadkjepchaaGreatDoor.X
open Go
attribute [local irreducible] Ev
structure Se where
 b:Brd
 t:Ct
 c:List (List Int)
 src:List (List Int)
 deriving DecidableEq
def seF(s:Se):AV:= .agg (rulF s.b.r++mpF s.b.m++ctF s.t++[.sl (intss s.c),.sl (intss s.src)])
def seO(s:Se):AV:= .agg (rulO s.b.r++mpO s.b.m++ctO s.t++[.ow 1 (owss s.c),.ow 1 (owss s.src)])
structure SeB(B:Nat)(s:Se):Prop where
 b:BrdB B s.b
 t:CtB B s.t
 c:SSB B s.c
 s:SSB B s.src
def szSe(s:Se):Int→Int:=andThen (andThen (andThen (szBrd s.b) (szCt s.t)) (szCl s.c)) (szSS s.src)
theorem andThen_nn{f g:Int→Int}{v:Int}(h:0≤andThen f g v):0≤f v∧0≤g (f v)∧andThen f g v=g (f v):=by
 have e:andThen f g v=if f v<0 then -1 else if g (f v)<0 then -1 else g (f v):=rfl
 rw[e] at h⊢
 split at h
 ·omega
 split at h
 ·omega
 rename_i h1 h2
 rw[if_neg h1,if_neg h2]
 exact⟨by omega,by omega,rfl⟩
theorem szSe_pos{s:Se}(h:0≤szSe s 1048576):SeB (2^21) s:=by
 obtain⟨h1,h2,_⟩:=andThen_nn h
 obtain⟨h3,h4,e3⟩:=andThen_nn h1
 obtain⟨h5,h6,e5⟩:=andThen_nn h3
 have u1:=szBrd_le (b:=s.b) (v:=1048576) (by omega) (by omega)
 have u2:=szCt_rng (t:=s.t) h5
 have u3:=szCl_rng (W:=s.c) (v:=szCt s.t (szBrd s.b 1048576)) h6
 rw[e5] at h4 e3
 rw[e3] at h2
 have p3:0≤szSS s.c (szCt s.t (szBrd s.b 1048576)):=by
  simp only[szCl] at h4
  split at h4<;>omega
 exact⟨szBrd_pos h5,szCt_pos h5 (by omega) h6,szSS_pos h6 (by omega) p3,szSS_pos h4 (by omega) h2⟩
theorem SeB.mono{A B:Nat}{s:Se}(h:A≤B)(hb:SeB A s):SeB B s:=⟨hb.b.mono h,hb.t.mono h,hb.c.mono h,hb.s.mono h⟩
def srcOk(b:Brd)(l:List Int):Bool:=decide ((l.length:Int)≤6)&&upto l.length (risP l 0 (b.m.w*b.m.h-1))
def seOk(s:Se):Bool:=brdOk s.b&&ctOk s.t&&goodW s.c&&decide ((s.src.length:Int)=2)&&srcOk s.b (s.src.getD 0 [])&&srcOk s.b (s.src.getD 1 [])
theorem src_get{W:List (List Int)}{k:Nat}(h:k<W.length):(intss W)[k]?=some [.sl (ints (W.getD k []))]:=by simp[intss,List.getD,h]
theorem src_mem{W:List (List Int)}{k:Nat}(h:k<W.length):W.getD k []∈W:=by
 simp only[List.getD,List.getElem?_eq_getElem h,Option.getD_some];exact List.getElem_mem h
theorem ris_eq(cut:List Int)(hi:Int):(upto (cut.length-1) (incP cut)&&cut.all (inR 0 hi))=upto cut.length (risP cut 0 hi):=by
 rw[Bool.eq_iff_iff,Bool.and_eq_true,upto_iff,upto_iff]
 rw[List.all_eq_true]
 constructor
 ·rintro⟨h1,h2⟩ j hj
  have hm:cut.getD j 0∈cut:=by simp only[List.getD,List.getElem?_eq_getElem hj];exact List.getElem_mem hj
  simp only[risP,h2 _ hm,Bool.true_and,Bool.or_eq_true,decide_eq_true_eq]
  by_cases h0:j=0
  ·exact .inl h0
  ·right
   have:=h1 (j-1) (by omega)
   simp only[incP,decide_eq_true_eq] at this
   rwa [show j-1+1=j by omega] at this
 ·intro h
  refine⟨fun j hj=>?_,fun x hx=>?_⟩
  ·have:=h (j+1) (by omega)
   simp only[risP,Bool.and_eq_true,Bool.or_eq_true,decide_eq_true_eq] at this
   simp only[incP,decide_eq_true_eq]
   have:=this.2
   simp only[Nat.add_sub_cancel] at this
   omega
  ·obtain⟨j,hj,rfl⟩:=List.getElem_of_mem hx
   have:=h j hj
   simp only[risP,Bool.and_eq_true] at this
   simpa [List.getD,hj] using this.1
section
variable{C:CT}(hC:Closed Tryz.prog G1 md0 C)
include hC
theorem t90(b:Brd)(l:List Int)(g:brdOk b=true)(hl:l.length<2^50):Ev C 90 [brdF b,.sl (ints l)] (.bool (srcOk b l)):=by
 have hwh:=brd_wh g
 have hm:=mp_wh (brd_mp g)
 have c2:=t94 hC b.m hm.1 hm.2
 simp only[brdF,rulF,mpF,ctF,clA,List.cons_append,List.nil_append,srcOk] at *
 refine rT hC Q90 ?_
 simp only[c90,ints_length,push_cast,↓J1,↓J2,N1,N2,N3,reduceCtorEq,N4,N5,N6,reduceIte,N7,I1,I2,I3]
 cases decide ((l.length:Int)≤6)
 ·simp only[push_cast,↓J1,↓J2,N1,N2,N3,reduceCtorEq,N4,N5,N6,reduceIte,N7,I1,I2,I3]
 simp only[push_cast,↓J1,↓J2,N1,N2,N3,reduceCtorEq,N4,N5,N6,reduceIte,N7,I1,I2,I3]
 refine⟨_,c2,?_⟩
 simp only[push_cast,↓J1,↓J2,N1,N2,N3,reduceCtorEq,N4,N5,N6,reduceIte,N7,I1,I2,I3]
 rw[wrap64 (n:=b.m.w*b.m.h-1) (by omega) (by omega)]
 refine⟨_,t140 hC l _ _ hl,?_⟩
 simp only[push_cast,↓J1,↓J2,N1,N2,N3,reduceCtorEq,N4,N5,N6,reduceIte,N7,I1,I2,I3]
theorem t164(x:Int)(b:Brd)(g:brdOk b=true):Ev C 164 [.int .i64 x,.pf (rulF b.r++mpF b.m)] (.bool (!inR 0 (b.m.w*b.m.h-1) x)):=by
 have hwh:=brd_wh g
 have c1:=t112 hC b
 rw[hwh.1] at c1
 simp only[brdF,rulF,mpF,ctF,clA,List.cons_append,List.nil_append] at *
 refine rT hC Q164 ?_
 simp only[c164,push_cast,↓J1,↓J2,N1,N2,N3,reduceCtorEq,N4,N5,N6,reduceIte,N7,I1,I2,I3]
 refine⟨_,c1,?_⟩
 simp only[push_cast,↓J1,↓J2,N1,N2,N3,reduceCtorEq,N4,N5,N6,reduceIte,N7,I1,I2,I3]
 refine⟨_,tIdx hC _ _ (by omega),?_⟩
 simp only[push_cast,↓J1,↓J2,N1,N2,N3,reduceCtorEq,N4,N5,N6,reduceIte,N7,I1,I2,I3]
theorem t111(b:Brd)(l:List Int)(g:brdOk b=true)(hl:l.length<2^50):Ev C 111 [brdF b,.sl (ints l)] (.bool (srcOk b l)):=by
 have c3:=t158 hC l 164 [.pf (rulF b.r++mpF b.m)] _ hl rfl rfl fun x _=>t164 hC x b g
 rw[srcOk,←ris_eq]
 simp only[brdF,rulF,mpF,ctF,clA,List.cons_append,List.nil_append] at *
 refine rT hC Q111 ?_
 simp only[c111,ints_length,push_cast,↓J1,↓J2,N1,N2,N3,reduceCtorEq,N4,N5,N6,reduceIte,N7,I1,I2,I3]
 cases decide ((l.length:Int)≤6)
 ·simp only[push_cast,↓J1,↓J2,N1,N2,N3,reduceCtorEq,N4,N5,N6,reduceIte,N7,I1,I2,I3]
 simp only[push_cast,↓J1,↓J2,N1,N2,N3,reduceCtorEq,N4,N5,N6,reduceIte,N7,I1,I2,I3]
 refine⟨_,t163 hC l hl,?_⟩
 cases upto (l.length-1) (incP l)
 ·simp only[push_cast,↓J1,↓J2,N1,N2,N3,reduceCtorEq,N4,N5,N6,reduceIte,N7,I1,I2,I3]
 simp only[push_cast,↓J1,↓J2,N1,N2,N3,reduceCtorEq,N4,N5,N6,reduceIte,N7,I1,I2,I3]
 refine⟨_,c3,?_⟩
 simp only[all_not,push_cast,↓J1,↓J2,N1,N2,N3,reduceCtorEq,N4,N5,N6,reduceIte,N7,I1,I2,I3]
theorem t55(s:Se)(hb:SeB (2^50) s):Ev C 55 [seF s] (.bool (seOk s)):=by
 have c1:=t87 hC s.b hb.b
 have c2:=t88 hC s.t hb.t
 have c3:=t89 hC s.c hb.c.l hb.c.r
 have c4:=fun l g h=>t90 hC s.b l g h
 simp only[seF,brdF,rulF,mpF,ctF,clA,List.cons_append,List.nil_append,seOk] at *
 refine rT hC Q55 ?_
 simp only[c55,push_cast,↓J1,↓J2,N1,N2,N3,reduceCtorEq,N4,N5,N6,reduceIte,N7,I1,I2,I3]
 refine⟨_,c1,?_⟩
 cases g1:brdOk s.b
 ·simp only[push_cast,↓J1,↓J2,N1,N2,N3,reduceCtorEq,N4,N5,N6,reduceIte,N7,I1,I2,I3]
 simp only[push_cast,↓J1,↓J2,N1,N2,N3,reduceCtorEq,N4,N5,N6,reduceIte,N7,I1,I2,I3]
 refine⟨_,c2,?_⟩
 cases g2:ctOk s.t
 ·simp only[push_cast,↓J1,↓J2,N1,N2,N3,reduceCtorEq,N4,N5,N6,reduceIte,N7,I1,I2,I3]
 simp only[push_cast,↓J1,↓J2,N1,N2,N3,reduceCtorEq,N4,N5,N6,reduceIte,N7,I1,I2,I3]
 refine⟨_,c3,?_⟩
 cases g3:goodW s.c
 ·simp only[push_cast,↓J1,↓J2,N1,N2,N3,reduceCtorEq,N4,N5,N6,reduceIte,N7,I1,I2,I3]
 simp only[intss_length,push_cast,↓J1,↓J2,N1,N2,N3,reduceCtorEq,N4,N5,N6,reduceIte,N7,I1,I2,I3]
 cases g4:decide ((s.src.length:Int)=2)
 ·simp only[push_cast,↓J1,↓J2,N1,N2,N3,reduceCtorEq,N4,N5,N6,reduceIte,N7,I1,I2,I3]
 have hl:=of_decide_eq_true g4
 have e0:=src_get (W:=s.src) (k:=0) (by omega)
 have e1:=src_get (W:=s.src) (k:=1) (by omega)
 have m0:=hb.s.r _ (src_mem (W:=s.src) (k:=0) (by omega))
 have m1:=hb.s.r _ (src_mem (W:=s.src) (k:=1) (by omega))
 have n0:(0:Int).toNat=0:=rfl
 have n1:(1:Int).toNat=1:=rfl
 simp only[n0,e0,push_cast,↓J1,↓J2,N1,N2,N3,reduceCtorEq,N4,N5,N6,reduceIte,N7,I1,I2,I3]
 repeat (refine⟨by omega,?_⟩)
 refine⟨_,c4 _ g1 m0,?_⟩
 cases srcOk s.b (s.src.getD 0 [])
 ·simp only[push_cast,↓J1,↓J2,N1,N2,N3,reduceCtorEq,N4,N5,N6,reduceIte,N7,I1,I2,I3]
 simp only[n1,e1,push_cast,↓J1,↓J2,N1,N2,N3,reduceCtorEq,N4,N5,N6,reduceIte,N7,I1,I2,I3]
 repeat (refine⟨by omega,?_⟩)
 refine⟨_,c4 _ g1 m1,?_⟩
 simp only[push_cast,↓J1,↓J2,N1,N2,N3,reduceCtorEq,N4,N5,N6,reduceIte,N7,I1,I2,I3]
theorem t66(s:Se)(hb:SeB (2^50) s):Ev C 66 [seF s] (.bool (seOk s)):=by
 have c1:=t108 hC s.b hb.b
 have c2:=t109 hC s.t hb.t
 have c3:=t110 hC s.c hb.c.l hb.c.r
 have c4:=fun l g h=>t111 hC s.b l g h
 simp only[seF,brdF,rulF,mpF,ctF,clA,List.cons_append,List.nil_append,seOk] at *
 refine rT hC Q66 ?_
 simp only[c66,push_cast,↓J1,↓J2,N1,N2,N3,reduceCtorEq,N4,N5,N6,reduceIte,N7,I1,I2,I3]
 refine⟨_,c1,?_⟩
 cases g1:brdOk s.b
 ·simp only[push_cast,↓J1,↓J2,N1,N2,N3,reduceCtorEq,N4,N5,N6,reduceIte,N7,I1,I2,I3]
 simp only[push_cast,↓J1,↓J2,N1,N2,N3,reduceCtorEq,N4,N5,N6,reduceIte,N7,I1,I2,I3]
 refine⟨_,c2,?_⟩
 cases g2:ctOk s.t
 ·simp only[push_cast,↓J1,↓J2,N1,N2,N3,reduceCtorEq,N4,N5,N6,reduceIte,N7,I1,I2,I3]
 simp only[push_cast,↓J1,↓J2,N1,N2,N3,reduceCtorEq,N4,N5,N6,reduceIte,N7,I1,I2,I3]
 refine⟨_,c3,?_⟩
 cases g3:goodW s.c
 ·simp only[push_cast,↓J1,↓J2,N1,N2,N3,reduceCtorEq,N4,N5,N6,reduceIte,N7,I1,I2,I3]
 simp only[intss_length,push_cast,↓J1,↓J2,N1,N2,N3,reduceCtorEq,N4,N5,N6,reduceIte,N7,I1,I2,I3]
 cases g4:decide ((s.src.length:Int)=2)
 ·simp only[push_cast,↓J1,↓J2,N1,N2,N3,reduceCtorEq,N4,N5,N6,reduceIte,N7,I1,I2,I3]
 have hl:=of_decide_eq_true g4
 have e0:=src_get (W:=s.src) (k:=0) (by omega)
 have e1:=src_get (W:=s.src) (k:=1) (by omega)
 have m0:=hb.s.r _ (src_mem (W:=s.src) (k:=0) (by omega))
 have m1:=hb.s.r _ (src_mem (W:=s.src) (k:=1) (by omega))
 have n0:(0:Int).toNat=0:=rfl
 have n1:(1:Int).toNat=1:=rfl
 simp only[n0,e0,push_cast,↓J1,↓J2,N1,N2,N3,reduceCtorEq,N4,N5,N6,reduceIte,N7,I1,I2,I3]
 repeat (refine⟨by omega,?_⟩)
 refine⟨_,c4 _ g1 m0,?_⟩
 cases srcOk s.b (s.src.getD 0 [])
 ·simp only[push_cast,↓J1,↓J2,N1,N2,N3,reduceCtorEq,N4,N5,N6,reduceIte,N7,I1,I2,I3]
 simp only[n1,e1,push_cast,↓J1,↓J2,N1,N2,N3,reduceCtorEq,N4,N5,N6,reduceIte,N7,I1,I2,I3]
 repeat (refine⟨by omega,?_⟩)
 refine⟨_,c4 _ g1 m1,?_⟩
 simp only[push_cast,↓J1,↓J2,N1,N2,N3,reduceCtorEq,N4,N5,N6,reduceIte,N7,I1,I2,I3]
theorem t4(s:Se)(v:Int)(hv:0≤v∧v<2^50)(hb:SeB (2^50) s):Ev C 4 [seF s,.int .i64 v] (.int .i64 (szSe s v)):=by
 have c1:=t22 hC s.b v hv hb.b
 have c2:=fun h=>t23 hC s.t (szBrd s.b v) h hb.t
 have c3:=fun h=>t24 hC s.c (szCt s.t (szBrd s.b v)) h hb.c.l hb.c.r
 have c4:=fun h=>t25 hC s.src (szCl s.c (szCt s.t (szBrd s.b v))) h hb.s.l hb.s.r
 rw[show(if szSS s.c (szCt s.t (szBrd s.b v))<0 then -1 else szSS s.c (szCt s.t (szBrd s.b v)))=szCl s.c (szCt s.t (szBrd s.b v)) from rfl] at c3
 have u1:=szBrd_le (b:=s.b) (v:=v) hv.1 (by omega)
 simp only[seF,brdF,rulF,mpF,ctF,clA,List.cons_append,List.nil_append,szSe] at *
 refine rT hC Q4 ?_
 simp only[X.c4,push_cast,↓J1,↓J2,N1,N2,N3,reduceCtorEq,N4,N5,N6,reduceIte,N7,I1,I2,I3]
 refine⟨_,c1,?_⟩
 simp only[push_cast,↓J1,↓J2,N1,N2,N3,reduceCtorEq,N4,N5,N6,reduceIte,N7,I1,I2,I3]
 refine ifB_intro (fun h=>?_) (fun h=>?_)
 ·simp[andThen,of_decide_eq_true h]
 have h1:=of_decide_eq_false h
 have u2:=szCt_rng (t:=s.t) (v:=szBrd s.b v) (by omega)
 refine⟨_,c2 ⟨by omega,by omega⟩,?_⟩
 simp only[push_cast,↓J1,↓J2,N1,N2,N3,reduceCtorEq,N4,N5,N6,reduceIte,N7,I1,I2,I3]
 refine ifB_intro (fun h=>?_) (fun h=>?_)
 ·simp[andThen,h1,of_decide_eq_true h]
 have h2:=of_decide_eq_false h
 have u3:=szCl_rng (W:=s.c) (v:=szCt s.t (szBrd s.b v)) (by omega)
 refine⟨_,c3 ⟨by omega,by omega⟩,?_⟩
 simp only[push_cast,↓J1,↓J2,N1,N2,N3,reduceCtorEq,N4,N5,N6,reduceIte,N7,I1,I2,I3]
 refine ifB_intro (fun h=>?_) (fun h=>?_)
 ·simp[andThen,h1,h2,of_decide_eq_true h]
 have h3:=of_decide_eq_false h
 refine⟨_,c4 ⟨by omega,by omega⟩,?_⟩
 simp only[push_cast,↓J1,↓J2,N1,N2,N3,reduceCtorEq,N4,N5,N6,reduceIte,N7,I1,I2,I3]
 refine ifB_intro (fun h=>?_) (fun h=>?_)
 ·simp[andThen,h1,h2,h3,of_decide_eq_true h]
 ·simp[andThen,h1,h2,h3,of_decide_eq_false h]
theorem t8(s:Se)(hb:SeB (2^30) s):Ev C 8 [seF s] (seO s):=by
 have c1:=t29 hC s.b hb.b
 have c2:=t30 hC s.t hb.t
 have c3:=t31 hC s.c hb.c.l hb.c.r
 have c4:=t32 hC s.src hb.s.l hb.s.r
 simp only[seF,seO,brdF,rulF,mpF,ctF,clA,List.cons_append,List.nil_append,brdO,rulO,mpO,ctO,clO] at *
 refine rT hC Q8 ?_ (by simp only[ownR,ownRL,own_ters,own_kins,own_ints1,own_ods,own_owss,Bool.and_true])
 simp only[c8,push_cast,↓J1,↓J2,N1,N2,N3,reduceCtorEq,N4,N5,N6,reduceIte,N7,I1,I2,I3]
 refine⟨_,c1,?_⟩
 simp only[push_cast,↓J1,↓J2,N1,N2,N3,reduceCtorEq,N4,N5,N6,reduceIte,N7,I1,I2,I3]
 refine⟨_,c2,?_⟩
 simp only[push_cast,↓J1,↓J2,N1,N2,N3,reduceCtorEq,N4,N5,N6,reduceIte,N7,I1,I2,I3]
 refine⟨_,c3,?_⟩
 simp only[push_cast,↓J1,↓J2,N1,N2,N3,reduceCtorEq,N4,N5,N6,reduceIte,N7,I1,I2,I3]
 refine⟨_,c4,?_⟩
 simp only[push_cast,↓J1,↓J2,N1,N2,N3,reduceCtorEq,N4,N5,N6,reduceIte,N7,I1,I2,I3]
 exact rtA
theorem t14(s u:Se)(h1:SeB (2^50) s)(h2:SeB (2^50) u):Ev C 14 [seF s,seF u] (.bool (decide (s=u))):=by
 have c1:=t40 hC s.b u.b h1.b h2.b
 have c2:=t41 hC s.t u.t h1.t h2.t
 have c3:=t42 hC s.c u.c h1.c.l h2.c.l h1.c.r h2.c.r
 have c4:=t43 hC s.src u.src h1.s.l h2.s.l h1.s.r h2.s.r
 clear h1 h2
 obtain⟨a1,a2,a3,a4⟩:=s
 obtain⟨b1,b2,b3,b4⟩:=u
 simp only[seF,brdF,rulF,mpF,ctF,clA,List.cons_append,List.nil_append] at *
 refine rT hC Q14 ?_
 simp only[c14,push_cast,↓J1,↓J2,N1,N2,N3,reduceCtorEq,N4,N5,N6,reduceIte,N7,I1,I2,I3]
 repeat' (first
  | simp only[push_cast,↓J1,↓J2,N1,N2,N3,reduceCtorEq,N4,N5,N6,reduceIte,N7,I1,I2,I3]
  | refine⟨_,c1,?_⟩
  | refine⟨_,c2,?_⟩
  | refine⟨_,c3,?_⟩
  | refine⟨_,c4,?_⟩
  | refine ifB_intro (fun h=>?_) (fun h=>?_))
 all_goals (clear c1 c2 c3 c4;simp_all)
end
end Go.Proofs.YtlkcpadkjepchaaGreatDoor.X
set_option maxHeartbeats 1000000
set_option maxRecDepth 8000
set_option linter.unusedSimpArgs false
set_option linter.unusedVariables false
open Nat renaming reduceBEq→N1,reduceAdd→N2,reduceSub→N3,reduceMul→N4,reduceEqDiff→N5,reduceLeDiff→N6,reduceLT→N7
open Int renaming reduceLE→I1,reduceLT→I2,reduceToNat→I3
namespace Go.Proofs.YtlkcpadkjepchaaGreatDoor.X
open Go
def w64(n:Int):Int:=IntKind.i64.wrap n
theorem w64_id{n:Int}(h1: -9223372036854775808≤n)(h2:n≤9223372036854775807):w64 n=n:=wrap64 h1 h2
def dmod(x m:Int):Int:=(w64 (x.tmod m+m)).tmod m
def mixA(a b x:Int):Int:=(w64 (w64 (w64 (16807*a)+dmod x 2147483647)+b)).tmod 2147483647
def mixB(a' b x:Int):Int:=(w64 (w64 (w64 (39373*b)+dmod x 2147483629)+a')).tmod 2147483629
def mixS(ab:Int×Int)(x:Int):Int×Int:=(mixA ab.1 ab.2 x,mixB (mixA ab.1 ab.2 x) ab.2 x)
def mixF(l:List Int)(n:Int):Int×Int:=l.foldl mixS (7,w64 (n+1))
def mixL(l:List Int):Int×Int:=mixF (l++[1,1,1]) l.length
theorem mixF_succ{l:List Int}{n:Int}{i:Nat}(h:i<l.length):mixF (l.take (i+1)) n=mixS (mixF (l.take i) n) l[i]:=by
 simp only[mixF,List.take_succ_eq_append_getElem h,List.foldl_append,List.foldl_cons,List.foldl_nil]
section
variable{C:CT}(hC:Closed Tryz.prog G1 md0 C)
include hC
theorem t192(x m:Int)(hm:m≠0):Ev C 192 [.int .i64 x,.int .i64 m] (.int .i64 (dmod x m)):=by
 refine rT hC Q192 ?_
 simp only[c192,push_cast,↓J1,↓J2,N1,N2,N3,reduceCtorEq,N4,N5,N6,reduceIte,N7,I1,I2,I3]
 simp only[hm,not_false_eq_true,true_and]
 rfl
theorem t212(x m:Int)(hm:m≠0):Ev C 212 [.int .i64 x,.int .i64 m] (.int .i64 (dmod x m)):=by
 refine rT hC Q212 ?_
 simp only[c212,push_cast,↓J1,↓J2,N1,N2,N3,reduceCtorEq,N4,N5,N6,reduceIte,N7,I1,I2,I3]
 simp only[hm,not_false_eq_true,true_and]
 rfl
theorem t57(n:Int):Ev C 57 [.int .i64 n] (.bool (inR 0 4611686016279904236 n)):=by
 refine rT hC Q57 ?_
 simp only[c57,push_cast,↓J1,↓J2,N1,N2,N3,reduceCtorEq,N4,N5,N6,reduceIte,N7,I1,I2,I3]
 refine⟨_,t91 hC _ _ _,?_⟩
 simp only[push_cast,↓J1,↓J2,N1,N2,N3,reduceCtorEq,N4,N5,N6,reduceIte,N7,I1,I2,I3]
 rfl
theorem t36(n:Int):Ev C 36 [.int .i64 n] (.bool (inR 0 4611686016279904236 n)):=by
 refine rT hC Q36 ?_
 simp only[c36,push_cast,↓J1,↓J2,N1,N2,N3,reduceCtorEq,N4,N5,N6,reduceIte,N7,I1,I2,I3]
 refine⟨_,t68 hC _ _ _,?_⟩
 simp only[push_cast,↓J1,↓J2,N1,N2,N3,reduceCtorEq,N4,N5,N6,reduceIte,N7,I1,I2,I3]
 rfl
theorem t143(l:List Int)(hl:l.length<2^50):Ev C 143 [.sl (ints l)] (.tup [.int .i64 (mixL l).1,.int .i64 (mixL l).2]):=by
 refine rT hC Q143 ?_
 simp only[c143,ints,List.length_map,push_cast,↓J1,↓J2,N1,N2,N3,reduceCtorEq,N4,N5,N6,reduceIte,N7,I1,I2,I3]
 have eL:(l++[1,1,1]).length=l.length+3:=by simp
 refine RL_count (fun i=>⟨tb 44 .any [(0,.sl (l.map fun n=>[.int .i64 n])),(4,.int .i64 (mixF ((l++[1,1,1]).take i) l.length).1),(5,.int .i64 (mixF ((l++[1,1,1]).take i) l.length).2),(6,.int .i64 (i:Int))],[],0⟩) (fun _=>True) (l.length+3) 0 (head_tb [] rfl (by simp only[keptV_cons,keptV_nil,tb_get,lk_same,lk_ne,lk_nil,ren,renL,lkp,N7,N1,N5,reduceIte,and_true,true_and,Nat.not_lt_zero,if_false,if_true,Nat.add_zero,Nat.zero_add];simp[mixF,w64]) rfl) (by omega) trivial fun i hi _ J hJ=>?_
 simp only[List.length_map,Int.toNat_natCast,List.getElem?_map,push_cast,↓J1,↓J2,N1,N2,N3,reduceCtorEq,N4,N5,N6,reduceIte,N7,I1,I2,I3]
 rw[wrap64 (n:=(l.length:Int)+3) (by omega) (by omega)]
 by_cases h1:i<l.length+3
 ·have h2:i<(l++[1,1,1]).length:=by omega
  have e1:=mixF_succ (n:=l.length) h2
  refine ifB_intro (fun _=>?_) (fun h=>by simp at h;omega)
  refine ifB_intro (fun h=>?_) (fun h=>?_)
  ·have h3:i<l.length:=by simp at h;omega
   rw[List.getElem_append_left h3] at e1
   simp only[List.getElem?_eq_getElem h3,push_cast,↓J1,↓J2,N1,N2,N3,reduceCtorEq,N4,N5,N6,reduceIte,N7,I1,I2,I3]
   refine⟨by omega,_,t192 hC _ _ (by omega),?_⟩
   simp only[push_cast,↓J1,↓J2,N1,N2,N3,reduceCtorEq,N4,N5,N6,reduceIte,N7,I1,I2,I3]
   refine⟨by omega,_,t192 hC _ _ (by omega),?_⟩
   simp only[push_cast,↓J1,↓J2,N1,N2,N3,reduceCtorEq,N4,N5,N6,reduceIte,N7,I1,I2,I3]
   refine⟨by omega,hJ h1 trivial _ (hdA [] (hV:=?_))⟩
   simp only[keptV_cons,keptV_nil,tb_get,lk_same,lk_ne,lk_nil,ren,renL,lkp,N7,N1,N5,reduceIte,and_true,true_and,Nat.not_lt_zero,if_false,if_true,Nat.add_zero,Nat.zero_add]
   rw[wrap64 (n:=(i:Int)+1) (by omega) (by omega),e1]
   and_intros<;>rfl
  ·have h3: ¬i<l.length:=by simp at h;omega
   have h4:(l++[1,1,1])[i]=1:=by
    rw[List.getElem_append_right (by omega)]
    have:i-l.length=0∨i-l.length=1∨i-l.length=2:=by omega
    rcases this with h | h | h<;>simp[h]
   rw[h4] at e1
   refine⟨_,t192 hC _ _ (by omega),?_⟩
   simp only[push_cast,↓J1,↓J2,N1,N2,N3,reduceCtorEq,N4,N5,N6,reduceIte,N7,I1,I2,I3]
   refine⟨by omega,_,t192 hC _ _ (by omega),?_⟩
   simp only[push_cast,↓J1,↓J2,N1,N2,N3,reduceCtorEq,N4,N5,N6,reduceIte,N7,I1,I2,I3]
   refine⟨by omega,hJ h1 trivial _ (hdA [] (hV:=?_))⟩
   simp only[keptV_cons,keptV_nil,tb_get,lk_same,lk_ne,lk_nil,ren,renL,lkp,N7,N1,N5,reduceIte,and_true,true_and,Nat.not_lt_zero,if_false,if_true,Nat.add_zero,Nat.zero_add]
   rw[wrap64 (n:=(i:Int)+1) (by omega) (by omega),e1]
   and_intros<;>rfl
 ·refine ifB_intro (fun h=>by simp at h;omega) (fun h=>?_)
  rw[List.take_of_length_le (by omega)]
  exact⟨rfl,rfl⟩
theorem t211(a b x:Int):C 211 [.int .i64 x,.ptr 0 none 0 0 0,.ptr 1 none 0 0 0] [(0,.var [.int .i64 a]),(1,.var [.int .i64 b])] 2 (fun v h' n'=>v= .tup []∧n'=2∧h'=[(0,.var [.int .i64 (mixS (a,b) x).1]),(1,.var [.int .i64 (mixS (a,b) x).2])]):=by
 refine Closed.rT hC Q211 ?_
 simp only[c211,push_cast,↓J1,↓J2,N1,N2,N3,reduceCtorEq,N4,N5,N6,reduceIte,N7,I1,I2,I3]
 refine⟨_,t212 hC _ _ (by omega),?_⟩
 simp only[push_cast,↓J1,↓J2,N1,N2,N3,reduceCtorEq,N4,N5,N6,reduceIte,N7,I1,I2,I3]
 refine⟨by omega,_,t212 hC _ _ (by omega),?_⟩
 simp only[push_cast,↓J1,↓J2,N1,N2,N3,reduceCtorEq,N4,N5,N6,reduceIte,N7,I1,I2,I3]
 exact⟨by omega,rfl⟩
theorem t170(l:List Int)(hl:l.length<2^50):Ev C 170 [.sl (ints l)] (.tup [.int .i64 (mixL l).1,.int .i64 (mixL l).2]):=by
 refine rT hC Q170 ?_
 simp only[c170,ints,List.length_map,push_cast,↓J1,↓J2,N1,N2,N3,reduceCtorEq,N4,N5,N6,reduceIte,N7,I1,I2,I3]
 refine RL_count (fun i=>⟨tb 30 .any [(4,.ptr 0 none 0 0 0),(5,.ptr 1 none 0 0 0),(6,.fn 211 [.ptr 0 none 0 0 0,.ptr 1 none 0 0 0]),(13,.sl (l.map fun n=>[.int .i64 n])),(14,.int .i64 (l.length:Int)),(15,.int .i64 (i:Int))],[(0,.var [.int .i64 (mixF (l.take i) l.length).1]),(1,.var [.int .i64 (mixF (l.take i) l.length).2])],2⟩) (fun _=>True) l.length 0 (hdA [(0,0),(1,1)]) (by omega) trivial fun i hi _ J hJ=>?_
 by_cases h1:i<l.length
 ·have e1:=mixF_succ (n:=l.length) h1
  simp only[List.length_map,Int.toNat_natCast,List.getElem?_map,List.getElem?_eq_getElem h1,push_cast,↓J1,↓J2,N1,N2,N3,reduceCtorEq,N4,N5,N6,reduceIte,N7,I1,I2,I3]
  refine ifB_intro (fun _=>⟨by omega,_,t211 hC _ _ _,?_⟩) (fun h=>by simp at h;omega)
  rintro v h' n' ⟨rfl,rfl,rfl⟩ _
  simp only[push_cast,↓J1,↓J2,N1,N2,N3,reduceCtorEq,N4,N5,N6,reduceIte,N7,I1,I2,I3]
  refine hJ h1 trivial _ (hdA [(0,0),(1,1)] (hh:=?_))
  rw[e1]
  rfl
 ·simp only[List.length_map,Int.toNat_natCast,List.getElem?_map,push_cast,↓J1,↓J2,N1,N2,N3,reduceCtorEq,N4,N5,N6,reduceIte,N7,I1,I2,I3]
  refine ifB_intro (fun h=>by simp at h;omega) (fun h=>?_)
  rw[List.take_of_length_le (by omega)]
  refine RL_count (fun k=>⟨tb 30 .any [(4,.ptr 0 none 0 0 0),(5,.ptr 1 none 0 0 0),(6,.fn 211 [.ptr 0 none 0 0 0,.ptr 1 none 0 0 0]),(23,.int .i64 (k:Int))],[(0,.var [.int .i64 ((List.replicate k 1).foldl mixS (mixF l l.length)).1]),(1,.var [.int .i64 ((List.replicate k 1).foldl mixS (mixF l l.length)).2])],2⟩) (fun _=>True) 3 0 (hdA [(0,0),(1,1)]) (by omega) trivial fun k hk _ J' hJ'=>?_
  by_cases h6:k<3
  ·simp only[push_cast,↓J1,↓J2,N1,N2,N3,reduceCtorEq,N4,N5,N6,reduceIte,N7,I1,I2,I3]
   refine ifB_intro (fun _=>⟨_,t211 hC _ _ _,?_⟩) (fun h=>by simp at h;omega)
   rintro v h' n' ⟨rfl,rfl,rfl⟩ _
   simp only[push_cast,↓J1,↓J2,N1,N2,N3,reduceCtorEq,N4,N5,N6,reduceIte,N7,I1,I2,I3]
   refine hJ' h6 trivial _ (hdA [(0,0),(1,1)] (hh:=?_))
   rw[List.replicate_succ',List.foldl_append]
   rfl
  ·obtain rfl:k=3:=by omega
   simp only[push_cast,↓J1,↓J2,N1,N2,N3,reduceCtorEq,N4,N5,N6,reduceIte,N7,I1,I2,I3]
   refine ifB_intro (fun h=>by simp at h) (fun h=>?_)
   have e3:([1,1,1]:List Int).foldl mixS (mixF l l.length)=mixL l:=by
    simp only[mixL,mixF,List.foldl_append]
   rw[e3]
   exact⟨rfl,rfl⟩
end
end Go.Proofs.YtlkcpadkjepchaaGreatDoor.X
set_option maxHeartbeats 4000000
set_option maxRecDepth 8000
set_option linter.unusedSimpArgs false
set_option linter.unusedVariables false
open Nat renaming reduceBEq→N1,reduceAdd→N2,reduceSub→N3,reduceMul→N4,reduceEqDiff→N5,reduceLeDiff→N6,reduceLT→N7
open Int renaming reduceLE→I1,reduceLT→I2,reduceToNat→I3
namespace Go.Proofs.YtlkcpadkjepchaaGreatDoor.X
open Go
attribute [local irreducible] Ev
def gaOk(x:Se)(s:Sta):Bool:=seOk x&&staOk x.b s
theorem se_brd{x:Se}(h:seOk x=true):brdOk x.b=true:=by
 simp only[seOk,Bool.and_eq_true] at h;exact h.1.1.1.1.1
theorem ga_eq{x:Se}{s:Sta}(h:seOk x=true):gaOk x s=staOk0 x.b s:=by
 simp only[gaOk,staOk,h,se_brd h,Bool.true_and]
section
variable{C:CT}(hC:Closed Tryz.prog G1 md0 C)
include hC
theorem t35(x:Se)(s:Sta)(hb:SeB (2^50) x)(hl:s.us.length<2^40):Ev C 35 [seF x,.agg (staF s)] (.bool (gaOk x s)):=by
 have c1:=t66 hC x hb
 have c2:=fun g=>t67 hC x.b s g hb.b hl
 simp only[seF,brdF,rulF,mpF,ctF,clA,List.cons_append,List.nil_append,staF] at *
 refine rT hC Q35 ?_
 simp only[c35,push_cast,↓J1,↓J2,N1,N2,N3,reduceCtorEq,N4,N5,N6,reduceIte,N7,I1,I2,I3]
 refine⟨_,c1,?_⟩
 cases g1:seOk x
 ·simp only[gaOk,g1,Bool.false_and,push_cast,↓J1,↓J2,N1,N2,N3,reduceCtorEq,N4,N5,N6,reduceIte,N7,I1,I2,I3]
 simp only[push_cast,↓J1,↓J2,N1,N2,N3,reduceCtorEq,N4,N5,N6,reduceIte,N7,I1,I2,I3]
 refine⟨_,c2 (se_brd g1),?_⟩
 simp only[ga_eq g1,push_cast,↓J1,↓J2,N1,N2,N3,reduceCtorEq,N4,N5,N6,reduceIte,N7,I1,I2,I3]
theorem t27(x:Se)(s:Sta)(sd:Int)(hb:SeB (2^50) x)(hl:s.us.length<2^40):Ev C 27 [seF x,.agg (staF s),.int .i64 sd] (.bool (gaOk x s&&inR 0 4611686016279904236 sd)):=by
 have c1:=t55 hC x hb
 have c2:=t56 hC x.b s hb.b hl
 have c3:=t57 hC sd
 simp only[seF,brdF,rulF,mpF,ctF,clA,List.cons_append,List.nil_append,staF] at *
 refine rT hC Q27 ?_
 simp only[c27,push_cast,↓J1,↓J2,N1,N2,N3,reduceCtorEq,N4,N5,N6,reduceIte,N7,I1,I2,I3]
 refine⟨_,c1,?_⟩
 cases g1:seOk x
 ·simp only[gaOk,g1,Bool.false_and,push_cast,↓J1,↓J2,N1,N2,N3,reduceCtorEq,N4,N5,N6,reduceIte,N7,I1,I2,I3]
 simp only[push_cast,↓J1,↓J2,N1,N2,N3,reduceCtorEq,N4,N5,N6,reduceIte,N7,I1,I2,I3]
 refine⟨_,c2,?_⟩
 cases g2:staOk x.b s
 ·simp only[gaOk,g1,g2,Bool.false_and,Bool.and_false,push_cast,↓J1,↓J2,N1,N2,N3,reduceCtorEq,N4,N5,N6,reduceIte,N7,I1,I2,I3]
 simp only[push_cast,↓J1,↓J2,N1,N2,N3,reduceCtorEq,N4,N5,N6,reduceIte,N7,I1,I2,I3]
 refine⟨_,c3,?_⟩
 simp only[gaOk,g1,g2,Bool.true_and,Bool.and_self,push_cast,↓J1,↓J2,N1,N2,N3,reduceCtorEq,N4,N5,N6,reduceIte,N7,I1,I2,I3]
end
end Go.Proofs.YtlkcpadkjepchaaGreatDoor.X
set_option maxHeartbeats 1000000
set_option maxRecDepth 8000
set_option linter.unusedSimpArgs false
set_option linter.unusedVariables false
open Nat renaming reduceBEq→N1,reduceAdd→N2,reduceSub→N3,reduceMul→N4,reduceEqDiff→N5,reduceLeDiff→N6,reduceLT→N7
open Int renaming reduceLE→I1,reduceLT→I2,reduceToNat→I3
namespace Go.Proofs.YtlkcpadkjepchaaGreatDoor.X
open Go
attribute [local irreducible] Ev szSS szRows
section
variable{C:CT}(hC:Closed Tryz.prog G1 md0 C)
include hC
end
end Go.Proofs.YtlkcpadkjepchaaGreatDoor.X
