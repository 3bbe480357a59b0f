/- A part of the proof: lemmas on the machine or on the functions that the law reaches. No condition of its own. -/
import Derived.Test.YtlkcpadkjepchaaGreatDoorXP7
import Derived.Test.YtlkcpadkjepchaaGreatDoorXP5
set_option maxHeartbeats 4000000
set_option maxRecDepth 8000
set_option linter.unusedSimpArgs false
set_option linter.unusedVariables false
open Nat renaming reduceBEq→N1,reduceAdd→N2,reduceSub→N3,reduceMul→N4,reduceEqDiff→N5,reduceLeDiff→N6,reduceLT→N7
open Int renaming reduceLE→I1,reduceLT→I2,reduceToNat→I3
namespace Go.Proofs.YtlkcpadkjepchaaGreatDoor.X
open Go
attribute [local irreducible] Ev
section
variable{C:CT}(hC:Closed Tryz.prog G1 md0 C)
include hC
theorem t224(w:Int)(r:Bool)(hw:0≤w∧w≤2):Ev C 224 [.int .i64 w,.bool r] (.int .i64 (if r then wRoad w else w)):=by
 refine rT hC Q224 ?_
 simp only[c224,push_cast,↓J1,↓J2,N1,N2,N3,reduceCtorEq,N4,N5,N6,reduceIte,N7,I1,I2,I3]
 cases r
 ·simp only[Bool.false_eq_true,if_false,push_cast,↓J1,↓J2,N1,N2,N3,reduceCtorEq,N4,N5,N6,reduceIte,N7,I1,I2,I3]
 ·have e:wRoad w=w.tdiv 2:=by
   simp only[wRoad]
   rcases(show w=0∨w=1∨w=2 by omega) with h | h | h<;>subst h<;>decide
  rw[if_pos rfl,e]
  simp only[push_cast,↓J1,↓J2,N1,N2,N3,reduceCtorEq,N4,N5,N6,reduceIte,N7,I1,I2,I3]
  have hq:0≤w.tdiv 2∧w.tdiv 2≤1:=by
   rcases(show w=0∨w=1∨w=2 by omega) with h | h | h<;>subst h<;>decide
  exact⟨by omega,wrap64 (by omega) (by omega)⟩
theorem t236(w:Int)(r:Bool)(hw:0≤w∧w≤2):Ev C 236 [.int .i64 w,.bool r] (.int .i64 (if r then wRoad w else w)):=by
 have w1:IntKind.i64.wrap (w-1)=w-1:=wrap64 (by omega) (by omega)
 refine rT hC Q236 ?_
 simp only[c236,push_cast,↓J1,↓J2,N1,N2,N3,reduceCtorEq,N4,N5,N6,reduceIte,N7,I1,I2,I3]
 cases r
 ·simp only[Bool.false_eq_true,if_false,push_cast,↓J1,↓J2,N1,N2,N3,reduceCtorEq,N4,N5,N6,reduceIte,N7,I1,I2,I3]
 ·simp only[wRoad,if_true]
  by_cases h:0<w
  ·have g1:decide (0<w)=true:=decide_eq_true h
   simp only[g1,if_pos h,w1,push_cast,↓J1,↓J2,N1,N2,N3,reduceCtorEq,N4,N5,N6,reduceIte,N7,I1,I2,I3]
  ·have g1:decide (0<w)=false:=decide_eq_false h
   simp only[g1,if_neg h,push_cast,↓J1,↓J2,N1,N2,N3,reduceCtorEq,N4,N5,N6,reduceIte,N7,I1,I2,I3]
theorem t202(b:Brd)(kd w i:Int)(d:Nat)(h:kindAsk b kd=true)(hw:0≤w∧w≤2)(hi:0≤i∧i<b.m.w*b.m.h)(hd:d<6)(hb:BrdB (2^50) b):Ev C 202 [brdF b,.int .i64 kd,.int .i64 i,.int .i64 (d:Int),.int .i64 w] (.int .i64 (stepM b kd w i d)):=by
 have g:brdOk b=true:=by simp only[kindAsk,Bool.and_eq_true] at h;exact h.1
 have hik:inR 0 (b.r.ks.length-1) kd=true:=by simp only[kindAsk,Bool.and_eq_true] at h;exact h.2
 have hm:=mp_wh (brd_mp g)
 have hwh:=wh_le hm.1 hm.2
 have hr:=brd_ru g
 simp only[rulOk,tailOk,inR,Bool.and_eq_true,decide_eq_true_eq] at hr
 have hn:=nextM_bnd (m:=b.m) (i:=i) (d:=d) hm.1 hm.2
 have hin: ∀k,0≤k→k<b.m.w*b.m.h→inR 0 (b.m.w*b.m.h-1) k=true:=fun k h1 h2=>by simp only[inR,Bool.and_eq_true,decide_eq_true_eq];omega
 have hcb:=fun k h1 h2=>cost_bnd h (i:=k) ⟨h1,h2⟩
 have c1:=t142 hC b.m i (d:Nat) hm.1 hm.2 (by omega) ⟨by omega,by omega⟩
 have c2:=fun k h1 h2=>t141 hC b kd k g hik (hin k h1 h2) hb
 have c3:=t221 hC b.m i d hm.1 hm.2 (by omega) hd hb.m
 have c4:=t220 hC b.m i d hm.1 hm.2 (by omega) hd hb.m
 have c5:=fun r=>t224 hC w r hw
 have hwr:0≤wRoad w∧wRoad w≤2:=by simp only[wRoad];constructor<;>split<;>omega
 simp only[brdF,rulF,mpF,List.cons_append,List.nil_append] at *
 refine rT hC Q202 ?_
 simp only[c202,push_cast,↓J1,↓J2,N1,N2,N3,reduceCtorEq,N4,N5,N6,reduceIte,N7,I1,I2,I3]
 refine⟨_,c1,?_⟩
 simp only[stepM]
 generalize edgeM b.m i d=e at *
 generalize nextM b.m i (d:Nat)=k at *
 by_cases h1:k<0
 ·have g1:decide (k<0)=true:=decide_eq_true h1
  simp only[g1,Bool.true_or,if_true,push_cast,↓J1,↓J2,N1,N2,N3,reduceCtorEq,N4,N5,N6,reduceIte,N7,I1,I2,I3]
 have g1:decide (k<0)=false:=decide_eq_false h1
 have h2:=hcb k (by omega) (by omega)
 have c2:=c2 k (by omega) (by omega)
 simp only[g1,Bool.false_or,push_cast,↓J1,↓J2,N1,N2,N3,reduceCtorEq,N4,N5,N6,reduceIte,N7,I1,I2,I3]
 refine⟨_,c2,?_⟩
 by_cases h3:costAt b kd k=0
 ·have g3:decide (costAt b kd k=0)=true:=decide_eq_true h3
  simp only[g3,if_pos h3,push_cast,↓J1,↓J2,N1,N2,N3,reduceCtorEq,N4,N5,N6,reduceIte,N7,I1,I2,I3]
 have g3:decide (costAt b kd k=0)=false:=decide_eq_false h3
 simp only[g3,Bool.false_eq_true,if_false,push_cast,↓J1,↓J2,N1,N2,N3,reduceCtorEq,N4,N5,N6,reduceIte,N7,I1,I2,I3]
 refine⟨_,c3,?_⟩
 cases hasI b.m.ro e
 rotate_left
 ·have w1:IntKind.i64.wrap (b.r.road+wRoad w)=b.r.road+wRoad w:=wrap64 (by omega) (by omega)
  simp only[if_true,push_cast,↓J1,↓J2,N1,N2,N3,reduceCtorEq,N4,N5,N6,reduceIte,N7,I1,I2,I3]
  refine⟨_,c5 true,?_⟩
  simp only[if_true,if_neg h3,w1,push_cast,↓J1,↓J2,N1,N2,N3,reduceCtorEq,N4,N5,N6,reduceIte,N7,I1,I2,I3]
 simp only[Bool.false_eq_true,if_false,push_cast,↓J1,↓J2,N1,N2,N3,reduceCtorEq,N4,N5,N6,reduceIte,N7,I1,I2,I3]
 have w1:IntKind.i64.wrap (costAt b kd k+w)=costAt b kd k+w:=wrap64 (by omega) (by omega)
 have w2:IntKind.i64.wrap (costAt b kd k+w+b.r.river)=costAt b kd k+w+b.r.river:=wrap64 (by omega) (by omega)
 refine⟨_,c2,?_⟩
 simp only[push_cast,↓J1,↓J2,N1,N2,N3,reduceCtorEq,N4,N5,N6,reduceIte,N7,I1,I2,I3]
 refine⟨_,c5 false,?_⟩
 simp only[Bool.false_eq_true,if_false,w1,push_cast,↓J1,↓J2,N1,N2,N3,reduceCtorEq,N4,N5,N6,reduceIte,N7,I1,I2,I3]
 refine⟨_,c4,?_⟩
 cases hasI b.m.ri e
 ·simp only[Bool.false_eq_true,if_false,if_neg h3,Int.add_zero,push_cast,↓J1,↓J2,N1,N2,N3,reduceCtorEq,N4,N5,N6,reduceIte,N7,I1,I2,I3]
 ·simp only[if_true,if_neg h3,w2,push_cast,↓J1,↓J2,N1,N2,N3,reduceCtorEq,N4,N5,N6,reduceIte,N7,I1,I2,I3]
theorem t216(b:Brd)(kd w i:Int)(d:Nat)(h:kindAsk b kd=true)(hw:0≤w∧w≤2)(hi:0≤i∧i<b.m.w*b.m.h)(hd:d<6)(hb:BrdB (2^50) b):Ev C 216 [brdF b,.int .i64 kd,.int .i64 w,.int .i64 i,.int .i64 (d:Int)] (.int .i64 (stepM b kd w i d)):=by
 have g:brdOk b=true:=by simp only[kindAsk,Bool.and_eq_true] at h;exact h.1
 have hik:inR 0 (b.r.ks.length-1) kd=true:=by simp only[kindAsk,Bool.and_eq_true] at h;exact h.2
 have hm:=mp_wh (brd_mp g)
 have hwh:=wh_le hm.1 hm.2
 have hr:=brd_ru g
 simp only[rulOk,tailOk,inR,Bool.and_eq_true,decide_eq_true_eq] at hr
 have hn:=nextM_bnd (m:=b.m) (i:=i) (d:=d) hm.1 hm.2
 have hin: ∀k,0≤k→k<b.m.w*b.m.h→inR 0 (b.m.w*b.m.h-1) k=true:=fun k h1 h2=>by simp only[inR,Bool.and_eq_true,decide_eq_true_eq];omega
 have hcb:=fun k h1 h2=>cost_bnd h (i:=k) ⟨h1,h2⟩
 have c1:=t210 hC b.m i (d:Nat) hm.1 hm.2 (by omega) ⟨by omega,by omega⟩
 have c2:=fun k h1 h2=>t167 hC b kd k g hik (hin k h1 h2) hb
 have c6:=fun hx=>t175 hC b.m i d hm.1 hm.2 (by omega) hd hx
 have c3:=fun e=>t213 hC b.m.ro e hb.m.ro
 have c4:=fun e=>t213 hC b.m.ri e hb.m.ri
 have c5:=fun r=>t236 hC w r hw
 have hwr:0≤wRoad w∧wRoad w≤2:=by simp only[wRoad];constructor<;>split<;>omega
 simp only[brdF,rulF,mpF,List.cons_append,List.nil_append] at *
 refine rT hC Q216 ?_
 simp only[c216,push_cast,↓J1,↓J2,N1,N2,N3,reduceCtorEq,N4,N5,N6,reduceIte,N7,I1,I2,I3]
 refine⟨_,c1,?_⟩
 simp only[stepM]
 generalize edgeM b.m i d=e at *
 generalize nextM b.m i (d:Nat)=k at *
 by_cases h1:k<0
 ·have g1:decide (k<0)=true:=decide_eq_true h1
  simp only[g1,Bool.true_or,if_true,push_cast,↓J1,↓J2,N1,N2,N3,reduceCtorEq,N4,N5,N6,reduceIte,N7,I1,I2,I3]
 have g1:decide (k<0)=false:=decide_eq_false h1
 have h2:=hcb k (by omega) (by omega)
 have c2:=c2 k (by omega) (by omega)
 simp only[g1,Bool.false_or,push_cast,↓J1,↓J2,N1,N2,N3,reduceCtorEq,N4,N5,N6,reduceIte,N7,I1,I2,I3]
 refine⟨_,c2,?_⟩
 by_cases h3:costAt b kd k=0
 ·have g3:decide (costAt b kd k=0)=true:=decide_eq_true h3
  simp only[g3,if_pos h3,push_cast,↓J1,↓J2,N1,N2,N3,reduceCtorEq,N4,N5,N6,reduceIte,N7,I1,I2,I3]
 have g3:decide (costAt b kd k=0)=false:=decide_eq_false h3
 simp only[g3,Bool.false_eq_true,if_false,push_cast,↓J1,↓J2,N1,N2,N3,reduceCtorEq,N4,N5,N6,reduceIte,N7,I1,I2,I3]
 refine⟨_,c6 (by omega),?_⟩
 simp only[push_cast,↓J1,↓J2,N1,N2,N3,reduceCtorEq,N4,N5,N6,reduceIte,N7,I1,I2,I3]
 refine⟨_,c3 _,?_⟩
 cases hasI b.m.ro e
 rotate_left
 ·have w1:IntKind.i64.wrap (b.r.road+wRoad w)=b.r.road+wRoad w:=wrap64 (by omega) (by omega)
  simp only[if_true,push_cast,↓J1,↓J2,N1,N2,N3,reduceCtorEq,N4,N5,N6,reduceIte,N7,I1,I2,I3]
  refine⟨_,c5 true,?_⟩
  simp only[if_true,if_neg h3,w1,push_cast,↓J1,↓J2,N1,N2,N3,reduceCtorEq,N4,N5,N6,reduceIte,N7,I1,I2,I3]
 simp only[Bool.false_eq_true,if_false,push_cast,↓J1,↓J2,N1,N2,N3,reduceCtorEq,N4,N5,N6,reduceIte,N7,I1,I2,I3]
 have w1:IntKind.i64.wrap (costAt b kd k+w)=costAt b kd k+w:=wrap64 (by omega) (by omega)
 have w2:IntKind.i64.wrap (costAt b kd k+w+b.r.river)=costAt b kd k+w+b.r.river:=wrap64 (by omega) (by omega)
 refine⟨_,c2,?_⟩
 simp only[push_cast,↓J1,↓J2,N1,N2,N3,reduceCtorEq,N4,N5,N6,reduceIte,N7,I1,I2,I3]
 refine⟨_,c5 false,?_⟩
 simp only[Bool.false_eq_true,if_false,w1,push_cast,↓J1,↓J2,N1,N2,N3,reduceCtorEq,N4,N5,N6,reduceIte,N7,I1,I2,I3]
 refine⟨_,c4 _,?_⟩
 cases hasI b.m.ri e
 ·simp only[Bool.false_eq_true,if_false,if_neg h3,Int.add_zero,push_cast,↓J1,↓J2,N1,N2,N3,reduceCtorEq,N4,N5,N6,reduceIte,N7,I1,I2,I3]
 ·simp only[if_true,if_neg h3,w2,push_cast,↓J1,↓J2,N1,N2,N3,reduceCtorEq,N4,N5,N6,reduceIte,N7,I1,I2,I3]
end
end Go.Proofs.YtlkcpadkjepchaaGreatDoor.X
set_option maxHeartbeats 4000000
set_option maxRecDepth 8000
set_option linter.unusedSimpArgs false
set_option linter.unusedVariables false
open Nat renaming reduceBEq→N1,reduceAdd→N2,reduceSub→N3,reduceMul→N4,reduceEqDiff→N5,reduceLeDiff→N6,reduceLT→N7
open Int renaming reduceLE→I1,reduceLT→I2,reduceToNat→I3
namespace Go.Proofs.YtlkcpadkjepchaaGreatDoor.X
open Go
attribute [local irreducible] Ev
theorem gidx_any{α:Type}(p:α→Bool)(l:List α):decide (0≤gidx p l)=l.any p:=by
 rw[Bool.eq_iff_iff,decide_eq_true_eq,List.any_eq_true]
 simp only[gidx]
 constructor
 ·intro h
  split at h
  ·rename_i h1
   exact⟨_,List.getElem_mem h1,List.findIdx_getElem (w:=h1)⟩
  ·omega
 ·rintro⟨x,hx,hp⟩
  rw[if_pos (List.findIdx_lt_length.2 ⟨x,hx,hp⟩)];omega
theorem uns_int{s:Sta}{k:Int}(h:0≤k∧k<(s.us.length:Int)):(uns s.us)[k.toNat]?=some (unA (unOf s k)):=by
 have hk:k.toNat<s.us.length:=by omega
 simp[uns,unOf,List.getD,hk]
theorem fold_snoc{β:Type}(f:β→Int→β)(c:β){l:List Int}{i:Nat}(h:i<l.length):(l.take (i+1)).foldl f c=f ((l.take i).foldl f c) (l.getD i 0):=by
 rw[List.take_succ_eq_append_getElem h,List.foldl_append];simp[List.getD,h]
def mst(s:Sta)(c k:Int):Int:=if(unOf s c).st<(unOf s k).st then k else c
theorem mostU_eq(s:Sta)(l:List Int):mostU s l=l.foldl (mst s) (l.getD 0 0):=rfl
theorem mst_in{s:Sta}{l:List Int}{c:Int}(hc:0≤c∧c<(s.us.length:Int))(hk: ∀k∈l,0≤k∧k<(s.us.length:Int)):0≤l.foldl (mst s) c∧l.foldl (mst s) c<(s.us.length:Int):=by
 have:=mostU_in s (l:=l) c
 rcases List.mem_cons.1 this with h | h
 ·rw[show l.foldl (mst s) c=c from h];exact hc
 ·exact hk _ h
theorem sumK_take(f:Un→Int)(s:Sta){l:List Int}{i:Nat}(h:i<l.length):sumK f s (l.take (i+1))=sumK f s (l.take i)+f (unOf s (l.getD i 0)):=by
 rw[List.take_succ_eq_append_getElem h,sumK_snoc];simp[List.getD,h]
def aSid(m:Mp)(i a:Int):Int:=if 0≤a then dirOn m i a else -1
section
variable{C:CT}(hC:Closed Tryz.prog G1 md0 C)
include hC
theorem t169(l:List Od)(y:Od)(hl:l.length<2^50):Ev C 169 [.sl (ods l),.agg (odA y)] (.int .i64 (gidx (fun x=>decide (y.a=x.a)&&decide (y.b=x.b)) l)):=by
 simp only[odA]
 refine rT hC Q169 ?_
 simp only[c169,ods_length,push_cast,↓J1,↓J2,N1,N2,N3,reduceCtorEq,N4,N5,N6,reduceIte,N7,I1,I2,I3]
 refine RL_count (fun i=>⟨tb 19 .any [(0,.sl (ods l)),(3,.ptr 0 none 0 0 0),(7,.int .i64 (l.length:Int)),(8,.int .i64 (i:Int))],[(0,.var (odA y))],1⟩) (fun i=> ∀j (h:j<l.length),j<i→(decide (y.a=l[j].a)&&decide (y.b=l[j].b))=false) l.length 0 (hdA [(0,0)]) (by omega) (by intro j h h';omega) fun i hi' ht J hJ=>?_
 simp only[odA]
 by_cases h1:i<l.length
 ·have e1:(ods l)[i]?=some (odA l[i]):=by simp[ods,h1]
  simp only[Int.toNat_natCast,e1,odA,push_cast,↓J1,↓J2,N1,N2,N3,reduceCtorEq,N4,N5,N6,reduceIte,N7,I1,I2,I3]
  refine ifB_intro (fun _=>?_) (fun h=>by simp at h;omega)
  repeat (refine⟨by omega,?_⟩)
  refine ifB_intro (fun h=>?_) (fun h=>?_)
  ·exact(gidx_at (p:=fun x=>decide (y.a=x.a)&&decide (y.b=x.b)) h1 h ht).symm
  ·refine hJ h1 ?_ _ (hdA [(0,0)])
   intro j hj hji
   by_cases hij:j=i
   ·subst hij;exact h
   ·exact ht j hj (by omega)
 ·simp only[ods_length,push_cast,↓J1,↓J2,N1,N2,N3,reduceCtorEq,N4,N5,N6,reduceIte,N7,I1,I2,I3]
  refine ifB_intro (fun h=>by simp at h;omega) (fun h=>?_)
  exact(gidx_no fun j hj=>ht j hj (by omega)).symm
theorem t118(l:List Od)(k i:Int)(hl:l.length<2^50):Ev C 118 [.sl (ods l),.agg [.int .i64 k,.int .i64 i]] (.bool (hasA l k i)):=by
 have c1:=t169 hC l ⟨k,i⟩ hl
 have e:hasA l k i=l.any (fun x=>decide (k=x.a)&&decide (i=x.b)):=by
  simp only[hasA];congr 1;funext x;rw[Bool.eq_iff_iff];simp only[Bool.and_eq_true,decide_eq_true_eq]
  constructor<;>rintro⟨rfl,rfl⟩<;>exact⟨rfl,rfl⟩
 simp only[odA] at c1
 refine rT hC Q118 ?_
 simp only[c118,push_cast,↓J1,↓J2,N1,N2,N3,reduceCtorEq,N4,N5,N6,reduceIte,N7,I1,I2,I3]
 refine⟨_,c1,?_⟩
 simp only[gidx_any,e,push_cast,↓J1,↓J2,N1,N2,N3,reduceCtorEq,N4,N5,N6,reduceIte,N7,I1,I2,I3]
theorem t168(m:Mp)(i k:Int)(hw:1≤m.w∧m.w≤10)(hh:1≤m.h∧m.h≤10)(hi:0≤i∧i<300):Ev C 168 [.agg (mpF m),.int .i64 i,.int .i64 k] (.int .i64 (dirOn m i k)):=by
 have c2:=fun d (h3:d<6)=>t210 hC m i (d:Nat) hw hh hi ⟨by omega,by omega⟩
 simp only[mpF] at *
 refine rT hC Q168 ?_
 simp only[c168,push_cast,↓J1,↓J2,N1,N2,N3,reduceCtorEq,N4,N5,N6,reduceIte,N7,I1,I2,I3]
 refine RL_count (fun j=>⟨tb 19 .any [(1,.int .i64 i),(2,.int .i64 k),(3,.ptr 0 none 0 0 0),(8,.int .i64 (j:Int))],[(0,.var (mpF m))],1⟩) (fun j=> ∀d,d<j→decide (nextM m i (d:Nat)=k)=false) 6 0 (hdA [(0,0)]) (by omega) (by intro d h;omega) fun j hj ht J hJ=>?_
 simp only[mpF]
 by_cases h1:j<6
 ·have g5:decide ((j:Int)<6)=true:=decide_eq_true (by omega)
  simp only[g5,push_cast,↓J1,↓J2,N1,N2,N3,reduceCtorEq,N4,N5,N6,reduceIte,N7,I1,I2,I3]
  refine⟨_,c2 j h1,?_⟩
  simp only[push_cast,↓J1,↓J2,N1,N2,N3,reduceCtorEq,N4,N5,N6,reduceIte,N7,I1,I2,I3]
  cases g4:decide (nextM m i (j:Int)=k)
  ·simp only[g4,push_cast,↓J1,↓J2,N1,N2,N3,reduceCtorEq,N4,N5,N6,reduceIte,N7,I1,I2,I3]
   refine hJ h1 ?_ _ (hdA [(0,0)])
   intro d hd
   by_cases hdj:d=j
   ·subst hdj;exact g4
   ·exact ht d (by omega)
  ·simp only[g4,dirOn,first6_at (p:=fun d=>decide (nextM m i (d:Nat)=k)) h1 g4 ht,push_cast,↓J1,↓J2,N1,N2,N3,reduceCtorEq,N4,N5,N6,reduceIte,N7,I1,I2,I3]
 ·have g5:decide ((j:Int)<6)=false:=decide_eq_false (by omega)
  simp only[g5,dirOn,first6_no (p:=fun d=>decide (nextM m i (d:Nat)=k)) (fun d hd=>ht d (by omega)),push_cast,↓J1,↓J2,N1,N2,N3,reduceCtorEq,N4,N5,N6,reduceIte,N7,I1,I2,I3]
theorem t117(b:Brd)(u:Un)(i:Int)(g:brdOk b=true)(hi:0≤i∧i<300):Ev C 117 [brdF b,.agg (unA u),.int .i64 i] (.bool (decide (0≤u.at_)&&decide (0≤dirOn b.m i u.at_))):=by
 have hm:=mp_wh (brd_mp g)
 have c1:=t168 hC b.m i u.at_ hm.1 hm.2 hi
 simp only[brdF,rulF,mpF,List.cons_append,List.nil_append,unA] at *
 refine rT hC Q117 ?_
 simp only[c117,push_cast,↓J1,↓J2,N1,N2,N3,reduceCtorEq,N4,N5,N6,reduceIte,N7,I1,I2,I3]
 cases decide (0≤u.at_)
 ·simp only[push_cast,↓J1,↓J2,N1,N2,N3,reduceCtorEq,N4,N5,N6,reduceIte,N7,I1,I2,I3]
 simp only[push_cast,↓J1,↓J2,N1,N2,N3,reduceCtorEq,N4,N5,N6,reduceIte,N7,I1,I2,I3]
 refine⟨_,c1,?_⟩
 simp only[push_cast,↓J1,↓J2,N1,N2,N3,reduceCtorEq,N4,N5,N6,reduceIte,N7,I1,I2,I3]
theorem t96(b:Brd)(s:Sta)(i u:Int)(g:brdOk b=true)(hi:0≤i∧i<300)(hu:0≤u∧u<(s.us.length:Int))(hl:s.us.length<2^40):Ev C 96 [brdF b,.agg (staF s),.int .i64 i,.int .i64 u] (.int .i64 (aSid b.m i (unOf s u).at_)):=by
 have hm:=mp_wh (brd_mp g)
 have e1:=uns_int hu
 have c2:=fun d (h3:d<6)=>t142 hC b.m i (d:Nat) hm.1 hm.2 hi ⟨by omega,by omega⟩
 generalize unOf s u=x at *
 simp only[brdF,rulF,mpF,List.cons_append,List.nil_append,staF,unA] at *
 refine rT hC Q96 ?_
 simp only[c96,push_cast,↓J1,↓J2,N1,N2,N3,reduceCtorEq,N4,N5,N6,reduceIte,N7,I1,I2,I3]
 refine RL_count (fun j=>⟨tb 33 .any [(2,.int .i64 i),(3,.int .i64 u),(4,.ptr 0 none 0 0 0),(5,.ptr 1 none 0 0 0),(9,.int .i64 (j:Int))],[(1,.var (staF s)),(0,.var (rulF b.r++mpF b.m))],2⟩) (fun j=> ∀d,d<j→(decide (0≤nextM b.m i (d:Nat))&&decide (nextM b.m i (d:Nat)=x.at_))=false) 6 0 (hdA [(1,1),(0,0)]) (by omega) (by intro d h;omega) fun j hj ht J hJ=>?_
 simp only[brdF,rulF,mpF,List.cons_append,List.nil_append,staF]
 by_cases h1:j<6
 ·have g5:decide ((j:Int)<6)=true:=decide_eq_true (by omega)
  simp only[g5,push_cast,↓J1,↓J2,N1,N2,N3,reduceCtorEq,N4,N5,N6,reduceIte,N7,I1,I2,I3]
  refine⟨_,c2 j h1,?_⟩
  simp only[push_cast,↓J1,↓J2,N1,N2,N3,reduceCtorEq,N4,N5,N6,reduceIte,N7,I1,I2,I3]
  have hn:(decide (0≤nextM b.m i (j:Nat))&&decide (nextM b.m i (j:Nat)=x.at_))=false→ ∀d,d<j+1→(decide (0≤nextM b.m i (d:Nat))&&decide (nextM b.m i (d:Nat)=x.at_))=false:=by
   intro h d hd
   by_cases hdj:d=j
   ·subst hdj;exact h
   ·exact ht d (by omega)
  cases g3:decide (0≤nextM b.m i (j:Int))
  ·simp only[g3,push_cast,↓J1,↓J2,N1,N2,N3,reduceCtorEq,N4,N5,N6,reduceIte,N7,I1,I2,I3]
   exact hJ h1 (hn (by simp only[g3,Bool.false_and])) _ (hdA [(1,1),(0,0)])
  simp only[g3,e1,uns_length,push_cast,↓J1,↓J2,N1,N2,N3,reduceCtorEq,N4,N5,N6,reduceIte,N7,I1,I2,I3]
  repeat (refine⟨by omega,?_⟩)
  cases g4:decide (nextM b.m i (j:Int)=x.at_)
  ·simp only[g4,push_cast,↓J1,↓J2,N1,N2,N3,reduceCtorEq,N4,N5,N6,reduceIte,N7,I1,I2,I3]
   exact hJ h1 (hn (by simp only[g4,Bool.and_false])) _ (hdA [(1,1),(0,0)])
  ·have h0:=of_decide_eq_true g3
   have h5:=of_decide_eq_true g4
   have ht': ∀d,d<j→decide (nextM b.m i (d:Nat)=x.at_)=false:=by
    intro d hd
    have:=ht d hd
    rw[decide_eq_false_iff_not]
    intro e
    rw[e,decide_eq_true rfl,decide_eq_true (by omega)] at this
    cases this
   have hf:aSid b.m i x.at_=j:=by simp only[aSid,if_pos (show 0≤x.at_ by omega),dirOn,first6_at (p:=fun d=>decide (nextM b.m i (d:Nat)=x.at_)) h1 g4 ht']
   simp only[g4,hf,push_cast,↓J1,↓J2,N1,N2,N3,reduceCtorEq,N4,N5,N6,reduceIte,N7,I1,I2,I3]
 ·have g5:decide ((j:Int)<6)=false:=decide_eq_false (by omega)
  have hf:aSid b.m i x.at_= -1:=by
   simp only[aSid]
   split
   ·rename_i h0
    simp only[dirOn]
    rw[first6_no]
    intro d hd
    have:=ht d (by omega)
    rw[decide_eq_false_iff_not]
    intro e
    rw[e,decide_eq_true rfl,decide_eq_true h0] at this
    cases this
   ·rfl
  simp only[g5,hf,push_cast,↓J1,↓J2,N1,N2,N3,reduceCtorEq,N4,N5,N6,reduceIte,N7,I1,I2,I3]
theorem t193(b:Brd)(s:Sta)(i:Int)(hb:BrdB (2^50) b)(hl:s.us.length<2^40):Ev C 193 [brdF b,.agg (staF s),.int .i64 i] (.bool (staOk b s&&inR 0 (b.m.w*b.m.h-1) i)):=by
 have c1:=t56 hC b s hb hl
 have c2:=fun g=>t94 hC b.m (mp_wh (brd_mp (sta_brd (b:=b) (s:=s) g))).1 (mp_wh (brd_mp (sta_brd (b:=b) (s:=s) g))).2
 have hwh:=fun g=>brd_wh (sta_brd (b:=b) (s:=s) g)
 generalize staOk b s=ok at *
 simp only[brdF,rulF,mpF,List.cons_append,List.nil_append,staF] at *
 refine rT hC Q193 ?_
 simp only[c193,push_cast,↓J1,↓J2,N1,N2,N3,reduceCtorEq,N4,N5,N6,reduceIte,N7,I1,I2,I3]
 refine⟨_,c1,?_⟩
 cases ok
 ·simp only[push_cast,↓J1,↓J2,N1,N2,N3,reduceCtorEq,N4,N5,N6,reduceIte,N7,I1,I2,I3]
 simp only[push_cast,↓J1,↓J2,N1,N2,N3,reduceCtorEq,N4,N5,N6,reduceIte,N7,I1,I2,I3]
 refine⟨_,c2 rfl,?_⟩
 have hwh:=hwh rfl
 simp only[push_cast,↓J1,↓J2,N1,N2,N3,reduceCtorEq,N4,N5,N6,reduceIte,N7,I1,I2,I3]
 rw[wrap64 (n:=b.m.w*b.m.h-1) (by omega) (by omega)]
 refine⟨_,tIn hC _ _ _,?_⟩
 simp only[push_cast,↓J1,↓J2,N1,N2,N3,reduceCtorEq,N4,N5,N6,reduceIte,N7,I1,I2,I3]
theorem t194(l:List Int)(hl:l.length<2^40):Ev C 194 [.sl (ints l),.sl (ints l)] (.bool true):=by
 refine rT hC Q194 ?_
 simp only[c194,ints_length,push_cast,↓J1,↓J2,N1,N2,N3,reduceCtorEq,N4,N5,N6,reduceIte,N7,I1,I2,I3]
 refine RL_count (fun i=>⟨tb 26 .any [(0,.sl (ints l)),(1,.sl (ints l)),(12,.int .i64 (l.length:Int)),(13,.int .i64 (i:Int))],[],0⟩) (fun _=>True) l.length 0 (hdA []) (by omega) trivial fun i hi' ht J hJ=>?_
 by_cases h1:i<l.length
 ·have e1:=cut_ints_get h1
  have hlt:decide ((i:Int)<(l.length:Int))=true:=decide_eq_true (by omega)
  have z:(!decide (l.getD i 0=l.getD i 0))=false:=by simp
  simp only[hlt,Int.toNat_natCast,e1,z,ints_length,push_cast,↓J1,↓J2,N1,N2,N3,reduceCtorEq,N4,N5,N6,reduceIte,N7,I1,I2,I3]
  repeat (refine⟨by omega,?_⟩)
  exact hJ h1 trivial _ (hdA [])
 ·have hlt:decide ((i:Int)<(l.length:Int))=false:=decide_eq_false (by omega)
  simp only[hlt,push_cast,↓J1,↓J2,N1,N2,N3,reduceCtorEq,N4,N5,N6,reduceIte,N7,I1,I2,I3]
theorem t178(s:Sta)(l:List Int)(h0:l≠[])(hk: ∀k∈l,0≤k∧k<(s.us.length:Int))(hl:l.length<2^40)(hs:s.us.length<2^40):Ev C 178 [.agg (staF s),.sl (ints l)] (.int .i64 (mostU s l)):=by
 have hp:=List.length_pos_iff.2 h0
 have e0:=cut_ints_get hp
 have hc:=hk _ (getD_in hp)
 rw[mostU_eq]
 simp only[staF] at *
 refine rT hC Q178 ?_
 simp only[c178,ints_length,push_cast,↓J1,↓J2,N1,N2,N3,reduceCtorEq,N4,N5,N6,reduceIte,N7,I1,I2,I3]
 simp only[e0,ints_length,push_cast,↓J1,↓J2,N1,N2,N3,reduceCtorEq,N4,N5,N6,reduceIte,N7,I1,I2,I3]
 repeat (refine⟨by omega,?_⟩)
 refine RL_count (fun i=>⟨tb 33 .any [(2,.ptr 0 none 0 0 0),(5,.int .i64 ((l.take i).foldl (mst s) (l.getD 0 0))),(11,.sl (ints l)),(12,.int .i64 (l.length:Int)),(13,.int .i64 (i:Int))],[(0,.var (staF s))],1⟩) (fun _=>True) l.length 0 (hdA [(0,0)]) (by omega) trivial fun i hi _ J hJ=>?_
 simp only[staF]
 by_cases h1:i<l.length
 ·have e1:=cut_ints_get h1
  have hlt:decide ((i:Int)<(l.length:Int))=true:=decide_eq_true (by omega)
  have hx:=hk _ (getD_in h1)
  have es:=fold_snoc (mst s) (l.getD 0 0) h1
  have hy:=mst_in (l:=l.take i) hc fun k h=>hk k (List.mem_of_mem_take h)
  generalize (l.take i).foldl (mst s) (l.getD 0 0)=c at *
  generalize l.getD i 0=k at *
  have hJ1:=hJ h1 trivial
  rw[es] at hJ1
  simp only[mst] at hJ1
  simp only[hlt,Int.toNat_natCast,e1,ints_length,push_cast,↓J1,↓J2,N1,N2,N3,reduceCtorEq,N4,N5,N6,reduceIte,N7,I1,I2,I3]
  repeat (refine⟨by omega,?_⟩)
  simp only[uns_int hx,uns_int hy,unA,uns_length,push_cast,↓J1,↓J2,N1,N2,N3,reduceCtorEq,N4,N5,N6,reduceIte,N7,I1,I2,I3]
  repeat (refine⟨by omega,?_⟩)
  refine ifB_intro (fun h=>?_) (fun h=>?_)
  ·rw[if_pos (of_decide_eq_true h)] at hJ1;exact hJ1 _ (hdA [(0,0)])
  ·rw[if_neg (of_decide_eq_false h)] at hJ1;exact hJ1 _ (hdA [(0,0)])
 ·have hlt:decide ((i:Int)<(l.length:Int))=false:=decide_eq_false (by omega)
  obtain rfl:i=l.length:=by omega
  simp only[hlt,List.take_length,push_cast,↓J1,↓J2,N1,N2,N3,reduceCtorEq,N4,N5,N6,reduceIte,N7,I1,I2,I3]
theorem t151(s:Sta)(l:List Int)(h0:l≠[])(hk: ∀k∈l,0≤k∧k<(s.us.length:Int))(hl:l.length<2^40)(hs:s.us.length<2^40):Ev C 151 [.agg (staF s),.sl (ints l)] (.int .i64 (mostU s l)):=by
 have hp:=List.length_pos_iff.2 h0
 have e0:=cut_ints_get hp
 have hc:=hk _ (getD_in hp)
 rw[mostU_eq]
 simp only[staF] at *
 refine rT hC Q151 ?_
 simp only[c151,ints_length,push_cast,↓J1,↓J2,N1,N2,N3,reduceCtorEq,N4,N5,N6,reduceIte,N7,I1,I2,I3]
 simp only[e0,ints_length,push_cast,↓J1,↓J2,N1,N2,N3,reduceCtorEq,N4,N5,N6,reduceIte,N7,I1,I2,I3]
 repeat (refine⟨by omega,?_⟩)
 refine RL_count (fun i=>⟨tb 33 .any [(2,.ptr 0 none 0 0 0),(5,.int .i64 ((l.take i).foldl (mst s) (l.getD 0 0))),(11,.sl (ints l)),(12,.int .i64 (l.length:Int)),(13,.int .i64 (i:Int))],[(0,.var (staF s))],1⟩) (fun _=>True) l.length 0 (hdA [(0,0)]) (by omega) trivial fun i hi _ J hJ=>?_
 simp only[staF]
 by_cases h1:i<l.length
 ·have e1:=cut_ints_get h1
  have hlt:decide ((i:Int)<(l.length:Int))=true:=decide_eq_true (by omega)
  have hx:=hk _ (getD_in h1)
  have es:=fold_snoc (mst s) (l.getD 0 0) h1
  have hy:=mst_in (l:=l.take i) hc fun k h=>hk k (List.mem_of_mem_take h)
  generalize (l.take i).foldl (mst s) (l.getD 0 0)=c at *
  generalize l.getD i 0=k at *
  have hJ1:=hJ h1 trivial
  rw[es] at hJ1
  simp only[mst] at hJ1
  simp only[hlt,Int.toNat_natCast,e1,ints_length,push_cast,↓J1,↓J2,N1,N2,N3,reduceCtorEq,N4,N5,N6,reduceIte,N7,I1,I2,I3]
  repeat (refine⟨by omega,?_⟩)
  simp only[uns_int hx,uns_int hy,unA,uns_length,push_cast,↓J1,↓J2,N1,N2,N3,reduceCtorEq,N4,N5,N6,reduceIte,N7,I1,I2,I3]
  repeat (refine⟨by omega,?_⟩)
  refine ifB_intro (fun h=>?_) (fun h=>?_)
  ·rw[if_pos (of_decide_eq_true h)] at hJ1;exact hJ1 _ (hdA [(0,0)])
  ·rw[if_neg (of_decide_eq_false h)] at hJ1;exact hJ1 _ (hdA [(0,0)])
 ·have hlt:decide ((i:Int)<(l.length:Int))=false:=decide_eq_false (by omega)
  obtain rfl:i=l.length:=by omega
  simp only[hlt,List.take_length,push_cast,↓J1,↓J2,N1,N2,N3,reduceCtorEq,N4,N5,N6,reduceIte,N7,I1,I2,I3]
theorem t219(b:Brd)(s:Sta)(u:Int)(h:staOk b s=true)(hu:0≤u∧u<(s.us.length:Int))(hb:BrdB (2^50) b):Ev C 219 [brdF b,.agg (staF s),.int .i64 u] (.int .i64 (forceU b (unOf s u))):=by
 have e1:=uns_int hu
 have hl:=sta_len h
 have hf:=force_un h hu
 have hx:unOk b (unOf s u)=true:=by
  obtain⟨u,rfl⟩: ∃m:Nat,u=m:=⟨u.toNat,by omega⟩
  exact sta_un h (k:=u) (by omega)
 have hk:=kind_at (un_kind (sta_brd h) (by simp only[unOk,Bool.and_eq_true] at hx;exact hx.1.1.2))
 have e2:=kins_get (b:=b) (k:=(unOf s u).k.toNat) (by omega)
 have b2:=hb.r.ks
 rw[show(((unOf s u).k.toNat:Nat):Int)=(unOf s u).k by omega] at e2
 simp only[forceU] at *
 generalize unOf s u=x at *
 simp only[brdF,rulF,mpF,List.cons_append,List.nil_append,staF,unA,kinA] at *
 refine rT hC Q219 ?_
 simp only[c219,e1,push_cast,↓J1,↓J2,N1,N2,N3,reduceCtorEq,N4,N5,N6,reduceIte,N7,I1,I2,I3]
 simp only[uns_length,e2,kins_length,push_cast,↓J1,↓J2,N1,N2,N3,reduceCtorEq,N4,N5,N6,reduceIte,N7,I1,I2,I3]
 repeat (refine⟨by omega,?_⟩)
 simp only[kinA,uns_length,e1,e2,kins_length,push_cast,↓J1,↓J2,N1,N2,N3,reduceCtorEq,N4,N5,N6,reduceIte,N7,I1,I2,I3]
 repeat (refine⟨by omega,?_⟩)
 rw[wrap64 (by omega) (by omega)]
theorem t122(t:Ct)(a d:Int)(h:ctOk t=true)(ha:0≤a∧a≤1000)(hd:0≤d∧d≤1000):Ev C 122 [.agg (ctF t),.int .i64 a,.int .i64 d] (.int .i64 (colT t a d t.cs.length)):=by
 have hl:=ct_in h
 simp only[ctF] at *
 refine rT hC Q122 ?_
 simp only[c122,ods_length,push_cast,↓J1,↓J2,N1,N2,N3,reduceCtorEq,N4,N5,N6,reduceIte,N7,I1,I2,I3]
 refine RL_count (fun i=>⟨tb 30 .any [(1,.int .i64 a),(2,.int .i64 d),(7,.int .i64 (colT t a d i)),(11,.sl (ods t.cs)),(12,.int .i64 (t.cs.length:Int)),(13,.int .i64 (i:Int))],[],0⟩) (fun _=>True) t.cs.length 0 (hdA []) (by omega) trivial fun i hi _ J hJ=>?_
 by_cases h1:i<t.cs.length
 ·have e1:(ods t.cs)[i]?=some (odA (t.cs.getD i od0)):=by simp[ods,List.getD,h1]
  have hlt:decide ((i:Int)<(t.cs.length:Int))=true:=decide_eq_true (by omega)
  have hx:=hl.2.2.2.1 i h1
  have hJ1:=hJ h1 trivial
  rw[colT_succ] at hJ1
  generalize t.cs.getD i od0=o at *
  have m1:0≤a*o.b∧a*o.b≤1000*20:=⟨Int.mul_nonneg ha.1 (by omega),Int.mul_le_mul ha.2 (by omega) (by omega) (by omega)⟩
  have m2:0≤d*o.a∧d*o.a≤1000*20:=⟨Int.mul_nonneg hd.1 (by omega),Int.mul_le_mul hd.2 (by omega) (by omega) (by omega)⟩
  have w1:IntKind.i64.wrap (a*o.b)=a*o.b:=wrap64 (by omega) (by omega)
  have w2:IntKind.i64.wrap (d*o.a)=d*o.a:=wrap64 (by omega) (by omega)
  simp only[hlt,Int.toNat_natCast,e1,odA,ods_length,w1,w2,push_cast,↓J1,↓J2,N1,N2,N3,reduceCtorEq,N4,N5,N6,reduceIte,N7,I1,I2,I3]
  repeat (refine⟨by omega,?_⟩)
  refine ifB_intro (fun h=>?_) (fun h=>?_)
  ·rw[if_pos (of_decide_eq_true h)] at hJ1;exact hJ1 _ (hdA [])
  ·rw[if_neg (of_decide_eq_false h)] at hJ1;exact hJ1 _ (hdA [])
 ·have hlt:decide ((i:Int)<(t.cs.length:Int))=false:=decide_eq_false (by omega)
  obtain rfl:i=t.cs.length:=by omega
  simp only[hlt,push_cast,↓J1,↓J2,N1,N2,N3,reduceCtorEq,N4,N5,N6,reduceIte,N7,I1,I2,I3]
theorem t196(t:Ct)(a d:Int)(h:ctOk t=true)(ha:0≤a∧a≤1000)(hd:0≤d∧d≤1000):Ev C 196 [.agg (ctF t),.int .i64 a,.int .i64 d] (.int .i64 (colT t a d t.cs.length)):=by
 have hl:=ct_in h
 simp only[ctF] at *
 refine rT hC Q196 ?_
 simp only[c196,ods_length,push_cast,↓J1,↓J2,N1,N2,N3,reduceCtorEq,N4,N5,N6,reduceIte,N7,I1,I2,I3]
 refine RL_count (fun i=>⟨tb 30 .any [(1,.int .i64 a),(2,.int .i64 d),(7,.int .i64 (colT t a d i)),(11,.sl (ods t.cs)),(12,.int .i64 (t.cs.length:Int)),(13,.int .i64 (i:Int))],[],0⟩) (fun _=>True) t.cs.length 0 (hdA []) (by omega) trivial fun i hi _ J hJ=>?_
 by_cases h1:i<t.cs.length
 ·have e1:(ods t.cs)[i]?=some (odA (t.cs.getD i od0)):=by simp[ods,List.getD,h1]
  have hlt:decide ((i:Int)<(t.cs.length:Int))=true:=decide_eq_true (by omega)
  have hx:=hl.2.2.2.1 i h1
  have hJ1:=hJ h1 trivial
  rw[colT_succ] at hJ1
  generalize t.cs.getD i od0=o at *
  have m1:0≤a*o.b∧a*o.b≤1000*20:=⟨Int.mul_nonneg ha.1 (by omega),Int.mul_le_mul ha.2 (by omega) (by omega) (by omega)⟩
  have m2:0≤d*o.a∧d*o.a≤1000*20:=⟨Int.mul_nonneg hd.1 (by omega),Int.mul_le_mul hd.2 (by omega) (by omega) (by omega)⟩
  have w1:IntKind.i64.wrap (a*o.b)=a*o.b:=wrap64 (by omega) (by omega)
  have w2:IntKind.i64.wrap (d*o.a)=d*o.a:=wrap64 (by omega) (by omega)
  simp only[hlt,Int.toNat_natCast,e1,odA,ods_length,w1,w2,push_cast,↓J1,↓J2,N1,N2,N3,reduceCtorEq,N4,N5,N6,reduceIte,N7,I1,I2,I3]
  repeat (refine⟨by omega,?_⟩)
  refine ifB_intro (fun h=>?_) (fun h=>?_)
  ·rw[if_pos (of_decide_eq_true h)] at hJ1;exact hJ1 _ (hdA [])
  ·rw[if_neg (of_decide_eq_false h)] at hJ1;exact hJ1 _ (hdA [])
 ·have hlt:decide ((i:Int)<(t.cs.length:Int))=false:=decide_eq_false (by omega)
  obtain rfl:i=t.cs.length:=by omega
  simp only[hlt,push_cast,↓J1,↓J2,N1,N2,N3,reduceCtorEq,N4,N5,N6,reduceIte,N7,I1,I2,I3]
theorem t121(t:Ct)(c sh:Int)(h:ctOk t=true)(hc:0≤c∧c≤8)(hs: -10≤sh∧sh≤10):Ev C 121 [.agg (ctF t),.int .i64 c,.int .i64 sh] (.int .i64 (colS t c sh)):=by
 have hl:=(ct_in h).1
 simp only[ctF] at *
 refine rT hC Q121 ?_
 simp only[c121,ods_length,push_cast,↓J1,↓J2,N1,N2,N3,reduceCtorEq,N4,N5,N6,reduceIte,N7,I1,I2,I3]
 rw[wrap64 (n:=c+sh) (by omega) (by omega),wrap64 (n:=(t.cs.length:Int)-1) (by omega) (by omega)]
 simp only[colS]
 repeat' split
 all_goals first | rfl | omega
theorem t195(t:Ct)(c sh:Int)(h:ctOk t=true)(hc:0≤c∧c≤8)(hs: -10≤sh∧sh≤10):Ev C 195 [.agg (ctF t),.int .i64 c,.int .i64 sh] (.int .i64 (colS t c sh)):=by
 have hl:=(ct_in h).1
 have c1:=fun a b=>t218 hC a b
 have c2:=fun a b=>t200 hC a b
 simp only[ctF] at *
 refine rT hC Q195 ?_
 simp only[c195,ods_length,push_cast,↓J1,↓J2,N1,N2,N3,reduceCtorEq,N4,N5,N6,reduceIte,N7,I1,I2,I3]
 rw[wrap64 (n:=c+sh) (by omega) (by omega),wrap64 (n:=(t.cs.length:Int)-1) (by omega) (by omega)]
 refine⟨_,c1 _ _,?_⟩
 simp only[push_cast,↓J1,↓J2,N1,N2,N3,reduceCtorEq,N4,N5,N6,reduceIte,N7,I1,I2,I3]
 refine⟨_,c2 _ _,?_⟩
 simp only[push_cast,↓J1,↓J2,N1,N2,N3,reduceCtorEq,N4,N5,N6,reduceIte,N7,I1,I2,I3]
 simp only[colS]
 repeat' split
 all_goals first | rfl | omega
theorem t147(t:Ct)(r c:Int)(h:ctOk t=true)(hr:t.d≤r∧r≤6*t.d)(hc:0≤c∧c<(t.cs.length:Int)):Ev C 147 [.agg (ctF t),.int .i64 r,.int .i64 c] (.int .i64 ((t.rs.getD (r-t.d).toNat []).getD c.toNat 0)):=by
 have hl:=ct_in h
 have h2:=row_in h hr
 have e1:(intss t.rs)[(r-t.d).toNat]?=some [.sl (ints (t.rs.getD (r-t.d).toNat []))]:=by simp[intss,List.getD,h2]
 have h4:(t.rs.getD (r-t.d).toNat []).length=t.cs.length:=by
  have:=(hl.2.2.2.2 _ (List.getElem_mem h2)).1
  simpa [List.getD,h2] using this
 have e2:=cut_ints_get (v:=t.rs.getD (r-t.d).toNat []) (k:=c.toNat) (by omega)
 generalize t.rs.getD (r-t.d).toNat []=row at *
 simp only[ctF] at *
 refine rT hC Q147 ?_
 simp only[c147,push_cast,↓J1,↓J2,N1,N2,N3,reduceCtorEq,N4,N5,N6,reduceIte,N7,I1,I2,I3]
 rw[wrap64 (n:=r-t.d) (by omega) (by omega)]
 simp only[e1,intss_length,push_cast,↓J1,↓J2,N1,N2,N3,reduceCtorEq,N4,N5,N6,reduceIte,N7,I1,I2,I3]
 repeat (refine⟨by omega,?_⟩)
 simp only[e2,ints_length,push_cast,↓J1,↓J2,N1,N2,N3,reduceCtorEq,N4,N5,N6,reduceIte,N7,I1,I2,I3]
 repeat (refine⟨by omega,?_⟩)
end
end Go.Proofs.YtlkcpadkjepchaaGreatDoor.X
set_option maxHeartbeats 4000000
set_option maxRecDepth 8000
set_option linter.unusedSimpArgs false
set_option linter.unusedVariables false
open Nat renaming reduceBEq→N1,reduceAdd→N2,reduceSub→N3,reduceMul→N4,reduceEqDiff→N5,reduceLeDiff→N6,reduceLT→N7
open Int renaming reduceLE→I1,reduceLT→I2,reduceToNat→I3
namespace Go.Proofs.YtlkcpadkjepchaaGreatDoor.X
open Go
attribute [local irreducible] Ev
def btF(y:Bt):List AV:=[.int .i64 y.at_,.sl (ints y.ak),.sl (ints y.df)]
theorem bt_at{b:Brd}{s:Sta}{y:Bt}(h:staOk b s=true)(hy:BtOk b s y):0≤y.at_∧y.at_<b.m.w*b.m.h:=by
 have:=hy.at1
 rw[brd_t (sta_brd h)] at this;exact this
theorem un_int{b:Brd}{s:Sta}{k:Int}(h:staOk b s=true)(hk:0≤k∧k<(s.us.length:Int)):unOk b (unOf s k)=true:=by
 obtain⟨k,rfl⟩: ∃m:Nat,k=m:=⟨k.toNat,by omega⟩
 exact sta_un h (k:=k) (by omega)
theorem dir_nat{m:Mp}{i k:Int}(h:0≤dirOn m i k): ∃d:Nat,dirOn m i k=d∧d<6∧nextM m i d=k:=⟨(dirOn m i k).toNat,by omega,(dir_spec h).1,(dir_spec h).2⟩
def hasL(b:Brd)(s:Sta)(i:Int)(l:List Int)(d:Nat):Bool:=l.any fun k=>decide (dirOn b.m i (unOf s k).at_=(d:Int))
def fr(b:Brd)(s:Sta)(i:Int)(l:List Int):List AV:=(List.range 6).map fun d=> .bool (hasL b s i l d)
theorem fr_get{b:Brd}{s:Sta}{i:Int}{l:List Int}{d:Nat}(h:d<6):(fr b s i l)[d]?=some (.bool (hasL b s i l d)):=by simp[fr,h]
theorem fr_len{b:Brd}{s:Sta}{i:Int}{l:List Int}:(fr b s i l).length=6:=by simp[fr]
theorem fr_set{b:Brd}{s:Sta}{i:Int}{l:List Int}{k:Int}{d:Nat}(h:d<6)(hd:dirOn b.m i (unOf s k).at_=d):(fr b s i l).set d (.bool true)=fr b s i (l++[k]):=by
 apply List.ext_getElem
 ·simp[fr]
 ·intro j h1 h2
  simp only[fr,List.length_set,List.length_map,List.length_range] at h1
  rw[List.getElem_set]
  simp only[fr,List.getElem_map,List.getElem_range,hasL,List.any_append,List.any_cons,List.any_nil,Bool.or_false,hd]
  split
  ·rename_i e;subst e;simp
  ·rename_i e
   rw[decide_eq_false (show¬(d:Int)=(j:Int) by omega),Bool.or_false]
def sds(b:Brd)(s:Sta)(i:Int)(l:List Int):List Int:=l.map fun k=>dirOn b.m i (unOf s k).at_
theorem sds_has(b:Brd)(s:Sta)(i:Int)(l:List Int)(d:Nat):hasI (sds b s i l) d=hasL b s i l d:=by simp[hasI,sds,hasL,List.any_map,Function.comp_def]
theorem take_snoc{l:List Int}{i:Nat}(h:i<l.length):l.take (i+1)=l.take i++[l.getD i 0]:=by
 rw[List.take_succ_eq_append_getElem h];simp[List.getD,h]
def opI(b:Brd)(s:Sta)(i:Int)(l:List Int):Bool:=hasL b s i l 0&&hasL b s i l 3||(hasL b s i l 1&&hasL b s i l 4||hasL b s i l 2&&hasL b s i l 5)
def rollT(c:Int)(k:Nat):Nat→Int
 | 0=>0
 | n+1=>rollT c k n+dieM c (2*(k:Int)+(n:Nat))
theorem roll_eq{x:Se}(h:ctOk x.t=true)(seed:Int)(k:Nat):rollB x seed k=rollT (childM seed sBat) k x.t.d.toNat:=by
 have h1:=(ct_in h).2.1
 simp only[rollB]
 split
 ·rename_i e;rw[e];simp[rollT]
 ·rw[show x.t.d.toNat=2 by omega];simp[rollT]
theorem rollT_bnd(c:Int)(k:Nat): ∀n,0≤rollT c k n∧rollT c k n≤6*n
 | 0=>by simp[rollT]
 | n+1=>by
  have:=rollT_bnd c k n
  have:=die_bnd c (2*(k:Int)+(n:Nat))
  simp only[rollT];omega
section
variable{C:CT}(hC:Closed Tryz.prog G1 md0 C)
include hC
theorem t176g(b:Brd)(i:Int)(h:Heap)(n:Nat)(hs:solid h)(g:brdOk b=true)(hi:0≤i∧i<b.m.w*b.m.h)(hb:BrdB (2^50) b):C 176 [brdF b,.int .i64 i] h n (fun v h' n'=>v= .agg (terF (terAt b i))∧h'=(n+1,.var (terF (terAt b i)))::(n,.var (rulF b.r++mpF b.m))::h∧n'=n+2):=by
 have hwh:=brd_wh g
 have b1:=hb.m.t
 have b2:=hb.r.ts
 have hk:killH h=h:=hs
 have e9:(n+1=n)=False:=by simp
 obtain⟨i,rfl⟩: ∃k:Nat,i=k:=⟨i.toNat,by omega⟩
 have h1:i<b.m.t.length:=by omega
 have ht:=ter_in g h1
 have e1:=ints_get h1
 obtain⟨j,hj⟩: ∃k:Nat,b.m.t.getD i 0=k:=⟨(b.m.t.getD i 0).toNat,by omega⟩
 have h2:j<b.r.ts.length:=by omega
 have e2:(tersF b.r.ts)[j]?=some (terF b.r.ts[j]):=by simp[tersF,h2]
 have e3:terAt b i=b.r.ts[j]:=by simp only[terAt,Int.toNat_natCast,hj];simp[h2]
 rw[e3]
 rw[hj] at e1
 simp only[brdF,rulF,mpF,List.cons_append,List.nil_append,terF] at *
 refine Closed.rT hC Q176 ?_
 simp only[c176,e9,push_cast,↓J1,↓J2,N1,N2,N3,reduceCtorEq,N4,N5,N6,reduceIte,N7,I1,I2,I3]
 simp only[e9,Int.toNat_natCast,e1,push_cast,↓J1,↓J2,N1,N2,N3,reduceCtorEq,N4,N5,N6,reduceIte,N7,I1,I2,I3]
 repeat (refine⟨by omega,?_⟩)
 simp only[e9,Int.toNat_natCast,e2,tersF_length,ints_length,hk,push_cast,↓J1,↓J2,N1,N2,N3,reduceCtorEq,N4,N5,N6,reduceIte,N7,I1,I2,I3]
 repeat (refine⟨by omega,?_⟩)
theorem t188g(b:Brd)(i:Int)(h:Heap)(n:Nat)(hs:solid h)(g:brdOk b=true)(hi:0≤i∧i<b.m.w*b.m.h)(hb:BrdB (2^50) b):C 188 [brdF b,.int .i64 i] h n (fun v h' n'=>v= .agg (terF (terAt b i))∧h'=(n+1,.var (terF (terAt b i)))::(n,.var (rulF b.r++mpF b.m))::h∧n'=n+2):=by
 have hwh:=brd_wh g
 have b1:=hb.m.t
 have b2:=hb.r.ts
 have hk:killH h=h:=hs
 have e9:(n+1=n)=False:=by simp
 obtain⟨i,rfl⟩: ∃k:Nat,i=k:=⟨i.toNat,by omega⟩
 have h1:i<b.m.t.length:=by omega
 have ht:=ter_in g h1
 have e1:=ints_get h1
 obtain⟨j,hj⟩: ∃k:Nat,b.m.t.getD i 0=k:=⟨(b.m.t.getD i 0).toNat,by omega⟩
 have h2:j<b.r.ts.length:=by omega
 have e2:(tersF b.r.ts)[j]?=some (terF b.r.ts[j]):=by simp[tersF,h2]
 have e3:terAt b i=b.r.ts[j]:=by simp only[terAt,Int.toNat_natCast,hj];simp[h2]
 rw[e3]
 rw[hj] at e1
 simp only[brdF,rulF,mpF,List.cons_append,List.nil_append,terF] at *
 refine Closed.rT hC Q188 ?_
 simp only[c188,e9,push_cast,↓J1,↓J2,N1,N2,N3,reduceCtorEq,N4,N5,N6,reduceIte,N7,I1,I2,I3]
 simp only[e9,Int.toNat_natCast,e1,push_cast,↓J1,↓J2,N1,N2,N3,reduceCtorEq,N4,N5,N6,reduceIte,N7,I1,I2,I3]
 repeat (refine⟨by omega,?_⟩)
 simp only[e9,Int.toNat_natCast,e2,tersF_length,ints_length,hk,push_cast,↓J1,↓J2,N1,N2,N3,reduceCtorEq,N4,N5,N6,reduceIte,N7,I1,I2,I3]
 repeat (refine⟨by omega,?_⟩)
theorem t123(b:Brd)(s:Sta)(y:Bt)(h:staOk b s=true)(hy:BtOk b s y)(hb:BrdB (2^50) b):Ev C 123 [brdF b,.agg (staF s),.agg (btF y)] (.int .i64 (sumK (atkF b y.at_) s y.ak)):=by
 have hm:=mp_wh (brd_mp (sta_brd h))
 have hwh:=brd_wh (sta_brd h)
 have hlen:=sta_len h
 have hat:=bt_at h hy
 have c1:=fun u hu=>t173 hC b u (sta_brd h) hu hb
 have c2:=fun k=>t168 hC b.m y.at_ k hm.1 hm.2 (by omega)
 have c3:=fun d hd hn=>t175 hC b.m y.at_ d hm.1 hm.2 (by omega) hd hn
 have c4:=fun e=>t174 hC b.m e hb.m
 simp only[brdF,rulF,mpF,List.cons_append,List.nil_append,staF,btF,unA] at *
 refine rT hC Q123 ?_
 simp only[c123,ints_length,push_cast,↓J1,↓J2,N1,N2,N3,reduceCtorEq,N4,N5,N6,reduceIte,N7,I1,I2,I3]
 refine RL_count (fun i=>⟨tb 52 .any [(3,.ptr 0 none 0 0 0),(4,.ptr 1 none 0 0 0),(5,.ptr 2 none 0 0 0),(7,.int .i64 (sumK (atkF b y.at_) s (y.ak.take i))),(12,.sl (ints y.ak)),(13,.int .i64 (y.ak.length:Int)),(14,.int .i64 (i:Int))],[(2,.var (btF y)),(1,.var (staF s)),(0,.var (rulF b.r++mpF b.m))],3⟩) (fun _=>True) y.ak.length 0 (hdA [(2,2),(1,1),(0,0)]) (by omega) trivial fun i hi _ J hJ=>?_
 simp only[brdF,rulF,mpF,List.cons_append,List.nil_append,staF,btF,unA]
 by_cases h1:i<y.ak.length
 ·have e1:=cut_ints_get h1
  have hlt:decide ((i:Int)<(y.ak.length:Int))=true:=decide_eq_true (by omega)
  have hJ1:=hJ h1 trivial
  have hyl:=hy.ak3
  have hx:=hy.ak1 _ (getD_in h1)
  have es:=sumK_take (atkF b y.at_) s h1
  have hbn:=atk_bnd (i:=y.at_) (l:=y.ak.take i) h fun k hk=>by have:=hy.ak1 k (List.mem_of_mem_take hk);omega
  have hln:(y.ak.take i).length≤12:=by have:=hy.ak3;simp;omega
  rw[es] at hJ1
  generalize sumK (atkF b y.at_) s (y.ak.take i)=v at *
  generalize y.ak.getD i 0=k at *
  have hk2:0≤k∧k<(s.us.length:Int):=by omega
  have hu:=un_int h hk2
  have hf:=force_un (b:=b) h hk2
  have e2:=uns_int hk2
  obtain⟨d,hd,hd6,hdn⟩:=dir_nat hx.2.2.2.1
  have c1:=c1 _ hu
  have c2:=c2 (unOf s k).at_
  have c3:=c3 d hd6 (by omega)
  simp only[atkF,hd,Int.toNat_natCast] at hJ1 c2
  have c4:=c4 (edgeM b.m y.at_ d)
  generalize hF:forceU b (unOf s k)=F at *
  generalize unOf s k=u at *
  have q1:=Int.tdiv_le_self 2 hf.1
  have q2:=Int.tdiv_nonneg hf.1 (show(0:Int)≤2 by omega)
  have w1:IntKind.i64.wrap (v+F)=v+F:=wrap64 (by omega) (by omega)
  have w2:IntKind.i64.wrap (F.tdiv 2)=F.tdiv 2:=wrap64 (by omega) (by omega)
  have w3:IntKind.i64.wrap (v+F.tdiv 2)=v+F.tdiv 2:=wrap64 (by omega) (by omega)
  cases g:freeE b.m (edgeM b.m y.at_ d)<;>simp only[g] at c4 hJ1
  all_goals
   simp only[Bool.false_eq_true,Bool.not_false,Bool.not_true,Bool.or_false,Bool.or_true,Bool.true_or,Bool.false_or,if_true,if_false] at hJ1
   repeat' (first
  | simp only[hlt,e1,e2,Int.toNat_natCast,ints_length,uns_length,w1,w2,w3,unA,push_cast,↓J1,↓J2,N1,N2,N3,reduceCtorEq,N4,N5,N6,reduceIte,N7,I1,I2,I3]
  | refine⟨_,c1,?_⟩
  | refine⟨_,c2,?_⟩
  | refine⟨_,c3,?_⟩
  | refine⟨_,c4,?_⟩
  | refine ifB_intro (fun h=>?_) (fun h=>?_)
  | refine And.intro ?_ ?_)
   all_goals first
    | omega
    | exact hJ1 _ (hdA [(2,2),(1,1),(0,0)])
 ·have hlt:decide ((i:Int)<(y.ak.length:Int))=false:=decide_eq_false (by omega)
  obtain rfl:i=y.ak.length:=by omega
  simp only[hlt,List.take_length,push_cast,↓J1,↓J2,N1,N2,N3,reduceCtorEq,N4,N5,N6,reduceIte,N7,I1,I2,I3]
theorem t197(b:Brd)(s:Sta)(y:Bt)(h:staOk b s=true)(hy:BtOk b s y)(hb:BrdB (2^50) b):Ev C 197 [brdF b,.agg (staF s),.agg (btF y)] (.int .i64 (sumK (atkF b y.at_) s y.ak)):=by
 have hm:=mp_wh (brd_mp (sta_brd h))
 have hwh:=brd_wh (sta_brd h)
 have hlen:=sta_len h
 have hat:=bt_at h hy
 have c1:=fun u hu=>t219 hC b s u h hu hb
 have c2:=fun k hk=>t96 hC b s y.at_ k (sta_brd h) (by omega) hk (by omega)
 have c3:=fun d hd=>t220 hC b.m y.at_ d hm.1 hm.2 (by omega) hd hb.m
 have c4:=fun d hd=>t221 hC b.m y.at_ d hm.1 hm.2 (by omega) hd hb.m
 simp only[brdF,rulF,mpF,List.cons_append,List.nil_append,staF,btF,unA] at *
 refine rT hC Q197 ?_
 simp only[c197,ints_length,push_cast,↓J1,↓J2,N1,N2,N3,reduceCtorEq,N4,N5,N6,reduceIte,N7,I1,I2,I3]
 refine RL_count (fun i=>⟨tb 51 .any [(3,.ptr 0 none 0 0 0),(4,.ptr 1 none 0 0 0),(5,.ptr 2 none 0 0 0),(7,.int .i64 (sumK (atkF b y.at_) s (y.ak.take i))),(13,.sl (ints y.ak)),(14,.int .i64 (y.ak.length:Int)),(15,.int .i64 (i:Int))],[(2,.var (btF y)),(1,.var (staF s)),(0,.var (rulF b.r++mpF b.m))],3⟩) (fun _=>True) y.ak.length 0 (hdA [(2,2),(1,1),(0,0)]) (by omega) trivial fun i hi _ J hJ=>?_
 simp only[brdF,rulF,mpF,List.cons_append,List.nil_append,staF,btF,unA]
 by_cases h1:i<y.ak.length
 ·have e1:=cut_ints_get h1
  have hlt:decide ((i:Int)<(y.ak.length:Int))=true:=decide_eq_true (by omega)
  have hJ1:=hJ h1 trivial
  have hyl:=hy.ak3
  have hx:=hy.ak1 _ (getD_in h1)
  have es:=sumK_take (atkF b y.at_) s h1
  have hbn:=atk_bnd (i:=y.at_) (l:=y.ak.take i) h fun k hk=>by have:=hy.ak1 k (List.mem_of_mem_take hk);omega
  have hln:(y.ak.take i).length≤12:=by have:=hy.ak3;simp;omega
  rw[es] at hJ1
  generalize sumK (atkF b y.at_) s (y.ak.take i)=v at *
  generalize y.ak.getD i 0=k at *
  have hk2:0≤k∧k<(s.us.length:Int):=by omega
  have hu:=un_int h hk2
  have hf:=force_un (b:=b) h hk2
  have e2:=uns_int hk2
  obtain⟨d,hd,hd6,hdn⟩:=dir_nat hx.2.2.2.1
  have c1:=c1 _ hk2
  have c2:=c2 k hk2
  simp only[aSid,if_pos hx.2.2.1] at c2
  have c3:=c3 d hd6
  have c4:=c4 d hd6
  simp only[atkF,hd,Int.toNat_natCast] at hJ1 c2
  generalize hF:forceU b (unOf s k)=F at *
  generalize unOf s k=u at *
  have q1:=Int.tdiv_le_self 2 hf.1
  have q2:=Int.tdiv_nonneg hf.1 (show(0:Int)≤2 by omega)
  have w1:IntKind.i64.wrap (v+F)=v+F:=wrap64 (by omega) (by omega)
  have w2:IntKind.i64.wrap (F.tdiv 2)=F.tdiv 2:=wrap64 (by omega) (by omega)
  have w3:IntKind.i64.wrap (v+F.tdiv 2)=v+F.tdiv 2:=wrap64 (by omega) (by omega)
  simp only[freeE] at hJ1
  cases g:hasI b.m.ri (edgeM b.m y.at_ d)<;>cases g4:hasI b.m.ro (edgeM b.m y.at_ d)<;>simp only[g] at c3 hJ1<;>simp only[g4] at c4 hJ1
  all_goals
   simp only[Bool.false_eq_true,Bool.not_false,Bool.not_true,Bool.or_false,Bool.or_true,Bool.true_or,Bool.false_or,if_true,if_false] at hJ1
   repeat' (first
  | simp only[hlt,e1,e2,Int.toNat_natCast,ints_length,uns_length,w1,w2,w3,unA,push_cast,↓J1,↓J2,N1,N2,N3,reduceCtorEq,N4,N5,N6,reduceIte,N7,I1,I2,I3]
  | refine⟨_,c1,?_⟩
  | refine⟨_,c2,?_⟩
  | refine⟨_,c3,?_⟩
  | refine⟨_,c4,?_⟩
  | refine ifB_intro (fun h=>?_) (fun h=>?_)
  | refine And.intro ?_ ?_)
   all_goals first
    | omega
    | exact hJ1 _ (hdA [(2,2),(1,1),(0,0)])
 ·have hlt:decide ((i:Int)<(y.ak.length:Int))=false:=decide_eq_false (by omega)
  obtain rfl:i=y.ak.length:=by omega
  simp only[hlt,List.take_length,push_cast,↓J1,↓J2,N1,N2,N3,reduceCtorEq,N4,N5,N6,reduceIte,N7,I1,I2,I3]
theorem t124(b:Brd)(s:Sta)(y:Bt)(h:staOk b s=true)(hy:BtOk b s y)(hb:BrdB (2^50) b):Ev C 124 [brdF b,.agg (staF s),.agg (btF y)] (.int .i64 (sumK (forceU b) s y.df)):=by
 have hm:=mp_wh (brd_mp (sta_brd h))
 have hwh:=brd_wh (sta_brd h)
 have hlen:=sta_len h
 have hat:=bt_at h hy
 have c1:=fun u hu=>t173 hC b u (sta_brd h) hu hb
 simp only[brdF,rulF,mpF,List.cons_append,List.nil_append,staF,btF,unA] at *
 refine rT hC Q124 ?_
 simp only[c124,ints_length,push_cast,↓J1,↓J2,N1,N2,N3,reduceCtorEq,N4,N5,N6,reduceIte,N7,I1,I2,I3]
 refine RL_count (fun i=>⟨tb 28 .any [(3,.ptr 0 none 0 0 0),(4,.ptr 1 none 0 0 0),(7,.int .i64 (sumK (forceU b) s (y.df.take i))),(11,.sl (ints y.df)),(12,.int .i64 (y.df.length:Int)),(13,.int .i64 (i:Int))],[(1,.var (staF s)),(0,.var (rulF b.r++mpF b.m))],2⟩) (fun _=>True) y.df.length 0 (hdA [(1,1),(0,0)]) (by omega) trivial fun i hi _ J hJ=>?_
 simp only[brdF,rulF,mpF,List.cons_append,List.nil_append,staF,btF,unA]
 by_cases h1:i<y.df.length
 ·have e1:=cut_ints_get h1
  have hlt:decide ((i:Int)<(y.df.length:Int))=true:=decide_eq_true (by omega)
  have hJ1:=hJ h1 trivial
  have hyl:=hy.df4
  have hx:=hy.df2 _ (getD_in h1)
  have es:=sumK_take (forceU b) s h1
  have hbn:=def_bnd (l:=y.df.take i) h fun k hk=>by have:=hy.df2 k (List.mem_of_mem_take hk);omega
  have hln:(y.df.take i).length≤12:=by have:=hy.df4;simp;omega
  rw[es] at hJ1
  generalize sumK (forceU b) s (y.df.take i)=v at *
  generalize y.df.getD i 0=k at *
  have hk2:0≤k∧k<(s.us.length:Int):=by omega
  have hu:=un_int h hk2
  have hf:=force_un (b:=b) h hk2
  have e2:=uns_int hk2
  have c1:=c1 _ hu
  generalize hF:forceU b (unOf s k)=F at *
  generalize unOf s k=u at *
  have w1:IntKind.i64.wrap (v+F)=v+F:=wrap64 (by omega) (by omega)
  repeat' (first
  | simp only[hlt,e1,e2,Int.toNat_natCast,ints_length,uns_length,w1,unA,push_cast,↓J1,↓J2,N1,N2,N3,reduceCtorEq,N4,N5,N6,reduceIte,N7,I1,I2,I3]
  | refine⟨_,c1,?_⟩
  | refine ifB_intro (fun h=>?_) (fun h=>?_)
  | refine And.intro ?_ ?_)
  all_goals first
   | omega
   | exact hJ1 _ (hdA [(1,1),(0,0)])
 ·have hlt:decide ((i:Int)<(y.df.length:Int))=false:=decide_eq_false (by omega)
  obtain rfl:i=y.df.length:=by omega
  simp only[hlt,List.take_length,push_cast,↓J1,↓J2,N1,N2,N3,reduceCtorEq,N4,N5,N6,reduceIte,N7,I1,I2,I3]
theorem t198(b:Brd)(s:Sta)(y:Bt)(h:staOk b s=true)(hy:BtOk b s y)(hb:BrdB (2^50) b):Ev C 198 [brdF b,.agg (staF s),.agg (btF y)] (.int .i64 (sumK (forceU b) s y.df)):=by
 have hm:=mp_wh (brd_mp (sta_brd h))
 have hwh:=brd_wh (sta_brd h)
 have hlen:=sta_len h
 have hat:=bt_at h hy
 have c1:=fun u hu=>t219 hC b s u h hu hb
 simp only[brdF,rulF,mpF,List.cons_append,List.nil_append,staF,btF,unA] at *
 refine rT hC Q198 ?_
 simp only[c198,ints_length,push_cast,↓J1,↓J2,N1,N2,N3,reduceCtorEq,N4,N5,N6,reduceIte,N7,I1,I2,I3]
 refine RL_count (fun i=>⟨tb 25 .any [(3,.ptr 0 none 0 0 0),(4,.ptr 1 none 0 0 0),(7,.int .i64 (sumK (forceU b) s (y.df.take i))),(11,.sl (ints y.df)),(12,.int .i64 (y.df.length:Int)),(13,.int .i64 (i:Int))],[(1,.var (staF s)),(0,.var (rulF b.r++mpF b.m))],2⟩) (fun _=>True) y.df.length 0 (hdA [(1,1),(0,0)]) (by omega) trivial fun i hi _ J hJ=>?_
 simp only[brdF,rulF,mpF,List.cons_append,List.nil_append,staF,btF,unA]
 by_cases h1:i<y.df.length
 ·have e1:=cut_ints_get h1
  have hlt:decide ((i:Int)<(y.df.length:Int))=true:=decide_eq_true (by omega)
  have hJ1:=hJ h1 trivial
  have hyl:=hy.df4
  have hx:=hy.df2 _ (getD_in h1)
  have es:=sumK_take (forceU b) s h1
  have hbn:=def_bnd (l:=y.df.take i) h fun k hk=>by have:=hy.df2 k (List.mem_of_mem_take hk);omega
  have hln:(y.df.take i).length≤12:=by have:=hy.df4;simp;omega
  rw[es] at hJ1
  generalize sumK (forceU b) s (y.df.take i)=v at *
  generalize y.df.getD i 0=k at *
  have hk2:0≤k∧k<(s.us.length:Int):=by omega
  have hu:=un_int h hk2
  have hf:=force_un (b:=b) h hk2
  have e2:=uns_int hk2
  have c1:=c1 _ hk2
  generalize hF:forceU b (unOf s k)=F at *
  generalize unOf s k=u at *
  have w1:IntKind.i64.wrap (v+F)=v+F:=wrap64 (by omega) (by omega)
  repeat' (first
  | simp only[hlt,e1,e2,Int.toNat_natCast,ints_length,uns_length,w1,unA,push_cast,↓J1,↓J2,N1,N2,N3,reduceCtorEq,N4,N5,N6,reduceIte,N7,I1,I2,I3]
  | refine⟨_,c1,?_⟩
  | refine ifB_intro (fun h=>?_) (fun h=>?_)
  | refine And.intro ?_ ?_)
  all_goals first
   | omega
   | exact hJ1 _ (hdA [(1,1),(0,0)])
 ·have hlt:decide ((i:Int)<(y.df.length:Int))=false:=decide_eq_false (by omega)
  obtain rfl:i=y.df.length:=by omega
  simp only[hlt,List.take_length,push_cast,↓J1,↓J2,N1,N2,N3,reduceCtorEq,N4,N5,N6,reduceIte,N7,I1,I2,I3]
end
end Go.Proofs.YtlkcpadkjepchaaGreatDoor.X
