/- A part of the proof: lemmas on the machine or on the functions that the law reaches. No condition of its own. -/
import Derived.Test.YtlkcpadkjepchaaGreatDoorXP14
import Derived.Test.YtlkcpadkjepchaaGreatDoorXM4
import Derived.Test.YtlkcpadkjepchaaGreatDoorXP6
import Derived.Test.YtlkcpadkjepchaaGreatDoorXP13
import Derived.Test.YtlkcpadkjepchaaGreatDoorXP10
set_option maxHeartbeats 4000000
set_option maxRecDepth 8000
set_option linter.unusedSimpArgs false
set_option linter.unusedVariables false
open Nat renaming reduceBEq→N1,reduceAdd→N2,reduceSub→N3,reduceMul→N4,reduceEqDiff→N5,reduceLeDiff→N6,reduceLT→N7
open Int renaming reduceLE→I1,reduceLT→I2,reduceToNat→I3
namespace Go.Proofs.YtlkcpadkjepchaaGreatDoor.X
open Go
attribute [local irreducible] Ev
def cnd(b:Brd)(s:Sta)(i:Int)(k:Nat):Bool:=decide (owner s i=1-(unOf s k).sd)&&decide (0≤aSid b.m i (unOf s k).at_)
def attQ(b:Brd)(s:Sta)(l:List Od)(i:Int)(n:Nat):List Int:=((List.range n).filter fun k=>cnd b s i k&&hasA l k i).map fun k:Nat=>(k:Int)
theorem attQ_succ(b:Brd)(s:Sta)(l:List Od)(i:Int)(n:Nat):attQ b s l i (n+1)=if cnd b s i n&&hasA l n i then attQ b s l i n++[(n:Int)] else attQ b s l i n:=by
 simp only[attQ,List.range_succ,List.filter_append,List.map_append]
 cases h:(cnd b s i n&&hasA l n i)<;>simp[List.filter,h]
theorem attQ_le(b:Brd)(s:Sta)(l:List Od)(i:Int)(n:Nat):(attQ b s l i n).length≤n:=rng_le _ _
theorem attQ_lt(b:Brd)(s:Sta)(l:List Od)(i:Int)(n:Nat): ∀x∈attQ b s l i n,x<(n:Int):=fun x hx=>by
 obtain⟨k,rfl,hk,_⟩:=rng_mem hx;omega
theorem cnd_eq{b:Brd}{s:Sta}{i:Int}{k:Nat}(h:staOk b s=true)(hi:0≤i)(hk:k<s.us.length):cnd b s i k=(!(dfs s i).isEmpty&&(!decide ((unOf s k).sd=owner s i)&&(decide (0≤(unOf s k).at_)&&decide (0≤dirOn b.m i (unOf s k).at_)))):=by
 have hsd:(unOf s k).sd=0∨(unOf s k).sd=1:=by
  rw[un_at hk];exact un_sd (List.all_eq_true.1 (sta_all h) _ (List.getElem_mem hk))
 have ea:decide (0≤aSid b.m i (unOf s k).at_)=(decide (0≤(unOf s k).at_)&&decide (0≤dirOn b.m i (unOf s k).at_)):=by
  simp only[aSid]
  split
  ·rename_i g;rw[decide_eq_true g,Bool.true_and]
  ·rename_i g;rw[decide_eq_false g,Bool.false_and];rfl
 simp only[cnd,ea]
 cases hd:dfs s i with
 | nil=>
  have ho:owner s i= -1:=owner_no fun j hj=>by
   cases hp:inHex i s.us[j]
   ·rfl
   ·exfalso
    have:(j:Int)∈dfs s i:=by
     simp only[dfs,fil,List.mem_map,List.mem_filter,List.mem_range]
     exact⟨j,⟨hj,by simp[hj,hp]⟩,rfl⟩
    rw[hd] at this;cases this
  rw[decide_eq_false (by omega)];rfl
 | cons a t=>
  obtain⟨j,_,hj,ha⟩:=dfs_mem (s:=s) (i:=i) (k:=a) (by rw[hd];simp)
  have ho:=dfs_own h hi hj ha
  have hsj:(unOf s j).sd=0∨(unOf s j).sd=1:=by
   rw[un_at hj];exact un_sd (List.all_eq_true.1 (sta_all h) _ (List.getElem_mem hj))
  have e:decide (owner s i=1-(unOf s k).sd)=!decide ((unOf s k).sd=owner s i):=by
   rw[Bool.eq_iff_iff];simp;omega
  rw[e];rfl
theorem attQ_eq{b:Brd}{s:Sta}{l:List Od}{i:Int}(h:staOk b s=true)(hi:0≤i):attQ b s l i s.us.length=if(dfs s i).isEmpty then[] else att b s l i:=by
 have e:(List.range s.us.length).filter (fun k=>cnd b s i k&&hasA l k i)=(List.range s.us.length).filter (fun k=>!(dfs s i).isEmpty&&attP b s l i k):=List.filter_congr fun k hk=>by
  rw[cnd_eq h hi (List.mem_range.1 hk),Bool.and_assoc];rfl
 simp only[attQ,e]
 cases g:(dfs s i).isEmpty
 ·simp[att,attT]
 ·simp
def addQ(A:List Int)(j:Int)(c:Bool):List Int:=if c then A++[j] else A
theorem hasA_succ{l:List Od}{k:Nat}(hk:k<l.length)(j i:Int):hasA (l.take (k+1)) j i=(hasA (l.take k) j i||(decide (l[k].a=j)&&decide (l[k].b=i))):=by
 simp only[hasA,List.take_succ_eq_append_getElem hk,List.any_append,List.any_cons,List.any_nil,Bool.or_false]
theorem addQ_has{A:List Int}{j:Int}(h: ∀x∈A,x<j)(c:Bool):hasI (addQ A j c) j=c:=by
 have h0:hasI A j=false:=by
  cases g:hasI A j
  ·rfl
  ·have:=h _ (hasI_mem.1 g);omega
 cases c
 ·exact h0
 ·exact hasI_mem.2 (by simp[addQ])
theorem putI_last{j:Int}: ∀{A:List Int},(∀x∈A,x<j)→putI j A=A++[j]
 | [],_=>rfl
 | x::A,h=>by
  have:=h x (by simp)
  rw[putI,if_pos this,putI_last fun y hy=>h y (by simp[hy])];rfl
def aqH(A:List Int)(i:Int)(r:Heap):Heap:=match A with
 | []=>(3,.var [.int .i64 i,.nil,.nil])::r
 | k::t=>(4,.slice 1 (ints (k::t)))::(3,.var [.int .i64 i,.ref 4 none 1 0 (k::t).length,.nil])::r
def aqN(A:List Int):Nat:=match A with
 | []=>4
 | _::_=>5
section
variable{C:CT}(hC:Closed Tryz.prog G1 md0 C)
include hC
theorem t97z(x:Int):Ev C 97 [.nil,.int .i64 x] (.ow 1 (ints [x])):=by
 refine rT hC Q97 ?_ (own_ints _)
 simp only[c97,push_cast,↓J1,↓J2,N1,N2,N3,reduceCtorEq,N4,N5,N6,reduceIte,N7,I1,I2,I3]
 refine RL_count (fun k=>⟨tb 48 .any [(0,.nil),(1,.int .i64 x),(5,.int .i64 (k:Int))],[],0⟩) (fun _=>True) 0 0 (hdA []) (by omega) trivial fun k hk hI J hJ=>?_
 obtain rfl:k=0:=by omega
 clear hJ
 have tk1:List.take 1 (ints [x])=ints [x]:=rfl
 repeat' (first
  | simp only[Int.reduceLT,decide_false,List.length_nil,allScs,apYR_sc,ints_length,push_cast,↓J1,↓J2,N1,N2,N3,reduceCtorEq,N4,N5,N6,reduceIte,N7,I1,I2,I3]
  | refine ifB_intro (fun h=>?_) (fun h=>?_)
  | refine And.intro ?_ ?_)
 all_goals first
  | omega
  | skip
 exact RetTo_of (by simp only[conR,conRL,isF,hget,hdel,List.drop_zero,List.take_length,if_true,if_false,reduceIte,N5,reduceCtorEq,tk1,ints_length];rfl)
theorem t97h(l:List Int)(x:Int)(h:Heap)(id n:Nat)(hid:id<n)(hg:hget h id=some (.slice 1 (ints l)))(hs:l.Pairwise (· < ·))(hx:x∈l)(hc: ∀ρ,canB n ρ h=h)(hl:l.length<2^40):
  C 97 [.ref id none 1 0 l.length,.int .i64 x] h n fun v h' n'=>v= .ref id none 1 0 l.length∧h'=h∧n'=n:=by
 obtain⟨m,hm,hmx⟩:=List.getElem_of_mem hx
 refine Closed.rT hC Q97 ?_
 simp only[c97,push_cast,↓J1,↓J2,N1,N2,N3,reduceCtorEq,N4,N5,N6,reduceIte,N7,I1,I2,I3]
 refine RL_count (fun k=>⟨tb 48 .any [(0,.ref id none 1 0 l.length),(1,.int .i64 x),(5,.int .i64 (k:Int))],h,n⟩) (fun _=>True) m 0 (head_tb [] (by simp[rhoOk,objIds]) (by simp only[hid,keptV_cons,keptV_nil,tb_get,lk_same,lk_ne,lk_nil,ren,renL,lkp,N7,N1,N5,reduceIte,and_true,true_and,Nat.not_lt_zero,if_false,if_true,Nat.add_zero,Nat.zero_add]<;>rfl) (by simp only[canR,hc,List.nil_append])) (by omega) trivial fun k hk _ J hJ=>?_
 have hkl:k<l.length:=by omega
 have hlt:decide ((k:Int)<(l.length:Int))=true:=decide_eq_true (by omega)
 have e1:(ints l)[k]?=some [.int .i64 l[k]]:=by simp[ints,hkl]
 by_cases h1:k<m
 ·have g1:decide (l[k]<x)=true:=decide_eq_true (by
   have:=(List.pairwise_iff_getElem.1 hs) k m hkl hm h1
   omega)
  have hJ1:=hJ h1 trivial
  repeat' (first
  | simp only[hlt,hg,e1,Int.toNat_natCast,ints_length,g1,push_cast,↓J1,↓J2,N1,N2,N3,reduceCtorEq,N4,N5,N6,reduceIte,N7,I1,I2,I3]
  | refine ifB_intro (fun h=>?_) (fun h=>?_)
  | refine And.intro ?_ ?_)
  all_goals first
   | omega
   | skip
  exact hJ1 _ (head_tb [] (by simp[rhoOk,objIds]) (by simp only[hid,keptV_cons,keptV_nil,tb_get,lk_same,lk_ne,lk_nil,ren,renL,lkp,N7,N1,N5,reduceIte,and_true,true_and,Nat.not_lt_zero,if_false,if_true,Nat.add_zero,Nat.zero_add];rw[wrap64 (by omega) (by omega)];rfl) (by simp only[canR,hc,List.nil_append]))
 ·obtain rfl:k=m:=by omega
  have g1:decide (l[k]<x)=false:=decide_eq_false (by omega)
  have g2:decide (l[k]=x)=true:=decide_eq_true (by omega)
  repeat' (first
  | simp only[hlt,hg,e1,Int.toNat_natCast,ints_length,g1,g2,push_cast,↓J1,↓J2,N1,N2,N3,reduceCtorEq,N4,N5,N6,reduceIte,N7,I1,I2,I3]
  | refine ifB_intro (fun h=>?_) (fun h=>?_)
  | refine And.intro ?_ ?_)
  all_goals first
   | omega
   | skip
end
end Go.Proofs.YtlkcpadkjepchaaGreatDoor.X
set_option maxHeartbeats 4000000
set_option maxRecDepth 8000
set_option linter.unusedSimpArgs false
set_option linter.unusedVariables false
open Nat renaming reduceBEq→N1,reduceAdd→N2,reduceSub→N3,reduceMul→N4,reduceEqDiff→N5,reduceLeDiff→N6,reduceLT→N7
open Int renaming reduceLE→I1,reduceLT→I2,reduceToNat→I3
namespace Go.Proofs.YtlkcpadkjepchaaGreatDoor.X
open Go
attribute [local irreducible] Ev
section
variable{C:CT}(hC:Closed Tryz.prog G1 md0 C)(hF:FrzC C)
include hC hF
theorem t59(b:Brd)(s:Sta)(l:List Od)(h:staOk b s=true)(hl:l.length<2^19):Ev C 59 [brdF b,.agg (staF s),.sl (ods l)] (.ow 3 (bas (bat b s l))):=by
 have hwh:=brd_wh (sta_brd h)
 have hlen:=sta_len h
 have hmw:=mp_wh (brd_mp (sta_brd h))
 have c1:=t94 hC b.m hmw.1 hmw.2
 have c2:=fun i=>t95 hC s i (by omega)
 have c3:=fun i u hi hu=>t96 hC b s i u (sta_brd h) hi hu (by omega)
 have c4:=fun i sd=>t93 hC s i sd (by omega)
 have ebat:bat b s l=batT b s l b.m.t.length:=rfl
 rw[ebat]
 have hbs:=batT_succ b s l
 have hbl:=batT_le b s l
 have hob:=own_bas (batT b s l b.m.t.length)
 rw[←hwh.1] at c1
 simp only[brdF,rulF,mpF,List.cons_append,List.nil_append,staF,unA] at *
 refine rT hC Q59 ?_ (by simpa only[ownR] using hob)
 simp only[c59,ints_length,push_cast,↓J1,↓J2,N1,N2,N3,reduceCtorEq,N4,N5,N6,reduceIte,N7,I1,I2,I3]
 refine RL_count (fun i=>⟨tb 88 .any [(7,.ref 2 none 3 0 (batT b s l i).length),(2,.sl (ods l)),(3,.ptr 0 none 0 0 0),(4,.ptr 1 none 0 0 0),(8,.int .i64 (i:Int))],[(2,.slice 3 (bas (batT b s l i))),(1,.var [.int .i64 s.t,.int .i64 s.w,.sl (uns s.us)]),(0,.var [.sl (tersF b.r.ts),.sl (kins b.r.ks),.int .i64 b.r.stack,.int .i64 b.r.river,.int .i64 b.r.road,.int .i64 b.r.supply,.int .i64 b.r.turns,.int .i64 b.m.w,.int .i64 b.m.h,.sl (ints b.m.t),.sl (ints b.m.ri),.sl (ints b.m.ro)])],3⟩) (fun _=>True) b.m.t.length 0 (hdO 7 2 3 [(1,1),(0,0)]) (by omega) trivial fun i hi _ J hJ=>?_
 have hbl:=hbl i
 by_cases h1:i<b.m.t.length
 ·have hlt:decide ((i:Int)<(b.m.t.length:Int))=true:=decide_eq_true (by omega)
  have hJ1:=hJ h1 trivial
  clear hJ
  have hbs:=hbs i
  have c2:=c2 i
  have c3:=fun u hu=>c3 i u (by omega) hu
  have c4:=c4 i (owner s i)
  rw[dfs_is h (by omega)] at c4
  have haq:=attQ_eq (l:=l) h (i:=(i:Int)) (by omega)
  have tkd:List.take (dfs s i).length (ints (dfs s i))=ints (dfs s i):=List.take_of_length_le (by rw[ints_length];omega)
  repeat' (first
  | simp only[hlt,ints_length,uns_length,push_cast,↓J1,↓J2,N1,N2,N3,reduceCtorEq,N4,N5,N6,reduceIte,N7,I1,I2,I3]
  | refine⟨_,c1,?_⟩
  | refine ifB_intro (fun h=>?_) (fun h=>?_))
  refine RL_count (fun j=>⟨tb 88 .any [(7,.ref 2 none 3 0 (batT b s l i).length),(2,.sl (ods l)),(3,.ptr 0 none 0 0 0),(4,.ptr 1 none 0 0 0),(8,.int .i64 (i:Int)),(9,.ptr 3 none 0 0 0),(24,.int .i64 (s.us.length:Int)),(25,.int .i64 (j:Int))],aqH (attQ b s l i j) (i:Int) [(2,.slice 3 (bas (batT b s l i))),(1,.var [.int .i64 s.t,.int .i64 s.w,.sl (uns s.us)]),(0,.var [.sl (tersF b.r.ts),.sl (kins b.r.ks),.int .i64 b.r.stack,.int .i64 b.r.river,.int .i64 b.r.road,.int .i64 b.r.supply,.int .i64 b.r.turns,.int .i64 b.m.w,.int .i64 b.m.h,.sl (ints b.m.t),.sl (ints b.m.ri),.sl (ints b.m.ro)])],aqN (attQ b s l i j)⟩) (fun _=>True) s.us.length 0 (by rw[show attQ b s l i 0=[] from rfl];exact(hdA [(3,3),(2,2),(1,1),(0,0)])) (by omega) trivial fun j hj _ J hJ=>?_
  have has:=attQ_succ b s l i j
  have hal:=attQ_le b s l i j
  have hlA:=attQ_lt b s l i j
  have hpA:(attQ b s l i j).Pairwise (· < ·):=rng_pw _ _
  by_cases h2:j<s.us.length
  ·have hJ2:=hJ h2 trivial
   clear hJ
   have hlt2:decide ((j:Int)<(s.us.length:Int))=true:=decide_eq_true (by omega)
   have e1:=usl_get h2
   rw[show s.us.getD j un0=unOf s j from rfl] at e1
   simp only[unA] at e1
   have c3:=c3 j (by omega)
   rw[show attQ b s l i (j+1)=addQ (attQ b s l i j) j (cnd b s i j&&hasA l j i) from has] at hJ2
   have hcn:cnd b s i j=(decide (owner s i=1-(unOf s j).sd)&&decide (0≤aSid b.m i (unOf s j).at_)):=rfl
   have hsd:(unOf s j).sd=0∨(unOf s j).sd=1:=by
    rw[un_at h2];exact un_sd (List.all_eq_true.1 (sta_all h) _ (List.getElem_mem h2))
   generalize attQ b s l i j=A at *
   generalize unOf s j=u at *
   generalize cnd b s i j=cn at *
   generalize aSid b.m i u.at_=sd at *
   generalize owner s i=ow at *
   have w1:IntKind.i64.wrap (1-u.sd)=1-u.sd:=wrap64 (by omega) (by omega)
   have ha0:addQ A j (cn&&hasA (l.take 0) j i)=A:=by simp[hasA,addQ]
   repeat' (first
  | simp only[hlt2,ods_length,uns_length,push_cast,↓J1,↓J2,N1,N2,N3,reduceCtorEq,N4,N5,N6,reduceIte,N7,I1,I2,I3]
  | refine ifB_intro (fun h=>?_) (fun h=>?_))
   refine RL_count (fun k=>⟨tb 88 .any [(7,.ref 2 none 3 0 (batT b s l i).length),(2,.sl (ods l)),(3,.ptr 0 none 0 0 0),(4,.ptr 1 none 0 0 0),(8,.int .i64 (i:Int)),(9,.ptr 3 none 0 0 0),(24,.int .i64 (s.us.length:Int)),(25,.int .i64 (j:Int)),(10,.int .i64 (j:Int)),(28,.sl (ods l)),(29,.int .i64 (l.length:Int)),(30,.int .i64 (k:Int))],aqH (addQ A j (cn&&hasA (l.take k) j i)) (i:Int) [(2,.slice 3 (bas (batT b s l i))),(1,.var [.int .i64 s.t,.int .i64 s.w,.sl (uns s.us)]),(0,.var [.sl (tersF b.r.ts),.sl (kins b.r.ks),.int .i64 b.r.stack,.int .i64 b.r.river,.int .i64 b.r.road,.int .i64 b.r.supply,.int .i64 b.r.turns,.int .i64 b.m.w,.int .i64 b.m.h,.sl (ints b.m.t),.sl (ints b.m.ri),.sl (ints b.m.ro)])],aqN (addQ A j (cn&&hasA (l.take k) j i))⟩) (fun _=>True) l.length 0 (by
    rw[ha0]
    cases A with
    | nil=>simp only[aqH,aqN];exact(hdA [(3,3),(2,2),(1,1),(0,0)])
    | cons a0 A0=>simp only[aqH,aqN];exact(hdA [(4,4),(3,3),(2,2),(1,1),(0,0)])) (by omega) trivial fun k hk _ J hJ=>?_
   by_cases h3:k<l.length
   ·have hJ3:=hJ h3 trivial
    clear hJ hJ2 hJ1 ha0
    have hlt3:decide ((k:Int)<(l.length:Int))=true:=decide_eq_true (by omega)
    have e3:(ods l)[k]?=some (odA l[k]):=by simp[ods,h3]
    rw[hasA_succ h3 j i] at hJ3
    generalize hasA (l.take k) j i=ha at *
    generalize l[k]=y at *
    simp only[odA] at e3
    have non: ∀q:Bool,(q&&cn)=false→addQ A j (cn&&(ha||q))=addQ A j (cn&&ha):=fun q hq=>by cases q<;>cases cn<;>simp_all
    cases p1:decide (y.a=j)
    ·rw[p1,Bool.false_and,non _ rfl] at hJ3
     generalize addQ A j (cn&&ha)=X at *
     cases X with
     | nil=>
      simp only[aqH,aqN] at hJ3⊢
      repeat' (first
  | simp only[uns_length,ods_length,ints_length,Int.toNat_natCast,hlt3,e1,e3,w1,Bool.and_true,Bool.and_false,Bool.true_and,Bool.false_and,Bool.not_true,Bool.not_false,p1,push_cast,↓J1,↓J2,N1,N2,N3,reduceCtorEq,N4,N5,N6,reduceIte,N7,I1,I2,I3]
  | (refine⟨by omega,?_⟩)
  | refine ifB_intro (fun h=>?_) (fun h=>?_))
      exact hJ3 _ (hdA [(3,3),(2,2),(1,1),(0,0)])
     | cons x0 X0=>
      simp only[aqH,aqN] at hJ3⊢
      repeat' (first
  | simp only[uns_length,ods_length,ints_length,Int.toNat_natCast,hlt3,e1,e3,w1,Bool.and_true,Bool.and_false,Bool.true_and,Bool.false_and,Bool.not_true,Bool.not_false,p1,push_cast,↓J1,↓J2,N1,N2,N3,reduceCtorEq,N4,N5,N6,reduceIte,N7,I1,I2,I3]
  | (refine⟨by omega,?_⟩)
  | refine ifB_intro (fun h=>?_) (fun h=>?_))
      exact hJ3 _ (hdA [(4,4),(3,3),(2,2),(1,1),(0,0)])
    cases p2:decide (y.b=i)
    ·rw[p1,p2,Bool.and_false,non _ rfl] at hJ3
     generalize addQ A j (cn&&ha)=X at *
     cases X with
     | nil=>
      simp only[aqH,aqN] at hJ3⊢
      repeat' (first
  | simp only[uns_length,ods_length,ints_length,Int.toNat_natCast,hlt3,e1,e3,w1,Bool.and_true,Bool.and_false,Bool.true_and,Bool.false_and,Bool.not_true,Bool.not_false,p1,p2,push_cast,↓J1,↓J2,N1,N2,N3,reduceCtorEq,N4,N5,N6,reduceIte,N7,I1,I2,I3]
  | (refine⟨by omega,?_⟩)
  | refine ifB_intro (fun h=>?_) (fun h=>?_))
      exact hJ3 _ (hdA [(3,3),(2,2),(1,1),(0,0)])
     | cons x0 X0=>
      simp only[aqH,aqN] at hJ3⊢
      repeat' (first
  | simp only[uns_length,ods_length,ints_length,Int.toNat_natCast,hlt3,e1,e3,w1,Bool.and_true,Bool.and_false,Bool.true_and,Bool.false_and,Bool.not_true,Bool.not_false,p1,p2,push_cast,↓J1,↓J2,N1,N2,N3,reduceCtorEq,N4,N5,N6,reduceIte,N7,I1,I2,I3]
  | (refine⟨by omega,?_⟩)
  | refine ifB_intro (fun h=>?_) (fun h=>?_))
      exact hJ3 _ (hdA [(4,4),(3,3),(2,2),(1,1),(0,0)])
    rw[p1,p2,Bool.and_self] at hJ3
    cases p3:decide (ow=1-u.sd)
    ·have hz:cn=false:=by rw[hcn,p3];rfl
     rw[non _ (by simp[hz])] at hJ3
     generalize addQ A j (cn&&ha)=X at *
     cases X with
     | nil=>
      simp only[aqH,aqN] at hJ3⊢
      repeat' (first
  | simp only[uns_length,ods_length,ints_length,Int.toNat_natCast,hlt3,e1,e3,w1,Bool.and_true,Bool.and_false,Bool.true_and,Bool.false_and,Bool.not_true,Bool.not_false,p1,p2,p3,push_cast,↓J1,↓J2,N1,N2,N3,reduceCtorEq,N4,N5,N6,reduceIte,N7,I1,I2,I3]
  | refine⟨_,c2,?_⟩
  | (refine⟨by omega,?_⟩)
  | refine ifB_intro (fun h=>?_) (fun h=>?_))
      exact hJ3 _ (hdA [(3,3),(2,2),(1,1),(0,0)])
     | cons x0 X0=>
      simp only[aqH,aqN] at hJ3⊢
      repeat' (first
  | simp only[uns_length,ods_length,ints_length,Int.toNat_natCast,hlt3,e1,e3,w1,Bool.and_true,Bool.and_false,Bool.true_and,Bool.false_and,Bool.not_true,Bool.not_false,p1,p2,p3,push_cast,↓J1,↓J2,N1,N2,N3,reduceCtorEq,N4,N5,N6,reduceIte,N7,I1,I2,I3]
  | refine⟨_,c2,?_⟩
  | (refine⟨by omega,?_⟩)
  | refine ifB_intro (fun h=>?_) (fun h=>?_))
      exact hJ3 _ (hdA [(4,4),(3,3),(2,2),(1,1),(0,0)])
    cases p4:decide (0≤sd)
    ·have hz:cn=false:=by rw[hcn,p3,p4];rfl
     rw[non _ (by simp[hz])] at hJ3
     generalize addQ A j (cn&&ha)=X at *
     cases X with
     | nil=>
      simp only[aqH,aqN] at hJ3⊢
      repeat' (first
  | simp only[uns_length,ods_length,ints_length,Int.toNat_natCast,hlt3,e1,e3,w1,Bool.and_true,Bool.and_false,Bool.true_and,Bool.false_and,Bool.not_true,Bool.not_false,p1,p2,p3,p4,push_cast,↓J1,↓J2,N1,N2,N3,reduceCtorEq,N4,N5,N6,reduceIte,N7,I1,I2,I3]
  | refine⟨_,c2,?_⟩
  | refine⟨_,c3,?_⟩
  | (refine⟨by omega,?_⟩)
  | refine ifB_intro (fun h=>?_) (fun h=>?_))
      exact hJ3 _ (hdA [(3,3),(2,2),(1,1),(0,0)])
     | cons x0 X0=>
      simp only[aqH,aqN] at hJ3⊢
      repeat' (first
  | simp only[uns_length,ods_length,ints_length,Int.toNat_natCast,hlt3,e1,e3,w1,Bool.and_true,Bool.and_false,Bool.true_and,Bool.false_and,Bool.not_true,Bool.not_false,p1,p2,p3,p4,push_cast,↓J1,↓J2,N1,N2,N3,reduceCtorEq,N4,N5,N6,reduceIte,N7,I1,I2,I3]
  | refine⟨_,c2,?_⟩
  | refine⟨_,c3,?_⟩
  | (refine⟨by omega,?_⟩)
  | refine ifB_intro (fun h=>?_) (fun h=>?_))
      exact hJ3 _ (hdA [(4,4),(3,3),(2,2),(1,1),(0,0)])
    obtain rfl:cn=true:=by rw[hcn,p3,p4];rfl
    simp only[Bool.or_true,Bool.and_self,Bool.true_and] at hJ3⊢
    cases ha
    ·simp only[addQ,if_true,Bool.false_eq_true,if_false] at hJ3⊢
     cases A with
     | nil=>
      simp only[aqH,aqN,List.nil_append] at hJ3⊢
      have cz:=t97z hC (j:Int)
      repeat' (first
  | simp only[uns_length,ods_length,ints_length,Int.toNat_natCast,hlt3,e1,e3,w1,Bool.and_true,Bool.and_false,Bool.true_and,Bool.false_and,Bool.not_true,Bool.not_false,p1,p2,p3,p4,push_cast,↓J1,↓J2,N1,N2,N3,reduceCtorEq,N4,N5,N6,reduceIte,N7,I1,I2,I3]
  | refine⟨_,c2,?_⟩
  | refine⟨_,c3,?_⟩
  | (refine⟨by omega,?_⟩)
  | refine ifB_intro (fun h=>?_) (fun h=>?_))
      refine open_own hF cz (by simp only[push_cast,↓J1,↓J2,N1,N2,N3,reduceCtorEq,N4,N5,N6,reduceIte,N7,I1,I2,I3]) ?_
      repeat' (first
  | simp only[uns_length,ods_length,ints_length,Int.toNat_natCast,hlt3,e1,e3,w1,Bool.and_true,Bool.and_false,Bool.true_and,Bool.false_and,Bool.not_true,Bool.not_false,push_cast,↓J1,↓J2,N1,N2,N3,reduceCtorEq,N4,N5,N6,reduceIte,N7,I1,I2,I3]
  | refine ifB_intro (fun h=>?_) (fun h=>?_))
      exact hJ3 _ (hdA [(5,4),(3,3),(2,2),(1,1),(0,0)])
     | cons a0 A0=>
      simp only[aqH,aqN,List.cons_append,List.length_cons,List.length_append,List.length_nil,Nat.zero_add] at hJ3⊢
      have hn:hasI (a0::A0) j=false:=addQ_has (A:=a0::A0) hlA false
      have cz:=t97 hC (a0::A0) j (by omega) hn
      rw[putI_last hlA] at cz
      have tka:List.take (A0.length+1) (ints (a0::A0))=ints (a0::A0):=List.take_of_length_le (by rw[ints_length,List.length_cons];omega)
      simp only[List.cons_append] at cz
      repeat' (first
  | simp only[uns_length,ods_length,ints_length,Int.toNat_natCast,hlt3,e1,e3,w1,Bool.and_true,Bool.and_false,Bool.true_and,Bool.false_and,Bool.not_true,Bool.not_false,p1,p2,p3,p4,List.length_cons,push_cast,↓J1,↓J2,N1,N2,N3,reduceCtorEq,N4,N5,N6,reduceIte,N7,I1,I2,I3]
  | refine⟨_,c2,?_⟩
  | refine⟨_,c3,?_⟩
  | (refine⟨by omega,?_⟩)
  | refine ifB_intro (fun h=>?_) (fun h=>?_))
      refine open_own hF cz (by simp only[tka,frzLL_ints,List.length_cons,push_cast,↓J1,↓J2,N1,N2,N3,reduceCtorEq,N4,N5,N6,reduceIte,N7,I1,I2,I3]) ?_
      repeat' (first
  | simp only[uns_length,ods_length,ints_length,Int.toNat_natCast,hlt3,e1,e3,w1,Bool.and_true,Bool.and_false,Bool.true_and,Bool.false_and,Bool.not_true,Bool.not_false,List.length_cons,List.length_append,push_cast,↓J1,↓J2,N1,N2,N3,reduceCtorEq,N4,N5,N6,reduceIte,N7,I1,I2,I3]
  | refine ifB_intro (fun h=>?_) (fun h=>?_))
      exact hJ3 _ (hdA [(6,4),(3,3),(2,2),(1,1),(0,0)])
    ·simp only[addQ,if_true] at hJ3⊢
     have hp:(A++[(j:Int)]).Pairwise (· < ·):=List.pairwise_append.2 ⟨hpA,by simp,fun a ha b hb=>by simp at hb;have:=hlA a ha;omega⟩
     have hm:(j:Int)∈A++[(j:Int)]:=by simp
     have hxl:(A++[(j:Int)]).length<2^40:=by simp;omega
     generalize A++[(j:Int)]=X at *
     cases X with
     | nil=>cases hm
     | cons x0 X0=>
      simp only[aqH,aqN] at hJ3⊢
      repeat' (first
  | simp only[uns_length,ods_length,ints_length,Int.toNat_natCast,hlt3,e1,e3,w1,Bool.and_true,Bool.and_false,Bool.true_and,Bool.false_and,Bool.not_true,Bool.not_false,p1,p2,p3,p4,List.length_cons,push_cast,↓J1,↓J2,N1,N2,N3,reduceCtorEq,N4,N5,N6,reduceIte,N7,I1,I2,I3]
  | refine⟨_,c2,?_⟩
  | refine⟨_,c3,?_⟩
  | (refine⟨by omega,?_⟩)
  | refine ifB_intro (fun h=>?_) (fun h=>?_))
      refine⟨_,t97h hC (x0::X0) j _ 4 _ (by omega) (by simp only[hget,push_cast,↓J1,↓J2,N1,N2,N3,reduceCtorEq,N4,N5,N6,reduceIte,N7,I1,I2,I3]) hp hm (fun ρ=>by simp[canB,renO,renL,ren]) hxl,?_⟩
      rintro _ _ _ ⟨rfl,rfl,rfl⟩ _
      repeat' (first
  | simp only[uns_length,ods_length,ints_length,Int.toNat_natCast,hlt3,e1,e3,w1,Bool.and_true,Bool.and_false,Bool.true_and,Bool.false_and,Bool.not_true,Bool.not_false,List.length_cons,push_cast,↓J1,↓J2,N1,N2,N3,reduceCtorEq,N4,N5,N6,reduceIte,N7,I1,I2,I3]
  | refine ifB_intro (fun h=>?_) (fun h=>?_))
      exact hJ3 _ (hdA [(4,4),(3,3),(2,2),(1,1),(0,0)])
   ·have hlt3:decide ((k:Int)<(l.length:Int))=false:=decide_eq_false (by omega)
    clear hJ hJ1
    have ek:l.take k=l:=List.take_of_length_le (by omega)
    rw[ek]
    generalize addQ A j (cn&&hasA l j i)=X at *
    cases X with
    | nil=>
     simp only[aqH,aqN] at hJ2⊢
     repeat' (first
  | simp only[hlt3,push_cast,↓J1,↓J2,N1,N2,N3,reduceCtorEq,N4,N5,N6,reduceIte,N7,I1,I2,I3]
  | refine ifB_intro (fun h=>?_) (fun h=>?_))
     exact hJ2 _ (hdA [(3,3),(2,2),(1,1),(0,0)])
    | cons x0 X0=>
     simp only[aqH,aqN] at hJ2⊢
     repeat' (first
  | simp only[hlt3,push_cast,↓J1,↓J2,N1,N2,N3,reduceCtorEq,N4,N5,N6,reduceIte,N7,I1,I2,I3]
  | refine ifB_intro (fun h=>?_) (fun h=>?_))
     exact hJ2 _ (hdA [(4,4),(3,3),(2,2),(1,1),(0,0)])
  ·have hlt2:decide ((j:Int)<(s.us.length:Int))=false:=decide_eq_false (by omega)
   obtain rfl:j=s.us.length:=by omega
   clear hJ
   have ebt:btAt b s l i=⟨i,att b s l i,dfs s i⟩:=rfl
   have eb:isBt b s l i=(!(dfs s i).isEmpty&&!(att b s l i).isEmpty):=rfl
   rw[eb,ebt] at hbs
   generalize attQ b s l i s.us.length=A1 at *
   have tkb:List.take (batT b s l i).length (bas (batT b s l i))=bas (batT b s l i):=List.take_of_length_le (by rw[bas_length];omega)
   generalize batT b s l (i+1)=B2 at *
   generalize batT b s l i=B1 at *
   generalize att b s l i=At at *
   generalize dfs s i=d at *
   cases A1 with
   | nil=>
    have hbs:B2=B1:=by
     rw[hbs]
     cases gd:d.isEmpty
     ·rw[gd] at haq;simp only[Bool.false_eq_true,if_false] at haq;subst haq;simp
     ·simp
    subst hbs
    simp only[aqH,aqN]
    repeat' (first
  | simp only[hlt2,List.length_nil,Int.reduceLT,decide_false,push_cast,↓J1,↓J2,N1,N2,N3,reduceCtorEq,N4,N5,N6,reduceIte,N7,I1,I2,I3]
  | refine ifB_intro (fun h=>?_) (fun h=>?_))
    exact hJ1 _ (hdA [(2,2),(1,1),(0,0)])
   | cons k0 t0=>
    cases gd:d.isEmpty
    ·rw[gd] at haq hbs
     simp only[Bool.false_eq_true,if_false] at haq
     subst haq
     simp only[List.isEmpty_cons,Bool.not_false,Bool.and_self,if_true] at hbs
     subst hbs
     simp only[aqH,aqN]
     have hal:t0.length+1≤s.us.length:=by simpa using hal
     have gt:decide (0<((t0.length:Int)+1))=true:=decide_eq_true (by omega)
     have tka:List.take (t0.length+1) (ints (k0::t0))=ints (k0::t0):=List.take_of_length_le (by rw[ints_length,List.length_cons];omega)
     have isNs: ∀(n:Int) (l m:List (List AV)),allScs [[AV.int .i64 n,AV.ow 1 l,AV.ow 1 m]]=false:=fun _ _ _=>rfl
     repeat' (first
  | simp only[hlt2,gt,List.length_cons,tka,tkb,tkd,ints_length,bas_length,apYR_ns,isNs,push_cast,↓J1,↓J2,N1,N2,N3,reduceCtorEq,N4,N5,N6,reduceIte,N7,I1,I2,I3]
  | refine⟨_,c2,?_⟩
  | refine⟨_,c4,?_⟩
  | (refine⟨by omega,?_⟩)
  | refine ifB_intro (fun h=>?_) (fun h=>?_))
     simp only[List.length_append,List.length_singleton] at hJ1
     refine hJ1 _ (hdA [(7,2),(1,1),(0,0)] (hh:=?_))
     simp only[canR,canB,renO,renL,ren,lkp,hget,N7,N5,Nat.not_lt_zero,if_false,if_true,reduceIte,List.append_nil,List.nil_append,←bas_app,List.length_append,List.length_singleton]
     all_goals rfl
    ·rw[gd] at haq;simp at haq
 ·have hlt:decide ((i:Int)<(b.m.t.length:Int))=false:=decide_eq_false (by omega)
  obtain rfl:i=b.m.t.length:=by omega
  repeat' (first
  | simp only[hlt,push_cast,↓J1,↓J2,N1,N2,N3,reduceCtorEq,N4,N5,N6,reduceIte,N7,I1,I2,I3]
  | refine⟨_,c1,?_⟩
  | refine ifB_intro (fun h=>?_) (fun h=>?_))
  exact RetTo_ow rfl (by rw[bas_length])
end
end Go.Proofs.YtlkcpadkjepchaaGreatDoor.X
set_option maxHeartbeats 4000000
set_option maxRecDepth 8000
set_option linter.unusedSimpArgs false
set_option linter.unusedVariables false
open Nat renaming reduceBEq→N1,reduceAdd→N2,reduceSub→N3,reduceMul→N4,reduceEqDiff→N5,reduceLeDiff→N6,reduceLT→N7
open Int renaming reduceLE→I1,reduceLT→I2,reduceToNat→I3
namespace Go.Proofs.YtlkcpadkjepchaaGreatDoor.X
open Go
attribute [local irreducible] Ev
def fAt:Option Bt→Int
 | none=> -1
 | some y=>y.at_
def fVa:Option Bt→List AV
 | none=>[.int .i64 0,.nil,.nil]
 | some y=>baF y
theorem find_snoc{p:Bt→Bool}{L:List Bt}{i:Nat}(h:i<L.length):(L.take (i+1)).find? p=match (L.take i).find? p with
  | some y=>some y
  | none=>if p L[i] then some L[i] else none:=by
 rw[List.take_succ_eq_append_getElem h,List.find?_append]
 cases (L.take i).find? p with
 | some y=>rfl
 | none=>simp[List.find?_singleton]
section
variable{C:CT}(hC:Closed Tryz.prog G1 md0 C)(hF:FrzC C)
include hC hF
theorem t28(x:Se)(s:Sta)(l:List Od)(seed:Int)(h:staOk x.b s=true)(ht:ctOk x.t=true)(hxb:SeB (2^50) x)(hl:l.length<2^19):Ev C 28 [seF x,.agg (staF s),.sl (ods l),.int .i64 seed] (.tup [.agg (staO (fgt x l seed x.b.m.t.length s (-1) []).1),.ow 3 (fos (fgt x l seed x.b.m.t.length s (-1) []).2)]):=by
 have hwh:=brd_wh (sta_brd h)
 have hlen:=sta_len h
 have c0:=t58n hC s (by omega)
 have c1:=fun q (hq:staOk x.b q=true)=>t59 hC hF x.b q l hq hl
 have ho2:=own_fos (fgt x l seed x.b.m.t.length s (-1) []).2
 generalize hR:fgt x l seed x.b.m.t.length s (-1) []=RR at *
 simp only[seF,brdF,rulF,mpF,ctF,List.cons_append,List.nil_append,staF,staO] at *
 refine rT hC Q28 ?_ (by simp only[ownR,ownRL,own_uns,ho2,Bool.and_true])
 simp only[c28,push_cast,↓J1,↓J2,N1,N2,N3,reduceCtorEq,N4,N5,N6,reduceIte,N7,I1,I2,I3]
 refine⟨_,c0,?_⟩
 simp only[uns_length,push_cast,↓J1,↓J2,N1,N2,N3,reduceCtorEq,N4,N5,N6,reduceIte,N7,I1,I2,I3]
 refine RL_ind (fun k s'=> ∃(q:Sta) (last:Int) (out:List Fo),s'=⟨tb 62 .any [(10,.ref 4 none 3 0 out.length),(2,.sl (ods l)),(3,.int .i64 seed),(4,.ptr 0 none 0 0 0),(5,.ptr 1 none 0 0 0),(8,.ptr 2 none 0 0 0),(11,.int .i64 last)],[(4,.slice 3 (fos out)),(3,.slice 4 (uns q.us)),(2,.var [.int .i64 0,.int .i64 0,.nil]),(1,.var [.int .i64 q.t,.int .i64 q.w,.ref 3 none 4 0 s.us.length]),(0,.var [.sl (tersF x.b.r.ts),.sl (kins x.b.r.ks),.int .i64 x.b.r.stack,.int .i64 x.b.r.river,.int .i64 x.b.r.road,.int .i64 x.b.r.supply,.int .i64 x.b.r.turns,.int .i64 x.b.m.w,.int .i64 x.b.m.h,.sl (ints x.b.m.t),.sl (ints x.b.m.ri),.sl (ints x.b.m.ro),.sl (ods x.t.cs),.int .i64 x.t.d,.sl (intss x.t.rs),.sl (intss x.c),.sl (intss x.src)])],5⟩∧staOk x.b q=true∧q.us.length=s.us.length∧ -1≤last∧(x.b.m.t.length:Int)-1-last≤k∧(out.length:Int)≤last+1∧last<x.b.m.t.length∧fgt x l seed k q last out=RR) x.b.m.t.length _ (by exact(hdO 10 4 3 [(3,3),(2,2),(1,1),(0,0)])) ⟨s,-1,[],rfl,h,rfl,by omega,by omega,by simp,by omega,hR⟩ ?_
 rintro k _ ⟨q,last,out,rfl,hq,hqs,h1,h2,h3,h4,hf⟩ J hJ
 have c1:=c1 q hq
 have tkq:List.take s.us.length (uns q.us)=uns q.us:=List.take_of_length_le (by rw[uns_length];omega)
 have hfb:=frz_bas (bat x.b q l)
 have hbl:(bat x.b q l).length≤x.b.m.t.length:=batT_le _ _ _ _
 have tko:List.take out.length (fos out)=fos out:=List.take_of_length_le (by rw[fos_length];omega)
 have hnx:nextB x.b q l last=(bat x.b q l).find? fun y=>decide (last<y.at_):=rfl
 simp only[push_cast,↓J1,↓J2,N1,N2,N3,reduceCtorEq,N4,N5,N6,reduceIte,N7,I1,I2,I3]
 refine open_frz hF c1 (by simp only[uns_length,tkq,frzLL_uns,hqs,push_cast,↓J1,↓J2,N1,N2,N3,reduceCtorEq,N4,N5,N6,reduceIte,N7,I1,I2,I3]) ?_
 rw[show frzT (.ow 3 (bas (bat x.b q l)))= .sl (basF (bat x.b q l)) by simp only[frzT,hfb]]
 have hat: ∀y,nextB x.b q l last=some y→BtOk x.b q y∧last<y.at_:=fun y hy=>nextB_ok hq hy
 have hall: ∀i,∀y,((bat x.b q l).take i).find? (fun y=>decide (last<y.at_))=some y→last<y.at_:=fun i y hy=>by
  have:=List.find?_some hy;simpa using this
 generalize bat x.b q l=L at *
 clear c1 hfb
 simp only[basF_length,push_cast,↓J1,↓J2,N1,N2,N3,reduceCtorEq,N4,N5,N6,reduceIte,N7,I1,I2,I3]
 generalize hfi:(fun i=>(L.take i).find? fun y=>decide (last<y.at_))=fi at *
 have hf0:fi 0=none:=by rw[←hfi];rfl
 have hfs: ∀i (h:i<L.length),fi (i+1)=match fi i with
  | some y=>some y
  | none=>if decide (last<L[i].at_) then some L[i] else none:=fun i h=>by rw[←hfi];exact find_snoc h
 have hfa: ∀i y,fi i=some y→last<y.at_:=fun i y hy=>hall i y (by rw[←hy,←hfi])
 have hfe:fi L.length=nextB x.b q l last:=by rw[hnx,←hfi];simp
 clear hfi hall hnx
 refine RL_count (fun i=>⟨tb 62 .any [(10,.ref 4 none 3 0 out.length),(2,.sl (ods l)),(3,.int .i64 seed),(4,.ptr 0 none 0 0 0),(5,.ptr 1 none 0 0 0),(8,.ptr 2 none 0 0 0),(11,.int .i64 last),(12,.int .i64 (fAt (fi i))),(13,.ptr 5 none 0 0 0),(24,.sl (basF L)),(25,.int .i64 (L.length:Int)),(26,.int .i64 (i:Int))],[(5,.var (fVa (fi i))),(4,.slice 3 (fos out)),(3,.slice 4 (uns q.us)),(2,.var [.int .i64 0,.int .i64 0,.nil]),(1,.var [.int .i64 q.t,.int .i64 q.w,.ref 3 none 4 0 s.us.length]),(0,.var [.sl (tersF x.b.r.ts),.sl (kins x.b.r.ks),.int .i64 x.b.r.stack,.int .i64 x.b.r.river,.int .i64 x.b.r.road,.int .i64 x.b.r.supply,.int .i64 x.b.r.turns,.int .i64 x.b.m.w,.int .i64 x.b.m.h,.sl (ints x.b.m.t),.sl (ints x.b.m.ri),.sl (ints x.b.m.ro),.sl (ods x.t.cs),.int .i64 x.t.d,.sl (intss x.t.rs),.sl (intss x.c),.sl (intss x.src)])],6⟩) (fun _=>True) L.length 0 (by rw[hf0];simp only[fAt,fVa];exact(hdA [(5,5),(4,4),(3,3),(2,2),(1,1),(0,0)])) (by omega) trivial fun i hi _ JJ hJJ=>?_
 by_cases hi':i<L.length
 ·have hlt:decide ((i:Int)<(L.length:Int))=true:=decide_eq_true (by omega)
  have hJ3:=hJJ hi' trivial
  clear hJJ hJ
  have e1:=basF_get hi'
  have hfs:=hfs i hi'
  have hfa:=hfa i
  generalize L[i]=y at *
  generalize fi (i+1)=f2 at *
  generalize fi i=f1 at *
  simp only[baF] at e1
  rcases f1 with _ | y0
  ·simp only at hfs
   simp only[fAt,fVa] at⊢
   cases g1:decide (last<y.at_)
   ·rw[g1] at hfs
    simp only[Bool.false_eq_true,if_false] at hfs
    subst hfs
    simp only[fAt,fVa] at hJ3
    repeat' (first
  | simp only[hlt,e1,g1,basF_length,Int.toNat_natCast,push_cast,↓J1,↓J2,N1,N2,N3,reduceCtorEq,N4,N5,N6,reduceIte,N7,I1,I2,I3]
  | refine ifB_intro (fun h=>?_) (fun h=>?_)
  | refine And.intro ?_ ?_)
    all_goals first
     | omega
     | skip
    exact hJ3 _ (hdA [(5,5),(4,4),(3,3),(2,2),(1,1),(0,0)])
   ·rw[g1] at hfs
    simp only[if_true] at hfs
    subst hfs
    simp only[fAt,fVa,baF] at hJ3
    have gm:decide ((-1:Int)<0)=true:=rfl
    repeat' (first
  | simp only[hlt,e1,g1,gm,basF_length,Int.toNat_natCast,push_cast,↓J1,↓J2,N1,N2,N3,reduceCtorEq,N4,N5,N6,reduceIte,N7,I1,I2,I3]
  | refine ifB_intro (fun h=>?_) (fun h=>?_)
  | refine And.intro ?_ ?_)
    all_goals first
     | omega
     | skip
    exact hJ3 _ (hdA [(5,5),(4,4),(3,3),(2,2),(1,1),(0,0)])
  ·simp only at hfs
   subst hfs
   have hy0:=hfa y0 rfl
   have g2:decide (y0.at_<0)=false:=decide_eq_false (by omega)
   simp only[fAt,fVa,baF] at hJ3⊢
   cases g1:decide (last<y.at_)
   ·repeat' (first
  | simp only[hlt,e1,g1,g2,basF_length,Int.toNat_natCast,push_cast,↓J1,↓J2,N1,N2,N3,reduceCtorEq,N4,N5,N6,reduceIte,N7,I1,I2,I3]
  | refine ifB_intro (fun h=>?_) (fun h=>?_)
  | refine And.intro ?_ ?_)
    all_goals first
     | omega
     | skip
    exact hJ3 _ (hdA [(5,5),(4,4),(3,3),(2,2),(1,1),(0,0)])
   ·repeat' (first
  | simp only[hlt,e1,g1,g2,basF_length,Int.toNat_natCast,push_cast,↓J1,↓J2,N1,N2,N3,reduceCtorEq,N4,N5,N6,reduceIte,N7,I1,I2,I3]
  | refine ifB_intro (fun h=>?_) (fun h=>?_)
  | refine And.intro ?_ ?_)
    all_goals first
     | omega
     | skip
    exact hJ3 _ (hdA [(5,5),(4,4),(3,3),(2,2),(1,1),(0,0)])
 ·have hlt:decide ((i:Int)<(L.length:Int))=false:=decide_eq_false (by omega)
  obtain rfl:i=L.length:=by omega
  clear hJJ hfs
  rw[hfe]
  rcases hn:nextB x.b q l last with _ | y
  ·rw[fgt_none hn k] at hf
   subst hf
   have gm:decide ((-1:Int)<0)=true:=rfl
   simp only[fAt,fVa]
   repeat' (first
  | simp only[hlt,gm,uns_length,tkq,Int.reduceLT,decide_true,hqs,push_cast,↓J1,↓J2,N1,N2,N3,reduceCtorEq,N4,N5,N6,reduceIte,N7,I1,I2,I3]
  | refine ifB_intro (fun h=>?_) (fun h=>?_)
  | refine And.intro ?_ ?_)
   all_goals first
    | omega
    | skip
   exact RetTo_of (by simp only[conR,conRL,isF,hget,hdel,List.drop_zero,List.take_length,if_true,if_false,reduceIte,N5,reduceCtorEq,tkq,tko,uns_length,hqs,fos_length];rfl)
  ·have hy:=hat y hn
   have hat:=hy.1.at1
   obtain⟨k,rfl⟩: ∃m,k=m+1:=⟨k-1,by omega⟩
   rw[fgt_some hn k] at hf
   have c4:=t60 hC x q y out.length seed hq ht hxb hy.1 (by omega)
   have hab:=afterB_ok (r:=resB x q y (rollB x seed out.length)) hq hy.1
   have gm:decide (y.at_<0)=false:=decide_eq_false (by omega)
   have efo:fos out++[foA (foB x q y seed out.length)]=fos (out++[foB x q y seed out.length]):=by simp[fos,foA]
   have hol: ∀z:Fo,(out++[z]).length=out.length+1:=fun z=>by simp
   generalize foB x q y seed out.length=fo at *
   generalize afterB x.b q y (resB x q y (rollB x seed out.length))=q2 at *
   have hq2:q2.us.length=s.us.length:=hab.2.trans hqs
   simp only[seF,brdF,rulF,mpF,ctF,List.cons_append,List.nil_append,staF,staO,btF,foA] at c4 efo
   simp only[fAt,fVa,baF]
   repeat' (first
  | simp only[hlt,gm,uns_length,tkq,frzLL_uns,hqs,Int.toNat_natCast,fos_length,intss_length,ints_length,frzLL_ints,tko,allScs,apYR_sc,efo,hq2,push_cast,↓J1,↓J2,N1,N2,N3,reduceCtorEq,N4,N5,N6,reduceIte,N7,I1,I2,I3]
  | refine⟨_,c4,?_⟩
  | refine ifB_intro (fun h=>?_) (fun h=>?_)
  | refine And.intro ?_ ?_)
   all_goals first
    | omega
    | skip
   refine hJ k _ _ (by omega) ⟨q2,y.at_,out++[fo],rfl,hab.1,hq2,by omega,by omega,by rw[hol];omega,by omega,hf⟩ ?_
   simp only[hol]
   exact(hdA [(10,4),(6,3),(2,2),(1,1),(0,0)])
end
end Go.Proofs.YtlkcpadkjepchaaGreatDoor.X
set_option maxHeartbeats 4000000
set_option maxRecDepth 8000
set_option linter.unusedSimpArgs false
set_option linter.unusedVariables false
open Nat renaming reduceBEq→N1,reduceAdd→N2,reduceSub→N3,reduceMul→N4,reduceEqDiff→N5,reduceLeDiff→N6,reduceLT→N7
open Int renaming reduceLE→I1,reduceLT→I2,reduceToNat→I3
namespace Go.Proofs.YtlkcpadkjepchaaGreatDoor.X
open Go
attribute [local irreducible] Ev
def bpOk(x:Se)(s:Sta)(l:List Od)(sd:Int):Bool:=gaOk x s&&(decide (l.length≤24)&&inR 0 4611686016279904236 sd)
def bpS(x:Se)(s:Sta)(l:List Od)(sd:Int):Sta:=if bpOk x s l sd then(fgt x l sd x.b.m.t.length s (-1) []).1 else sta0
def bpF(x:Se)(s:Sta)(l:List Od)(sd:Int):List Fo:=if bpOk x s l sd then(fgt x l sd x.b.m.t.length s (-1) []).2 else[]
theorem ga_sta{x:Se}{s:Sta}(g:gaOk x s=true):staOk x.b s=true:=by
 simp only[gaOk,Bool.and_eq_true] at g;exact g.2
theorem ga_ct{x:Se}{s:Sta}(g:gaOk x s=true):ctOk x.t=true:=by
 simp only[gaOk,seOk,Bool.and_eq_true] at g;exact g.1.1.1.1.1.2
theorem fgt_len{x:Se}{l:List Od}{sd:Int}: ∀(n:Nat) (s:Sta) (last:Int) (o:List Fo),staOk x.b s=true→(fgt x l sd n s last o).1.us.length=s.us.length∧(fgt x l sd n s last o).2.length≤o.length+n
 | 0,s,last,o,_=>⟨rfl,Nat.le_refl _⟩
 | n+1,s,last,o,h=>by
  rcases hn:nextB x.b s l last with _ | y
  ·rw[fgt_none hn];exact⟨rfl,by simp⟩
  ·have hy:=nextB_ok h hn
   have ha:=afterB_ok (r:=resB x s y (rollB x sd o.length)) h hy.1
   rw[fgt_some hn]
   have ih:=fgt_len (l:=l) (sd:=sd) n _ y.at_ (o++[foB x s y sd o.length]) ha.1
   exact⟨ih.1.trans ha.2,Nat.le_trans ih.2 (by simp;omega)⟩
theorem bp_len{x:Se}{s:Sta}{l:List Od}{sd:Int}(hl:s.us.length<2^30):(bpS x s l sd).us.length<2^40∧(bpF x s l sd).length<2^40:=by
 simp only[bpS,bpF]
 cases g:bpOk x s l sd
 ·simp only[Bool.false_eq_true,if_false,sta0,List.length_nil];exact⟨by omega,by omega⟩
 ·simp only[if_true]
  simp only[bpOk,Bool.and_eq_true] at g
  have h:=fgt_len (l:=l) (sd:=sd) x.b.m.t.length s (-1) [] (ga_sta g.1)
  have hw:=brd_wh (sta_brd (ga_sta g.1))
  simp only[List.length_nil] at h
  omega
section
variable{C:CT}(hC:Closed Tryz.prog G1 md0 C)(hF:FrzC C)
include hC hF
theorem t11(x:Se)(s:Sta)(l:List Od)(seed:Int)(hb:SeB (2^50) x)(hl:s.us.length<2^40)(hll:l.length<2^40):Ev C 11 [seF x,.agg (staF s),.sl (ods l),.int .i64 seed] (.tup [.agg (staO (bpS x s l seed)),.ow 3 (fos (bpF x s l seed)),.bool (bpOk x s l seed)]):=by
 have c1:=t35 hC x s hb hl
 have c3:=t36 hC seed
 have c2:=fun g (h:True)=>t37 hC hF x s l seed (ga_sta g) (ga_ct g) hb hll
 have ho2:=own_fos (bpF x s l seed)
 have tkf: ∀o:List Fo,List.take o.length (fos o)=fos o:=fun o=>List.take_of_length_le (by rw[fos_length];omega)
 have tkv: ∀u:List Un,List.take u.length (uns u)=uns u:=fun u=>List.take_of_length_le (by rw[uns_length];omega)
 have eG:bpOk x s l seed=(gaOk x s&&(decide (l.length≤24)&&inR 0 4611686016279904236 seed)):=rfl
 simp only[bpS,bpF] at *
 generalize bpOk x s l seed=G at *
 simp only[seF,brdF,rulF,mpF,ctF,clA,List.cons_append,List.nil_append,staF,staO] at *
 refine rT hC Q11 ?_ (by simp only[ownR,ownRL,own_uns,ho2,Bool.and_true])
 simp only[c11,push_cast,↓J1,↓J2,N1,N2,N3,reduceCtorEq,N4,N5,N6,reduceIte,N7,I1,I2,I3]
 refine⟨_,c1,?_⟩
 cases g1:gaOk x s
 ·obtain rfl:G=false:=by rw[eG,g1];rfl
  simp only[Bool.false_and,Bool.false_eq_true,if_false,push_cast,↓J1,↓J2,N1,N2,N3,reduceCtorEq,N4,N5,N6,reduceIte,N7,I1,I2,I3]
  exact RetTo_nil (h2:=_) (by simp only[conR,conRL,isF,hget,hdel,List.drop_zero,List.take_length,if_true,if_false,reduceIte,N5,reduceCtorEq];rfl) (NilTo_tup (NilToL_cons (NilTo_agg nil_sta) (NilToL_cons (show NilTo .nil (.ow 3 (fos [])) by simp only[NilTo];exact Or.inr ⟨3,rfl⟩) (NilToL_cons (NilTo.refl _) NilToL_nil))))
 have c2:=c2 g1 trivial
 by_cases g3:l.length≤24
 ·have g3':decide (24<(l.length:Int))=false:=decide_eq_false (by omega)
  simp only[ods_length,g3',push_cast,↓J1,↓J2,N1,N2,N3,reduceCtorEq,N4,N5,N6,reduceIte,N7,I1,I2,I3]
  refine⟨_,c3,?_⟩
  cases g2:inR 0 4611686016279904236 seed
  ·obtain rfl:G=false:=by rw[eG,g1,g2,Bool.and_false,Bool.and_false]
   simp only[Bool.and_false,Bool.false_eq_true,if_false,push_cast,↓J1,↓J2,N1,N2,N3,reduceCtorEq,N4,N5,N6,reduceIte,N7,I1,I2,I3]
   exact RetTo_nil (h2:=_) (by simp only[conR,conRL,isF,hget,hdel,List.drop_zero,List.take_length,if_true,if_false,reduceIte,N5,reduceCtorEq];rfl) (NilTo_tup (NilToL_cons (NilTo_agg nil_sta) (NilToL_cons (show NilTo .nil (.ow 3 (fos [])) by simp only[NilTo];exact Or.inr ⟨3,rfl⟩) (NilToL_cons (NilTo.refl _) NilToL_nil))))
  obtain rfl:G=true:=by rw[eG,g1,g2,decide_eq_true g3];rfl
  simp only[ods_length,g3',push_cast,↓J1,↓J2,N1,N2,N3,reduceCtorEq,N4,N5,N6,reduceIte,N7,I1,I2,I3]
  refine⟨_,c2,?_⟩
  simp only[if_true,push_cast,↓J1,↓J2,N1,N2,N3,reduceCtorEq,N4,N5,N6,reduceIte,N7,I1,I2,I3]
  exact RetTo_of (by simp only[conR,conRL,isF,hget,hdel,List.drop_zero,List.take_length,if_true,if_false,reduceIte,N5,reduceCtorEq,tkf,tkv,uns_length,fos_length];rfl)
 ·have g3':decide (24<(l.length:Int))=true:=decide_eq_true (by omega)
  obtain rfl:G=false:=by rw[eG,decide_eq_false g3,Bool.false_and,Bool.and_false]
  simp only[ods_length,g3',Bool.false_eq_true,if_false,push_cast,↓J1,↓J2,N1,N2,N3,reduceCtorEq,N4,N5,N6,reduceIte,N7,I1,I2,I3]
  exact RetTo_nil (h2:=_) (by simp only[conR,conRL,isF,hget,hdel,List.drop_zero,List.take_length,if_true,if_false,reduceIte,N5,reduceCtorEq];rfl) (NilTo_tup (NilToL_cons (NilTo_agg nil_sta) (NilToL_cons (show NilTo .nil (.ow 3 (fos [])) by simp only[NilTo];exact Or.inr ⟨3,rfl⟩) (NilToL_cons (NilTo.refl _) NilToL_nil))))
theorem t7(x:Se)(s:Sta)(l:List Od)(seed:Int)(hb:SeB (2^50) x)(hl:s.us.length<2^40)(hll:l.length<2^40):Ev C 7 [seF x,.agg (staF s),.sl (ods l),.int .i64 seed] (.tup [.agg (staO (bpS x s l seed)),.ow 3 (fos (bpF x s l seed)),.bool (bpOk x s l seed)]):=by
 have c1:=t27 hC x s seed hb hl
 have c2:=fun g (h:l.length<2^19)=>t28 hC hF x s l seed (ga_sta g) (ga_ct g) hb h
 have ho2:=own_fos (bpF x s l seed)
 have tkf: ∀o:List Fo,List.take o.length (fos o)=fos o:=fun o=>List.take_of_length_le (by rw[fos_length];omega)
 have tkv: ∀u:List Un,List.take u.length (uns u)=uns u:=fun u=>List.take_of_length_le (by rw[uns_length];omega)
 have eG:bpOk x s l seed=(gaOk x s&&(decide (l.length≤24)&&inR 0 4611686016279904236 seed)):=rfl
 simp only[bpS,bpF] at *
 generalize bpOk x s l seed=G at *
 simp only[seF,brdF,rulF,mpF,ctF,clA,List.cons_append,List.nil_append,staF,staO] at *
 refine rT hC Q7 ?_ (by simp only[ownR,ownRL,own_uns,ho2,Bool.and_true])
 simp only[c7,push_cast,↓J1,↓J2,N1,N2,N3,reduceCtorEq,N4,N5,N6,reduceIte,N7,I1,I2,I3]
 refine⟨_,c1,?_⟩
 cases g1:gaOk x s&&inR 0 4611686016279904236 seed
 ·obtain rfl:G=false:=by
   rw[eG,Bool.and_comm (decide _),←Bool.and_assoc,g1];rfl
  simp only[Bool.false_eq_true,if_false,push_cast,↓J1,↓J2,N1,N2,N3,reduceCtorEq,N4,N5,N6,reduceIte,N7,I1,I2,I3]
  exact RetTo_nil (h2:=_) (by simp only[conR,conRL,isF,hget,hdel,List.drop_zero,List.take_length,if_true,if_false,reduceIte,N5,reduceCtorEq];rfl) (NilTo_tup (NilToL_cons (NilTo_agg nil_sta) (NilToL_cons (show NilTo .nil (.ow 3 (fos [])) by simp only[NilTo];exact Or.inr ⟨3,rfl⟩) (NilToL_cons (NilTo.refl _) NilToL_nil))))
 by_cases g3:l.length≤24
 ·have g3':decide (24<(l.length:Int))=false:=decide_eq_false (by omega)
  have c2:=c2 (by simp only[Bool.and_eq_true] at g1;exact g1.1) (by omega)
  obtain rfl:G=true:=by rw[eG,Bool.and_comm (decide _),←Bool.and_assoc,g1,decide_eq_true g3];rfl
  simp only[ods_length,g3',push_cast,↓J1,↓J2,N1,N2,N3,reduceCtorEq,N4,N5,N6,reduceIte,N7,I1,I2,I3]
  refine⟨_,c2,?_⟩
  simp only[if_true,push_cast,↓J1,↓J2,N1,N2,N3,reduceCtorEq,N4,N5,N6,reduceIte,N7,I1,I2,I3]
  exact RetTo_of (by simp only[conR,conRL,isF,hget,hdel,List.drop_zero,List.take_length,if_true,if_false,reduceIte,N5,reduceCtorEq,tkf,tkv,uns_length,fos_length];rfl)
 ·have g3':decide (24<(l.length:Int))=true:=decide_eq_true (by omega)
  obtain rfl:G=false:=by rw[eG,decide_eq_false g3,Bool.false_and,Bool.and_false]
  simp only[ods_length,g3',Bool.false_eq_true,if_false,push_cast,↓J1,↓J2,N1,N2,N3,reduceCtorEq,N4,N5,N6,reduceIte,N7,I1,I2,I3]
  exact RetTo_nil (h2:=_) (by simp only[conR,conRL,isF,hget,hdel,List.drop_zero,List.take_length,if_true,if_false,reduceIte,N5,reduceCtorEq];rfl) (NilTo_tup (NilToL_cons (NilTo_agg nil_sta) (NilToL_cons (show NilTo .nil (.ow 3 (fos [])) by simp only[NilTo];exact Or.inr ⟨3,rfl⟩) (NilToL_cons (NilTo.refl _) NilToL_nil))))
end
end Go.Proofs.YtlkcpadkjepchaaGreatDoor.X
set_option maxHeartbeats 4000000
set_option maxRecDepth 8000
set_option linter.unusedSimpArgs false
set_option linter.unusedVariables false
open Nat renaming reduceBEq→N1,reduceAdd→N2,reduceSub→N3,reduceMul→N4,reduceEqDiff→N5,reduceLeDiff→N6,reduceLT→N7
open Int renaming reduceLE→I1,reduceLT→I2,reduceToNat→I3
namespace Go.Proofs.YtlkcpadkjepchaaGreatDoor.X
open Go
attribute [local irreducible] Ev
section
variable{C:CT}(hC:Closed Tryz.prog G1 md0 C)(hF:FrzC C)
include hC hF
end
attribute [-push_cast] R_fork
section
variable{C:CT}(hC:Closed Tryz.prog G1 md0 C)(hF:FrzC C)
include hC hF
theorem t3(x:Se)(s:Sta)(ak:List Od)(d:Int)(hx:SeB (2^50) x)(hs:s.us.length<2^50)(hak:ak.length<2^50):Ev C 3 [seF x,.agg (staF s),.sl (ods ak),.int .i64 d] (.bool true):=by
 have z0:=fun p=>t4 hC x 1048576 p hx
 have z1:=fun p=>t5 hC s (szSe x 1048576) p hs
 have z2:=fun p=>t6 hC ak (sub1 (szSe x 1048576) s.us.length) p hak
 have d0:=fun Hx=>t8 hC x Hx
 have e0:=t14 hC x x hx hx
 have d1:=fun Hs=>t9 hC s Hs
 have e1:=t12 hC s s hs hs
 have d2:=fun Hak=>t10 hC ak Hak
 have e2:=t15 hC ak ak hak hak
 have f1:=fun(Hx:SeB (2^30) x) (Hs:s.us.length<2^30) (Hak:ak.length<2^30)=>t7 hC hF x s ak d hx (by omega) (by omega)
 have f2:=fun(Hx:SeB (2^30) x) (Hs:s.us.length<2^30) (Hak:ak.length<2^30)=>t11 hC hF x s ak d hx (by omega) (by omega)
 have hq:=True.intro
 have bR:(SeB (2^30) x)→(s.us.length<2^30)→(ak.length<2^30)→((bpS x s ak d)).us.length<2^40:=by intros;(exact(bp_len (by assumption)).1)
 have bQ:(SeB (2^30) x)→(s.us.length<2^30)→(ak.length<2^30)→((bpF x s ak d)).length<2^40:=by intros;(exact(bp_len (by assumption)).2)
 generalize (bpS x s ak d)=R at *
 generalize (bpF x s ak d)=Q at *
 simp only[brdO,rulO,mpO,brdF,rulF,mpF,seF,seO,ctF,ctO,szSta,staF,staO,sz1,List.cons_append,List.nil_append,List.append_assoc,decide_true] at *
 refine rT hC Q3 ?_
 simp only[c3,push_cast,↓J1,↓J2,N1,N2,N3,reduceCtorEq,N4,N5,N6,reduceIte,N7,I1,I2,I3]
 refine⟨_,z0 (by omega),?_⟩
 simp only[push_cast,↓J1,↓J2,N1,N2,N3,reduceCtorEq,N4,N5,N6,reduceIte,N7,I1,I2,I3]
 refine ifB_intro (fun h=>trivial) (fun h=>?_)
 have n0:=of_decide_eq_false h
 clear h
 have l0:=szSe_le (s:=x) (v:=1048576) (by omega) (by omega)
 have Hx:SeB (2^30) x:=(szSe_pos (by omega)).mono (by omega)
 have Gx:SeB (2^21) x:=szSe_pos (by omega)
 refine⟨_,z1 (by omega),?_⟩
 simp only[push_cast,↓J1,↓J2,N1,N2,N3,reduceCtorEq,N4,N5,N6,reduceIte,N7,I1,I2,I3]
 refine ifB_intro (fun h=>trivial) (fun h=>?_)
 have n1:=of_decide_eq_false h
 clear h
 have l1:=sub1_le (v:=(szSe x 1048576)) (n:=s.us.length) (by omega)
 have Hs:s.us.length<2^30:=by have:=sub1_pos (v:=(szSe x 1048576)) (n:=s.us.length) (by omega);omega
 refine⟨_,z2 (by omega),?_⟩
 simp only[push_cast,↓J1,↓J2,N1,N2,N3,reduceCtorEq,N4,N5,N6,reduceIte,N7,I1,I2,I3]
 refine ifB_intro (fun h=>trivial) (fun h=>?_)
 have n2:=of_decide_eq_false h
 clear h
 have l2:=sub1_le (v:=(sub1 (szSe x 1048576) s.us.length)) (n:=ak.length) (by omega)
 have Hak:ak.length<2^30:=by have:=sub1_pos (v:=(sub1 (szSe x 1048576) s.us.length)) (n:=ak.length) (by omega);omega
 have d0:=d0 Hx
 have d1:=d1 Hs
 have d2:=d2 Hak
 have bR:=bR Hx Hs Hak
 have hR:R.us.length<2^50:=by omega
 have bQ:=bQ Hx Hs Hak
 have hQ:Q.length<2^50:=by omega
 have f1:=f1 Hx Hs Hak
 have f2:=f2 Hx Hs Hak
 have r0:=t12 hC R R hR hR
 have r1:=t13 hC Q Q hQ hQ
 have tkR0:List.take R.us.length (uns R.us)=uns R.us:=List.take_of_length_le (by rw[uns_length];omega)
 have tkR1: ∀k,List.take R.us.length (uns (mkUns k R.us.length))=uns (mkUns k R.us.length):=fun k=>List.take_of_length_le (by rw[uns_length,mkUns_length];omega)
 have tkQ0:List.take Q.length (fos Q)=fos Q:=List.take_of_length_le (by rw[fos_length];omega)
 have tkQ1: ∀k,List.take Q.length (fos (mkFos k Q.length))=fos (mkFos k Q.length):=fun k=>List.take_of_length_le (by rw[fos_length,mkFos_length];omega)
 simp only[brdO,rulO,mpO,brdF,rulF,mpF,seF,seO,ctF,ctO,szSta,staF,staO,sz1,List.cons_append,List.nil_append,List.append_assoc,decide_true] at r0 r1
 have q0:=t20 hC R.t R.w 1 R.us.length (by omega) (by omega)
 have w0:decide (1+4*(R.us.length:Int)<0)=false:=decide_eq_false (by omega)
 have q1:=t21 hC (1+4*(R.us.length:Int)) Q.length (by omega) (by omega)
 have w1:decide (1+4*(R.us.length:Int)+3*(Q.length:Int)<0)=false:=decide_eq_false (by omega)
 refine cutF (fun s'=> ∃l h i0 j0 j1,s'=⟨tb 184 (.con undef) l,h,16⟩∧lk (.con undef) l 4= .ptr 0 none 0 0 0∧lk (.con undef) l 5= .ptr 1 none 0 0 0∧lk (.con undef) l 2= .sl (ods ak)∧lk (.con undef) l 3= .int .i64 d∧lk (.con undef) l 10= .ptr i0 none 0 0 0∧lk (.con undef) l 11= .ref j1 none 3 0 (fos Q).length∧lk (.con undef) l 12= .bool (bpOk x s ak d)∧hget h 0=some (.var [.sl (tersF x.b.r.ts),.sl (kins x.b.r.ks),.int .i64 x.b.r.stack,.int .i64 x.b.r.river,.int .i64 x.b.r.road,.int .i64 x.b.r.supply,.int .i64 x.b.r.turns,.int .i64 x.b.m.w,.int .i64 x.b.m.h,.sl (ints x.b.m.t),.sl (ints x.b.m.ri),.sl (ints x.b.m.ro),.sl (ods x.t.cs),.int .i64 x.t.d,.sl (intss x.t.rs),.sl (intss x.c),.sl (intss x.src)])∧hget h 1=some (.var [.int .i64 s.t,.int .i64 s.w,.sl (uns s.us)])∧hget h i0=some (.var [.int .i64 R.t,.int .i64 R.w,.ref j0 none 4 0 (uns R.us).length])∧hget h j0=some (.slice 4 (uns R.us))∧hget h j1=some (.slice 3 (fos Q))∧killA l=l∧below 16 h∧solid h) (fun K F hK=>?_) ?_
 ·repeat' (first
  | simp only[R_fork,frzLL_ints,frzLL_ters,frzLL_kins,frzLL_owss,frzLL_ods,frzLL_uns,frzLL_fos,push_cast,↓J1,↓J2,N1,N2,N3,reduceCtorEq,N4,N5,N6,reduceIte,N7,I1,I2,I3]
  | refine⟨_,d0,?_⟩
  | refine⟨_,d1,?_⟩
  | refine⟨_,d2,?_⟩
  | refine⟨_,f1,?_⟩
  | refine ifB_intro (fun h=>?_) (fun h=>?_)
  | refine And.intro ?_ ?_)
  all_goals
   refine hK _ ⟨_,_,_,_,_,rfl,rfl,rfl,rfl,rfl,rfl,rfl,rfl,rfl,rfl,rfl,rfl,rfl,?_,?_,?_⟩
   ·rfl
   ·rfl
   ·rfl
 rintro _ ⟨l,h,i0,j0,j1,rfl,L0,L1,L2,L3,L4,L5,L6,H0,H1,H2,H3,H4,hL,hB,hS⟩
 have pi0:i0<16:=below_lt hB H2
 have xi0: ∀k,16≤k→(k=i0)=False:=fun k hk=>eq_false (by omega)
 have yi0: ∀k,16≤k→(i0=k)=False:=fun k hk=>eq_false (by omega)
 have ui0: ∀k,16≤k→(i0<k)=True:=fun k hk=>eq_true (by omega)
 have pj0:j0<16:=below_lt hB H3
 have xj0: ∀k,16≤k→(k=j0)=False:=fun k hk=>eq_false (by omega)
 have yj0: ∀k,16≤k→(j0=k)=False:=fun k hk=>eq_false (by omega)
 have uj0: ∀k,16≤k→(j0<k)=True:=fun k hk=>eq_true (by omega)
 have pj1:j1<16:=below_lt hB H4
 have xj1: ∀k,16≤k→(k=j1)=False:=fun k hk=>eq_false (by omega)
 have yj1: ∀k,16≤k→(j1=k)=False:=fun k hk=>eq_false (by omega)
 have uj1: ∀k,16≤k→(j1<k)=True:=fun k hk=>eq_true (by omega)
 have hS':killH h=h:=hS
 have hB': ∀m,16≤m→below m h:=fun m hm=>below_le hB hm
 repeat' (first
  | simp only[frzLL_ints,frzLL_ters,frzLL_kins,frzLL_owss,frzLL_ods,frzLL_uns,frzLL_fos,L0,L1,L2,L3,L4,L5,L6,H0,H1,H2,H3,H4,xi0,yi0,ui0,xj0,yj0,uj0,xj1,yj1,uj1,hS',hL,push_cast,↓J1,↓J2,N1,N2,N3,reduceCtorEq,N4,N5,N6,reduceIte,N7,I1,I2,I3]
  | refine⟨_,d0,?_⟩
  | refine⟨_,e0,?_⟩
  | refine⟨_,d1,?_⟩
  | refine⟨_,e1,?_⟩
  | refine⟨_,d2,?_⟩
  | refine⟨_,e2,?_⟩
  | refine⟨_,r0,?_⟩
  | refine⟨_,r1,?_⟩
  | refine⟨_,q0,?_⟩
  | refine⟨_,q1,?_⟩
  | refine⟨_,f1,?_⟩
  | refine⟨_,f2,?_⟩
  | refine ifB_intro (fun h=>?_) (fun h=>?_)
  | refine And.intro ?_ ?_)
 all_goals
  try simp only[tersO_length,kins_length,ints_length,ods_length,owss_length,uns_length,fos_length]
  refine⟨_,t16 hC x _ _ _ _ _ _ _ _ _ 1 _ _ ?_ ?_ ?_ ?_ ?_ ?_ ?_ ?_ ?_ ?_ ?_ ?_ ?_ ?_ ?_ ?_ ?_ ?_ ?_ ?_ ?_ ?_ ?_ ?_ ?_ ?_ ?_ ?_ ?_ ?_ ?_ ?_ ?_ ?_ ?_ ?_ ?_ ?_ ?_ ?_ ?_ ?_ ?_ ?_ ?_ Gx ?_ ?_ ?_,?_⟩
  any_goals (first | rfl | assumption | decide | omega | (simp only[tkR0,tkR1,tkQ0,tkQ1,L0,L1,L2,L3,L4,L5,L6,H0,H1,H2,H3,H4,xi0,yi0,ui0,xj0,yj0,uj0,xj1,yj1,uj1,hS',hL,hget,N5,N7,reduceIte];done) | ((repeat' (first | exact hB' _ (by decide) | refine below_mk (by decide) rfl ?_));done) | (simp only[solid,killH,killL,killS,hS'];done))
  rintro v0 a0 m0 p0 _
  obtain⟨⟨k0,rfl,u0,o0⟩,rfl,y0,B0,S0⟩:=p0
  have K0:killH a0=a0:=S0
  unfold FrH at y0
  have nn0:decide (k0<0)=false:=decide_eq_false (by omega)
  repeat' (first
  | simp only[frzLL_ints,frzLL_ters,frzLL_kins,frzLL_owss,frzLL_ods,frzLL_uns,frzLL_fos,tkR0,tkR1,tkQ0,tkQ1,K0,y0,nn0,List.mem_cons,List.not_mem_nil,or_false,not_false_eq_true,not_or,and_true,and_self,L0,L1,L2,L3,L4,L5,L6,H0,H1,H2,H3,H4,xi0,yi0,ui0,xj0,yj0,uj0,xj1,yj1,uj1,hS',hL,push_cast,↓J1,↓J2,N1,N2,N3,reduceCtorEq,N4,N5,N6,reduceIte,N7,I1,I2,I3]
  | refine⟨_,d0,?_⟩
  | refine⟨_,e0,?_⟩
  | refine⟨_,d1,?_⟩
  | refine⟨_,e1,?_⟩
  | refine⟨_,d2,?_⟩
  | refine⟨_,e2,?_⟩
  | refine⟨_,r0,?_⟩
  | refine⟨_,r1,?_⟩
  | refine⟨_,q0,?_⟩
  | refine⟨_,q1,?_⟩
  | refine⟨_,f1,?_⟩
  | refine⟨_,f2,?_⟩
  | refine ifB_intro (fun h=>?_) (fun h=>?_)
  | refine And.intro ?_ ?_)
 all_goals
  try simp only[tersO_length,kins_length,ints_length,ods_length,owss_length,uns_length,fos_length]
  refine⟨_,t17 hC s.t s.w s.us _ (k0) _ _ ?_ ?_ ?_ ?_ (by omega),?_⟩
  any_goals (first | rfl | assumption | decide | omega | (simp only[tkR0,tkR1,tkQ0,tkQ1,K0,y0,nn0,List.mem_cons,List.not_mem_nil,or_false,not_false_eq_true,not_or,and_true,and_self,L0,L1,L2,L3,L4,L5,L6,H0,H1,H2,H3,H4,xi0,yi0,ui0,xj0,yj0,uj0,xj1,yj1,uj1,hS',hL,hget,N5,N7,reduceIte];done) | ((repeat' (first | exact hB' _ (by decide) | refine below_mk (by decide) rfl ?_));done) | (simp only[solid,killH,killL,killS,hS'];done))
  rintro v1 a1 m1 p1 _
  obtain⟨rfl,rfl,-,y1,B1,S1⟩:=p1
  have K1:killH a1=a1:=S1
  unfold FrH at y1
  have nn1:decide (k0+4*(s.us.length:Int)<0)=false:=decide_eq_false (by omega)
  repeat' (first
  | simp only[frzLL_ints,frzLL_ters,frzLL_kins,frzLL_owss,frzLL_ods,frzLL_uns,frzLL_fos,tkR0,tkR1,tkQ0,tkQ1,K0,y0,nn0,List.mem_cons,List.not_mem_nil,or_false,not_false_eq_true,not_or,and_true,and_self,K1,y1,nn1,L0,L1,L2,L3,L4,L5,L6,H0,H1,H2,H3,H4,xi0,yi0,ui0,xj0,yj0,uj0,xj1,yj1,uj1,hS',hL,push_cast,↓J1,↓J2,N1,N2,N3,reduceCtorEq,N4,N5,N6,reduceIte,N7,I1,I2,I3]
  | refine⟨_,d0,?_⟩
  | refine⟨_,e0,?_⟩
  | refine⟨_,d1,?_⟩
  | refine⟨_,e1,?_⟩
  | refine⟨_,d2,?_⟩
  | refine⟨_,e2,?_⟩
  | refine⟨_,r0,?_⟩
  | refine⟨_,r1,?_⟩
  | refine⟨_,q0,?_⟩
  | refine⟨_,q1,?_⟩
  | refine⟨_,f1,?_⟩
  | refine⟨_,f2,?_⟩
  | refine ifB_intro (fun h=>?_) (fun h=>?_)
  | refine And.intro ?_ ?_)
 all_goals
  try simp only[tersO_length,kins_length,ints_length,ods_length,owss_length,uns_length,fos_length]
  refine⟨_,t18 hC ak (k0+4*(s.us.length:Int)) _ _ _ ?_ ?_ ?_ ?_ ?_,?_⟩
  any_goals (first | rfl | assumption | decide | omega | (simp only[tkR0,tkR1,tkQ0,tkQ1,K0,y0,nn0,List.mem_cons,List.not_mem_nil,or_false,not_false_eq_true,not_or,and_true,and_self,K1,y1,nn1,L0,L1,L2,L3,L4,L5,L6,H0,H1,H2,H3,H4,xi0,yi0,ui0,xj0,yj0,uj0,xj1,yj1,uj1,hS',hL,hget,N5,N7,reduceIte];done) | ((repeat' (first | exact hB' _ (by decide) | refine below_mk (by decide) rfl ?_));done) | (simp only[solid,killH,killL,killS,hS'];done))
  rintro v2 a2 m2 p2 _
  obtain⟨⟨k2,rfl,u2,o2⟩,rfl,y2,B2,S2⟩:=p2
  have K2:killH a2=a2:=S2
  unfold FrH at y2
  have nn2:decide (k2<0)=false:=decide_eq_false (by omega)
  repeat' (first
  | simp only[frzLL_ints,frzLL_ters,frzLL_kins,frzLL_owss,frzLL_ods,frzLL_uns,frzLL_fos,tkR0,tkR1,tkQ0,tkQ1,K0,y0,nn0,List.mem_cons,List.not_mem_nil,or_false,not_false_eq_true,not_or,and_true,and_self,K1,y1,nn1,K2,y2,nn2,L0,L1,L2,L3,L4,L5,L6,H0,H1,H2,H3,H4,xi0,yi0,ui0,xj0,yj0,uj0,xj1,yj1,uj1,hS',hL,push_cast,↓J1,↓J2,N1,N2,N3,reduceCtorEq,N4,N5,N6,reduceIte,N7,I1,I2,I3]
  | refine⟨_,d0,?_⟩
  | refine⟨_,e0,?_⟩
  | refine⟨_,d1,?_⟩
  | refine⟨_,e1,?_⟩
  | refine⟨_,d2,?_⟩
  | refine⟨_,e2,?_⟩
  | refine⟨_,r0,?_⟩
  | refine⟨_,r1,?_⟩
  | refine⟨_,q0,?_⟩
  | refine⟨_,q1,?_⟩
  | refine⟨_,f1,?_⟩
  | refine⟨_,f2,?_⟩
  | refine ifB_intro (fun h=>?_) (fun h=>?_)
  | refine And.intro ?_ ?_)
 all_goals
  try simp only[tersO_length,kins_length,ints_length,ods_length,owss_length,uns_length,fos_length]
  refine⟨_,t17 hC R.t R.w R.us _ 1 _ _ ?_ ?_ ?_ ?_ (by omega),?_⟩
  any_goals (first | rfl | assumption | decide | omega | (simp only[tkR0,tkR1,tkQ0,tkQ1,K0,y0,nn0,List.mem_cons,List.not_mem_nil,or_false,not_false_eq_true,not_or,and_true,and_self,K1,y1,nn1,K2,y2,nn2,L0,L1,L2,L3,L4,L5,L6,H0,H1,H2,H3,H4,xi0,yi0,ui0,xj0,yj0,uj0,xj1,yj1,uj1,hS',hL,hget,N5,N7,reduceIte];done) | ((repeat' (first | exact hB' _ (by decide) | refine below_mk (by decide) rfl ?_));done) | (simp only[solid,killH,killL,killS,hS'];done))
  rintro v3 a3 m3 p3 _
  obtain⟨rfl,rfl,g3,y3,B3,S3⟩:=p3
  have K3:killH a3=a3:=S3
  unfold FrH at y3
  repeat' (first
  | simp only[frzLL_ints,frzLL_ters,frzLL_kins,frzLL_owss,frzLL_ods,frzLL_uns,frzLL_fos,tkR0,tkR1,tkQ0,tkQ1,K0,y0,nn0,List.mem_cons,List.not_mem_nil,or_false,not_false_eq_true,not_or,and_true,and_self,K1,y1,nn1,K2,y2,nn2,K3,y3,g3,w0,w1,L0,L1,L2,L3,L4,L5,L6,H0,H1,H2,H3,H4,xi0,yi0,ui0,xj0,yj0,uj0,xj1,yj1,uj1,hS',hL,push_cast,↓J1,↓J2,N1,N2,N3,reduceCtorEq,N4,N5,N6,reduceIte,N7,I1,I2,I3]
  | refine⟨_,d0,?_⟩
  | refine⟨_,e0,?_⟩
  | refine⟨_,d1,?_⟩
  | refine⟨_,e1,?_⟩
  | refine⟨_,d2,?_⟩
  | refine⟨_,e2,?_⟩
  | refine⟨_,r0,?_⟩
  | refine⟨_,r1,?_⟩
  | refine⟨_,q0,?_⟩
  | refine⟨_,q1,?_⟩
  | refine⟨_,f1,?_⟩
  | refine⟨_,f2,?_⟩
  | refine ifB_intro (fun h=>?_) (fun h=>?_)
  | refine And.intro ?_ ?_)
 all_goals
  try simp only[tersO_length,kins_length,ints_length,ods_length,owss_length,uns_length,fos_length]
  refine⟨_,t19 hC Q (1+4*(R.us.length:Int)) _ _ _ ?_ ?_ ?_ ?_ ?_,?_⟩
  any_goals (first | rfl | assumption | decide | omega | (simp only[tkR0,tkR1,tkQ0,tkQ1,K0,y0,nn0,List.mem_cons,List.not_mem_nil,or_false,not_false_eq_true,not_or,and_true,and_self,K1,y1,nn1,K2,y2,nn2,K3,y3,g3,L0,L1,L2,L3,L4,L5,L6,H0,H1,H2,H3,H4,xi0,yi0,ui0,xj0,yj0,uj0,xj1,yj1,uj1,hS',hL,hget,N5,N7,reduceIte];done) | ((repeat' (first | exact hB' _ (by decide) | refine below_mk (by decide) rfl ?_));done) | (simp only[solid,killH,killL,killS,hS'];done))
  rintro v4 a4 m4 p4 _
  obtain⟨rfl,rfl,g4,y4,B4,S4⟩:=p4
  have K4:killH a4=a4:=S4
  unfold FrH at y4
  repeat' (first
  | simp only[frzLL_ints,frzLL_ters,frzLL_kins,frzLL_owss,frzLL_ods,frzLL_uns,frzLL_fos,tkR0,tkR1,tkQ0,tkQ1,K0,y0,nn0,List.mem_cons,List.not_mem_nil,or_false,not_false_eq_true,not_or,and_true,and_self,K1,y1,nn1,K2,y2,nn2,K3,y3,g3,K4,y4,g4,w0,w1,L0,L1,L2,L3,L4,L5,L6,H0,H1,H2,H3,H4,xi0,yi0,ui0,xj0,yj0,uj0,xj1,yj1,uj1,hS',hL,R_fork,push_cast,↓J1,↓J2,N1,N2,N3,reduceCtorEq,N4,N5,N6,reduceIte,N7,I1,I2,I3]
  | refine⟨_,d0,?_⟩
  | refine⟨_,e0,?_⟩
  | refine⟨_,d1,?_⟩
  | refine⟨_,e1,?_⟩
  | refine⟨_,d2,?_⟩
  | refine⟨_,e2,?_⟩
  | refine⟨_,r0,?_⟩
  | refine⟨_,r1,?_⟩
  | refine⟨_,q0,?_⟩
  | refine⟨_,q1,?_⟩
  | refine⟨_,f1,?_⟩
  | refine⟨_,f2,?_⟩
  | refine ifB_intro (fun h=>?_) (fun h=>?_)
  | refine And.intro ?_ ?_)
end
end Go.Proofs.YtlkcpadkjepchaaGreatDoor.X
