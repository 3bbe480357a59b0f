/- A part of the proof: lemmas on the machine or on the functions that the law reaches. No condition of its own. -/
import Derived.Test.YtlkcpadkjepchaaGreatDoorXP8
import Derived.Test.YtlkcpadkjepchaaGreatDoorXP6
import Derived.Test.YtlkcpadkjepchaaGreatDoorXP4
import Derived.Test.YtlkcpadkjepchaaGreatDoorXP5
import Derived.Test.YtlkcpadkjepchaaGreatDoorXP7
set_option maxHeartbeats 4000000
set_option maxRecDepth 8000
set_option linter.unusedSimpArgs false
set_option linter.unusedVariables false
open Nat renaming reduceBEq→N1,reduceAdd→N2,reduceSub→N3,reduceMul→N4,reduceEqDiff→N5,reduceLeDiff→N6,reduceLT→N7
open Int renaming reduceLE→I1,reduceLT→I2,reduceToNat→I3
namespace Go.Proofs.YtlkcpadkjepchaaGreatDoor.X
open Go
attribute [local irreducible] Ev
theorem bytI_len(s:ByteArray):(bytI s).length=s.size:=by simp[bytI]
def bytT(s:ByteArray)(n:Nat):List Int:=(List.range n).map fun i:Nat=>bt s i
theorem bytT_succ(s:ByteArray)(n:Nat):bytT s (n+1)=bytT s n++[bt s n]:=by simp[bytT,List.range_succ]
theorem bytT_len(s:ByteArray)(n:Nat):(bytT s n).length=n:=by simp[bytT]
theorem bt_bnd(s:ByteArray)(i:Int):0≤bt s i∧bt s i<256:=by
 simp only[bt]
 have:=(s.data.toList.getD i.toNat 0).toNat_lt
 omega
theorem fr_sc{b:Brd}{s:Sta}{i:Int}{l:List Int}(m n:Nat):allSc (((fr b s i l).drop n).take m)=true:=by
 have key: ∀q:List Nat,allSc (q.map fun d=>AV.bool (hasL b s i l d))=true:=by
  intro q
  induction q with
  | nil=>rfl
  | cons x q ih=>simpa [allSc,isSc] using ih
 simp only[fr,←List.map_drop,←List.map_take]
 exact key _
theorem fr_sn{b:Brd}{s:Sta}{i:Int}{l:List Int}(m n:Nat):allSn (((fr b s i l).drop n).take m)=true:=allSn_of (fr_sc m n)
theorem ints_app(l r:List Int):ints l++ints r=ints (l++r):=by simp[ints]
theorem ter_sh{b:Brd}{i:Int}(g:brdOk b=true)(hi:0≤i∧i<b.m.w*b.m.h): -3≤(terAt b i).s∧(terAt b i).s≤3:=by
 have hwh:=brd_wh g
 have h1:i.toNat<b.m.t.length:=by omega
 have ht:=ter_in g h1
 have h2:(b.m.t.getD i.toNat 0).toNat<b.r.ts.length:=by omega
 have e:terAt b i=b.r.ts[(b.m.t.getD i.toNat 0).toNat]:=by
  simp only[terAt]
  rw[List.getD,List.getElem?_eq_getElem h2,Option.getD_some]
 have hr:=brd_ru g
 simp only[rulOk,allI,Bool.and_eq_true,List.all_eq_true,List.mem_range] at hr
 have h3:=hr.1.1.2 _ h2
 simp only[List.getElem?_eq_getElem h2,terOk,inR,Bool.and_eq_true,decide_eq_true_eq] at h3
 rw[e];omega
section
variable{C:CT}(hC:Closed Tryz.prog G1 md0 C)
include hC
theorem t125(b:Brd)(s:Sta)(y:Bt)(h:staOk b s=true)(hy:BtOk b s y)(hb:BrdB (2^50) b):Ev C 125 [brdF b,.agg (staF s),.agg (btF y)] (.int .i64 (shiftB b s y)):=by
 have hm:=mp_wh (brd_mp (sta_brd h))
 have hwh:=brd_wh (sta_brd h)
 have hlen:=sta_len h
 have hat:=bt_at h hy
 have hs:=ter_sh (sta_brd h) hat
 have c1:=fun h' n hs=>t176g hC b y.at_ h' n hs (sta_brd h) hat hb
 have c2:=fun k=>t168 hC b.m y.at_ k hm.1 hm.2 (by omega)
 have e0:terF (terAt b y.at_)=[.str (terAt b y.at_).n,.sl (ints (terAt b y.at_).c),.int .i64 (terAt b y.at_).s,.int .i64 (terAt b y.at_).h,.bool (terAt b y.at_).b]:=rfl
 have hsd:shiftB b s y=(if opI b s y.at_ y.ak then 1-(terAt b y.at_).s else-(terAt b y.at_).s)-(if s.w=2 then 1 else 0):=rfl
 rw[hsd]
 generalize terAt b y.at_=t at *
 simp only[e0,brdF,rulF,mpF,List.cons_append,List.nil_append,staF,btF,unA] at *
 refine rT hC Q125 ?_
 simp only[c125,push_cast,↓J1,↓J2,N1,N2,N3,reduceCtorEq,N4,N5,N6,reduceIte,N7,I1,I2,I3]
 refine⟨_,c1 _ _ (by simp[solid,killH,killL,killS]),?_⟩
 rintro v h' n' ⟨rfl,rfl,rfl⟩ _
 simp only[ints_length,push_cast,↓J1,↓J2,N1,N2,N3,reduceCtorEq,N4,N5,N6,reduceIte,N7,I1,I2,I3]
 refine RL_count (fun i=>⟨tb 60 .any [(3,.ptr 0 none 0 0 0),(4,.ptr 1 none 0 0 0),(5,.ptr 2 none 0 0 0),(7,.int .i64 (-t.s)),(8,.ptr 3 none 0 0 0),(20,.sl (ints y.ak)),(21,.int .i64 (y.ak.length:Int)),(22,.int .i64 (i:Int))],[(3,.var (fr b s y.at_ (y.ak.take i))),(2,.var (btF y)),(1,.var (staF s)),(0,.var (rulF b.r++mpF b.m))],4⟩) (fun _=>True) y.ak.length 0 (hdA [(5,3),(2,2),(1,1),(0,0)]) (by omega) trivial fun i hi _ J hJ=>?_
 simp only[brdF,rulF,mpF,List.cons_append,List.nil_append,staF,btF,unA]
 by_cases h1:i<y.ak.length
 ·have e1:=cut_ints_get h1
  have hlt:decide ((i:Int)<(y.ak.length:Int))=true:=decide_eq_true (by omega)
  have hJ1:=hJ h1 trivial
  have hx:=hy.ak1 _ (getD_in h1)
  have hyl:=hy.ak3
  rw[take_snoc h1] at hJ1
  generalize y.ak.getD i 0=k at *
  have hk2:0≤k∧k<(s.us.length:Int):=by omega
  have e2:=uns_int hk2
  obtain⟨d,hd,hd6,hdn⟩:=dir_nat hx.2.2.2.1
  have efs:=fr_set (l:=y.ak.take i) hd6 hd
  have c2:=c2 (unOf s k).at_
  rw[hd] at c2
  have hfl:=fr_len (b:=b) (s:=s) (i:=y.at_) (l:=y.ak.take i)
  repeat' (first
  | simp only[hlt,e1,e2,Int.toNat_natCast,ints_length,uns_length,unA,fr_len,efs,fr_sn,stIf_true,Nat.mul_one,setsA,push_cast,↓J1,↓J2,N1,N2,N3,reduceCtorEq,N4,N5,N6,reduceIte,N7,I1,I2,I3]
  | refine⟨_,c2,?_⟩
  | refine ifB_intro (fun h=>?_) (fun h=>?_)
  | refine And.intro ?_ ?_)
  all_goals first
   | omega
   | exact hJ1 _ (hdA [(3,3),(2,2),(1,1),(0,0)])
 ·have hlt:decide ((i:Int)<(y.ak.length:Int))=false:=decide_eq_false (by omega)
  obtain rfl:i=y.ak.length:=by omega
  have hfr: ∀d<6,(fr b s y.at_ y.ak)[d]?=some (.bool (hasL b s y.at_ y.ak d)):=fun d h=>fr_get h
  simp only[hlt,List.take_length,push_cast,↓J1,↓J2,N1,N2,N3,reduceCtorEq,N4,N5,N6,reduceIte,N7,I1,I2,I3]
  refine RL_count (fun j=>⟨tb 60 .any [(4,.ptr 1 none 0 0 0),(7,.int .i64 (-t.s)),(8,.ptr 3 none 0 0 0),(39,.int .i64 (j:Int))],[(3,.var (fr b s y.at_ y.ak)),(1,.var (staF s))],4⟩) (fun j=> ∀d<j,(hasL b s y.at_ y.ak d&&hasL b s y.at_ y.ak (d+3))=false) 3 0 (hdA [(3,3),(1,1)]) (by omega) (by intro d h;omega) fun j hj ht JJ hJJ=>?_
  simp only[brdF,rulF,mpF,List.cons_append,List.nil_append,staF,btF,unA]
  have hfl:=fr_len (b:=b) (s:=s) (i:=y.at_) (l:=y.ak)
  have ho:j<3→hasL b s y.at_ y.ak j=true→hasL b s y.at_ y.ak (j+3)=true→opI b s y.at_ y.ak=true:=by
   intro hj q0 q3
   obtain rfl | rfl | rfl:j=0∨j=1∨j=2:=by omega
   all_goals simp only[Nat.zero_add,Nat.reduceAdd] at q3;simp only[opI,q0,q3,Bool.and_self,Bool.true_or,Bool.or_true]
  have hno:j=3→opI b s y.at_ y.ak=false:=by
   rintro rfl
   simp only[opI,ht 0 (by omega),ht 1 (by omega),ht 2 (by omega),Bool.or_false]
  have w4:IntKind.i64.wrap (-t.s+1)=1-t.s:=by rw[wrap64 (by omega) (by omega)];omega
  have w5:IntKind.i64.wrap (1-t.s-1)=1-t.s-1:=wrap64 (by omega) (by omega)
  have w6:IntKind.i64.wrap (-t.s-1)= -t.s-1:=wrap64 (by omega) (by omega)
  by_cases h1:j<3
  ·have hlt:decide ((j:Int)<3)=true:=decide_eq_true (by omega)
   have g0:=hfr j (by omega)
   have g3:=hfr (j+3) (by omega)
   have e3:((j:Int)+3).toNat=j+3:=by omega
   have w3:IntKind.i64.wrap ((j:Int)+3)=(j:Int)+3:=wrap64 (by omega) (by omega)
   have hn:(hasL b s y.at_ y.ak j&&hasL b s y.at_ y.ak (j+3))=false→ ∀d<j+1,(hasL b s y.at_ y.ak d&&hasL b s y.at_ y.ak (d+3))=false:=by
    intro h d hd
    by_cases hdj:d=j
    ·subst hdj;exact h
    ·exact ht d (by omega)
   have ho:=ho h1
   clear hno hJ ht hfr
   cases q0:hasL b s y.at_ y.ak j<;>cases q3:hasL b s y.at_ y.ak (j+3)<;>simp only[q0] at g0<;>simp only[q3] at g3
   all_goals
    repeat' (first
  | simp only[hlt,g0,g3,w3,w4,w5,w6,e3,Int.toNat_natCast,hfl,Nat.mul_one,push_cast,↓J1,↓J2,N1,N2,N3,reduceCtorEq,N4,N5,N6,reduceIte,N7,I1,I2,I3]
  | refine ifB_intro (fun h=>?_) (fun h=>?_)
  | refine And.intro ?_ ?_)
    all_goals first
     | omega
     | exact hJJ h1 (hn (by simp[q0,q3])) _ (hdA [(3,3),(1,1)])
     | (rw[ho q0 q3,if_pos rfl];first | rw[if_pos (of_decide_eq_true h)] | rw[if_neg (of_decide_eq_false h)];omega)
  ·have hlt:decide ((j:Int)<3)=false:=decide_eq_false (by omega)
   have hno:=hno (by omega)
   repeat' (first
  | simp only[hlt,w6,push_cast,↓J1,↓J2,N1,N2,N3,reduceCtorEq,N4,N5,N6,reduceIte,N7,I1,I2,I3]
  | refine ifB_intro (fun h=>?_) (fun h=>?_)
  | refine And.intro ?_ ?_)
   all_goals (rw[hno,if_neg (by simp)];first | rw[if_pos (of_decide_eq_true h)] | rw[if_neg (of_decide_eq_false h)];omega)
theorem t199(b:Brd)(s:Sta)(y:Bt)(h:staOk b s=true)(hy:BtOk b s y)(hb:BrdB (2^50) b):Ev C 199 [brdF b,.agg (staF s),.agg (btF y)] (.int .i64 (shiftB b s y)):=by
 have hm:=mp_wh (brd_mp (sta_brd h))
 have hwh:=brd_wh (sta_brd h)
 have hlen:=sta_len h
 have hat:=bt_at h hy
 have hs:=ter_sh (sta_brd h) hat
 have c1:=fun h' n hs=>t188g hC b y.at_ h' n hs (sta_brd h) hat hb
 have c2:=fun k hk=>t96 hC b s y.at_ k (sta_brd h) (by omega) hk (by omega)
 have hyl:=hy.ak3
 have hsl: ∀l,(sds b s y.at_ l).length=l.length:=fun l=>by simp[sds]
 have c3:=fun d:Nat=>t222 hC (sds b s y.at_ y.ak) d (by rw[hsl];omega)
 simp only[sds_has] at c3
 have e0:terF (terAt b y.at_)=[.str (terAt b y.at_).n,.sl (ints (terAt b y.at_).c),.int .i64 (terAt b y.at_).s,.int .i64 (terAt b y.at_).h,.bool (terAt b y.at_).b]:=rfl
 have hsd:shiftB b s y=(if opI b s y.at_ y.ak then 1-(terAt b y.at_).s else-(terAt b y.at_).s)-(if s.w=2 then 1 else 0):=rfl
 rw[hsd]
 generalize terAt b y.at_=t at *
 simp only[e0,brdF,rulF,mpF,List.cons_append,List.nil_append,staF,btF,unA] at *
 refine rT hC Q199 ?_
 simp only[c199,push_cast,↓J1,↓J2,N1,N2,N3,reduceCtorEq,N4,N5,N6,reduceIte,N7,I1,I2,I3]
 refine⟨_,c1 _ _ (by simp[solid,killH,killL,killS]),?_⟩
 rintro v h' n' ⟨rfl,rfl,rfl⟩ _
 have w0:IntKind.i64.wrap (0-t.s)= -t.s:=by rw[wrap64 (by omega) (by omega)];omega
 simp only[w0,ints_length,push_cast,↓J1,↓J2,N1,N2,N3,reduceCtorEq,N4,N5,N6,reduceIte,N7,I1,I2,I3]
 refine RL_count (fun i=>⟨tb 64 .any [(8,.ref 3 none 1 0 i),(3,.ptr 0 none 0 0 0),(4,.ptr 1 none 0 0 0),(5,.ptr 2 none 0 0 0),(7,.int .i64 (-t.s)),(18,.sl (ints y.ak)),(19,.int .i64 (y.ak.length:Int)),(20,.int .i64 (i:Int))],[(3,.slice 1 (ints (sds b s y.at_ (y.ak.take i)))),(2,.var (btF y)),(1,.var (staF s)),(0,.var (rulF b.r++mpF b.m))],4⟩) (fun _=>True) y.ak.length 0 (hdO 8 3 1 [(2,2),(1,1),(0,0)]) (by omega) trivial fun i hi _ J hJ=>?_
 simp only[brdF,rulF,mpF,List.cons_append,List.nil_append,staF,btF,unA]
 by_cases h1:i<y.ak.length
 ·have e1:=cut_ints_get h1
  have hlt:decide ((i:Int)<(y.ak.length:Int))=true:=decide_eq_true (by omega)
  have hJ1:=hJ h1 trivial
  have hx:=hy.ak1 _ (getD_in h1)
  have htl:(y.ak.take i).length=i:=by simp;omega
  have hsl1:=hsl (y.ak.take i)
  rw[htl] at hsl1
  have ess:sds b s y.at_ (y.ak.take (i+1))=sds b s y.at_ (y.ak.take i)++[dirOn b.m y.at_ (unOf s (y.ak.getD i 0)).at_]:=by rw[take_snoc h1];simp[sds]
  rw[ess] at hJ1
  have tk:List.take i (ints (sds b s y.at_ (y.ak.take i)))=ints (sds b s y.at_ (y.ak.take i)):=List.take_of_length_le (by rw[ints_length];omega)
  generalize y.ak.getD i 0=k at *
  have c2:=c2 k (by omega)
  simp only[aSid,if_pos hx.2.2.1] at c2
  simp only[hlt,e1,Int.toNat_natCast,ints_length,push_cast,↓J1,↓J2,N1,N2,N3,reduceCtorEq,N4,N5,N6,reduceIte,N7,I1,I2,I3]
  repeat (refine⟨by omega,?_⟩)
  refine⟨_,c2,?_⟩
  simp only[tk,hsl1,ints_length,allScs,apYR_sc,push_cast,↓J1,↓J2,N1,N2,N3,reduceCtorEq,N4,N5,N6,reduceIte,N7,I1,I2,I3]
  repeat (refine⟨by omega,?_⟩)
  refine hJ1 _ (hdA [(5,3),(2,2),(1,1),(0,0)] (hh:=?_))
  simp only[canR,canB,renO,renL,ren,lkp,hget,N7,N5,Nat.not_lt_zero,if_false,if_true,reduceIte,List.append_nil,List.nil_append,ints_sn]
  all_goals rfl
 ·have hlt:decide ((i:Int)<(y.ak.length:Int))=false:=decide_eq_false (by omega)
  obtain rfl:i=y.ak.length:=by omega
  have w4:IntKind.i64.wrap (-t.s+1)=1-t.s:=by rw[wrap64 (by omega) (by omega)];omega
  have w5:IntKind.i64.wrap (1-t.s-1)=1-t.s-1:=wrap64 (by omega) (by omega)
  have w6:IntKind.i64.wrap (-t.s-1)= -t.s-1:=wrap64 (by omega) (by omega)
  simp only[List.take_length] at *
  have tk:List.take y.ak.length (ints (sds b s y.at_ y.ak))=ints (sds b s y.at_ y.ak):=List.take_of_length_le (by rw[ints_length,hsl];omega)
  have c30:=c3 0
  have c31:=c3 1
  have c32:=c3 2
  have c33:=c3 3
  have c34:=c3 4
  have c35:=c3 5
  clear c1 c2 hJ c3
  repeat' (first
  | simp only[hlt,frzLL_ints,hsl,tk,w4,w5,w6,push_cast,↓J1,↓J2,N1,N2,N3,reduceCtorEq,N4,N5,N6,reduceIte,N7,I1,I2,I3]
  | refine⟨_,c30,?_⟩
  | refine⟨_,c31,?_⟩
  | refine⟨_,c32,?_⟩
  | refine⟨_,c33,?_⟩
  | refine⟨_,c34,?_⟩
  | refine⟨_,c35,?_⟩
  | refine ifB_intro (fun h=>?_) (fun h=>?_)
  | refine And.intro ?_ ?_)
  all_goals first
   | omega
   | (have hw:=h
      simp only[decide_eq_true_eq,decide_eq_false_iff_not] at hw
      simp only[opI,hw,if_true,if_false, *,Bool.and_true,Bool.and_false,Bool.or_true,Bool.or_false,Bool.true_or,Bool.false_or,Bool.true_and,Bool.false_and,Bool.and_self,Bool.or_self,Bool.false_eq_true,Int.sub_zero])
end
end Go.Proofs.YtlkcpadkjepchaaGreatDoor.X
set_option maxHeartbeats 4000000
set_option maxRecDepth 8000
set_option linter.unusedSimpArgs false
set_option linter.unusedVariables false
open Nat renaming reduceBEq→N1,reduceAdd→N2,reduceSub→N3,reduceMul→N4,reduceEqDiff→N5,reduceLeDiff→N6,reduceLT→N7
open Int renaming reduceLE→I1,reduceLT→I2,reduceToNat→I3
namespace Go.Proofs.YtlkcpadkjepchaaGreatDoor.X
open Go
attribute [local irreducible] Ev
section
variable{C:CT}(hC:Closed Tryz.prog G1 md0 C)
include hC
theorem t145(s:ByteArray)(hs:s.size<2^40):Ev C 145 [.str s] (.ow 1 (ints (bytI s))):=by
 refine rT hC Q145 ?_ (own_ints _)
 simp only[c145,push_cast,↓J1,↓J2,N1,N2,N3,reduceCtorEq,N4,N5,N6,reduceIte,N7,I1,I2,I3]
 refine RL_count (fun i=>⟨tb 19 .any [(3,.ref 0 none 1 0 i),(0,.str s),(4,.int .i64 (i:Int))],[(0,.slice 1 (ints (bytT s i)))],1⟩) (fun _=>True) s.size 0 (hdO 3 0 1 []) (by omega) trivial fun i hi _ J hJ=>?_
 by_cases h1:i<s.size
 ·have hlt:decide ((i:Int)<(s.size:Int))=true:=decide_eq_true (by omega)
  have hJ1:=hJ h1 trivial
  rw[bytT_succ] at hJ1
  have hb:=bt_bnd s i
  have hln:=bytT_len s i
  have tk:List.take i (ints (bytT s i))=ints (bytT s i):=List.take_of_length_le (by rw[ints_length];omega)
  have w1:IntKind.i64.wrap (bt s i)=bt s i:=wrap64 (by omega) (by omega)
  simp only[hlt,push_cast,↓J1,↓J2,N1,N2,N3,reduceCtorEq,N4,N5,N6,reduceIte,N7,I1,I2,I3]
  repeat (refine⟨by omega,?_⟩)
  simp only[tk,hln,w1,ints_length,allScs,apYR_sc,push_cast,↓J1,↓J2,N1,N2,N3,reduceCtorEq,N4,N5,N6,reduceIte,N7,I1,I2,I3]
  repeat (refine⟨by omega,?_⟩)
  refine hJ1 _ (hdA [(2,0)] (hh:=?_))
  simp only[canR,canB,renO,renL,ren,lkp,hget,N7,N5,Nat.not_lt_zero,if_false,if_true,reduceIte,List.append_nil,List.nil_append,ints_sn]
  all_goals rfl
 ·have hlt:decide ((i:Int)<(s.size:Int))=false:=decide_eq_false (by omega)
  obtain rfl:i=s.size:=by omega
  simp only[hlt,push_cast,↓J1,↓J2,N1,N2,N3,reduceCtorEq,N4,N5,N6,reduceIte,N7,I1,I2,I3]
  exact RetTo_ow rfl (by rw[ints_length];exact(bytT_len s s.size).symm)
theorem t74(b:Brd)(s:Sta)(t:Ct)(y:Bt)(h:staOk b s=true)(ht:ctOk t=true)(hy:BtOk b s y)(hb:BrdB (2^50) b):Ev C 74 [brdF b,.agg (staF s),.agg (ctF t),.agg (btF y)] (.int .i64 (colB b s t y)):=by
 have hlen:=sta_len h
 have hl3:=hy.ak3
 have hl4:=hy.df4
 have b1:=atk_bnd (i:=y.at_) (l:=y.ak) h fun k hk=>by have:=hy.ak1 k hk;omega
 have b2:=def_bnd (l:=y.df) h fun k hk=>by have:=hy.df2 k hk;omega
 have b3:=colT_bnd t (sumK (atkF b y.at_) s y.ak) (sumK (forceU b) s y.df) t.cs.length
 have b4:=(ct_in ht).1
 have b5:=ter_sh (sta_brd h) (bt_at h hy)
 have b6: -10≤shiftB b s y∧shiftB b s y≤10:=by simp only[shiftB];split<;>split<;>omega
 have c1:=t123 hC b s y h hy hb
 have c2:=t124 hC b s y h hy hb
 have c3:=t122 hC t (sumK (atkF b y.at_) s y.ak) (sumK (forceU b) s y.df) ht (by omega) (by omega)
 have c4:=t125 hC b s y h hy hb
 have c5:=t121 hC t (colT t (sumK (atkF b y.at_) s y.ak) (sumK (forceU b) s y.df) t.cs.length) (shiftB b s y) ht (by omega) b6
 simp only[brdF,rulF,mpF,List.cons_append,List.nil_append,staF,btF,ctF] at *
 refine rT hC Q74 ?_
 simp only[c74,push_cast,↓J1,↓J2,N1,N2,N3,reduceCtorEq,N4,N5,N6,reduceIte,N7,I1,I2,I3]
 refine⟨_,c1,?_⟩
 simp only[push_cast,↓J1,↓J2,N1,N2,N3,reduceCtorEq,N4,N5,N6,reduceIte,N7,I1,I2,I3]
 refine⟨_,c2,?_⟩
 simp only[push_cast,↓J1,↓J2,N1,N2,N3,reduceCtorEq,N4,N5,N6,reduceIte,N7,I1,I2,I3]
 refine⟨_,c3,?_⟩
 simp only[push_cast,↓J1,↓J2,N1,N2,N3,reduceCtorEq,N4,N5,N6,reduceIte,N7,I1,I2,I3]
 refine⟨_,c4,?_⟩
 simp only[push_cast,↓J1,↓J2,N1,N2,N3,reduceCtorEq,N4,N5,N6,reduceIte,N7,I1,I2,I3]
 refine⟨_,c5,?_⟩
 simp only[push_cast,↓J1,↓J2,N1,N2,N3,reduceCtorEq,N4,N5,N6,reduceIte,N7,I1,I2,I3]
 rfl
theorem t148(b:Brd)(s:Sta)(t:Ct)(y:Bt)(h:staOk b s=true)(ht:ctOk t=true)(hy:BtOk b s y)(hb:BrdB (2^50) b):Ev C 148 [brdF b,.agg (staF s),.agg (ctF t),.agg (btF y)] (.int .i64 (colB b s t y)):=by
 have hlen:=sta_len h
 have hl3:=hy.ak3
 have hl4:=hy.df4
 have b1:=atk_bnd (i:=y.at_) (l:=y.ak) h fun k hk=>by have:=hy.ak1 k hk;omega
 have b2:=def_bnd (l:=y.df) h fun k hk=>by have:=hy.df2 k hk;omega
 have b3:=colT_bnd t (sumK (atkF b y.at_) s y.ak) (sumK (forceU b) s y.df) t.cs.length
 have b4:=(ct_in ht).1
 have b5:=ter_sh (sta_brd h) (bt_at h hy)
 have b6: -10≤shiftB b s y∧shiftB b s y≤10:=by simp only[shiftB];split<;>split<;>omega
 have c1:=t197 hC b s y h hy hb
 have c2:=t198 hC b s y h hy hb
 have c3:=t196 hC t (sumK (atkF b y.at_) s y.ak) (sumK (forceU b) s y.df) ht (by omega) (by omega)
 have c4:=t199 hC b s y h hy hb
 have c5:=t195 hC t (colT t (sumK (atkF b y.at_) s y.ak) (sumK (forceU b) s y.df) t.cs.length) (shiftB b s y) ht (by omega) b6
 simp only[brdF,rulF,mpF,List.cons_append,List.nil_append,staF,btF,ctF] at *
 refine rT hC Q148 ?_
 simp only[c148,push_cast,↓J1,↓J2,N1,N2,N3,reduceCtorEq,N4,N5,N6,reduceIte,N7,I1,I2,I3]
 refine⟨_,c1,?_⟩
 simp only[push_cast,↓J1,↓J2,N1,N2,N3,reduceCtorEq,N4,N5,N6,reduceIte,N7,I1,I2,I3]
 refine⟨_,c2,?_⟩
 simp only[push_cast,↓J1,↓J2,N1,N2,N3,reduceCtorEq,N4,N5,N6,reduceIte,N7,I1,I2,I3]
 refine⟨_,c3,?_⟩
 simp only[push_cast,↓J1,↓J2,N1,N2,N3,reduceCtorEq,N4,N5,N6,reduceIte,N7,I1,I2,I3]
 refine⟨_,c4,?_⟩
 simp only[push_cast,↓J1,↓J2,N1,N2,N3,reduceCtorEq,N4,N5,N6,reduceIte,N7,I1,I2,I3]
 refine⟨_,c5,?_⟩
 simp only[push_cast,↓J1,↓J2,N1,N2,N3,reduceCtorEq,N4,N5,N6,reduceIte,N7,I1,I2,I3]
 rfl
theorem t119(a i:Int):Ev C 119 [.int .i64 a,.int .i64 i] (.int .i64 (dieM a i)):=by
 have hb:=die_bnd a i
 simp only[dieM] at *
 refine rT hC Q119 ?_
 simp only[c119,push_cast,↓J1,↓J2,N1,N2,N3,reduceCtorEq,N4,N5,N6,reduceIte,N7,I1,I2,I3]
 refine⟨_,t170 hC [a,i] (by simp),?_⟩
 simp only[push_cast,↓J1,↓J2,N1,N2,N3,reduceCtorEq,N4,N5,N6,reduceIte,N7,I1,I2,I3]
 refine⟨by omega,?_⟩
 rw[wrap64 (by omega) (by omega)]
theorem t98(a i:Int):Ev C 98 [.int .i64 a,.int .i64 i] (.int .i64 (dieM a i)):=by
 have hb:=die_bnd a i
 simp only[dieM] at *
 refine rT hC Q98 ?_
 simp only[c98,push_cast,↓J1,↓J2,N1,N2,N3,reduceCtorEq,N4,N5,N6,reduceIte,N7,I1,I2,I3]
 refine⟨_,t143 hC [a,i] (by simp),?_⟩
 simp only[push_cast,↓J1,↓J2,N1,N2,N3,reduceCtorEq,N4,N5,N6,reduceIte,N7,I1,I2,I3]
 refine⟨by omega,?_⟩
 rw[wrap64 (by omega) (by omega)]
theorem t172(l:List Int)(s:ByteArray)(h1:Heap)(id n:Nat)(hid:id<n)(hd:hdel h1 id=h1)(hdn: ∀m,n≤m→hdel h1 m=h1)(hk:killH h1=h1)(hc: ∀ρ,canB n ρ h1=h1)(hl:l.length<2^40)(hs:s.size<2^40)(h0:0<s.size):C 172 [.ref id none 1 0 l.length,.str s] ((id,.slice 1 (ints l))::h1) n (fun v h' n'=>v= .ref n none 1 0 (l.length+s.size)∧h'=(n,.slice 1 (ints (l++bytI s)))::h1∧n'=n+1):=by
 refine Closed.rT hC Q172 ?_
 simp only[c172,push_cast,↓J1,↓J2,N1,N2,N3,reduceCtorEq,N4,N5,N6,reduceIte,N7,I1,I2,I3]
 refine RL_count (fun i=>match i with
  | 0=>⟨tb 20 .any [(0,.ref id none 1 0 l.length),(1,.str s),(5,.int .i64 0)],(id,.slice 1 (ints l))::h1,n⟩
  | j+1=>⟨tb 20 .any [(0,.ref n none 1 0 (l.length+(j+1))),(1,.str s),(5,.int .i64 ((j+1:Nat):Int))],(n,.slice 1 (ints (l++bytT s (j+1))))::h1,n+1⟩) (fun _=>True) s.size 0 (head_tb [] (by simp[rhoOk,objIds]) (by simp only[hid,keptV_cons,keptV_nil,tb_get,lk_same,lk_ne,lk_nil,ren,renL,lkp,N7,N1,N5,reduceIte,and_true,true_and,Nat.not_lt_zero,if_false,if_true,Nat.add_zero,Nat.zero_add]) (by simp only[canR,canB,hid,if_true,renO,hc,List.nil_append])) (by omega) trivial fun i hi _ J hJ=>?_
 rcases i with _ | j
 ·have hJ1:=hJ h0 trivial
  dsimp only at hJ1
  have hb:=bt_bnd s 0
  have hlt:decide ((0:Int)<(s.size:Int))=true:=decide_eq_true (by omega)
  have w1:IntKind.i64.wrap (bt s 0)=bt s 0:=wrap64 (by omega) (by omega)
  have tk:List.take l.length (ints l)=ints l:=List.take_of_length_le (by rw[ints_length];omega)
  have e9:(id=n)=False:=eq_false (by omega)
  have e8:(n=id)=False:=eq_false (by omega)
  have e7:(n+1<n)=False:=eq_false (by omega)
  simp only[hlt,push_cast,↓J1,↓J2,N1,N2,N3,reduceCtorEq,N4,N5,N6,reduceIte,N7,I1,I2,I3]
  repeat (refine⟨by omega,?_⟩)
  simp only[tk,w1,e8,e9,hd,hk,ints_length,allScs,apYR_sc,push_cast,↓J1,↓J2,N1,N2,N3,reduceCtorEq,N4,N5,N6,reduceIte,N7,I1,I2,I3]
  repeat (refine⟨by omega,?_⟩)
  refine hJ1 _ (head_tb [(n+1,n)] (by simp[rhoOk,objIds]) ?_ ?_)
  ·simp only[keptV_cons,keptV_nil,tb_get,lk_same,lk_ne,lk_nil,ren,renL,lkp,N7,N1,N5,reduceIte,and_true,true_and,Nat.not_lt_zero,if_false,if_true,Nat.add_zero,Nat.zero_add,e7]
   rw[wrap64 (by omega) (by omega)]
   simp
  ·simp[canR,canB,renO,hget,hc,ints,bytT]
 ·have hb:=bt_bnd s ((j:Int)+1)
  have w1:IntKind.i64.wrap (bt s ((j:Int)+1))=bt s ((j:Int)+1):=wrap64 (by omega) (by omega)
  have hln:=bytT_len s (j+1)
  have tk:List.take (l.length+(j+1)) (ints (l++bytT s (j+1)))=ints (l++bytT s (j+1)):=List.take_of_length_le (by rw[ints_length,List.length_append];omega)
  have hll:(l++bytT s (j+1)).length=l.length+(j+1):=by rw[List.length_append,hln]
  have e9:(n+1=n)=False:=by simp
  have e7:(n+1<n)=False:=eq_false (by omega)
  have e6:(n+1+1<n)=False:=eq_false (by omega)
  have hdn0:=hdn n (by omega)
  dsimp only at *
  by_cases hj:j+1<s.size
  ·have hJ1:=hJ hj trivial
   rw[bytT_succ s (j+1)] at hJ1
   have hlt:decide ((j:Int)+1<(s.size:Int))=true:=decide_eq_true (by omega)
   simp only[hlt,push_cast,↓J1,↓J2,N1,N2,N3,reduceCtorEq,N4,N5,N6,reduceIte,N7,I1,I2,I3]
   repeat (refine⟨by omega,?_⟩)
   simp only[tk,w1,e9,hdn0,hk,hll,ints_length,allScs,apYR_sc,push_cast,↓J1,↓J2,N1,N2,N3,reduceCtorEq,N4,N5,N6,reduceIte,N7,I1,I2,I3]
   repeat (refine⟨by omega,?_⟩)
   refine hJ1 _ (head_tb [(n+2,n)] (by simp[rhoOk,objIds]) ?_ ?_)
   ·simp only[keptV_cons,keptV_nil,tb_get,lk_same,lk_ne,lk_nil,ren,renL,lkp,N7,N1,N5,reduceIte,and_true,true_and,Nat.not_lt_zero,if_false,if_true,Nat.add_zero,Nat.zero_add,e7,e6]
    rw[wrap64 (by omega) (by omega)]
    simp;omega
   ·simp[canR,canB,renO,hget,hc,ints,e6,e7]
  ·have hlt:decide ((j:Int)+1<(s.size:Int))=false:=decide_eq_false (by omega)
   have ej:s.size=j+1:=by omega
   have eb:bytI s=bytT s (j+1):=by rw[←ej];rfl
   simp only[hlt,push_cast,↓J1,↓J2,N1,N2,N3,reduceCtorEq,N4,N5,N6,reduceIte,N7,I1,I2,I3]
   rw[ej,eb]
   simp
theorem t120(a:Int)(s:ByteArray)(hs:s.size<2^40)(h0:0<s.size):Ev C 120 [.int .i64 a,.str s] (.int .i64 (childM a s)):=by
 have c1:=t172 hC [a] s [] 0 1 (by omega) rfl (fun _ _=>rfl) rfl (fun _=>rfl) (by simp) hs h0
 have c2:=t171 hC (a::bytI s) (by rw[List.length_cons,bytI_len];omega)
 have tk:List.take (1+s.size) (ints (a::bytI s))=ints (a::bytI s):=List.take_of_length_le (by rw[ints_length,List.length_cons,bytI_len];omega)
 refine rT hC Q120 ?_
 simp only[c120,push_cast,↓J1,↓J2,N1,N2,N3,reduceCtorEq,N4,N5,N6,reduceIte,N7,I1,I2,I3]
 refine⟨_,c1,?_⟩
 rintro v h' n' ⟨rfl,rfl,rfl⟩ _
 simp only[tk,frzLL_ints,List.length_singleton,push_cast,↓J1,↓J2,N1,N2,N3,reduceCtorEq,N4,N5,N6,reduceIte,N7,I1,I2,I3]
 refine⟨_,c2,?_⟩
 simp only[push_cast,↓J1,↓J2,N1,N2,N3,reduceCtorEq,N4,N5,N6,reduceIte,N7,I1,I2,I3]
 rfl
theorem t99(a:Int)(s:ByteArray)(hs:s.size<2^40):Ev C 99 [.int .i64 a,.str s] (.int .i64 (childM a s)):=by
 have c1:=t145 hC s hs
 have c2:=t144 hC (a::bytI s) (by rw[List.length_cons,bytI_len];omega)
 have tk:List.take s.size (ints (bytI s))=ints (bytI s):=List.take_of_length_le (by rw[ints_length,bytI_len];omega)
 have tk2:List.take (1+s.size) (ints (a::bytI s))=ints (a::bytI s):=List.take_of_length_le (by rw[ints_length,List.length_cons,bytI_len];omega)
 have sc:=allScs_ints (bytI s)
 refine rT hC Q99 ?_
 simp only[c99,push_cast,↓J1,↓J2,N1,N2,N3,reduceCtorEq,N4,N5,N6,reduceIte,N7,I1,I2,I3]
 refine⟨_,c1,?_⟩
 simp only[tk,ints_length,bytI_len,sc,apYR_sc,push_cast,↓J1,↓J2,N1,N2,N3,reduceCtorEq,N4,N5,N6,reduceIte,N7,I1,I2,I3]
 repeat (refine⟨by omega,?_⟩)
 rw[show[AV.int .i64 a]::ints (bytI s)=ints (a::bytI s) from rfl]
 simp only[tk2,frzLL_ints,push_cast,↓J1,↓J2,N1,N2,N3,reduceCtorEq,N4,N5,N6,reduceIte,N7,I1,I2,I3]
 refine⟨_,c2,?_⟩
 simp only[push_cast,↓J1,↓J2,N1,N2,N3,reduceCtorEq,N4,N5,N6,reduceIte,N7,I1,I2,I3]
 rfl
theorem t73(x:Se)(seed:Int)(k:Nat)(h:ctOk x.t=true)(hk:k≤1000):Ev C 73 [seF x,.int .i64 seed,.int .i64 (k:Int)] (.int .i64 (rollB x seed k)):=by
 have h1:=(ct_in h).2.1
 rw[roll_eq h]
 have c1:=t120 hC seed sBat (by decide) (by decide)
 have c2:=fun i=>t119 hC (childM seed sBat) i
 obtain⟨D,hD⟩: ∃D:Nat,x.t.d=D:=⟨x.t.d.toNat,by omega⟩
 rw[hD] at h1⊢
 rw[Int.toNat_natCast]
 generalize childM seed sBat=c at *
 simp only[seF,brdF,rulF,mpF,ctF,List.cons_append,List.nil_append,hD] at *
 refine rT hC Q73 ?_
 simp only[c73,push_cast,↓J1,↓J2,N1,N2,N3,reduceCtorEq,N4,N5,N6,reduceIte,N7,I1,I2,I3]
 refine RL_count (fun i=>⟨tb 26 .any [(1,.int .i64 seed),(2,.int .i64 (k:Int)),(7,.int .i64 (rollT c k i)),(11,.int .i64 (D:Int)),(12,.int .i64 (i:Int))],[],0⟩) (fun _=>True) D 0 (hdA []) (by omega) trivial fun i hi _ J hJ=>?_
 by_cases hi':i<D
 ·have hlt:decide ((i:Int)<(D:Int))=true:=decide_eq_true (by omega)
  have hJ1:=hJ hi' trivial
  have hb:=rollT_bnd c k i
  have hd:=die_bnd c (2*(k:Int)+(i:Nat))
  have c2:=c2 (2*(k:Int)+(i:Nat))
  simp only[rollT] at hJ1
  generalize dieM c (2*(k:Int)+(i:Nat))=v at *
  generalize rollT c k i=u at *
  have w1:IntKind.i64.wrap (2*(k:Int))=2*(k:Int):=wrap64 (by omega) (by omega)
  have w2:IntKind.i64.wrap (2*(k:Int)+(i:Nat))=2*(k:Int)+(i:Nat):=wrap64 (by omega) (by omega)
  have w3:IntKind.i64.wrap (u+v)=u+v:=wrap64 (by omega) (by omega)
  simp only[hlt,push_cast,↓J1,↓J2,N1,N2,N3,reduceCtorEq,N4,N5,N6,reduceIte,N7,I1,I2,I3]
  refine⟨_,c1,?_⟩
  simp only[w1,w2,push_cast,↓J1,↓J2,N1,N2,N3,reduceCtorEq,N4,N5,N6,reduceIte,N7,I1,I2,I3]
  refine⟨_,c2,?_⟩
  simp only[w3,push_cast,↓J1,↓J2,N1,N2,N3,reduceCtorEq,N4,N5,N6,reduceIte,N7,I1,I2,I3]
  exact hJ1 _ (hdA [])
 ·have hlt:decide ((i:Int)<(D:Int))=false:=decide_eq_false (by omega)
  obtain rfl:i=D:=by omega
  simp only[hlt,push_cast,↓J1,↓J2,N1,N2,N3,reduceCtorEq,N4,N5,N6,reduceIte,N7,I1,I2,I3]
end
end Go.Proofs.YtlkcpadkjepchaaGreatDoor.X
set_option maxHeartbeats 4000000
set_option maxRecDepth 8000
set_option linter.unusedSimpArgs false
set_option linter.unusedVariables false
open Nat renaming reduceBEq→N1,reduceAdd→N2,reduceSub→N3,reduceMul→N4,reduceEqDiff→N5,reduceLeDiff→N6,reduceLT→N7
open Int renaming reduceLE→I1,reduceLT→I2,reduceToNat→I3
namespace Go.Proofs.YtlkcpadkjepchaaGreatDoor.X
open Go
attribute [local irreducible] Ev
def FrH(ids:List Nat)(n:Nat)(h h':Heap):Prop:= ∀j,j<n→j∉ids→hget h' j=hget h j
structure MP(ids:List Nat)(h:Heap)(n c:Nat)(k W:Int)(v:AV)(h':Heap)(n':Nat):Prop where
 v: ∃m,v= .int .i64 m∧k≤m∧m≤k+W
 nn:n'=n+c
 f:FrH ids n h h'
 b:below n' h'
 s:solid h'
theorem FrH.set{n id:Nat}{h:Heap}{o:Ob}:FrH [id] n h (hset h id o):=by
 intro j _ hj
 rw[hget_set,if_neg (by simp at hj;omega)]
theorem FrH.trans{a b:List Nat}{n n':Nat}{h h' h2:Heap}(h1:FrH a n h h')(h3:FrH b n' h' h2)(hn:n≤n'):FrH (a++b) n h h2:=by
 intro j hj hm
 simp only[List.mem_append,not_or] at hm
 rw[h3 j (by omega) hm.2,h1 j hj hm.1]
theorem FrH.box{n:Nat}{h:Heap}{o:Ob}:FrH [] n h ((n,o)::h):=by
 intro j hj _
 simp only[hget,if_neg (show¬n=j by omega)]
theorem solid_box{n:Nat}{h:Heap}{cs:List AV}(hs:solid h)(hk:killL cs=cs):solid ((n,.var cs)::h):=by
 unfold solid at *
 simp only[killH,hk,hs]
theorem below_box{n:Nat}{h:Heap}{cs:List AV}(hb:below n h)(hk:renL (n+1) [] cs=cs):below (n+1) ((n,.var cs)::h):=
 below_mk (by omega) (by simp only[renO,hk]) (below_succ hb)
theorem hget_box{n j:Nat}{h:Heap}{o u:Ob}(hb:below n h)(hg:hget h j=some u):hget ((n,o)::h) j=some u:=by
 have:=below_lt hb hg
 simp only[hget,if_neg (show¬n=j by omega),hg]
def dig(k:Int):UInt8:=UInt8.ofNat (IntKind.u8.wrap (IntKind.i64.wrap (48+k.tmod 10))).toNat
def mtx:Nat→Int→ByteArray→ByteArray
 | 0,_,a=>a
 | f+1,k,a=>if 0<k then mtx f (k.tdiv 10) (⟨#[dig k]⟩++a) else a
theorem mtx_stop{f:Nat}{k:Int}{a:ByteArray}(h:k≤0):mtx f k a=a:=by
 cases f with
 | zero=>rfl
 | succ f=>simp only[mtx,if_neg (show¬0<k by omega)]
def mText(k:Int):ByteArray:=if k≤0 then⟨#[109,48]⟩ else⟨#[109]⟩++mtx k.toNat k ByteArray.empty
theorem tdiv10{k:Int}(h:0<k):0≤k.tdiv 10∧k.tdiv 10≤k-1:=by
 rw[Int.tdiv_eq_ediv_of_nonneg (by omega)]
 omega
def mkUns(k:Int)(n:Nat):List Un:=(List.range n).map fun i:Nat=>⟨k+4*(i:Int),k+4*(i:Int)+1,k+4*(i:Int)+2,k+4*(i:Int)+3⟩
theorem mkUns_length{k:Int}{n:Nat}:(mkUns k n).length=n:=by simp[mkUns]
theorem mkUns_get{k:Int}{n i:Nat}(h:i<n):(uns (mkUns k n))[i]?=some (unA ⟨k+4*(i:Int),k+4*(i:Int)+1,k+4*(i:Int)+2,k+4*(i:Int)+3⟩):=by
 simp[uns,mkUns,h]
theorem mkUns_succ{us:List Un}{k:Int}{i:Nat}(h:i<us.length):(uns (mkUns k i++us.drop i)).set i (unA ⟨k+4*(i:Int),k+4*(i:Int)+1,k+4*(i:Int)+2,k+4*(i:Int)+3⟩)=uns (mkUns k (i+1)++us.drop (i+1)):=by
 have e:us.drop i=us[i]::us.drop (i+1):=List.drop_eq_getElem_cons h
 have e2:mkUns k (i+1)=mkUns k i++[⟨k+4*(i:Int),k+4*(i:Int)+1,k+4*(i:Int)+2,k+4*(i:Int)+3⟩]:=by simp[mkUns,List.range_succ]
 rw[e,e2]
 simp only[uns,List.map_append,List.map_cons,List.map_nil,List.append_assoc,List.cons_append,List.nil_append]
 rw[mid_set (by simp[mkUns])]
section
variable{C:CT}(hC:Closed Tryz.prog G1 md0 C)
include hC
theorem t183(k:Int)(hk:k≤2^50):Ev C 183 [.int .i64 k] (.str (mText k)):=by
 refine rT hC Q183 ?_
 simp only[c183,push_cast,↓J1,↓J2,N1,N2,N3,reduceCtorEq,N4,N5,N6,reduceIte,N7,I1,I2,I3]
 refine ifB_intro (fun h=>?_) (fun h=>?_)
 ·have h':=of_decide_eq_true h
  simp only[mText,if_pos h',push_cast,↓J1,↓J2,N1,N2,N3,reduceCtorEq,N4,N5,N6,reduceIte,N7,I1,I2,I3]
 have h':=of_decide_eq_false h
 simp only[mText,if_neg h']
 refine RL_ind (fun m s'=> ∃(x:Int) (a:ByteArray),x≤m∧(a.size:Int)+x≤k∧x≤k∧0≤x∧mtx k.toNat k ByteArray.empty=mtx m x a∧s'=⟨tb 20 .any [(0,.int .i64 x),(3,.str a)],[],0⟩) k.toNat ⟨tb 20 .any [(0,.int .i64 k),(3,.str ByteArray.empty)],[],0⟩ (hdA []) ⟨k,_,by omega,by show(0:Int)+k≤k;omega,by omega,by omega,rfl,rfl⟩ ?_
 rintro m s' ⟨x,a,h1,h2,h3,h4,h5,rfl⟩ J hJ
 simp only[push_cast,↓J1,↓J2,N1,N2,N3,reduceCtorEq,N4,N5,N6,reduceIte,N7,I1,I2,I3]
 refine ifB_intro (fun h=>?_) (fun h=>?_)
 ·have hx:=of_decide_eq_true h
  have hd:=tdiv10 hx
  cases m with
  | zero=>omega
  | succ m=>
   rw[mtx,if_pos hx] at h5
   have w1:IntKind.i64.wrap (x.tdiv 10)=x.tdiv 10:=wrap64 (by omega) (by omega)
   have t1:List.take 1 [[AV.int .u8 (IntKind.u8.wrap (IntKind.i64.wrap (48+x.tmod 10)))]]=[[AV.int .u8 (IntKind.u8.wrap (IntKind.i64.wrap (48+x.tmod 10)))]]:=rfl
   simp only[byteL,w1,t1,bytesV_one,show(10:Int)≠0 by decide,push_cast,↓J1,↓J2,N1,N2,N3,reduceCtorEq,N4,N5,N6,reduceIte,N7,I1,I2,I3]
   have s1:(⟨#[dig x]⟩:ByteArray).size=1:=rfl
   and_intros
   all_goals first | (show(((⟨#[dig x]⟩:ByteArray).size+a.size:Nat):Int)≤_;rw[s1];omega) | skip
   refine hJ m _ _ (by omega) ⟨x.tdiv 10,⟨#[dig x]⟩++a,by omega,?_,by omega,by omega,h5,rfl⟩ (hdA [])
   rw[ByteArray.size_append,s1];omega
 ·have hx:=of_decide_eq_false h
  rw[h5,mtx_stop (by omega)]
  simp only[push_cast,↓J1,↓J2,N1,N2,N3,reduceCtorEq,N4,N5,N6,reduceIte,N7,I1,I2,I3]
  and_intros
  all_goals first | (show(((⟨#[109]⟩:ByteArray).size+a.size:Nat):Int)≤_;rw[show(⟨#[109]⟩:ByteArray).size=1 from rfl];omega) | skip
theorem t84p(l:List Int)(k:Int)(h:Heap)(id n i0 szo c:Nat)(es:List (List AV))(e:List AV)(hg:hget h id=some (.slice szo es))(he:es[i0]?=some e)(hc:e[c]?=some (.ow 1 (ints l)))(hb:below n h)(hk:0≤k∧k<2^50)(hl:l.length<2^50):C 84 [.ref id (some (szo,i0,c)) 1 0 l.length,.int .i64 k] h n (fun v h' n'=>v= .int .i64 (k+l.length)∧n'=n∧h'=hset h id (.slice szo (es.set i0 (e.set c (.ow 1 (ints (mk l k l.length))))))):=by
 have hid:=below_lt hb hg
 have hi0:i0<es.length:=(List.getElem?_eq_some_iff.1 he).1
 have hc0:c<e.length:=(List.getElem?_eq_some_iff.1 hc).1
 refine Closed.rT hC Q84 ?_
 simp only[c84,push_cast,↓J1,↓J2,N1,N2,N3,reduceCtorEq,N4,N5,N6,reduceIte,N7,I1,I2,I3]
 refine RL_count (fun i=>⟨tb 19 .any [(0,.ref id (some (szo,i0,c)) 1 0 l.length),(1,.int .i64 (k+i)),(5,.int .i64 (i:Int))],hset h id (.slice szo (es.set i0 (e.set c (.ow 1 (ints (mk l k i)))))),n⟩) (fun _=>True) l.length 0 (head_tb [] (by simp[rhoOk,objIds]) (by simp only[hid,keptV_cons,keptV_nil,tb_get,lk_same,lk_ne,lk_nil,ren,renL,lkp,N7,N1,N5,reduceIte,and_true,true_and,Nat.not_lt_zero,if_false,if_true,Nat.add_zero,Nat.zero_add];simp) ?_) (by omega) trivial fun i hi _ J hJ=>?_
 ·rw[mk_zero]
  have e2:e.set c (.ow 1 (ints l))=e:=by
   apply List.ext_getElem?
   intro j
   rw[List.getElem?_set]
   split
   ·rename_i q;subst q;rw[hc];try simp[hc0]
   ·rfl
  have e3:es.set i0 e=es:=by
   apply List.ext_getElem?
   intro j
   rw[List.getElem?_set]
   split
   ·rename_i q;subst q;rw[he];try simp[hi0]
   ·rfl
  rw[e2,e3,hset_get hg];exact hb
 have hgi:hget (hset h id (.slice szo (es.set i0 (e.set c (.ow 1 (ints (mk l k i))))))) id=some (.slice szo (es.set i0 (e.set c (.ow 1 (ints (mk l k i)))))):=hget_same hg
 have hei:(es.set i0 (e.set c (.ow 1 (ints (mk l k i)))))[i0]?=some (e.set c (.ow 1 (ints (mk l k i)))):=by simp[hi0]
 have hci:(e.set c (.ow 1 (ints (mk l k i))))[c]?=some (.ow 1 (ints (mk l k i))):=by simp[hc0]
 by_cases h1:i<l.length
 ·have e1:(ints (mk l k i))[i]?=some [.int .i64 ((mk l k i).getD i 0)]:=ints_get (by rw[mk_length hi];exact h1)
  simp only[Int.toNat_natCast,hgi,hei,hci,e1,push_cast,↓J1,↓J2,N1,N2,N3,reduceCtorEq,N4,N5,N6,reduceIte,N7,I1,I2,I3]
  refine ifB_intro (fun _=>?_) (fun h=>by simp at h;omega)
  repeat (refine⟨by omega,?_⟩)
  refine hJ h1 trivial _ (head_tb [] (by simp[rhoOk,objIds]) ?_ ?_)
  ·simp only[hid,keptV_cons,keptV_nil,tb_get,lk_same,lk_ne,lk_nil,ren,renL,lkp,N7,N1,N5,reduceIte,and_true,true_and,Nat.not_lt_zero,if_false,if_true,Nat.add_zero,Nat.zero_add]
   rw[wrap64 (by omega) (by omega),wrap64 (by omega) (by omega)]
   simp;omega
  ·rw[ints_set,mk_succ h1,List.set_set,List.set_set,hset_hset]
   exact below_set hb
 ·obtain rfl:i=l.length:=by omega
  simp only[push_cast,↓J1,↓J2,N1,N2,N3,reduceCtorEq,N4,N5,N6,reduceIte,N7,I1,I2,I3]
  refine ifB_intro (fun h=>by simp at h) (fun h=>?_)
  trivial
theorem t83(l:List Od)(k:Int)(h:Heap)(id n:Nat)(hg:hget h id=some (.slice 2 (ods l)))(hb:below n h)(hs:solid h)(hk:0≤k∧k≤2^47)(hl:l.length<2^21):C 83 [.ref id none 2 0 l.length,.int .i64 k] h n (MP [id] h n 0 k (2^43)):=by
 have hid:=below_lt hb hg
 refine Closed.rT hC Q83 ?_
 simp only[c83,push_cast,↓J1,↓J2,N1,N2,N3,reduceCtorEq,N4,N5,N6,reduceIte,N7,I1,I2,I3]
 have hgi: ∀es:List (List AV),hget (hset h id (.slice 2 es)) id=some (.slice 2 es):=fun es=>hget_same hg
 refine RL_ind (fun m s'=> ∃(i:Nat) (l':List Od) (k':Int),i+m=l.length∧l'.length=l.length∧k≤k'∧k'≤k+i*2∧s'=⟨tb 27 .any [(0,.ref id none 2 0 l.length),(1,.int .i64 k'),(5,.int .i64 (i:Int))],hset h id (.slice 2 (ods l')),n⟩) l.length ⟨tb 27 .any [(0,.ref id none 2 0 l.length),(1,.int .i64 k),(5,.int .i64 0)],hset h id (.slice 2 (ods l)),n⟩ (head_tb [] (by simp[rhoOk,objIds]) (by simp only[hid,keptV_cons,keptV_nil,tb_get,lk_same,lk_ne,lk_nil,ren,renL,lkp,N7,N1,N5,reduceIte,and_true,true_and,Nat.not_lt_zero,if_false,if_true,Nat.add_zero,Nat.zero_add];all_goals simp) (by rw[hset_get hg];exact hb)) ⟨0,l,k,by omega,rfl,by omega,by omega,rfl⟩ ?_
 rintro m s' ⟨i,l',k',h1,h2,h3,h4,rfl⟩ J hJ
 by_cases hi:i<l.length
 ·have e1:(ods l')[i]?=some (odA (l'[i]'(by omega))):=by simp[ods,h2,hi]
  have gs: ∀e:List AV,((ods l').set i e)[i]?=some e:=by intro e;simp[ods,h2,hi]
  have ls: ∀u:Od,(ods l').set i (odA u)=ods (l'.set i u):=by intro u;simp[ods,List.map_set]
  generalize (l'[i]'(by omega))=t at *
  have w0:IntKind.i64.wrap (k'+1)=k'+1:=wrap64 (by omega) (by omega)
  have w1:IntKind.i64.wrap (k'+1+1)=k'+1+1:=wrap64 (by omega) (by omega)
  simp only[Int.toNat_natCast,hgi,e1,odA,push_cast,↓J1,↓J2,N1,N2,N3,reduceCtorEq,N4,N5,N6,reduceIte,N7,I1,I2,I3]
  refine ifB_intro (fun _=>?_) (fun h=>by simp at h;omega)
  repeat (refine⟨by omega,?_⟩)
  repeat' (first | refine⟨by omega,?_⟩ | simp only[Int.toNat_natCast,hgi,e1,gs,hset_hset,List.set_set,setsA,List.set_cons_zero,List.set_cons_succ,odA,w0,w1,push_cast,↓J1,↓J2,N1,N2,N3,reduceCtorEq,N4,N5,N6,reduceIte,N7,I1,I2,I3])
  refine hJ (m-1) _ _ (by omega) ⟨i+1,l'.set i ⟨k',k'+1⟩,k'+1+1,by omega,by simp[h2],?_,?_,rfl⟩ (head_tb [] (by simp[rhoOk,objIds]) ?_ ?_)
  rotate_left 2
  ·simp only[hid,keptV_cons,keptV_nil,tb_get,lk_same,lk_ne,lk_nil,ren,renL,lkp,N7,N1,N5,reduceIte,and_true,true_and,Nat.not_lt_zero,if_false,if_true,Nat.add_zero,Nat.zero_add]
   rw[wrap64 (n:=(i:Int)+1) (by omega) (by omega)]
   and_intros<;>first | rfl | (simp;done) | omega
  ·rw[←ls]
   simp only[odA]
   exact below_set hb
  all_goals omega
 ·simp only[push_cast,↓J1,↓J2,N1,N2,N3,reduceCtorEq,N4,N5,N6,reduceIte,N7,I1,I2,I3]
  refine ifB_intro (fun h=>by simp at h;omega) (fun h=>?_)
  exact⟨⟨k',rfl,by omega,by omega⟩,rfl,FrH.set,below_set hb,solid_set hs⟩
theorem t133(l:List Kin)(k:Int)(h:Heap)(id n:Nat)(hg:hget h id=some (.slice 6 (kins l)))(hb:below n h)(hs:solid h)(hk:0≤k∧k≤2^47)(hl:l.length<2^21):C 133 [.ref id none 6 0 l.length,.int .i64 k] h n (MP [id] h n 0 k (2^43)):=by
 have hid:=below_lt hb hg
 refine Closed.rT hC Q133 ?_
 simp only[c133,push_cast,↓J1,↓J2,N1,N2,N3,reduceCtorEq,N4,N5,N6,reduceIte,N7,I1,I2,I3]
 have hgi: ∀es:List (List AV),hget (hset h id (.slice 6 es)) id=some (.slice 6 es):=fun es=>hget_same hg
 refine RL_ind (fun m s'=> ∃(i:Nat) (l':List Kin) (k':Int),i+m=l.length∧l'.length=l.length∧k≤k'∧k'≤k+i*6∧s'=⟨tb 58 .any [(0,.ref id none 6 0 l.length),(1,.int .i64 k'),(5,.int .i64 (i:Int))],hset h id (.slice 6 (kins l')),n⟩) l.length ⟨tb 58 .any [(0,.ref id none 6 0 l.length),(1,.int .i64 k),(5,.int .i64 0)],hset h id (.slice 6 (kins l)),n⟩ (head_tb [] (by simp[rhoOk,objIds]) (by simp only[hid,keptV_cons,keptV_nil,tb_get,lk_same,lk_ne,lk_nil,ren,renL,lkp,N7,N1,N5,reduceIte,and_true,true_and,Nat.not_lt_zero,if_false,if_true,Nat.add_zero,Nat.zero_add];all_goals simp) (by rw[hset_get hg];exact hb)) ⟨0,l,k,by omega,rfl,by omega,by omega,rfl⟩ ?_
 rintro m s' ⟨i,l',k',h1,h2,h3,h4,rfl⟩ J hJ
 by_cases hi:i<l.length
 ·have e1:(kins l')[i]?=some (kinA (l'[i]'(by omega))):=by simp[kins,h2,hi]
  have gs: ∀e:List AV,((kins l').set i e)[i]?=some e:=by intro e;simp[kins,h2,hi]
  have ls: ∀u:Kin,(kins l').set i (kinA u)=kins (l'.set i u):=by intro u;simp[kins,List.map_set]
  generalize (l'[i]'(by omega))=t at *
  have w0:IntKind.i64.wrap (k'+1)=k'+1:=wrap64 (by omega) (by omega)
  have w1:IntKind.i64.wrap (k'+1+1)=k'+1+1:=wrap64 (by omega) (by omega)
  have w2:IntKind.i64.wrap (k'+1+1+1)=k'+1+1+1:=wrap64 (by omega) (by omega)
  have w3:IntKind.i64.wrap (k'+1+1+1+1)=k'+1+1+1+1:=wrap64 (by omega) (by omega)
  have w4:IntKind.i64.wrap (k'+1+1+1+1+1)=k'+1+1+1+1+1:=wrap64 (by omega) (by omega)
  have w5:IntKind.i64.wrap (k'+1+1+1+1+1+1)=k'+1+1+1+1+1+1:=wrap64 (by omega) (by omega)
  have hT:=t183 hC k' (by omega)
  simp only[Int.toNat_natCast,hgi,e1,kinA,push_cast,↓J1,↓J2,N1,N2,N3,reduceCtorEq,N4,N5,N6,reduceIte,N7,I1,I2,I3]
  refine ifB_intro (fun _=>?_) (fun h=>by simp at h;omega)
  repeat (refine⟨by omega,?_⟩)
  refine⟨_,hT,?_⟩
  repeat' (first | refine⟨by omega,?_⟩ | simp only[Int.toNat_natCast,hgi,e1,gs,hset_hset,List.set_set,setsA,List.set_cons_zero,List.set_cons_succ,kinA,w0,w1,w2,w3,w4,w5,push_cast,↓J1,↓J2,N1,N2,N3,reduceCtorEq,N4,N5,N6,reduceIte,N7,I1,I2,I3])
  refine hJ (m-1) _ _ (by omega) ⟨i+1,l'.set i ⟨mText k',k'+1,k'+1+1,k'+1+1+1,decide ((k'+1+1+1+1).tmod 3=0),k'+1+1+1+1+1⟩,k'+1+1+1+1+1+1,by omega,by simp[h2],?_,?_,rfl⟩ (head_tb [] (by simp[rhoOk,objIds]) ?_ ?_)
  rotate_left 2
  ·simp only[hid,keptV_cons,keptV_nil,tb_get,lk_same,lk_ne,lk_nil,ren,renL,lkp,N7,N1,N5,reduceIte,and_true,true_and,Nat.not_lt_zero,if_false,if_true,Nat.add_zero,Nat.zero_add]
   rw[wrap64 (n:=(i:Int)+1) (by omega) (by omega)]
   and_intros<;>first | rfl | (simp;done) | omega
  ·rw[←ls]
   simp only[kinA]
   exact below_set hb
  all_goals omega
 ·simp only[push_cast,↓J1,↓J2,N1,N2,N3,reduceCtorEq,N4,N5,N6,reduceIte,N7,I1,I2,I3]
  refine ifB_intro (fun h=>by simp at h;omega) (fun h=>?_)
  exact⟨⟨k',rfl,by omega,by omega⟩,rfl,FrH.set,below_set hb,solid_set hs⟩
theorem t132(l:List Ter)(k:Int)(h:Heap)(id n:Nat)(hg:hget h id=some (.slice 5 (tersO l)))(hb:below n h)(hs:solid h)(hk:0≤k∧k≤2^47)(hl:l.length<2^21)(hc: ∀t∈l,t.c.length<2^21):C 132 [.ref id none 5 0 l.length,.int .i64 k] h n (MP [id] h n 0 k (2^43)):=by
 have hid:=below_lt hb hg
 refine Closed.rT hC Q132 ?_
 simp only[c132,push_cast,↓J1,↓J2,N1,N2,N3,reduceCtorEq,N4,N5,N6,reduceIte,N7,I1,I2,I3]
 have hgi: ∀es:List (List AV),hget (hset h id (.slice 5 es)) id=some (.slice 5 es):=fun es=>hget_same hg
 refine RL_ind (fun m s'=> ∃(i:Nat) (l':List Ter) (k':Int),i+m=l.length∧l'.length=l.length∧(∀t∈l',t.c.length<2^21)∧k≤k'∧k'≤k+i*2097156∧s'=⟨tb 51 .any [(0,.ref id none 5 0 l.length),(1,.int .i64 k'),(5,.int .i64 (i:Int))],hset h id (.slice 5 (tersO l')),n⟩) l.length ⟨tb 51 .any [(0,.ref id none 5 0 l.length),(1,.int .i64 k),(5,.int .i64 0)],hset h id (.slice 5 (tersO l)),n⟩ (head_tb [] (by simp[rhoOk,objIds]) (by simp only[hid,keptV_cons,keptV_nil,tb_get,lk_same,lk_ne,lk_nil,ren,renL,lkp,N7,N1,N5,reduceIte,and_true,true_and,Nat.not_lt_zero,if_false,if_true,Nat.add_zero,Nat.zero_add];all_goals simp) (by rw[hset_get hg];exact hb)) ⟨0,l,k,by omega,rfl,hc,by omega,by omega,rfl⟩ ?_
 rintro m s' ⟨i,l',k',h1,h2,hI,h3,h4,rfl⟩ J hJ
 by_cases hi:i<l.length
 ·have e1:(tersO l')[i]?=some (terO (l'[i]'(by omega))):=by simp[tersO,h2,hi]
  have gs: ∀e:List AV,((tersO l').set i e)[i]?=some e:=by intro e;simp[tersO,h2,hi]
  have ls: ∀u:Ter,(tersO l').set i (terO u)=tersO (l'.set i u):=by intro u;simp[tersO,List.map_set]
  have hin:=hI _ (List.getElem_mem (show i<l'.length by omega))
  generalize (l'[i]'(by omega))=t at *
  have w0:IntKind.i64.wrap (k'+1)=k'+1:=wrap64 (by omega) (by omega)
  have hT:=t183 hC k' (by omega)
  have hL:t.c.length<2^21:=hin
  have w1:IntKind.i64.wrap (k'+1+(t.c.length:Int)+1)=k'+1+(t.c.length:Int)+1:=wrap64 (by omega) (by omega)
  have w2:IntKind.i64.wrap (k'+1+(t.c.length:Int)+1+1)=k'+1+(t.c.length:Int)+1+1:=wrap64 (by omega) (by omega)
  have w3:IntKind.i64.wrap (k'+1+(t.c.length:Int)+1+1+1)=k'+1+(t.c.length:Int)+1+1+1:=wrap64 (by omega) (by omega)
  simp only[Int.toNat_natCast,hgi,e1,terO,push_cast,↓J1,↓J2,N1,N2,N3,reduceCtorEq,N4,N5,N6,reduceIte,N7,I1,I2,I3]
  refine ifB_intro (fun _=>?_) (fun h=>by simp at h;omega)
  repeat (refine⟨by omega,?_⟩)
  refine⟨_,hT,?_⟩
  repeat' (first | refine⟨by omega,?_⟩ | simp only[Int.toNat_natCast,hgi,e1,gs,hset_hset,ints_length,List.set_set,setsA,List.set_cons_zero,List.set_cons_succ,terO,w0,push_cast,↓J1,↓J2,N1,N2,N3,reduceCtorEq,N4,N5,N6,reduceIte,N7,I1,I2,I3])
  refine⟨_,t84p hC t.c (k'+1) _ id n i 5 1 _ _ (hgi _) (gs _) rfl (below_set hb) (by omega) (by omega),?_⟩
  rintro v hh nn ⟨rfl,rfl,rfl⟩ _
  have hs2:=solid_set (id:=id) (sz:=5) (es:=((tersO l').set i (terO ⟨mText k',mk t.c (k'+1) t.c.length,t.s,t.h,t.b⟩))) hs
  unfold solid at hs2
  simp only[terO] at hs2
  simp only[hs2,hset_hset,List.set_set,List.set_cons_zero,List.set_cons_succ,push_cast,↓J1,↓J2,N1,N2,N3,reduceCtorEq,N4,N5,N6,reduceIte,N7,I1,I2,I3]
  repeat' (first | refine⟨by omega,?_⟩ | simp only[Int.toNat_natCast,hgi,e1,gs,hset_hset,List.set_set,setsA,List.set_cons_zero,List.set_cons_succ,terO,w1,w2,w3,push_cast,↓J1,↓J2,N1,N2,N3,reduceCtorEq,N4,N5,N6,reduceIte,N7,I1,I2,I3])
  refine hJ (m-1) _ _ (by omega) ⟨i+1,l'.set i ⟨mText k',mk t.c (k'+1) t.c.length,k'+1+t.c.length,k'+1+t.c.length+1,decide ((k'+1+t.c.length+1+1).tmod 3=0)⟩,k'+1+t.c.length+1+1+1,by omega,by simp[h2],?_,?_,?_,rfl⟩ (head_tb [] (by simp[rhoOk,objIds]) ?_ ?_)
  rotate_left 3
  ·simp only[hid,keptV_cons,keptV_nil,tb_get,lk_same,lk_ne,lk_nil,ren,renL,lkp,N7,N1,N5,reduceIte,and_true,true_and,Nat.not_lt_zero,if_false,if_true,Nat.add_zero,Nat.zero_add]
   rw[wrap64 (n:=(i:Int)+1) (by omega) (by omega)]
   and_intros<;>first | rfl | (simp;done) | omega
  ·rw[←ls]
   simp only[terO]
   exact below_set hb
  ·intro u hu
   rcases List.mem_or_eq_of_mem_set hu with hu | rfl
   ·exact hI u hu
   ·show(mk t.c (k'+1) t.c.length).length<_
    rw[mk_length (Nat.le_refl _)];exact hL
  all_goals omega
 ·simp only[push_cast,↓J1,↓J2,N1,N2,N3,reduceCtorEq,N4,N5,N6,reduceIte,N7,I1,I2,I3]
  refine ifB_intro (fun h=>by simp at h;omega) (fun h=>?_)
  exact⟨⟨k',rfl,by omega,by omega⟩,rfl,FrH.set,below_set hb,solid_set hs⟩
end
end Go.Proofs.YtlkcpadkjepchaaGreatDoor.X
set_option maxHeartbeats 4000000
set_option maxRecDepth 8000
set_option linter.unusedSimpArgs false
set_option linter.unusedVariables false
open Nat renaming reduceBEq→N1,reduceAdd→N2,reduceSub→N3,reduceMul→N4,reduceEqDiff→N5,reduceLeDiff→N6,reduceLT→N7
open Int renaming reduceLE→I1,reduceLT→I2,reduceToNat→I3
namespace Go.Proofs.YtlkcpadkjepchaaGreatDoor.X
open Go
attribute [local irreducible] Ev
theorem usl_get{us:List Un}{k:Nat}(h:k<us.length):(uns us)[k]?=some (unA (us.getD k un0)):=by
 simp[uns,List.getD,h]
theorem usl_set{us:List Un}{k:Nat}{a b c d:Int}:(uns us).set k [.int .i64 a,.int .i64 b,.int .i64 c,.int .i64 d]=uns (us.set k ⟨a,b,c,d⟩):=by
 simp[uns,List.map_set,unA]
section
variable{C:CT}(hC:Closed Tryz.prog G1 md0 C)
include hC
theorem t177(t w:Int)(us:List Un)(k:Nat)(h:Heap)(id n:Nat)(hk:k<us.length)(hu:us.length<2^40)(hg:hget h id=some (.slice 4 (uns us)))(hb:below n h)(hs:solid h)(h0:0≤(us.getD k un0).st∧(us.getD k un0).st≤4)(m:Int)(hm:0≤m∧m≤4):C 177 [.agg [.int .i64 t,.int .i64 w,.ref id none 4 0 us.length],.int .i64 (k:Int),.int .i64 m] h n (fun v h' n'=>v= .tup []∧n'=n+1∧h'=(n,.var [.int .i64 t,.int .i64 w,.ref id none 4 0 us.length])::hset h id (.slice 4 (uns (loseK us k m)))):=by
 have hid:=below_lt hb hg
 have hne:n≠id:=by omega
 have e1:=usl_get hk
 simp only[loseK]
 generalize us.getD k un0=u at *
 have en:(n=id)=False:=eq_false hne
 have hks:killH h=h:=hs
 have sl: ∀(v:List AV),(((uns us).set k v).length=us.length):=fun v=>by rw[List.length_set,uns_length]
 have sg: ∀(v:List AV),((uns us).set k v)[k]?=some v:=fun v=>by rw[List.getElem?_set_self (by rw[uns_length];exact hk)]
 have w1:IntKind.i64.wrap (u.st-m)=u.st-m:=wrap64 (by omega) (by omega)
 have hgs: ∀ob,hget (hset h id ob) id=some ob:=fun ob=>hget_same hg
 have hks2: ∀es,killH (hset h id (.slice 4 es))=hset h id (.slice 4 es):=fun es=>solid_set hs
 refine Closed.rT hC Q177 ?_
 simp only[c177,hid,push_cast,↓J1,↓J2,N1,N2,N3,reduceCtorEq,N4,N5,N6,reduceIte,N7,I1,I2,I3]
 repeat' (first
  | simp only[en,if_false,hg,hgs,hset_hset,e1,sg,sl,List.set_set,unA,uns_length,Int.toNat_natCast,w1,hks,hks2,hid,push_cast,↓J1,↓J2,N1,N2,N3,reduceCtorEq,N4,N5,N6,reduceIte,N7,I1,I2,I3]
  | refine ifB_intro (fun h=>?_) (fun h=>?_)
  | refine And.intro ?_ ?_)
 all_goals first
  | omega
  | skip
 all_goals
  have hh:=h
  refine congrArg (fun z=>(n,Ob.var [AV.int IntKind.i64 t,AV.int IntKind.i64 w,AV.ref id none 4 0 us.length])::hset _ id (Ob.slice 4 z)) ?_
  rw[usl_set]
  refine congrArg (fun z=>uns (us.set k z)) ?_
  simp only[decide_eq_true_eq,decide_eq_false_iff_not] at hh
  simp only[lose1,Un.mk.injEq,true_and]
  by_cases hy:u.st-m<0
  ·simp only[if_pos hy] at hh⊢
   rw[if_pos (show u.st-m≤0 by omega),if_pos (show u.st-m≤0 by omega)]
   first | exact⟨rfl,rfl⟩ | (exact absurd trivial hh)
  ·simp only[if_neg hy] at hh⊢
   first
    | (rw[if_pos (show u.st-m≤0 by omega),if_pos (show u.st-m≤0 by omega)];exact⟨rfl,hh⟩)
    | (rw[if_neg (show¬u.st-m≤0 by omega),if_neg (show¬u.st-m≤0 by omega)];exact⟨rfl,rfl⟩)
theorem t150(t w:Int)(us:List Un)(k:Nat)(h:Heap)(id n:Nat)(hk:k<us.length)(hu:us.length<2^40)(hg:hget h id=some (.slice 4 (uns us)))(hb:below n h)(hs:solid h)(h0:0≤(us.getD k un0).st∧(us.getD k un0).st≤4)(m:Int)(hm:0≤m∧m≤4):C 150 [.agg [.int .i64 t,.int .i64 w,.ref id none 4 0 us.length],.int .i64 (k:Int),.int .i64 m] h n (fun v h' n'=>v= .tup []∧n'=n+1∧h'=(n,.var [.int .i64 t,.int .i64 w,.ref id none 4 0 us.length])::hset h id (.slice 4 (uns (loseK us k m)))):=by
 have hid:=below_lt hb hg
 have hne:n≠id:=by omega
 have e1:=usl_get hk
 simp only[loseK]
 generalize us.getD k un0=u at *
 have en:(n=id)=False:=eq_false hne
 have hks:killH h=h:=hs
 have sl: ∀(v:List AV),(((uns us).set k v).length=us.length):=fun v=>by rw[List.length_set,uns_length]
 have sg: ∀(v:List AV),((uns us).set k v)[k]?=some v:=fun v=>by rw[List.getElem?_set_self (by rw[uns_length];exact hk)]
 have w1:IntKind.i64.wrap (u.st-m)=u.st-m:=wrap64 (by omega) (by omega)
 have c1:=t200 hC 0 (u.st-m)
 have hgs: ∀ob,hget (hset h id ob) id=some ob:=fun ob=>hget_same hg
 have hks2: ∀es,killH (hset h id (.slice 4 es))=hset h id (.slice 4 es):=fun es=>solid_set hs
 refine Closed.rT hC Q150 ?_
 simp only[c150,hid,push_cast,↓J1,↓J2,N1,N2,N3,reduceCtorEq,N4,N5,N6,reduceIte,N7,I1,I2,I3]
 repeat' (first
  | simp only[en,if_false,hg,hgs,hset_hset,e1,sg,sl,List.set_set,unA,uns_length,Int.toNat_natCast,w1,hks,hks2,hid,push_cast,↓J1,↓J2,N1,N2,N3,reduceCtorEq,N4,N5,N6,reduceIte,N7,I1,I2,I3]
  | refine⟨_,c1,?_⟩
  | refine ifB_intro (fun h=>?_) (fun h=>?_)
  | refine And.intro ?_ ?_)
 all_goals first
  | omega
  | skip
 all_goals
  have hh:=h
  refine congrArg (fun z=>(n,Ob.var [AV.int IntKind.i64 t,AV.int IntKind.i64 w,AV.ref id none 4 0 us.length])::hset _ id (Ob.slice 4 z)) ?_
  rw[usl_set]
  refine congrArg (fun z=>uns (us.set k z)) ?_
  simp only[decide_eq_true_eq,decide_eq_false_iff_not] at hh
  simp only[lose1,Un.mk.injEq,true_and]
  by_cases hy:u.st-m<0
  ·simp only[if_pos hy] at hh⊢
   rw[if_pos (show u.st-m≤0 by omega),if_pos (show u.st-m≤0 by omega)]
   first | exact⟨rfl,rfl⟩ | (exact absurd trivial hh)
  ·simp only[if_neg hy] at hh⊢
   first
    | (rw[if_pos (show u.st-m≤0 by omega),if_pos (show u.st-m≤0 by omega)];exact⟨rfl,hh⟩)
    | (rw[if_neg (show¬u.st-m≤0 by omega),if_neg (show¬u.st-m≤0 by omega)];exact⟨rfl,rfl⟩)
end
end Go.Proofs.YtlkcpadkjepchaaGreatDoor.X
