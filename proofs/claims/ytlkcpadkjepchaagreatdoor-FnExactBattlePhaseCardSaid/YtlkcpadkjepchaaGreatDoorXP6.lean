/- A part of the proof: lemmas on the machine or on the functions that the law reaches. No condition of its own. -/
import Derived.Test.YtlkcpadkjepchaaGreatDoorXP5
import Derived.Test.YtlkcpadkjepchaaGreatDoorXP4
set_option maxHeartbeats 1000000
set_option maxRecDepth 8000
set_option linter.unusedSimpArgs false
set_option linter.unusedVariables false
open Nat renaming reduceBEq→N1,reduceAdd→N2,reduceSub→N3,reduceMul→N4,reduceEqDiff→N5,reduceLeDiff→N6,reduceLT→N7
open Int renaming reduceLE→I1,reduceLT→I2,reduceToNat→I3
namespace Go.Proofs.YtlkcpadkjepchaaGreatDoor.X
open Go
attribute [local irreducible] Ev
theorem NilToL_nil:NilToL [] []:=by simp only[NilToL]
theorem NilToL_cons{x y:AV}{xs ys:List AV}(h:NilTo x y)(h':NilToL xs ys):NilToL (x::xs) (y::ys):=by
 simp only[NilToL];exact⟨y,ys,rfl,h,h'⟩
theorem NilTo_agg{xs ys:List AV}(h:NilToL xs ys):NilTo (.agg xs) (.agg ys):=by
 simp only[NilTo];exact⟨ys,rfl,h⟩
theorem NilTo_tup{xs ys:List AV}(h:NilToL xs ys):NilTo (.tup xs) (.tup ys):=by
 simp only[NilTo];exact⟨ys,rfl,h⟩
theorem NilTo_nl{sz:Nat}:NilTo .nil (.ow sz []):=by
 simp only[NilTo];exact .inr ⟨sz,rfl⟩
def sta0:Sta:=⟨0,0,[]⟩
theorem nil_sta:NilToL [.int .i64 0,.int .i64 0,.nil] (staO sta0):=NilToL_cons (NilTo.refl _) (NilToL_cons (NilTo.refl _) (NilToL_cons NilTo_nl NilToL_nil))
theorem RetTo_nil{h h2:Heap}{v r0 r:AV}(hc:conR 8 h v=some (r0,h2))(hn:NilTo r0 r):RetTo h v r:=⟨r0,h2,hc,hn⟩
def absI(n:Int):Int:=if n<0 then -n else n
def distI(q1 r1 q2 r2:Int):Int:=(absI (q2-q1)+absI (r2-r1)+absI (q2-q1+(r2-r1))).tdiv 2
theorem absI_bnd{n B:Int}(h: -B≤n∧n≤B):0≤absI n∧absI n≤B:=by
 simp only[absI];split<;>omega
section
variable{C:CT}(hC:Closed Tryz.prog G1 md0 C)
include hC
theorem t114(l:List Un)(hl:l.length<2^40):Ev C 114 [.sl (uns l)] (.ow 4 (uns l)):=by
 have ha: ∀e∈uns l,(e.length==4)=true:=by simp[uns,unA]
 have hb:(uns l).all (fun e=>e.length==4)=true:=List.all_eq_true.2 ha
 refine rT hC Q114 ?_ (by simp only[ownR,own_uns])
 simp only[c114,uns_length,push_cast,↓J1,↓J2,N1,N2,N3,reduceCtorEq,N4,N5,N6,reduceIte,N7,I1,I2,I3]
 intro b hb0
 cases b
 ·simp only[hb,if_true,uns_length,push_cast,↓J1,↓J2,N1,N2,N3,reduceCtorEq,N4,N5,N6,reduceIte,N7,I1,I2,I3]
  repeat (refine⟨by omega,?_⟩)
  exact RetTo_ow rfl (by rw[uns_length])
 ·have:=hb0 rfl
  simp only[push_cast,↓J1,↓J2,N1,N2,N3,reduceCtorEq,N4,N5,N6,reduceIte,N7,I1,I2,I3]
  exact RetTo_nil (r0:= .nil) (h2:=[]) (by simp[conR,isF]) (by rw[this];exact NilTo_nl)
theorem t69(s:Sta)(hl:s.us.length<2^40):Ev C 69 [.agg (staF s)] (.agg (staO s)):=by
 have c1:=t114 hC s.us hl
 simp only[staF,staO]
 refine rT hC Q69 ?_ (by simp only[ownR,ownRL,own_uns,Bool.and_true])
 simp only[c69,push_cast,↓J1,↓J2,N1,N2,N3,reduceCtorEq,N4,N5,N6,reduceIte,N7,I1,I2,I3]
 refine⟨_,c1,?_⟩
 simp only[push_cast,↓J1,↓J2,N1,N2,N3,reduceCtorEq,N4,N5,N6,reduceIte,N7,I1,I2,I3]
 exact rtA
theorem t149(s:Sta)(hl:s.us.length<2^40):Ev C 149 [.agg (staF s)] (.agg (staO s)):=by
 have hb:(uns s.us).all (fun e=>e.length==4)=true:=List.all_eq_true.2 (by simp[uns,unA])
 simp only[staF,staO]
 refine rT hC Q149 ?_ (by simp only[ownR,ownRL,own_uns,Bool.and_true])
 simp only[c149,uns_length,hb,push_cast,↓J1,↓J2,N1,N2,N3,reduceCtorEq,N4,N5,N6,reduceIte,N7,I1,I2,I3]
 have tku:List.take s.us.length (uns s.us)=uns s.us:=List.take_of_length_le (by rw[uns_length];omega)
 and_intros
 all_goals first
  | omega
  | skip
 all_goals exact RetTo_of (by simp only[conR,conRL,isF,hget,hdel,List.drop_zero,List.take_length,if_true,if_false,reduceIte,N5,reduceCtorEq,tku];rfl)
theorem t58n(s:Sta)(hl:s.us.length<2^40):Ev C 58 [.agg (staF s),.nil] (.agg (staO s)):=by
 have hb:(uns s.us).all (fun e=>e.length==4)=true:=List.all_eq_true.2 (by simp[uns,unA])
 simp only[staF,staO]
 refine rT hC Q58 ?_ (by simp only[ownR,ownRL,own_uns,Bool.and_true])
 simp only[c58,uns_length,hb,push_cast,↓J1,↓J2,N1,N2,N3,reduceCtorEq,N4,N5,N6,reduceIte,N7,I1,I2,I3]
 have tku:List.take s.us.length (uns s.us)=uns s.us:=List.take_of_length_le (by rw[uns_length];omega)
 and_intros
 all_goals first
  | omega
  | skip
 all_goals
  refine RL_count (fun i=>⟨tb 33 .any [(4,.ptr 0 none 0 0 0),(5,.ptr 1 none 0 0 0),(17,.nil),(18,.int .i64 0),(19,.int .i64 (i:Int))],[(2,.slice 4 (uns s.us)),(1,.var [.int .i64 s.t,.int .i64 s.w,.ref 2 none 4 0 s.us.length]),(0,.var [.int .i64 0,.int .i64 0,.nil])],3⟩) (fun _=>True) 0 0 ?_ (by omega) trivial ?_
  ·first | exact(hdA [(4,2),(2,1),(1,0)]) | exact(hdA [(4,2),(3,1),(1,0)]) | exact(hdA [(3,2),(4,1),(1,0)])
  intro i hi _ J hJ
  obtain rfl:i=0:=by omega
  simp only[decide_false,push_cast,↓J1,↓J2,N1,N2,N3,reduceCtorEq,N4,N5,N6,reduceIte,N7,I1,I2,I3]
  exact RetTo_of (by simp only[conR,conRL,isF,hget,hdel,List.drop_zero,List.take_length,if_true,if_false,reduceIte,N5,reduceCtorEq,tku];rfl)
end
end Go.Proofs.YtlkcpadkjepchaaGreatDoor.X
set_option maxHeartbeats 4000000
set_option maxRecDepth 8000
set_option linter.unusedSimpArgs false
set_option linter.unusedVariables false
open Nat renaming reduceBEq→N1,reduceAdd→N2,reduceSub→N3,reduceMul→N4,reduceEqDiff→N5,reduceLeDiff→N6,reduceLT→N7
open Int renaming reduceLE→I1,reduceLT→I2,reduceToNat→I3
namespace Go.Proofs.YtlkcpadkjepchaaGreatDoor.X
open Go
attribute [local irreducible] Ev
section
variable{C:CT}(hC:Closed Tryz.prog G1 md0 C)
include hC
end
end Go.Proofs.YtlkcpadkjepchaaGreatDoor.X
set_option maxHeartbeats 4000000
set_option maxRecDepth 8000
set_option linter.unusedSimpArgs false
set_option linter.unusedVariables false
open Nat renaming reduceBEq→N1,reduceAdd→N2,reduceSub→N3,reduceMul→N4,reduceEqDiff→N5,reduceLeDiff→N6,reduceLT→N7
open Int renaming reduceLE→I1,reduceLT→I2,reduceToNat→I3
namespace Go.Proofs.YtlkcpadkjepchaaGreatDoor.X
open Go
attribute [local irreducible] Ev
def hasI(l:List Int)(n:Int):Bool:=l.any fun x=>decide (x=n)
def edgeM(m:Mp)(i:Int)(d:Nat):Int:=if d<3 then 3*i+d else 3*nextM m i d+d-3
def freeE(m:Mp)(e:Int):Bool:=!hasI m.ri e||hasI m.ro e
def first6(p:Nat→Bool):Option Nat:=(List.range 6).find? p
theorem first6_at{p:Nat→Bool}{i:Nat}(h:i<6)(hp:p i=true)(hn: ∀j,j<i→p j=false):first6 p=some i:=by
 simp only[first6,List.find?_range_eq_some]
 exact⟨hp,by simp[h],fun j hj=>by simp[hn j hj]⟩
theorem first6_no{p:Nat→Bool}(hn: ∀j,j<6→p j=false):first6 p=none:=by
 simp only[first6,List.find?_range_eq_none]
 exact fun j hj=>by simp[hn j hj]
def wayFree(b:Brd)(a i:Int):Bool:=match first6 (fun d=>decide (nextM b.m a d=i)) with
 | some d=>freeE b.m (edgeM b.m a d)
 | none=>false
def zonOf(b:Brd)(u:Un)(i:Int):Bool:=decide (0≤u.at_)&&(kindOf b u.k).z&&!decide (costAt b u.k i=0)&&wayFree b u.at_ i
def zonS(b:Brd)(sd i:Int)(u:Un):Bool:=decide (u.sd=sd)&&zonOf b u i
def inZon(b:Brd)(s:Sta)(sd i:Int):Bool:=s.us.any (zonS b sd i)
theorem nextM_bnd{m:Mp}{i d:Int}(hw:1≤m.w∧m.w≤10)(hh:1≤m.h∧m.h≤10): -1≤nextM m i d∧nextM m i d<m.w*m.h:=by
 have hwh:=wh_le hw hh
 simp only[nextM]
 split
 ·rename_i h
  simp only[inR,Bool.and_eq_true,decide_eq_true_eq] at h
  generalize i.tdiv m.w+dr d.toNat=r at *
  generalize i.tmod m.w+dq d.toNat=q at *
  have h1:0≤r*m.w:=Int.mul_nonneg (by omega) (by omega)
  have h2:r*m.w≤(m.h-1)*m.w:=Int.mul_le_mul_of_nonneg_right (by omega) (by omega)
  have h3:(m.h-1)*m.w=m.w*m.h-m.w:=by rw[Int.sub_mul,Int.one_mul,Int.mul_comm]
  omega
 ·omega
theorem hasI_no{l:List Int}{n:Int}(h: ∀j (h:j<l.length),decide (l[j]=n)=false):hasI l n=false:=by
 simp only[hasI,List.any_eq_false]
 intro x hx
 obtain⟨j,hj,rfl⟩:=List.getElem_of_mem hx
 simpa using h j hj
theorem hasI_yes{l:List Int}{n:Int}{j:Nat}(hj:j<l.length)(h:decide (l[j]=n)=true):hasI l n=true:=by
 simp only[hasI,List.any_eq_true]
 exact⟨_,List.getElem_mem hj,h⟩
def iidx(l:List Int)(n:Int):Int:=gidx (fun x=>decide (n=x)) l
theorem iidx_has(l:List Int)(n:Int):decide (0≤iidx l n)=hasI l n:=by
 have:=fidx_any (fun x=>decide (n=x)) l
 have e:iidx l n=fidx (fun x=>decide (n=x)) l:=rfl
 rw[e,this]
 simp only[hasI]
 congr 1;funext x;rw[Bool.eq_iff_iff];simp;exact eq_comm
section
variable{C:CT}(hC:Closed Tryz.prog G1 md0 C)
include hC
theorem t222(l:List Int)(n:Int)(hl:l.length<2^50):Ev C 222 [.sl (ints l),.int .i64 n] (.bool (hasI l n)):=by
 refine rT hC Q222 ?_
 simp only[c222,ints_length,push_cast,↓J1,↓J2,N1,N2,N3,reduceCtorEq,N4,N5,N6,reduceIte,N7,I1,I2,I3]
 refine RL_count (fun i=>⟨tb 17 .any [(1,.int .i64 n),(7,.sl (ints l)),(8,.int .i64 (l.length:Int)),(9,.int .i64 (i:Int))],[],0⟩) (fun i=> ∀j (h:j<l.length),j<i→decide (l[j]=n)=false) l.length 0 (hdA []) (by omega) (by intro j h h';omega) fun i hi' ht J hJ=>?_
 by_cases h1:i<l.length
 ·have e1:(ints l)[i]?=some [.int .i64 l[i]]:=by simp[ints,h1]
  simp only[Int.toNat_natCast,e1,push_cast,↓J1,↓J2,N1,N2,N3,reduceCtorEq,N4,N5,N6,reduceIte,N7,I1,I2,I3]
  refine ifB_intro (fun _=>?_) (fun h=>by simp at h;omega)
  repeat (refine⟨by omega,?_⟩)
  refine ifB_intro (fun h=>?_) (fun h=>?_)
  ·rw[hasI_yes h1 h];first | done | rfl
  ·refine hJ h1 ?_ _ (hdA [])
   intro j hj hji
   by_cases hij:j=i
   ·subst hij;exact h
   ·exact ht j hj (by omega)
 ·simp only[ints_length,push_cast,↓J1,↓J2,N1,N2,N3,reduceCtorEq,N4,N5,N6,reduceIte,N7,I1,I2,I3]
  refine ifB_intro (fun h=>by simp at h;omega) (fun h=>?_)
  rw[hasI_no fun j hj=>ht j hj (by omega)];first | done | rfl
theorem t234(l:List Int)(n:Int)(hl:l.length<2^50):Ev C 234 [.sl (ints l),.int .i64 n] (.int .i64 (iidx l n)):=by
 refine rT hC Q234 ?_
 simp only[c234,ints_length,push_cast,↓J1,↓J2,N1,N2,N3,reduceCtorEq,N4,N5,N6,reduceIte,N7,I1,I2,I3]
 refine RL_count (fun i=>⟨tb 19 .any [(0,.sl (ints l)),(1,.int .i64 n),(7,.int .i64 (l.length:Int)),(8,.int .i64 (i:Int))],[],0⟩) (fun i=> ∀j (h:j<l.length),j<i→decide (n=l[j])=false) l.length 0 (hdA []) (by omega) (by intro j h h';omega) fun i hi' ht J hJ=>?_
 by_cases h1:i<l.length
 ·have e1:(ints l)[i]?=some [.int .i64 l[i]]:=by simp[ints,h1]
  simp only[Int.toNat_natCast,e1,push_cast,↓J1,↓J2,N1,N2,N3,reduceCtorEq,N4,N5,N6,reduceIte,N7,I1,I2,I3]
  refine ifB_intro (fun _=>?_) (fun h=>by simp at h;omega)
  repeat (refine⟨by omega,?_⟩)
  refine ifB_intro (fun h=>?_) (fun h=>?_)
  ·exact(gidx_at (p:=fun x=>decide (n=x)) h1 h ht).symm
  ·refine hJ h1 ?_ _ (hdA [])
   intro j hj hji
   by_cases hij:j=i
   ·subst hij;exact h
   ·exact ht j hj (by omega)
 ·simp only[ints_length,push_cast,↓J1,↓J2,N1,N2,N3,reduceCtorEq,N4,N5,N6,reduceIte,N7,I1,I2,I3]
  refine ifB_intro (fun h=>by simp at h;omega) (fun h=>?_)
  exact(gidx_no fun j hj=>ht j hj (by omega)).symm
theorem t213(l:List Int)(n:Int)(hl:l.length<2^50):Ev C 213 [.sl (ints l),.int .i64 n] (.bool (hasI l n)):=by
 refine rT hC Q213 ?_
 simp only[c213,push_cast,↓J1,↓J2,N1,N2,N3,reduceCtorEq,N4,N5,N6,reduceIte,N7,I1,I2,I3]
 refine⟨_,t234 hC l n hl,?_⟩
 simp only[iidx_has,push_cast,↓J1,↓J2,N1,N2,N3,reduceCtorEq,N4,N5,N6,reduceIte,N7,I1,I2,I3]
theorem t174(m:Mp)(e:Int)(hb:MpB (2^50) m):Ev C 174 [.agg (mpF m),.int .i64 e] (.bool (freeE m e)):=by
 have c1:=t213 hC m.ri e hb.ri
 have c2:=t213 hC m.ro e hb.ro
 simp only[mpF,freeE] at *
 refine rT hC Q174 ?_
 simp only[c174,push_cast,↓J1,↓J2,N1,N2,N3,reduceCtorEq,N4,N5,N6,reduceIte,N7,I1,I2,I3]
 refine⟨_,c1,?_⟩
 cases hasI m.ri e
 ·simp only[push_cast,↓J1,↓J2,N1,N2,N3,reduceCtorEq,N4,N5,N6,reduceIte,N7,I1,I2,I3]
 simp only[push_cast,↓J1,↓J2,N1,N2,N3,reduceCtorEq,N4,N5,N6,reduceIte,N7,I1,I2,I3]
 refine⟨_,c2,?_⟩
 simp only[push_cast,↓J1,↓J2,N1,N2,N3,reduceCtorEq,N4,N5,N6,reduceIte,N7,I1,I2,I3]
theorem t175(m:Mp)(i:Int)(d:Nat)(hw:1≤m.w∧m.w≤10)(hh:1≤m.h∧m.h≤10)(hi:0≤i∧i<100)(hd:d<6)(hn:0≤nextM m i d):Ev C 175 [.agg (mpF m),.int .i64 i,.int .i64 (d:Int)] (.int .i64 (edgeM m i d)):=by
 have c1:=t210 hC m i d hw hh (by omega) (by omega)
 have hb:=nextM_bnd (i:=i) (d:=d) hw hh
 have hwh:=wh_le hw hh
 simp only[mpF] at *
 refine rT hC Q175 ?_
 simp only[c175,push_cast,↓J1,↓J2,N1,N2,N3,reduceCtorEq,N4,N5,N6,reduceIte,N7,I1,I2,I3]
 refine⟨_,c1,?_⟩
 have g1:decide (nextM m i d<0)=false:=decide_eq_false (by omega)
 simp only[g1,push_cast,↓J1,↓J2,N1,N2,N3,reduceCtorEq,N4,N5,N6,reduceIte,N7,I1,I2,I3]
 by_cases g2:d<3
 ·have g3:decide ((d:Int)<3)=true:=decide_eq_true (by omega)
  simp only[g3,push_cast,↓J1,↓J2,N1,N2,N3,reduceCtorEq,N4,N5,N6,reduceIte,N7,I1,I2,I3]
  rw[wrap64 (n:=3*i) (by omega) (by omega),wrap64 (by omega) (by omega)]
  simp only[edgeM,if_pos g2]
 ·have g3:decide ((d:Int)<3)=false:=decide_eq_false (by omega)
  simp only[g3,push_cast,↓J1,↓J2,N1,N2,N3,reduceCtorEq,N4,N5,N6,reduceIte,N7,I1,I2,I3]
  rw[wrap64 (n:=3*nextM m i d) (by omega) (by omega),wrap64 (n:=3*nextM m i d+d) (by omega) (by omega),wrap64 (by omega) (by omega)]
  simp only[edgeM,if_neg g2]
theorem t237(m:Mp)(i:Int)(d:Nat)(hw:1≤m.w∧m.w≤10)(hh:1≤m.h∧m.h≤10)(hi:0≤i∧i<100)(hd:d<6):Ev C 237 [.agg (mpF m),.int .i64 i,.int .i64 (d:Int)] (.int .i64 (edgeM m i d)):=by
 have c1:=t142 hC m i d hw hh (by omega) (by omega)
 have hb:=nextM_bnd (i:=i) (d:=d) hw hh
 have hwh:=wh_le hw hh
 simp only[mpF] at *
 refine rT hC Q237 ?_
 simp only[c237,push_cast,↓J1,↓J2,N1,N2,N3,reduceCtorEq,N4,N5,N6,reduceIte,N7,I1,I2,I3]
 by_cases g2:d<3
 ·have g3:decide ((d:Int)<3)=true:=decide_eq_true (by omega)
  simp only[g3,push_cast,↓J1,↓J2,N1,N2,N3,reduceCtorEq,N4,N5,N6,reduceIte,N7,I1,I2,I3]
  rw[wrap64 (n:=3*i) (by omega) (by omega),wrap64 (by omega) (by omega)]
  simp only[edgeM,if_pos g2]
 ·have g3:decide ((d:Int)<3)=false:=decide_eq_false (by omega)
  simp only[g3,push_cast,↓J1,↓J2,N1,N2,N3,reduceCtorEq,N4,N5,N6,reduceIte,N7,I1,I2,I3]
  refine⟨_,c1,?_⟩
  simp only[push_cast,↓J1,↓J2,N1,N2,N3,reduceCtorEq,N4,N5,N6,reduceIte,N7,I1,I2,I3]
  rw[wrap64 (n:=3*nextM m i d) (by omega) (by omega),wrap64 (n:=3*nextM m i d+d) (by omega) (by omega),wrap64 (by omega) (by omega)]
  simp only[edgeM,if_neg g2]
theorem t220(m:Mp)(i:Int)(d:Nat)(hw:1≤m.w∧m.w≤10)(hh:1≤m.h∧m.h≤10)(hi:0≤i∧i<100)(hd:d<6)(hb:MpB (2^50) m):Ev C 220 [.agg (mpF m),.int .i64 i,.int .i64 (d:Int)] (.bool (hasI m.ri (edgeM m i d))):=by
 have c1:=t237 hC m i d hw hh hi hd
 have c2:=t222 hC m.ri (edgeM m i d) hb.ri
 simp only[mpF] at *
 refine rT hC Q220 ?_
 simp only[c220,push_cast,↓J1,↓J2,N1,N2,N3,reduceCtorEq,N4,N5,N6,reduceIte,N7,I1,I2,I3]
 refine⟨_,c1,?_⟩
 simp only[push_cast,↓J1,↓J2,N1,N2,N3,reduceCtorEq,N4,N5,N6,reduceIte,N7,I1,I2,I3]
 refine⟨_,c2,?_⟩
 simp only[push_cast,↓J1,↓J2,N1,N2,N3,reduceCtorEq,N4,N5,N6,reduceIte,N7,I1,I2,I3]
theorem t221(m:Mp)(i:Int)(d:Nat)(hw:1≤m.w∧m.w≤10)(hh:1≤m.h∧m.h≤10)(hi:0≤i∧i<100)(hd:d<6)(hb:MpB (2^50) m):Ev C 221 [.agg (mpF m),.int .i64 i,.int .i64 (d:Int)] (.bool (hasI m.ro (edgeM m i d))):=by
 have c1:=t237 hC m i d hw hh hi hd
 have c2:=t222 hC m.ro (edgeM m i d) hb.ro
 simp only[mpF] at *
 refine rT hC Q221 ?_
 simp only[c221,push_cast,↓J1,↓J2,N1,N2,N3,reduceCtorEq,N4,N5,N6,reduceIte,N7,I1,I2,I3]
 refine⟨_,c1,?_⟩
 simp only[push_cast,↓J1,↓J2,N1,N2,N3,reduceCtorEq,N4,N5,N6,reduceIte,N7,I1,I2,I3]
 refine⟨_,c2,?_⟩
 simp only[push_cast,↓J1,↓J2,N1,N2,N3,reduceCtorEq,N4,N5,N6,reduceIte,N7,I1,I2,I3]
end
end Go.Proofs.YtlkcpadkjepchaaGreatDoor.X
set_option maxHeartbeats 4000000
set_option maxRecDepth 8000
set_option linter.unusedSimpArgs false
set_option linter.unusedVariables false
open Nat renaming reduceBEq→N1,reduceAdd→N2,reduceSub→N3,reduceMul→N4,reduceEqDiff→N5,reduceLeDiff→N6,reduceLT→N7
open Int renaming reduceLE→I1,reduceLT→I2,reduceToNat→I3
namespace Go.Proofs.YtlkcpadkjepchaaGreatDoor.X
open Go
attribute [local irreducible] Ev
theorem zon_at{b:Brd}{u:Un}(hw:1≤b.m.w*b.m.h)(h:unOk b u=true):u.at_<b.m.w*b.m.h:=by
 simp only[unOk,placed,inR,Bool.and_eq_true,Bool.or_eq_true,decide_eq_true_eq] at h
 omega
section
variable{C:CT}(hC:Closed Tryz.prog G1 md0 C)
include hC
theorem t249(b:Brd)(u:Un)(i:Int)(g:brdOk b=true)(hu:unOk b u=true)(hi:inR 0 (b.m.w*b.m.h-1) i=true)(hb:BrdB (2^50) b):Ev C 249 [brdF b,.agg (unA u),.int .i64 i] (.bool (zonOf b u i)):=by
 have hm:=mp_wh (brd_mp g)
 have hwh:=brd_wh g
 have hk:=un_kind g (by simp only[unOk,Bool.and_eq_true] at hu;exact hu.1.1.2)
 have hk':=kind_at hk
 have hat:=zon_at hwh.2.1 hu
 have c1:=t167 hC b u.k i g (by simp only[unOk,Bool.and_eq_true] at hu;exact hu.1.1.2) hi hb
 have c2:=fun a d (h1:0≤a) (h2:a<300) (h3:d<6)=>t210 hC b.m a (d:Nat) hm.1 hm.2 ⟨h1,h2⟩ ⟨by omega,by omega⟩
 have c4:=fun a d (h1:0≤a) (h2:a<100) (h3:d<6) (h4:0≤nextM b.m a (d:Nat))=>t175 hC b.m a d hm.1 hm.2 ⟨h1,h2⟩ h3 h4
 have c5:=fun e=>t174 hC b.m e hb.m
 obtain⟨k,ek⟩: ∃m:Nat,u.k=m:=⟨u.k.toNat,by omega⟩
 have e1:=kins_get (b:=b) (k:=k) (by omega)
 have b2:=hb.r.ks
 have hi':=hi
 simp only[inR,Bool.and_eq_true,decide_eq_true_eq] at hi'
 skip
 simp only[brdF,rulF,mpF,List.cons_append,List.nil_append,unA,staF] at *
 refine rT hC Q249 ?_
 simp only[c249,push_cast,↓J1,↓J2,N1,N2,N3,reduceCtorEq,N4,N5,N6,reduceIte,N7,I1,I2,I3]
 have z0:decide (u.at_<0)=!decide (0≤u.at_):=by rw[Bool.eq_iff_iff];simp
 simp only[z0,push_cast,↓J1,↓J2,N1,N2,N3,reduceCtorEq,N4,N5,N6,reduceIte,N7,I1,I2,I3]
 cases g1:decide (0≤u.at_)
 ·simp only[zonOf,g1,Bool.false_and,push_cast,↓J1,↓J2,N1,N2,N3,reduceCtorEq,N4,N5,N6,reduceIte,N7,I1,I2,I3]
 simp only[ek,Int.toNat_natCast,e1,kinA,kins_length,push_cast,↓J1,↓J2,N1,N2,N3,reduceCtorEq,N4,N5,N6,reduceIte,N7,I1,I2,I3]
 repeat (refine⟨by omega,?_⟩)
 rw[←ek]
 cases g2:(kindOf b u.k).z
 ·simp only[zonOf,g1,g2,Bool.false_and,Bool.and_false,push_cast,↓J1,↓J2,N1,N2,N3,reduceCtorEq,N4,N5,N6,reduceIte,N7,I1,I2,I3]
 simp only[push_cast,↓J1,↓J2,N1,N2,N3,reduceCtorEq,N4,N5,N6,reduceIte,N7,I1,I2,I3]
 refine⟨_,c1,?_⟩
 cases g3:decide (costAt b u.k i=0)
 rotate_left
 ·simp only[zonOf,g1,g2,g3,Bool.not_true,Bool.false_and,Bool.and_false,push_cast,↓J1,↓J2,N1,N2,N3,reduceCtorEq,N4,N5,N6,reduceIte,N7,I1,I2,I3]
 have h0:=of_decide_eq_true g1
 rw[show zonOf b u i=wayFree b u.at_ i by simp only[zonOf,g1,g2,g3,Bool.not_false,Bool.true_and,Bool.and_self]]
 simp only[g3,push_cast,↓J1,↓J2,N1,N2,N3,reduceCtorEq,N4,N5,N6,reduceIte,N7,I1,I2,I3]
 refine RL_count (fun j=>⟨tb 51 .any [(2,.int .i64 i),(3,.ptr 0 none 0 0 0),(4,.ptr 1 none 0 0 0),(30,.int .i64 (j:Int))],[(1,.var (unA u)),(0,.var (rulF b.r++mpF b.m))],2⟩) (fun j=> ∀d,d<j→decide (nextM b.m u.at_ (d:Nat)=i)=false) 6 0 (hdA [(1,1),(0,0)]) (by omega) (by intro d h;omega) fun j hj ht J hJ=>?_
 simp only[brdF,rulF,mpF,List.cons_append,List.nil_append,unA]
 by_cases h1:j<6
 ·have c3:=c2 u.at_ j h0 (by omega) h1
  have g5:decide ((j:Int)<6)=true:=decide_eq_true (by omega)
  simp only[g5,push_cast,↓J1,↓J2,N1,N2,N3,reduceCtorEq,N4,N5,N6,reduceIte,N7,I1,I2,I3]
  refine⟨_,c3,?_⟩
  cases g4:decide (nextM b.m u.at_ (j:Int)=i)
  ·simp only[g4,push_cast,↓J1,↓J2,N1,N2,N3,reduceCtorEq,N4,N5,N6,reduceIte,N7,I1,I2,I3]
   refine hJ h1 ?_ _ (hdA [(1,1),(0,0)])
   intro d hd
   by_cases hdj:d=j
   ·subst hdj;exact g4
   ·exact ht d (by omega)
  ·have hw:wayFree b u.at_ i=freeE b.m (edgeM b.m u.at_ j):=by
    simp only[wayFree,first6_at (p:=fun d=>decide (nextM b.m u.at_ (d:Nat)=i)) h1 g4 ht]
   rw[hw]
   have hn:=of_decide_eq_true g4
   simp only[g4,push_cast,↓J1,↓J2,N1,N2,N3,reduceCtorEq,N4,N5,N6,reduceIte,N7,I1,I2,I3]
   refine⟨_,c4 u.at_ j h0 (by omega) h1 (by omega),?_⟩
   simp only[push_cast,↓J1,↓J2,N1,N2,N3,reduceCtorEq,N4,N5,N6,reduceIte,N7,I1,I2,I3]
   refine⟨_,c5 _,?_⟩
   simp only[push_cast,↓J1,↓J2,N1,N2,N3,reduceCtorEq,N4,N5,N6,reduceIte,N7,I1,I2,I3]
 ·have hw:wayFree b u.at_ i=false:=by
   simp only[wayFree,first6_no (p:=fun d=>decide (nextM b.m u.at_ (d:Nat)=i)) fun d hd=>ht d (by omega)]
  rw[hw]
  have g5:decide ((j:Int)<6)=false:=decide_eq_false (by omega)
  simp only[g5,push_cast,↓J1,↓J2,N1,N2,N3,reduceCtorEq,N4,N5,N6,reduceIte,N7,I1,I2,I3]
theorem t250(b:Brd)(s:Sta)(n:Nat)(hn:n<s.us.length)(hl:s.us.length<2^40)(i:Int)(g:brdOk b=true)(hu:unOk b (unOf s n)=true)(hi:inR 0 (b.m.w*b.m.h-1) i=true)(hb:BrdB (2^50) b):Ev C 250 [brdF b,.agg (staF s),.int .i64 (n:Int),.int .i64 i] (.bool (zonOf b (unOf s n) i)):=by
 have hm:=mp_wh (brd_mp g)
 have hwh:=brd_wh g
 have hk:=un_kind g (by simp only[unOk,Bool.and_eq_true] at hu;exact hu.1.1.2)
 have hk':=kind_at hk
 have hat:=zon_at hwh.2.1 hu
 have c1:=t141 hC b (unOf s n).k i g (by simp only[unOk,Bool.and_eq_true] at hu;exact hu.1.1.2) hi hb
 have c2:=fun a d (h1:0≤a) (h2:a<300) (h3:d<6)=>t142 hC b.m a (d:Nat) hm.1 hm.2 ⟨h1,h2⟩ ⟨by omega,by omega⟩
 have c4:=fun a d (h1:0≤a) (h2:a<100) (h3:d<6)=>t220 hC b.m a d hm.1 hm.2 ⟨h1,h2⟩ h3 hb.m
 have c5:=fun a d (h1:0≤a) (h2:a<100) (h3:d<6)=>t221 hC b.m a d hm.1 hm.2 ⟨h1,h2⟩ h3 hb.m
 obtain⟨k,ek⟩: ∃m:Nat,(unOf s n).k=m:=⟨(unOf s n).k.toNat,by omega⟩
 have e1:=kins_get (b:=b) (k:=k) (by omega)
 have b2:=hb.r.ks
 have hi':=hi
 simp only[inR,Bool.and_eq_true,decide_eq_true_eq] at hi'
 have e0:=uns_un hn
 generalize unOf s n=u at *
 simp only[brdF,rulF,mpF,List.cons_append,List.nil_append,unA,staF] at *
 refine rT hC Q250 ?_
 simp only[c250,push_cast,↓J1,↓J2,N1,N2,N3,reduceCtorEq,N4,N5,N6,reduceIte,N7,I1,I2,I3]
 simp only[Int.toNat_natCast,e0,uns_length,push_cast,↓J1,↓J2,N1,N2,N3,reduceCtorEq,N4,N5,N6,reduceIte,N7,I1,I2,I3]
 repeat (refine⟨by omega,?_⟩)
 have z0:decide (u.at_<0)=!decide (0≤u.at_):=by rw[Bool.eq_iff_iff];simp
 simp only[z0,push_cast,↓J1,↓J2,N1,N2,N3,reduceCtorEq,N4,N5,N6,reduceIte,N7,I1,I2,I3]
 cases g1:decide (0≤u.at_)
 ·simp only[zonOf,g1,Bool.false_and,push_cast,↓J1,↓J2,N1,N2,N3,reduceCtorEq,N4,N5,N6,reduceIte,N7,I1,I2,I3]
 simp only[ek,Int.toNat_natCast,e1,kinA,kins_length,push_cast,↓J1,↓J2,N1,N2,N3,reduceCtorEq,N4,N5,N6,reduceIte,N7,I1,I2,I3]
 repeat (refine⟨by omega,?_⟩)
 rw[←ek]
 cases g2:(kindOf b u.k).z
 ·simp only[zonOf,g1,g2,Bool.false_and,Bool.and_false,push_cast,↓J1,↓J2,N1,N2,N3,reduceCtorEq,N4,N5,N6,reduceIte,N7,I1,I2,I3]
 simp only[push_cast,↓J1,↓J2,N1,N2,N3,reduceCtorEq,N4,N5,N6,reduceIte,N7,I1,I2,I3]
 refine⟨_,c1,?_⟩
 cases g3:decide (costAt b u.k i=0)
 rotate_left
 ·simp only[zonOf,g1,g2,g3,Bool.not_true,Bool.false_and,Bool.and_false,push_cast,↓J1,↓J2,N1,N2,N3,reduceCtorEq,N4,N5,N6,reduceIte,N7,I1,I2,I3]
 have h0:=of_decide_eq_true g1
 rw[show zonOf b u i=wayFree b u.at_ i by simp only[zonOf,g1,g2,g3,Bool.not_false,Bool.true_and,Bool.and_self]]
 simp only[g3,push_cast,↓J1,↓J2,N1,N2,N3,reduceCtorEq,N4,N5,N6,reduceIte,N7,I1,I2,I3]
 refine RL_count (fun j=>⟨tb 65 .any [(3,.int .i64 i),(4,.ptr 0 none 0 0 0),(9,.ptr 1 none 0 0 0),(10,.int .i64 (j:Int))],[(1,.var (unA u)),(0,.var (rulF b.r++mpF b.m))],2⟩) (fun j=> ∀d,d<j→decide (nextM b.m u.at_ (d:Nat)=i)=false) 6 0 (hdA [(2,1),(0,0)]) (by omega) (by intro d h;omega) fun j hj ht J hJ=>?_
 simp only[brdF,rulF,mpF,List.cons_append,List.nil_append,unA]
 by_cases h1:j<6
 ·have c3:=c2 u.at_ j h0 (by omega) h1
  have g5:decide ((j:Int)<6)=true:=decide_eq_true (by omega)
  simp only[g5,push_cast,↓J1,↓J2,N1,N2,N3,reduceCtorEq,N4,N5,N6,reduceIte,N7,I1,I2,I3]
  refine⟨_,c3,?_⟩
  cases g4:decide (nextM b.m u.at_ (j:Int)=i)
  ·simp only[g4,push_cast,↓J1,↓J2,N1,N2,N3,reduceCtorEq,N4,N5,N6,reduceIte,N7,I1,I2,I3]
   refine hJ h1 ?_ _ (hdA [(1,1),(0,0)])
   intro d hd
   by_cases hdj:d=j
   ·subst hdj;exact g4
   ·exact ht d (by omega)
  ·have hw:wayFree b u.at_ i=freeE b.m (edgeM b.m u.at_ j):=by
    simp only[wayFree,first6_at (p:=fun d=>decide (nextM b.m u.at_ (d:Nat)=i)) h1 g4 ht]
   rw[hw]
   have hn:=of_decide_eq_true g4
   simp only[g4,push_cast,↓J1,↓J2,N1,N2,N3,reduceCtorEq,N4,N5,N6,reduceIte,N7,I1,I2,I3]
   refine⟨_,c4 u.at_ j h0 (by omega) h1,?_⟩
   simp only[freeE]
   cases g6:hasI b.m.ri (edgeM b.m u.at_ j)
   ·simp only[push_cast,↓J1,↓J2,N1,N2,N3,reduceCtorEq,N4,N5,N6,reduceIte,N7,I1,I2,I3]
   simp only[push_cast,↓J1,↓J2,N1,N2,N3,reduceCtorEq,N4,N5,N6,reduceIte,N7,I1,I2,I3]
   refine⟨_,c5 u.at_ j h0 (by omega) h1,?_⟩
   simp only[push_cast,↓J1,↓J2,N1,N2,N3,reduceCtorEq,N4,N5,N6,reduceIte,N7,I1,I2,I3]
 ·have hw:wayFree b u.at_ i=false:=by
   simp only[wayFree,first6_no (p:=fun d=>decide (nextM b.m u.at_ (d:Nat)=i)) fun d hd=>ht d (by omega)]
  rw[hw]
  have g5:decide ((j:Int)<6)=false:=decide_eq_false (by omega)
  simp only[g5,push_cast,↓J1,↓J2,N1,N2,N3,reduceCtorEq,N4,N5,N6,reduceIte,N7,I1,I2,I3]
theorem t246(b:Brd)(s:Sta)(sd i:Int)(g:brdOk b=true)(hu:s.us.all (unOk b)=true)(hi:inR 0 (b.m.w*b.m.h-1) i=true)(hb:BrdB (2^50) b)(hl:s.us.length<2^40):Ev C 246 [brdF b,.agg (staF s),.int .i64 sd,.int .i64 i] (.bool (inZon b s sd i)):=by
 have c1:=fun u h=>t249 hC b u i g h hi hb
 simp only[brdF,rulF,mpF,List.cons_append,List.nil_append,staF] at *
 refine rT hC Q246 ?_
 simp only[c246,uns_length,push_cast,↓J1,↓J2,N1,N2,N3,reduceCtorEq,N4,N5,N6,reduceIte,N7,I1,I2,I3]
 refine RL_count (fun k=>⟨tb 29 .any [(2,.int .i64 sd),(3,.int .i64 i),(4,.ptr 0 none 0 0 0),(12,.sl (uns s.us)),(13,.int .i64 (s.us.length:Int)),(14,.int .i64 (k:Int))],[(0,.var (rulF b.r++mpF b.m))],1⟩) (fun k=>inZon b s sd i=(s.us.drop k).any (zonS b sd i)) s.us.length 0 (hdA [(0,0)]) (by omega) rfl fun k hk ht J hJ=>?_
 simp only[brdF,rulF,mpF,List.cons_append,List.nil_append]
 by_cases h1:k<s.us.length
 ·have e1:=uns_get h1
  have hok:=List.all_eq_true.1 hu _ (List.getElem_mem h1)
  rw[List.drop_eq_getElem_cons h1,List.any_cons] at ht
  generalize s.us[k]=u at *
  have c1':=c1 u hok
  simp only[Int.toNat_natCast,e1,unA,push_cast,↓J1,↓J2,N1,N2,N3,reduceCtorEq,N4,N5,N6,reduceIte,N7,I1,I2,I3] at c1'⊢
  refine ifB_intro (fun _=>?_) (fun h=>by simp at h;omega)
  repeat (refine⟨by omega,?_⟩)
  cases g1:decide (u.sd=sd)
  ·have hz:zonS b sd i u=false:=by simp only[zonS,g1,Bool.false_and]
   simp only[push_cast,↓J1,↓J2,N1,N2,N3,reduceCtorEq,N4,N5,N6,reduceIte,N7,I1,I2,I3]
   exact hJ h1 (by rw[ht,hz,Bool.false_or]) _ (hdA [(0,0)])
  simp only[push_cast,↓J1,↓J2,N1,N2,N3,reduceCtorEq,N4,N5,N6,reduceIte,N7,I1,I2,I3]
  refine⟨_,c1',?_⟩
  cases g2:zonOf b u i
  ·have hz:zonS b sd i u=false:=by simp only[zonS,g1,g2,Bool.and_false]
   simp only[push_cast,↓J1,↓J2,N1,N2,N3,reduceCtorEq,N4,N5,N6,reduceIte,N7,I1,I2,I3]
   exact hJ h1 (by rw[ht,hz,Bool.false_or]) _ (hdA [(0,0)])
  ·have hz:zonS b sd i u=true:=by simp only[zonS,g1,g2,Bool.and_self]
   rw[ht,hz]
   simp only[Bool.true_or,push_cast,↓J1,↓J2,N1,N2,N3,reduceCtorEq,N4,N5,N6,reduceIte,N7,I1,I2,I3]
 ·simp only[uns_length,push_cast,↓J1,↓J2,N1,N2,N3,reduceCtorEq,N4,N5,N6,reduceIte,N7,I1,I2,I3]
  refine ifB_intro (fun h=>by simp at h;omega) (fun h=>?_)
  rw[ht,List.drop_eq_nil_of_le (by omega)]
  rfl
theorem t248(b:Brd)(s:Sta)(sd i:Int)(g:brdOk b=true)(hu:s.us.all (unOk b)=true)(hi:inR 0 (b.m.w*b.m.h-1) i=true)(hb:BrdB (2^50) b)(hl:s.us.length<2^40):Ev C 248 [brdF b,.agg (staF s),.int .i64 sd,.int .i64 i] (.ow 1 (ints (fil (zonS b sd i) s.us s.us.length))):=by
 have c1:=fun k hk h=>t250 hC b s k hk hl i g h hi hb
 simp only[brdF,rulF,mpF,List.cons_append,List.nil_append,staF] at *
 refine rT hC Q248 ?_ (own_ints _)
 simp only[c248,uns_length,push_cast,↓J1,↓J2,N1,N2,N3,reduceCtorEq,N4,N5,N6,reduceIte,N7,I1,I2,I3]
 refine RL_count (fun i0=>⟨tb 37 .any [(9,.ref 0 none 1 0 (fil (zonS b sd i) s.us i0).length),(2,.int .i64 sd),(3,.int .i64 i),(4,.ptr 2 none 0 0 0),(5,.ptr 1 none 0 0 0),(13,.sl (uns s.us)),(14,.int .i64 (s.us.length:Int)),(15,.int .i64 (i0:Int))],[(0,.slice 1 (ints (fil (zonS b sd i) s.us i0))),(1,.var (staF s)),(2,.var (rulF b.r++mpF b.m))],3⟩) (fun _=>True) s.us.length 0 (hdO 9 0 1 [(1,1),(0,2)]) (by omega) trivial fun i0 hi0 _ J hJ=>?_
 simp only[brdF,rulF,mpF,List.cons_append,List.nil_append,staF]
 by_cases h1:i0<s.us.length
 ·have e1:=uns_get h1
  have e2:=fil_succ (p:=(zonS b sd i)) h1
  have hfl:=fil_le (p:=(zonS b sd i)) hi0
  have tk:List.take (fil (zonS b sd i) s.us i0).length (ints (fil (zonS b sd i) s.us i0))=ints (fil (zonS b sd i) s.us i0):=List.take_of_length_le (by rw[ints_length];omega)
  have hok:unOk b (unOf s i0)=true:=by simp only[unOf,List.getD,Int.toNat_natCast,List.getElem?_eq_getElem h1,Option.getD_some];exact List.all_eq_true.1 hu _ (List.getElem_mem h1)
  have eu:unOf s i0=s.us[i0]:=by simp[unOf,List.getD,h1]
  rw[eu] at hok
  have c1:=c1 i0 h1
  rw[eu] at c1
  clear eu
  generalize s.us[i0]=u at *
  simp only[Int.toNat_natCast,e1,unA,push_cast,↓J1,↓J2,N1,N2,N3,reduceCtorEq,N4,N5,N6,reduceIte,N7,I1,I2,I3]
  refine ifB_intro (fun _=>?_) (fun h=>by simp at h;omega)
  repeat (refine⟨by omega,?_⟩)
  cases g1:decide (u.sd=sd)
  ·have hp:(zonS b sd i) u=false:=by simp only[zonS,g1,Bool.false_and,Bool.and_false]
   rw[hp,if_neg Bool.false_ne_true] at e2
   simp only[g1,push_cast,↓J1,↓J2,N1,N2,N3,reduceCtorEq,N4,N5,N6,reduceIte,N7,I1,I2,I3]
   exact hJ h1 trivial _ (by rw[e2];exact(hdA [(0,0),(1,1),(2,2)]))
  simp only[g1,push_cast,↓J1,↓J2,N1,N2,N3,reduceCtorEq,N4,N5,N6,reduceIte,N7,I1,I2,I3]
  refine⟨_,c1 hok,?_⟩
  cases g2:zonOf b u i
  ·have hp:(zonS b sd i) u=false:=by simp only[zonS,g1,g2,Bool.false_and,Bool.and_false]
   rw[hp,if_neg Bool.false_ne_true] at e2
   simp only[g1,g2,push_cast,↓J1,↓J2,N1,N2,N3,reduceCtorEq,N4,N5,N6,reduceIte,N7,I1,I2,I3]
   exact hJ h1 trivial _ (by rw[e2];exact(hdA [(0,0),(1,1),(2,2)]))
  have hp:(zonS b sd i) u=true:=by simp only[zonS,g1,g2,Bool.and_self]
  rw[hp,if_pos rfl] at e2
  simp only[g1,g2,tk,ints_length,allScs,apYR_sc,push_cast,↓J1,↓J2,N1,N2,N3,reduceCtorEq,N4,N5,N6,reduceIte,N7,I1,I2,I3]
  repeat (refine⟨by omega,?_⟩)
  refine hJ h1 trivial _ ?_
  rw[e2]
  refine(hdA [(5,0),(1,1),(2,2)] (hh:=?_))
  simp only[canR,canB,renO,renL,ren,lkp,hget,N7,N5,Nat.not_lt_zero,if_false,if_true,reduceIte,List.append_nil,List.nil_append,ints_sn]
  all_goals rfl
 ·simp only[uns_length,push_cast,↓J1,↓J2,N1,N2,N3,reduceCtorEq,N4,N5,N6,reduceIte,N7,I1,I2,I3]
  refine ifB_intro (fun h=>by simp at h;omega) (fun h=>?_)
  obtain rfl:i0=s.us.length:=by omega
  exact RetTo_ow rfl (by rw[ints_length])
end
end Go.Proofs.YtlkcpadkjepchaaGreatDoor.X
set_option maxHeartbeats 4000000
set_option maxRecDepth 8000
set_option linter.unusedSimpArgs false
set_option linter.unusedVariables false
open Nat renaming reduceBEq→N1,reduceAdd→N2,reduceSub→N3,reduceMul→N4,reduceEqDiff→N5,reduceLeDiff→N6,reduceLT→N7
open Int renaming reduceLE→I1,reduceLT→I2,reduceToNat→I3
namespace Go.Proofs.YtlkcpadkjepchaaGreatDoor.X
open Go
attribute [local irreducible] Ev
def inHex(i:Int)(u:Un):Bool:=decide (u.at_=i)
def owner(s:Sta)(i:Int):Int:=match s.us.find? (inHex i) with
 | some u=>u.sd
 | none=> -1
theorem find_drop{α:Type}{p:α→Bool}: ∀{l:List α} {k:Nat},(∀j (h:j<l.length),j<k→p l[j]=false)→l.find? p=(l.drop k).find? p
 | [],k,_=>by simp
 | x::l,0,_=>by simp
 | x::l,k+1,h=>by
  have h0:=h 0 (by simp) (by omega)
  simp only[List.getElem_cons_zero] at h0
  rw[List.find?_cons_of_neg (by simp[h0]),List.drop_succ_cons]
  exact find_drop fun j hj hk=>by
   have:=h (j+1) (by simp;omega) (by omega)
   rwa [List.getElem_cons_succ] at this
theorem owner_at{s:Sta}{i:Int}{k:Nat}(h:k<s.us.length)(hp:inHex i s.us[k]=true)(hn: ∀j (h:j<s.us.length),j<k→inHex i s.us[j]=false):owner s i=s.us[k].sd:=by
 simp only[owner,find_drop hn,List.drop_eq_getElem_cons h,List.find?_cons_of_pos hp]
theorem owner_no{s:Sta}{i:Int}(hn: ∀j (h:j<s.us.length),inHex i s.us[j]=false):owner s i= -1:=by
 simp only[owner,find_drop (k:=s.us.length) (fun j hj _=>hn j hj),List.drop_length,List.find?_nil]
theorem owner_sd{s:Sta}{b:Brd}(hu:s.us.all (unOk b)=true)(i:Int):owner s i= -1∨owner s i=0∨owner s i=1:=by
 simp only[owner]
 split
 ·rename_i u h
  have:=un_sd (List.all_eq_true.1 hu _ (List.mem_of_find?_eq_some h))
  omega
 ·simp
theorem inZon_fil{b:Brd}{s:Sta}{sd i:Int}:decide (0<(((fil (zonS b sd i) s.us s.us.length).length:Nat):Int))=inZon b s sd i:=by
 rw[fil_len (Nat.le_refl _),List.take_length,inZon,Bool.eq_iff_iff,decide_eq_true_eq,List.any_eq_true]
 have:(0:Int)<((s.us.countP (zonS b sd i):Nat):Int)↔0<s.us.countP (zonS b sd i):=by omega
 rw[this,List.countP_pos_iff]
theorem sta_all{b:Brd}{s:Sta}(h:staOk b s=true):s.us.all (unOk b)=true:=by
 simp only[staOk,staOk0,Bool.and_eq_true] at h;exact h.2.1.2
theorem own_cnt{b:Brd}{s:Sta}{sd i:Int}(h:staOk b s=true)(hs:sd=0∨sd=1)(hi:0≤i)(ho:owner s i≠1-sd):(fil (inHex i) s.us s.us.length).length=cnt s.us i sd:=by
 rw[fil_len (Nat.le_refl _),List.take_length]
 refine List.countP_congr fun u hu=>?_
 have hst:s.us.all (stackOk b s.us)=true:=by simp only[staOk,staOk0,Bool.and_eq_true] at h;exact h.2.2
 have hun:=sta_all h
 have key: ∀u∈s.us,u.at_=i→u.sd=1-sd→False:=by
  intro u hu ha hsd
  simp only[owner] at ho
  split at ho
  ·rename_i v hv
   have hv1:=List.mem_of_find?_eq_some hv
   have hv2:=List.find?_some hv
   simp only[inHex,decide_eq_true_eq] at hv2
   have hvs:=un_sd (List.all_eq_true.1 hun _ hv1)
   have:=List.all_eq_true.1 hst _ hv1
   simp only[stackOk,Bool.not_eq_true',Bool.and_eq_false_iff,Bool.or_eq_false_iff,decide_eq_false_iff_not,hv2] at this
   rcases this with this | ⟨this,_⟩
   ·omega
   ·apply this
    exact List.countP_pos_iff.2 ⟨u,hu,by simp only[isAt,Bool.and_eq_true,decide_eq_true_eq];omega⟩
  ·rename_i hv
   have:=List.find?_eq_none.1 hv u hu
   simp[inHex,ha] at this
 have hus:=un_sd (List.all_eq_true.1 hun _ hu)
 simp only[inHex,isAt,Bool.and_eq_true,decide_eq_true_eq]
 constructor
 ·intro ha
  refine⟨ha,?_⟩
  have:=key u hu ha
  rcases hus with e | e<;>rcases hs with e2 | e2<;>first | omega | (exfalso;exact this (by omega))
 ·exact fun h=>h.1
section
variable{C:CT}(hC:Closed Tryz.prog G1 md0 C)
include hC
theorem t116(s:Sta)(i:Int)(hl:s.us.length<2^40):Ev C 116 [.agg (staF s),.int .i64 i] (.int .i64 (owner s i)):=by
 simp only[staF]
 refine rT hC Q116 ?_
 simp only[c116,uns_length,push_cast,↓J1,↓J2,N1,N2,N3,reduceCtorEq,N4,N5,N6,reduceIte,N7,I1,I2,I3]
 refine RL_count (fun k=>⟨tb 21 .any [(1,.int .i64 i),(8,.sl (uns s.us)),(9,.int .i64 (s.us.length:Int)),(10,.int .i64 (k:Int))],[],0⟩) (fun k=> ∀j (h:j<s.us.length),j<k→inHex i s.us[j]=false) s.us.length 0 (hdA []) (by omega) (by intro j h h';omega) fun k hk ht J hJ=>?_
 by_cases h1:k<s.us.length
 ·have e1:=uns_get h1
  have hh:=fun hp=>owner_at h1 hp ht
  have hJ':inHex i s.us[k]=false→_:=fun hp=>hJ h1 (fun j hj hji=>by
   by_cases hij:j=k
   ·subst hij;exact hp
   ·exact ht j hj (by omega))
  clear hJ ht
  simp only[inHex] at hJ' hh
  generalize s.us[k]=u at *
  simp only[Int.toNat_natCast,e1,unA,push_cast,↓J1,↓J2,N1,N2,N3,reduceCtorEq,N4,N5,N6,reduceIte,N7,I1,I2,I3]
  refine ifB_intro (fun _=>?_) (fun h=>by simp at h;omega)
  repeat (refine⟨by omega,?_⟩)
  cases g1:decide (u.at_=i)
  ·simp only[g1,push_cast,↓J1,↓J2,N1,N2,N3,reduceCtorEq,N4,N5,N6,reduceIte,N7,I1,I2,I3]
   exact hJ' g1 _ (hdA [])
  ·rw[hh g1]
   simp only[g1,push_cast,↓J1,↓J2,N1,N2,N3,reduceCtorEq,N4,N5,N6,reduceIte,N7,I1,I2,I3]
 ·simp only[uns_length,push_cast,↓J1,↓J2,N1,N2,N3,reduceCtorEq,N4,N5,N6,reduceIte,N7,I1,I2,I3]
  refine ifB_intro (fun h=>by simp at h;omega) (fun h=>?_)
  rw[owner_no fun j hj=>ht j hj (by omega)]
theorem t95(s:Sta)(i:Int)(hl:s.us.length<2^40):Ev C 95 [.agg (staF s),.int .i64 i] (.int .i64 (owner s i)):=by
 simp only[staF]
 refine rT hC Q95 ?_
 simp only[c95,uns_length,push_cast,↓J1,↓J2,N1,N2,N3,reduceCtorEq,N4,N5,N6,reduceIte,N7,I1,I2,I3]
 refine RL_count (fun k=>⟨tb 21 .any [(1,.int .i64 i),(8,.sl (uns s.us)),(9,.int .i64 (s.us.length:Int)),(10,.int .i64 (k:Int))],[],0⟩) (fun k=> ∀j (h:j<s.us.length),j<k→inHex i s.us[j]=false) s.us.length 0 (hdA []) (by omega) (by intro j h h';omega) fun k hk ht J hJ=>?_
 by_cases h1:k<s.us.length
 ·have e1:=uns_get h1
  have hh:=fun hp=>owner_at h1 hp ht
  have hJ':inHex i s.us[k]=false→_:=fun hp=>hJ h1 (fun j hj hji=>by
   by_cases hij:j=k
   ·subst hij;exact hp
   ·exact ht j hj (by omega))
  clear hJ ht
  simp only[inHex] at hJ' hh
  generalize s.us[k]=u at *
  simp only[Int.toNat_natCast,e1,unA,push_cast,↓J1,↓J2,N1,N2,N3,reduceCtorEq,N4,N5,N6,reduceIte,N7,I1,I2,I3]
  refine ifB_intro (fun _=>?_) (fun h=>by simp at h;omega)
  repeat (refine⟨by omega,?_⟩)
  cases g1:decide (u.at_=i)
  ·simp only[g1,push_cast,↓J1,↓J2,N1,N2,N3,reduceCtorEq,N4,N5,N6,reduceIte,N7,I1,I2,I3]
   exact hJ' g1 _ (hdA [])
  ·rw[hh g1]
   simp only[g1,push_cast,↓J1,↓J2,N1,N2,N3,reduceCtorEq,N4,N5,N6,reduceIte,N7,I1,I2,I3]
 ·simp only[uns_length,push_cast,↓J1,↓J2,N1,N2,N3,reduceCtorEq,N4,N5,N6,reduceIte,N7,I1,I2,I3]
  refine ifB_intro (fun h=>by simp at h;omega) (fun h=>?_)
  rw[owner_no fun j hj=>ht j hj (by omega)]
theorem t115(s:Sta)(i0:Int)(hl:s.us.length<2^40):Ev C 115 [.agg (staF s),.int .i64 i0] (.ow 1 (ints (fil (inHex i0) s.us s.us.length))):=by
 simp only[staF]
 refine rT hC Q115 ?_ (own_ints _)
 simp only[c115,uns_length,push_cast,↓J1,↓J2,N1,N2,N3,reduceCtorEq,N4,N5,N6,reduceIte,N7,I1,I2,I3]
 refine RL_count (fun i=>⟨tb 27 .any [(5,.ref 0 none 1 0 (fil (inHex i0) s.us i).length),(1,.int .i64 i0),(10,.sl (uns s.us)),(11,.int .i64 (s.us.length:Int)),(12,.int .i64 (i:Int))],[(0,.slice 1 (ints (fil (inHex i0) s.us i)))],1⟩) (fun _=>True) s.us.length 0 (hdA [(1,0)]) (by omega) trivial fun i hi _ J hJ=>?_
 by_cases h1:i<s.us.length
 ·have e1:=uns_get h1
  have e2:=fil_succ (p:=(inHex i0)) h1
  have hfl:=fil_le (p:=(inHex i0)) hi
  have tk:List.take (fil (inHex i0) s.us i).length (ints (fil (inHex i0) s.us i))=ints (fil (inHex i0) s.us i):=List.take_of_length_le (by rw[ints_length];omega)
  generalize s.us[i]=u at *
  simp only[Int.toNat_natCast,e1,unA,push_cast,↓J1,↓J2,N1,N2,N3,reduceCtorEq,N4,N5,N6,reduceIte,N7,I1,I2,I3]
  refine ifB_intro (fun _=>?_) (fun h=>by simp at h;omega)
  repeat (refine⟨by omega,?_⟩)
  cases g1:decide (u.at_=i0)
  ·have hp:(inHex i0) u=false:=by simp only[inHex,g1]
   rw[hp,if_neg Bool.false_ne_true] at e2
   simp only[g1,push_cast,↓J1,↓J2,N1,N2,N3,reduceCtorEq,N4,N5,N6,reduceIte,N7,I1,I2,I3]
   exact hJ h1 trivial _ (by rw[e2];exact(hdA [(0,0)]))
  have hp:(inHex i0) u=true:=by simp only[inHex,g1]
  rw[hp,if_pos rfl] at e2
  simp only[g1,tk,ints_length,allScs,apYR_sc,push_cast,↓J1,↓J2,N1,N2,N3,reduceCtorEq,N4,N5,N6,reduceIte,N7,I1,I2,I3]
  repeat (refine⟨by omega,?_⟩)
  refine hJ h1 trivial _ ?_
  rw[e2]
  refine(hdA [(3,0)] (hh:=?_))
  simp only[canR,canB,renO,renL,ren,lkp,hget,N7,N5,Nat.not_lt_zero,if_false,if_true,reduceIte,List.append_nil,List.nil_append,ints_sn]
  all_goals rfl
 ·simp only[uns_length,push_cast,↓J1,↓J2,N1,N2,N3,reduceCtorEq,N4,N5,N6,reduceIte,N7,I1,I2,I3]
  refine ifB_intro (fun h=>by simp at h;omega) (fun h=>?_)
  obtain rfl:i=s.us.length:=by omega
  exact RetTo_ow rfl (by rw[ints_length])
theorem t217(b:Brd)(s:Sta)(sd i:Int)(hs:sd=0∨sd=1)(hst:1≤b.r.stack∧b.r.stack≤4)(hl:s.us.length<2^40):Ev C 217 [brdF b,.agg (staF s),.int .i64 sd,.int .i64 i] (.int .i64 (if owner s i=1-sd then 0 else b.r.stack-(fil (inHex i) s.us s.us.length).length)):=by
 have c1:=t116 hC s i hl
 have c2:=t115 hC s i hl
 have hle:=fil_le (p:=inHex i) (l:=s.us) (Nat.le_refl _)
 simp only[brdF,rulF,mpF,List.cons_append,List.nil_append,staF] at *
 refine rT hC Q217 ?_
 simp only[c217,push_cast,↓J1,↓J2,N1,N2,N3,reduceCtorEq,N4,N5,N6,reduceIte,N7,I1,I2,I3]
 refine⟨_,c1,?_⟩
 simp only[push_cast,↓J1,↓J2,N1,N2,N3,reduceCtorEq,N4,N5,N6,reduceIte,N7,I1,I2,I3]
 rw[wrap64 (n:=1-sd) (by omega) (by omega)]
 cases g1:decide (owner s i=1-sd)
 ·have h1:=of_decide_eq_false g1
  simp only[g1,if_neg h1,push_cast,↓J1,↓J2,N1,N2,N3,reduceCtorEq,N4,N5,N6,reduceIte,N7,I1,I2,I3]
  refine⟨_,c2,?_⟩
  simp only[ints_length,push_cast,↓J1,↓J2,N1,N2,N3,reduceCtorEq,N4,N5,N6,reduceIte,N7,I1,I2,I3]
  rw[wrap64 (by omega) (by omega)]
 ·have h1:=of_decide_eq_true g1
  simp only[g1,if_pos h1,push_cast,↓J1,↓J2,N1,N2,N3,reduceCtorEq,N4,N5,N6,reduceIte,N7,I1,I2,I3]
theorem t244(b:Brd)(s:Sta)(sd i:Int)(g:brdOk b=true)(hu:s.us.all (unOk b)=true)(hi:inR 0 (b.m.w*b.m.h-1) i=true)(hb:BrdB (2^50) b)(hl:s.us.length<2^40):Ev C 244 [brdF b,.agg (staF s),.int .i64 i,.int .i64 sd] (.bool (inZon b s sd i)):=by
 have c1:=t248 hC b s sd i g hu hi hb hl
 simp only[brdF,rulF,mpF,List.cons_append,List.nil_append,staF] at *
 refine rT hC Q244 ?_
 simp only[c244,push_cast,↓J1,↓J2,N1,N2,N3,reduceCtorEq,N4,N5,N6,reduceIte,N7,I1,I2,I3]
 refine⟨_,c1,?_⟩
 simp only[ints_length,inZon_fil,push_cast,↓J1,↓J2,N1,N2,N3,reduceCtorEq,N4,N5,N6,reduceIte,N7,I1,I2,I3]
end
end Go.Proofs.YtlkcpadkjepchaaGreatDoor.X
set_option maxHeartbeats 4000000
set_option maxRecDepth 8000
set_option linter.unusedSimpArgs false
set_option linter.unusedVariables false
open Nat renaming reduceBEq→N1,reduceAdd→N2,reduceSub→N3,reduceMul→N4,reduceEqDiff→N5,reduceLeDiff→N6,reduceLT→N7
open Int renaming reduceLE→I1,reduceLT→I2,reduceToNat→I3
namespace Go.Proofs.YtlkcpadkjepchaaGreatDoor.X
open Go
attribute [local irreducible] Ev
section
variable{C:CT}(hC:Closed Tryz.prog G1 md0 C)
include hC
end
end Go.Proofs.YtlkcpadkjepchaaGreatDoor.X
set_option maxHeartbeats 1000000
set_option maxRecDepth 8000
set_option linter.unusedSimpArgs false
set_option linter.unusedVariables false
open Nat renaming reduceBEq→N1,reduceAdd→N2,reduceSub→N3,reduceMul→N4,reduceEqDiff→N5,reduceLeDiff→N6,reduceLT→N7
open Int renaming reduceLE→I1,reduceLT→I2,reduceToNat→I3
namespace Go.Proofs.YtlkcpadkjepchaaGreatDoor.X
open Go
def below(n:Nat)(h:Heap):Prop:=canB n [] h=h
theorem canB_le(n:Nat): ∀h:Heap,(canB n [] h).length≤h.length
 | []=>by simp[canB]
 | (i,o)::h=>by
  simp only[canB]
  have:=canB_le n h
  split<;>simp<;>omega
theorem below_cons{n i:Nat}{o:Ob}{h:Heap}(hb:below n ((i,o)::h)):i<n∧renO n [] o=o∧below n h:=by
 unfold below at hb
 simp only[canB] at hb
 split at hb
 ·rename_i hi
  simp only[List.cons.injEq,Prod.mk.injEq,true_and] at hb
  exact⟨hi,hb.1,hb.2⟩
 ·have:=canB_le n h
  rw[hb] at this
  simp at this
  omega
theorem below_mk{n i:Nat}{o:Ob}{h:Heap}(hi:i<n)(ho:renO n [] o=o)(hb:below n h):below n ((i,o)::h):=by
 unfold below at hb⊢
 simp only[canB,hi,if_true,ho,hb]
theorem below_set{n:Nat}{id sz:Nat}{es:List (List AV)}: ∀{h:Heap},below n h→below n (hset h id (.slice sz es))
 | [],_=>rfl
 | (i,o)::h,hb=>by
  obtain⟨h1,h2,h3⟩:=below_cons hb
  simp only[hset]
  split
  ·exact below_mk h1 rfl h3
  ·exact below_mk h1 h2 (below_set h3)
theorem below_lt{n:Nat}{id:Nat}{o:Ob}: ∀{h:Heap},below n h→hget h id=some o→id<n
 | [],_,hg=>by simp[hget] at hg
 | (i,o')::h,hb,hg=>by
  obtain⟨h1,h2,h3⟩:=below_cons hb
  simp only[hget] at hg
  split at hg
  ·rename_i e;omega
  ·exact below_lt h3 hg
theorem hget_same{h:Heap}{id:Nat}{o u:Ob}(hg:hget h id=some o):hget (hset h id u) id=some u:=by
 rw[hget_set];simp[hg]
theorem hset_hset{id:Nat}{u v:Ob}: ∀{h:Heap},hset (hset h id u) id v=hset h id v
 | []=>rfl
 | (i,o)::h=>by
  simp only[hset]
  split
  ·rename_i e;simp[hset,e]
  ·rename_i e;simp only[hset,if_neg e,hset_hset]
theorem hset_get{id:Nat}{u:Ob}: ∀{h:Heap},hget h id=some u→hset h id u=h
 | [],hg=>rfl
 | (i,o)::h,hg=>by
  simp only[hget] at hg
  simp only[hset]
  split at hg
  ·rename_i e
   simp only[Option.some.injEq] at hg
   subst hg;simp[e]
  ·rename_i e;rw[if_neg e,hset_get hg]
theorem kill_set{id sz:Nat}{es:List (List AV)}: ∀{h:Heap},killH (hset h id (.slice sz es))=hset (killH h) id (.slice sz es)
 | []=>rfl
 | (i,.var cs)::h=>by
  simp only[hset]
  split
  ·rename_i e;simp[killH,hset,e]
  ·rename_i e;simp only[killH,hset,if_neg e,kill_set]
 | (i,.slice a b)::h=>by
  simp only[hset]
  split
  ·rename_i e;simp[killH,hset,e]
  ·rename_i e;simp only[killH,hset,if_neg e,kill_set]
def mk(l:List Int)(k:Int)(i:Nat):List Int:=(List.range i).map (fun j:Nat=>k+(j:Int))++l.drop i
theorem mk_length{l:List Int}{k:Int}{i:Nat}(h:i≤l.length):(mk l k i).length=l.length:=by simp[mk];omega
theorem mk_succ{l:List Int}{k:Int}{i:Nat}(h:i<l.length):(mk l k i).set i (k+i)=mk l k (i+1):=by
 have e:l.drop i=l[i]::l.drop (i+1):=List.drop_eq_getElem_cons h
 simp only[mk,e,List.range_succ,List.map_append,List.map_cons,List.map_nil,List.append_assoc,List.cons_append,List.nil_append]
 rw[mid_set (by simp)]
theorem mk_zero{l:List Int}{k:Int}:mk l k 0=l:=by simp[mk]
section
variable{C:CT}(hC:Closed Tryz.prog G1 md0 C)
include hC
theorem t84(l:List Int)(k:Int)(h:Heap)(id n:Nat)(hg:hget h id=some (.slice 1 (ints l)))(hb:below n h)(hk:0≤k∧k<2^50)(hl:l.length<2^50):C 84 [.ref id none 1 0 l.length,.int .i64 k] h n (fun v h' n'=>v= .int .i64 (k+l.length)∧n'=n∧h'=hset h id (.slice 1 (ints (mk l k l.length)))):=by
 have hid:=below_lt hb hg
 refine Closed.rT hC Q84 ?_
 simp only[c84,push_cast,↓J1,↓J2,N1,N2,N3,reduceCtorEq,N4,N5,N6,reduceIte,N7,I1,I2,I3]
 refine RL_count (fun i=>⟨tb 19 .any [(0,.ref id none 1 0 l.length),(1,.int .i64 (k+i)),(5,.int .i64 (i:Int))],hset h id (.slice 1 (ints (mk l k i))),n⟩) (fun _=>True) l.length 0 (head_tb [] (by simp[rhoOk,objIds]) (by simp only[hid,keptV_cons,keptV_nil,tb_get,lk_same,lk_ne,lk_nil,ren,renL,lkp,N7,N1,N5,reduceIte,and_true,true_and,Nat.not_lt_zero,if_false,if_true,Nat.add_zero,Nat.zero_add];simp) (by rw[mk_zero,hset_get hg];exact hb)) (by omega) trivial fun i hi _ J hJ=>?_
 have hgi:hget (hset h id (.slice 1 (ints (mk l k i)))) id=some (.slice 1 (ints (mk l k i))):=hget_same hg
 by_cases h1:i<l.length
 ·have e1:(ints (mk l k i))[i]?=some [.int .i64 ((mk l k i).getD i 0)]:=ints_get (by rw[mk_length hi];exact h1)
  simp only[Int.toNat_natCast,hgi,e1,push_cast,↓J1,↓J2,N1,N2,N3,reduceCtorEq,N4,N5,N6,reduceIte,N7,I1,I2,I3]
  refine ifB_intro (fun _=>⟨by omega,by omega,?_⟩) (fun h=>by simp at h;omega)
  refine hJ h1 trivial _ (head_tb [] (by simp[rhoOk,objIds]) ?_ ?_)
  ·simp only[hid,keptV_cons,keptV_nil,tb_get,lk_same,lk_ne,lk_nil,ren,renL,lkp,N7,N1,N5,reduceIte,and_true,true_and,Nat.not_lt_zero,if_false,if_true,Nat.add_zero,Nat.zero_add]
   rw[wrap64 (by omega) (by omega),wrap64 (by omega) (by omega)]
   simp;omega
  ·rw[ints_set,mk_succ h1,hset_hset]
   exact below_set hb
 ·obtain rfl:i=l.length:=by omega
  simp only[push_cast,↓J1,↓J2,N1,N2,N3,reduceCtorEq,N4,N5,N6,reduceIte,N7,I1,I2,I3]
  refine ifB_intro (fun h=>by simp at h) (fun h=>?_)
  trivial
theorem t84s(l:List Int)(k:Int)(h:Heap)(id n i0:Nat)(es:List (List AV))(hg:hget h id=some (.slice 1 es))(he:es[i0]?=some [.ow 1 (ints l)])(hb:below n h)(hk:0≤k∧k<2^50)(hl:l.length<2^50):C 84 [.ref id (some (1,i0,0)) 1 0 l.length,.int .i64 k] h n (fun v h' n'=>v= .int .i64 (k+l.length)∧n'=n∧h'=hset h id (.slice 1 (es.set i0 [.ow 1 (ints (mk l k l.length))]))):=by
 have hid:=below_lt hb hg
 have hi0:i0<es.length:=by
  rcases Nat.lt_or_ge i0 es.length with h | h
  ·exact h
  ·rw[List.getElem?_eq_none_iff.2 h] at he;cases he
 refine Closed.rT hC Q84 ?_
 simp only[c84,push_cast,↓J1,↓J2,N1,N2,N3,reduceCtorEq,N4,N5,N6,reduceIte,N7,I1,I2,I3]
 refine RL_count (fun i=>⟨tb 19 .any [(0,.ref id (some (1,i0,0)) 1 0 l.length),(1,.int .i64 (k+i)),(5,.int .i64 (i:Int))],hset h id (.slice 1 (es.set i0 [.ow 1 (ints (mk l k i))])),n⟩) (fun _=>True) l.length 0 (head_tb [] (by simp[rhoOk,objIds]) (by simp only[hid,keptV_cons,keptV_nil,tb_get,lk_same,lk_ne,lk_nil,ren,renL,lkp,N7,N1,N5,reduceIte,and_true,true_and,Nat.not_lt_zero,if_false,if_true,Nat.add_zero,Nat.zero_add];simp) ?_) (by omega) trivial fun i hi _ J hJ=>?_
 ·rw[mk_zero]
  have:es.set i0 [.ow 1 (ints l)]=es:=by
   apply List.ext_getElem?
   intro j
   rw[List.getElem?_set]
   split
   ·rename_i e;subst e;rw[he]
   ·rfl
  rw[this,hset_get hg];exact hb
 have hgi:hget (hset h id (.slice 1 (es.set i0 [.ow 1 (ints (mk l k i))]))) id=some (.slice 1 (es.set i0 [.ow 1 (ints (mk l k i))])):=hget_same hg
 have hei:(es.set i0 [.ow 1 (ints (mk l k i))])[i0]?=some [.ow 1 (ints (mk l k i))]:=by simp[hi0]
 by_cases h1:i<l.length
 ·have e1:(ints (mk l k i))[i]?=some [.int .i64 ((mk l k i).getD i 0)]:=ints_get (by rw[mk_length hi];exact h1)
  simp only[Int.toNat_natCast,hgi,hei,e1,push_cast,↓J1,↓J2,N1,N2,N3,reduceCtorEq,N4,N5,N6,reduceIte,N7,I1,I2,I3]
  refine ifB_intro (fun _=>⟨by omega,by omega,?_⟩) (fun h=>by simp at h;omega)
  refine hJ h1 trivial _ (head_tb [] (by simp[rhoOk,objIds]) ?_ ?_)
  ·simp only[hid,keptV_cons,keptV_nil,tb_get,lk_same,lk_ne,lk_nil,ren,renL,lkp,N7,N1,N5,reduceIte,and_true,true_and,Nat.not_lt_zero,if_false,if_true,Nat.add_zero,Nat.zero_add]
   rw[wrap64 (by omega) (by omega),wrap64 (by omega) (by omega)]
   simp;omega
  ·rw[ints_set,mk_succ h1,List.set_set,hset_hset]
   exact below_set hb
 ·obtain rfl:i=l.length:=by omega
  simp only[push_cast,↓J1,↓J2,N1,N2,N3,reduceCtorEq,N4,N5,N6,reduceIte,N7,I1,I2,I3]
  refine ifB_intro (fun h=>by simp at h) (fun h=>?_)
  trivial
end
end Go.Proofs.YtlkcpadkjepchaaGreatDoor.X
set_option maxHeartbeats 1000000
set_option maxRecDepth 8000
set_option linter.unusedSimpArgs false
set_option linter.unusedVariables false
open Nat renaming reduceBEq→N1,reduceAdd→N2,reduceSub→N3,reduceMul→N4,reduceEqDiff→N5,reduceLeDiff→N6,reduceLT→N7
open Int renaming reduceLE→I1,reduceLT→I2,reduceToNat→I3
namespace Go.Proofs.YtlkcpadkjepchaaGreatDoor.X
open Go
attribute [local irreducible] Ev
def mkR:List (List Int)→Int→List (List Int)
 | [],_=>[]
 | r::W,k=>mk r k r.length::mkR W (k+r.length)
def mkW(W:List (List Int))(k:Int)(i:Nat):List (List Int):=mkR (W.take i) k++W.drop i
theorem mkR_length: ∀(W:List (List Int)) (k:Int),(mkR W k).length=W.length
 | [],k=>rfl
 | r::W,k=>by simp[mkR,mkR_length W]
theorem mkR_append: ∀(W V:List (List Int)) (k:Int),mkR (W++V) k=mkR W k++mkR V (k+lens W)
 | [],V,k=>by simp[mkR,lens]
 | r::W,V,k=>by
  have e:k+(r.length:Int)+(lens W:Int)=k+(lens (r::W):Int):=by simp[lens];omega
  simp only[List.cons_append,mkR,mkR_append W,e]
theorem mkW_succ{W:List (List Int)}{k:Int}{i:Nat}(h:i<W.length):(owss (mkW W k i)).set i [.ow 1 (ints (mk W[i] (k+lens (W.take i)) W[i].length))]=owss (mkW W k (i+1)):=by
 have e:W.drop i=W[i]::W.drop (i+1):=List.drop_eq_getElem_cons h
 have hl:(mkR (W.take i) k).length=i:=by rw[mkR_length];simp;omega
 simp only[mkW,e,List.take_succ_eq_append_getElem h,mkR_append,owss,List.map_append,List.map_cons,mkR,List.map_nil,List.append_assoc,List.cons_append,List.nil_append]
 rw[mid_set (by simp[hl])]
theorem mkW_get{W:List (List Int)}{k:Int}{i:Nat}(h:i<W.length):(owss (mkW W k i))[i]?=some [.ow 1 (ints W[i])]:=by
 have e:W.drop i=W[i]::W.drop (i+1):=List.drop_eq_getElem_cons h
 have hl:(mkR (W.take i) k).length=i:=by rw[mkR_length];simp;omega
 simp only[mkW,e,owss,List.map_append,List.map_cons]
 rw[mid_get (by simp[hl])]
theorem mkW_zero{W:List (List Int)}{k:Int}:mkW W k 0=W:=by simp[mkW,mkR]
mutual
theorem ren_mono{n:Nat}: ∀x:AV,ren n [] x=x→ren (n+1) [] x=x
 | .ref id sub sz off len,h=>by
  simp only[ren,lkp] at h⊢
  split at h
  ·rw[if_pos (by omega)]
  ·cases h
 | .ptr id sub sz i c,h=>by
  simp only[ren,lkp] at h⊢
  split at h
  ·rw[if_pos (by omega)]
  ·cases h
 | .fn f cs,h=>by
  simp only[ren,AV.fn.injEq,true_and] at h⊢
  exact renL_mono cs h
 | .agg cs,h=>by
  simp only[ren,AV.agg.injEq] at h⊢
  exact renL_mono cs h
 | .tup cs,h=>by
  simp only[ren,AV.tup.injEq] at h⊢
  exact renL_mono cs h
 | .any,h=>by simp[ren]
 | .con _,h=>by simp[ren]
 | .int _ _,h=>by simp[ren]
 | .bool _,h=>by simp[ren]
 | .str _,h=>by simp[ren]
 | .nil,h=>by simp[ren]
 | .sl _,h=>by simp[ren]
 | .pf _,h=>by simp[ren]
 | .ow _ _,h=>by simp[ren]
 | .op _,h=>by simp[ren]
theorem renL_mono{n:Nat}: ∀xs:List AV,renL n [] xs=xs→renL (n+1) [] xs=xs
 | [],_=>by simp[renL]
 | x::xs,h=>by
  simp only[renL,List.cons.injEq] at h⊢
  exact⟨ren_mono x h.1,renL_mono xs h.2⟩
end
theorem below_succ{n:Nat}: ∀{h:Heap},below n h→below (n+1) h
 | [],_=>rfl
 | (i,o)::h,hb=>by
  obtain⟨h1,h2,h3⟩:=below_cons hb
  refine below_mk (by omega) ?_ (below_succ h3)
  cases o with
  | slice sz es=>rfl
  | var cs=>
   simp only[renO,Ob.var.injEq] at h2⊢
   exact renL_mono cs h2
def solid(h:Heap):Prop:=killH h=h
theorem solid_set{id sz:Nat}{es:List (List AV)}{h:Heap}(hs:solid h):solid (hset h id (.slice sz es)):=by
 unfold solid at *
 rw[kill_set,hs]
theorem lens_le: ∀(W:List (List Int)) (i:Nat),lens (W.take i)≤lens W
 | [],i=>by simp
 | r::W,0=>by simp[lens]
 | r::W,i+1=>by
  have:=lens_le W i
  simp[lens] at this⊢
  omega
section
variable{C:CT}(hC:Closed Tryz.prog G1 md0 C)
include hC
theorem t48(W:List (List Int))(k:Int)(h:Heap)(id n:Nat)(hg:hget h id=some (.slice 1 (owss W)))(hb:below n h)(hs:solid h)(hk:0≤k∧k<2^48)(hW:W.length<2^50)(hl:lens W<2^48)(hr: ∀r∈W,r.length<2^50):C 48 [.ref id none 1 0 W.length,.int .i64 k] h n (fun v h' n'=>v= .int .i64 (k+lens W)∧n'=n∧h'=hset h id (.slice 1 (owss (mkW W k W.length)))):=by
 have hid:=below_lt hb hg
 refine Closed.rT hC Q48 ?_
 simp only[c48,push_cast,↓J1,↓J2,N1,N2,N3,reduceCtorEq,N4,N5,N6,reduceIte,N7,I1,I2,I3]
 refine RL_count (fun i=>⟨tb 19 .any [(0,.ref id none 1 0 W.length),(1,.int .i64 (k+lens (W.take i))),(5,.int .i64 (i:Int))],hset h id (.slice 1 (owss (mkW W k i))),n⟩) (fun _=>True) W.length 0 (head_tb [] (by simp[rhoOk,objIds]) (by simp only[hid,keptV_cons,keptV_nil,tb_get,lk_same,lk_ne,lk_nil,ren,renL,lkp,N7,N1,N5,reduceIte,and_true,true_and,Nat.not_lt_zero,if_false,if_true,Nat.add_zero,Nat.zero_add];simp[lens]) (by rw[mkW_zero,hset_get hg];exact hb)) (by omega) trivial fun i hi _ J hJ=>?_
 have hgi:hget (hset h id (.slice 1 (owss (mkW W k i)))) id=some (.slice 1 (owss (mkW W k i))):=hget_same hg
 by_cases h1:i<W.length
 ·have e1:=mkW_get (k:=k) h1
  have hle:=lens_le W i
  simp only[Int.toNat_natCast,hgi,e1,ints_length,push_cast,↓J1,↓J2,N1,N2,N3,reduceCtorEq,N4,N5,N6,reduceIte,N7,I1,I2,I3]
  refine ifB_intro (fun _=>⟨by omega,by omega,_,t84s hC W[i] (k+lens (W.take i)) _ id n i _ hgi e1 (below_set hb) (by omega) (hr _ (List.getElem_mem h1)),?_⟩) (fun h=>by simp at h;omega)
  rintro v h' n' ⟨rfl,rfl,rfl⟩ _
  simp only[push_cast,↓J1,↓J2,N1,N2,N3,reduceCtorEq,N4,N5,N6,reduceIte,N7,I1,I2,I3]
  refine hJ h1 trivial _ (head_tb [] (by simp[rhoOk,objIds]) ?_ ?_)
  ·simp only[hid,keptV_cons,keptV_nil,tb_get,lk_same,lk_ne,lk_nil,ren,renL,lkp,N7,N1,N5,reduceIte,and_true,true_and,Nat.not_lt_zero,if_false,if_true,Nat.add_zero,Nat.zero_add]
   rw[wrap64 (by omega) (by omega),lens_succ h1]
   simp;omega
  ·rw[mkW_succ h1,hset_hset,solid_set hs]
   exact below_set hb
 ·obtain rfl:i=W.length:=by omega
  simp only[List.take_length,push_cast,↓J1,↓J2,N1,N2,N3,reduceCtorEq,N4,N5,N6,reduceIte,N7,I1,I2,I3]
  refine ifB_intro (fun h=>by simp at h) (fun h=>?_)
  trivial
end
end Go.Proofs.YtlkcpadkjepchaaGreatDoor.X
set_option maxHeartbeats 2000000
set_option maxRecDepth 8000
set_option linter.unusedSimpArgs false
set_option linter.unusedVariables false
open Nat renaming reduceBEq→N1,reduceAdd→N2,reduceSub→N3,reduceMul→N4,reduceEqDiff→N5,reduceLeDiff→N6,reduceLT→N7
open Int renaming reduceLE→I1,reduceLT→I2,reduceToNat→I3
namespace Go.Proofs.YtlkcpadkjepchaaGreatDoor.X
open Go
attribute [local irreducible] Ev
def inn(x:Int)(row v:List Int):Nat→List Int
 | 0=>v
 | k+1=>(inn x row v k).set k (w64 ((inn x row v k).getD k 0+w64 (x*row.getD k 0)))
section
variable{C:CT}(hC:Closed Tryz.prog G1 md0 C)
include hC
end
end Go.Proofs.YtlkcpadkjepchaaGreatDoor.X
set_option maxHeartbeats 2000000
set_option maxRecDepth 8000
set_option linter.unusedSimpArgs false
set_option linter.unusedVariables false
open Nat renaming reduceBEq→N1,reduceAdd→N2,reduceSub→N3,reduceMul→N4,reduceEqDiff→N5,reduceLeDiff→N6,reduceLT→N7
open Int renaming reduceLE→I1,reduceLT→I2,reduceToNat→I3
namespace Go.Proofs.YtlkcpadkjepchaaGreatDoor.X
open Go
attribute [local irreducible] Ev szSS szRows
def run(k:Int)(n:Nat):List Int:=(List.range n).map (fun j:Nat=>k+(j:Int))
section
variable{C:CT}(hC:Closed Tryz.prog G1 md0 C)
include hC
end
end Go.Proofs.YtlkcpadkjepchaaGreatDoor.X
set_option maxHeartbeats 2000000
set_option maxRecDepth 8000
set_option linter.unusedSimpArgs false
set_option linter.unusedVariables false
open Nat renaming reduceBEq→N1,reduceAdd→N2,reduceSub→N3,reduceMul→N4,reduceEqDiff→N5,reduceLeDiff→N6,reduceLT→N7
open Int renaming reduceLE→I1,reduceLT→I2,reduceToNat→I3
namespace Go.Proofs.YtlkcpadkjepchaaGreatDoor.X
open Go
attribute [local irreducible] Ev szSS szRows
theorem allScs_ints(l:List Int):allScs (ints l)=true:=by
 unfold ints
 induction l with
 | nil=>rfl
 | cons x l ih=>simp only[List.map_cons,allScs,allSc,isSc,Bool.and_true,Bool.true_and];exact ih
section
variable{C:CT}(hC:Closed Tryz.prog G1 md0 C)
include hC
end
end Go.Proofs.YtlkcpadkjepchaaGreatDoor.X
set_option maxHeartbeats 2000000
set_option maxRecDepth 8000
set_option linter.unusedSimpArgs false
set_option linter.unusedVariables false
open Nat renaming reduceBEq→N1,reduceAdd→N2,reduceSub→N3,reduceMul→N4,reduceEqDiff→N5,reduceLeDiff→N6,reduceLT→N7
open Int renaming reduceLE→I1,reduceLT→I2,reduceToNat→I3
namespace Go.Proofs.YtlkcpadkjepchaaGreatDoor.X
open Go
attribute [local irreducible] Ev szSS szRows
theorem RetTo_no{h:Heap}:RetTo h .nil (.ow 1 []):=⟨.nil,h,by simp[conR,isF],by simp[NilTo]⟩
section
variable{C:CT}(hC:Closed Tryz.prog G1 md0 C)
include hC
theorem t241(l:List Int)(hl:l.length<2^30):Ev C 241 [.sl (ints l)] (.ow 1 (ints l)):=by
 refine rT hC Q241 ?_ (own_ints l)
 simp only[c241,push_cast,↓J1,↓J2,N1,N2,N3,reduceCtorEq,N4,N5,N6,reduceIte,N7,I1,I2,I3]
 intro b hb
 refine ifB_intro (fun h=>?_) (fun h=>?_)
 ·have:=hb h
  rw[this]
  exact RetTo_no
 ·have e:((ints l).all fun e=>e.length==1)=true:=by simp[ints]
  simp only[e,ints_length,Nat.zero_add,push_cast,↓J1,↓J2,N1,N2,N3,reduceCtorEq,N4,N5,N6,reduceIte,N7,I1,I2,I3]
  refine⟨by omega,?_⟩
  exact RetTo_ow (by simp[hget]) (by rw[ints_length])
end
end Go.Proofs.YtlkcpadkjepchaaGreatDoor.X
