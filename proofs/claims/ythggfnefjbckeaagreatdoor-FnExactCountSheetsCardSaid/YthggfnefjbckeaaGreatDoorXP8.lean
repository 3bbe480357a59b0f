/- A part of the proof: lemmas on the machine or on the functions that the law reaches. No condition of its own. -/
import Derived.Test.YthggfnefjbckeaaGreatDoorXP7
import Derived.Test.YthggfnefjbckeaaGreatDoorXP6
import Derived.Test.YthggfnefjbckeaaGreatDoorXP4
import Derived.Test.YthggfnefjbckeaaGreatDoorXP5
import Derived.Test.YthggfnefjbckeaaGreatDoorXP3
set_option maxHeartbeats 4000000
set_option maxRecDepth 8000
set_option linter.unusedSimpArgs false
set_option linter.unusedVariables false
open Nat renaming reduceBEq→N1,reduceAdd→N2,reduceSub→N3,reduceMul→N4,reduceEqDiff→N5,reduceLeDiff→N6,reduceLT→N7
open Int renaming reduceLE→I1,reduceLT→I2,reduceToNat→I3
namespace Go.Proofs.YthggfnefjbckeaaGreatDoor.X
open Go
attribute [local irreducible] Ev
section
variable{C:CT}(hC:Closed Tryz.prog G1 md0 C)
include hC
theorem t92(b:Brd)(kd w:Int)(i:Nat)(h:kindAsk b kd=true)(hw:0≤w∧w≤2)(hi:i<b.m.t.length)(hb:BrdB (2^50) b):Ev C 92 [brdF b,.int .i64 kd,.int .i64 w,.int .i64 (i:Int),.nil] (.ow 1 (ints (farF b kd w i))):=by
 have g:brdOk b=true:=by simp only[kindAsk,Bool.and_eq_true] at h;exact h.1
 have hm:=mp_wh (brd_mp g)
 have ht:=brd_t g
 have hn:=(brd_n g).1
 have hok:=fwd_ok h hw
 have hsr: ∀k d,(fwd b kd w).sr k d=k:=fun _ _=>rfl
 have c0:=t124 hC b.m hm.1 hm.2
 rw[←ht] at c0
 have ccs:=fun(k:Nat) (hk:(k:Int)<b.m.w*b.m.h) (d:Nat) (hd:d<6)=>t125 hC b kd w (k:Nat) d h hw ⟨by omega,hk⟩ hd hb
 have cnx:=fun(k:Nat) (hk:(k:Int)<b.m.w*b.m.h) (d:Nat) (hd:d<6)=>t62 hC b.m (k:Nat) (d:Nat) hm.1 hm.2 (by have:=wh_le hm.1 hm.2;omega) ⟨by omega,by omega⟩
 have cnt:=fun n=>t126n hC n
 have hlt0:=fun(k n:Nat) (h:k<n)=>(decide_eq_true (show(k:Int)<(n:Int) by omega):decide ((k:Int)<(n:Int))=true)
 have hF:(dI (fwd b kd w) b.m.t.length i (dN (fwd b kd w) b.m.t.length i)).1=farF b kd w i:=dF_eq hn hok hsr hi
 rw[←hF]
 clear hF
 generalize hN:b.m.t.length=n at *
 simp only[brdF,rulF,mpF,List.cons_append,List.nil_append] at *
 refine rT hC Q92 ?_ (own_ints _)
 simp only[c92,push_cast,↓J1,↓J2,N1,N2,N3,reduceCtorEq,N4,N5,N6,reduceIte,N7,I1,I2,I3]
 refine⟨_,c0,?_⟩
 simp only[Int.toNat_natCast,List.length_replicate,ints_rep0,bools_rep,push_cast,↓J1,↓J2,N1,N2,N3,reduceCtorEq,N4,N5,N6,reduceIte,N7,I1,I2,I3]
 repeat (refine⟨by omega,?_⟩)
 refine RL_count (fun j=>⟨tb 122 .any [(1,.int .i64 kd),(2,.int .i64 w),(3,.int .i64 (i:Int)),(4,.nil),(5,.ptr 0 none 0 0 0),(11,.ref 1 none 1 0 n),(12,.ref 2 none 1 0 n),(29,.int .i64 (n:Int)),(30,.int .i64 (j:Int))],[(2,.slice 1 (bools (List.replicate n false))),(1,.slice 1 (ints (repT j n))),(0,.var (rulF b.r++mpF b.m))],3⟩) (fun _=>True) n 0 (by rw[repT_0];exact(hdA [(2,2),(1,1),(0,0)])) (by omega) trivial fun j hj _ J hJ=>?_
 simp only[rulF,mpF,List.cons_append,List.nil_append]
 by_cases h1:j<n
 ·have hJ1:=hJ h1 trivial
  clear hJ
  have hlt:=hlt0 j n h1
  have hrl:=repT_len hj
  have e1:(ints (repT j n))[j]?=some [.int .i64 ((repT j n).getD j 0)]:=cut_ints_get (by omega)
  rw[←repT_set h1] at hJ1
  simp only[hlt,Int.toNat_natCast,e1,ints_set,ints_length,hrl,push_cast,↓J1,↓J2,N1,N2,N3,reduceCtorEq,N4,N5,N6,reduceIte,N7,I1,I2,I3]
  repeat (refine⟨by omega,?_⟩)
  exact hJ1 _ (hdA [(2,2),(1,1),(0,0)])
 obtain rfl:j=n:=by omega
 clear hJ h1
 have hlt:decide ((j:Int)<(j:Int))=false:=decide_eq_false (by omega)
 have e1:(ints (List.replicate j (-1)))[i]?=some [.int .i64 ((List.replicate j (-1:Int)).getD i 0)]:=cut_ints_get (by simpa using hi)
 rw[repT_n]
 simp only[hlt,Int.toNat_natCast,e1,rset_eq,ints_length,List.length_replicate,push_cast,↓J1,↓J2,N1,N2,N3,reduceCtorEq,N4,N5,N6,reduceIte,N7,I1,I2,I3]
 repeat (refine⟨by omega,?_⟩)
 have hNle:=dN_le (w:=fwd b kd w) (n:=j) (i:=i)
 refine RL_count (fun m=>⟨tb 122 .any [(1,.int .i64 kd),(2,.int .i64 w),(4,.nil),(5,.ptr 0 none 0 0 0),(11,.ref 1 none 1 0 j),(12,.ref 2 none 1 0 j)],[(2,.slice 1 (bools (dI (fwd b kd w) j i m).2)),(1,.slice 1 (ints (dI (fwd b kd w) j i m).1)),(0,.var (rulF b.r++mpF b.m))],3⟩) (fun _=>True) (dN (fwd b kd w) j i) 0 (hdA [(2,2),(1,1),(0,0)]) (by omega) trivial fun m hm' _ J hJ=>?_
 simp only[rulF,mpF,List.cons_append,List.nil_append]
 have inv:=dI_inv hn hok hsr hi m
 have hpk:=pkT_ok (dI (fwd b kd w) j i m).1 (dI (fwd b kd w) j i m).2 j
 have hstop:m=dN (fwd b kd w) j i→pkT (dI (fwd b kd w) j i m).1 (dI (fwd b kd w) j i m).2 j<0:=fun e=>by rw[e];exact dN_end hn hok hsr hi
 have hgo:m<dN (fwd b kd w) j i→ ¬pkT (dI (fwd b kd w) j i m).1 (dI (fwd b kd w) j i m).2 j<0:=fun e=>dN_lt e
 have hJ0:m<dN (fwd b kd w) j i→True→_:=hJ
 simp only[dI] at hJ0
 have hres:m=dN (fwd b kd w) j i→(dI (fwd b kd w) j i (dN (fwd b kd w) j i)).1=(dI (fwd b kd w) j i m).1:=fun e=>by rw[e]
 generalize (dI (fwd b kd w) j i (dN (fwd b kd w) j i)).1=res at *
 clear hJ
 generalize (dI (fwd b kd w) j i m).1=o at *
 generalize (dI (fwd b kd w) j i m).2=dn at *
 have hil:=inv.r.len
 have hdl:=inv.len
 simp only[ints_length,hil,push_cast,↓J1,↓J2,N1,N2,N3,reduceCtorEq,N4,N5,N6,reduceIte,N7,I1,I2,I3]
 refine RL_count (fun k=>⟨tb 122 .any [(1,.int .i64 kd),(2,.int .i64 w),(4,.nil),(5,.ptr 0 none 0 0 0),(11,.ref 1 none 1 0 j),(12,.ref 2 none 1 0 j),(14,.int .i64 (pkT o dn k)),(40,.ref 1 none 1 0 j),(41,.int .i64 (j:Int)),(42,.int .i64 (k:Int))],[(2,.slice 1 (bools dn)),(1,.slice 1 (ints o)),(0,.var (rulF b.r++mpF b.m))],3⟩) (fun _=>True) j 0 (hdA [(2,2),(1,1),(0,0)]) (by omega) trivial fun k hk _ JJ hJJ=>?_
 simp only[rulF,mpF,List.cons_append,List.nil_append]
 by_cases h2:k<j
 ·have hK:=hJJ h2 trivial
  clear hJJ
  have hlt:=hlt0 k j h2
  have hp2:=pkT_ok o dn k
  rw[pkT_succ] at hK
  generalize pkT o dn k=p at *
  have ek:(ints o)[k]?=some [.int .i64 (o.getD k 0)]:=cut_ints_get (by omega)
  have ed:=bools_get (v:=dn) (k:=k) (by omega)
  have er:pk1 o dn p k=if(decide (0≤o.getD k 0)&&(!dn.getD k false&&(decide (p<0)||decide (o.getD k 0<o.getD p.toNat 0))))=true then(k:Int) else p:=by simp only[pk1]
  rw[er] at hK
  clear er
  simp only[hlt,Int.toNat_natCast,ek,ed,ints_length,bools_length,hil,hdl,push_cast,↓J1,↓J2,N1,N2,N3,reduceCtorEq,N4,N5,N6,reduceIte,N7,I1,I2,I3]
  repeat (refine⟨by omega,?_⟩)
  cases g1:decide (0≤o.getD k 0)
  ·simp only[g1,Bool.false_and,Bool.false_eq_true,if_false] at hK
   simp only[g1,push_cast,↓J1,↓J2,N1,N2,N3,reduceCtorEq,N4,N5,N6,reduceIte,N7,I1,I2,I3]
   exact hK _ (hdA [(2,2),(1,1),(0,0)])
  simp only[g1,Int.toNat_natCast,ek,ed,ints_length,bools_length,hil,hdl,push_cast,↓J1,↓J2,N1,N2,N3,reduceCtorEq,N4,N5,N6,reduceIte,N7,I1,I2,I3]
  repeat (refine⟨by omega,?_⟩)
  cases g2:dn.getD k false
  rotate_left
  ·simp only[g1,g2,Bool.not_true,Bool.true_and,Bool.false_and,Bool.false_eq_true,if_false] at hK
   simp only[g2,push_cast,↓J1,↓J2,N1,N2,N3,reduceCtorEq,N4,N5,N6,reduceIte,N7,I1,I2,I3]
   exact hK _ (hdA [(2,2),(1,1),(0,0)])
  simp only[g2,push_cast,↓J1,↓J2,N1,N2,N3,reduceCtorEq,N4,N5,N6,reduceIte,N7,I1,I2,I3]
  cases g3:decide (p<0)
  rotate_left
  ·simp only[g1,g2,g3,Bool.not_false,Bool.true_and,Bool.true_or,if_true] at hK
   simp only[g3,push_cast,↓J1,↓J2,N1,N2,N3,reduceCtorEq,N4,N5,N6,reduceIte,N7,I1,I2,I3]
   exact hK _ (hdA [(2,2),(1,1),(0,0)])
  have hp0: ¬p<0:=of_decide_eq_false g3
  obtain⟨y,rfl⟩: ∃y:Nat,p=y:=⟨p.toNat,by omega⟩
  have hy:y<j:=by rcases hp2 with hp2 | hp2<;>omega
  have ey:(ints o)[y]?=some [.int .i64 (o.getD y 0)]:=cut_ints_get (by omega)
  simp only[Int.toNat_natCast] at hK
  simp only[g3,Int.toNat_natCast,ey,ints_length,hil,push_cast,↓J1,↓J2,N1,N2,N3,reduceCtorEq,N4,N5,N6,reduceIte,N7,I1,I2,I3]
  repeat (refine⟨by omega,?_⟩)
  cases g4:decide (o.getD k 0<o.getD y 0)
  ·simp only[g1,g2,g3,g4,Bool.not_false,Bool.true_and,Bool.false_or,Bool.false_eq_true,if_false] at hK
   simp only[g4,push_cast,↓J1,↓J2,N1,N2,N3,reduceCtorEq,N4,N5,N6,reduceIte,N7,I1,I2,I3]
   exact hK _ (hdA [(2,2),(1,1),(0,0)])
  ·simp only[g1,g2,g3,g4,Bool.not_false,Bool.true_and,Bool.false_or,if_true] at hK
   simp only[g4,push_cast,↓J1,↓J2,N1,N2,N3,reduceCtorEq,N4,N5,N6,reduceIte,N7,I1,I2,I3]
   exact hK _ (hdA [(2,2),(1,1),(0,0)])
 obtain rfl:k=j:=by omega
 clear hJJ h2
 have hlt:decide ((k:Int)<(k:Int))=false:=decide_eq_false (by omega)
 by_cases h1:m<dN (fwd b kd w) k i
 rotate_left
 ·have em:m=dN (fwd b kd w) k i:=by omega
  have g1:decide (pkT o dn k<0)=true:=decide_eq_true (hstop em)
  simp only[hlt,g1,push_cast,↓J1,↓J2,N1,N2,N3,reduceCtorEq,N4,N5,N6,reduceIte,N7,I1,I2,I3]
  rw[hres em]
  exact RetTo_ow rfl (by rw[ints_length,hil])
 have hnp:=hgo h1
 have hJ1:=hJ0 h1 trivial
 clear hJ0 hgo hstop hres
 rw[if_neg hnp] at hJ1
 generalize pkT o dn k=p at *
 obtain⟨q,rfl⟩: ∃y:Nat,p=y:=⟨p.toNat,by omega⟩
 have g1:decide ((q:Int)<0)=false:=decide_eq_false (by omega)
 simp only[Int.toNat_natCast] at hJ1 hpk
 rcases hpk with hpk | ⟨_,hq,hq0,hqd,hqm⟩
 ·omega
 have hq':q<k:=by omega
 have ed:=bools_get (v:=dn) (k:=q) (by omega)
 simp only[hlt,g1,Int.toNat_natCast,ed,bools_set,bools_length,hdl,push_cast,↓J1,↓J2,N1,N2,N3,reduceCtorEq,N4,N5,N6,reduceIte,N7,I1,I2,I3]
 repeat (refine⟨by omega,?_⟩)
 refine RL_count (fun d=>⟨tb 122 .any [(1,.int .i64 kd),(2,.int .i64 w),(4,.nil),(5,.ptr 0 none 0 0 0),(11,.ref 1 none 1 0 k),(12,.ref 2 none 1 0 k),(14,.int .i64 (q:Int)),(17,.int .i64 (d:Int))],[(2,.slice 1 (bools (dn.set q true))),(1,.slice 1 (ints (rxT (fwd b kd w) q (o,false) d).1)),(0,.var (rulF b.r++mpF b.m))],3⟩) (fun _=>True) 6 0 (hdA [(2,2),(1,1),(0,0)]) (by omega) trivial fun d hd _ JK hJK=>?_
 simp only[rulF,mpF,List.cons_append,List.nil_append]
 obtain⟨t1,t2,_,_,_⟩:=dT_inv hn hok hsr inv hq' hq0 hqd hqm d hd
 by_cases h3:d<6
 rotate_left
 ·have hd6:decide ((d:Int)<6)=false:=decide_eq_false (by omega)
  have e6:rxT (fwd b kd w) q (o,false) 6=rxT (fwd b kd w) q (o,false) d:=by rw[show d=6 by omega]
  rw[e6] at hJ1
  simp only[hd6,push_cast,↓J1,↓J2,N1,N2,N3,reduceCtorEq,N4,N5,N6,reduceIte,N7,I1,I2,I3]
  exact hJ1 _ (hdA [(2,2),(1,1),(0,0)])
 have hd6:decide ((d:Int)<6)=true:=decide_eq_true (by omega)
 have hK:=hJK h3 trivial
 clear hJK hJ1
 have hsame:=t2 q hq' (.inl rfl)
 rw[rxT_succ] at hK
 generalize rxT (fwd b kd w) q (o,false) d=r at *
 have er:rx (fwd b kd w) q r d=if(!decide (stepM b kd w q d=0)&&(decide (0≤r.1.getD q 0)&&(decide (r.1.getD (nextM b.m q d).toNat 0<0)||decide (r.1.getD q 0+stepM b kd w q d<r.1.getD (nextM b.m q d).toNat 0))))=true then(r.1.set (nextM b.m q d).toNat (r.1.getD q 0+stepM b kd w q d),true) else r:=rfl
 rw[er] at hK
 clear er
 have ccs:=ccs q (by omega) d h3
 have cnx:=cnx q (by omega) d h3
 have hsb:=step_bnd (i:=(q:Int)) (d:=d) h hw
 generalize stepM b kd w q d=cc at *
 generalize nextM b.m (q:Nat) (d:Nat)=nx at *
 obtain⟨v,f⟩:=r
 have hvl:=t1.len
 have hlo:=t1.lo
 simp only at hvl hlo hK hsame⊢
 simp only[hd6,push_cast,↓J1,↓J2,N1,N2,N3,reduceCtorEq,N4,N5,N6,reduceIte,N7,I1,I2,I3]
 refine⟨_,ccs,?_⟩
 by_cases h4:cc=0
 ·have g4:decide (cc=0)=true:=decide_eq_true h4
  simp only[g4,Bool.not_true,Bool.false_and,Bool.false_eq_true,if_false] at hK
  simp only[g4,push_cast,↓J1,↓J2,N1,N2,N3,reduceCtorEq,N4,N5,N6,reduceIte,N7,I1,I2,I3]
  exact hK _ (hdA [(2,2),(1,1),(0,0)])
 have g4:decide (cc=0)=false:=decide_eq_false h4
 have hnx:=hsb.2.2 h4
 obtain⟨y,rfl⟩: ∃y:Nat,nx=y:=⟨nx.toNat,by omega⟩
 have hy:y<k:=by omega
 have eq_:(ints v)[q]?=some [.int .i64 (v.getD q 0)]:=cut_ints_get (by omega)
 have ey:(ints v)[y]?=some [.int .i64 (v.getD y 0)]:=cut_ints_get (by omega)
 have bq:=hlo _ (getD_mem (l:=v) (i:=q) (by omega) 0)
 have w5:IntKind.i64.wrap (v.getD q 0+cc)=v.getD q 0+cc:=wrap64 (by omega) (by omega)
 have g5:decide (0≤v.getD q 0)=true:=decide_eq_true (by omega)
 simp only[g4,g5,Bool.not_false,Bool.true_and,Int.toNat_natCast] at hK
 simp only[g4,push_cast,↓J1,↓J2,N1,N2,N3,reduceCtorEq,N4,N5,N6,reduceIte,N7,I1,I2,I3]
 refine⟨_,cnx,?_⟩
 simp only[Int.toNat_natCast,eq_,w5,ints_length,hvl,push_cast,↓J1,↓J2,N1,N2,N3,reduceCtorEq,N4,N5,N6,reduceIte,N7,I1,I2,I3]
 repeat (refine⟨by omega,?_⟩)
 refine⟨_,cnt _,?_⟩
 simp only[Int.toNat_natCast,ey,ints_length,hvl,push_cast,↓J1,↓J2,N1,N2,N3,reduceCtorEq,N4,N5,N6,reduceIte,N7,I1,I2,I3]
 repeat (refine⟨by omega,?_⟩)
 cases g6:decide (v.getD y 0<0)
 rotate_left
 ·simp only[g6,Bool.true_or,if_true] at hK
  simp only[g6,Int.toNat_natCast,ey,ints_set,ints_length,hvl,push_cast,↓J1,↓J2,N1,N2,N3,reduceCtorEq,N4,N5,N6,reduceIte,N7,I1,I2,I3]
  repeat (refine⟨by omega,?_⟩)
  exact hK _ (hdA [(2,2),(1,1),(0,0)])
 simp only[g6,Int.toNat_natCast,ey,ints_length,hvl,push_cast,↓J1,↓J2,N1,N2,N3,reduceCtorEq,N4,N5,N6,reduceIte,N7,I1,I2,I3]
 repeat (refine⟨by omega,?_⟩)
 cases g7:decide (v.getD q 0+cc<v.getD y 0)
 ·simp only[g6,g7,Bool.false_or,Bool.false_eq_true,if_false] at hK
  simp only[g7,push_cast,↓J1,↓J2,N1,N2,N3,reduceCtorEq,N4,N5,N6,reduceIte,N7,I1,I2,I3]
  exact hK _ (hdA [(2,2),(1,1),(0,0)])
 ·simp only[g6,g7,Bool.false_or,if_true] at hK
  simp only[g7,Int.toNat_natCast,ey,ints_set,ints_length,hvl,push_cast,↓J1,↓J2,N1,N2,N3,reduceCtorEq,N4,N5,N6,reduceIte,N7,I1,I2,I3]
  repeat (refine⟨by omega,?_⟩)
  exact hK _ (hdA [(2,2),(1,1),(0,0)])
end
end Go.Proofs.YthggfnefjbckeaaGreatDoor.X
set_option maxHeartbeats 4000000
set_option maxRecDepth 8000
set_option linter.unusedSimpArgs false
set_option linter.unusedVariables false
open Nat renaming reduceBEq→N1,reduceAdd→N2,reduceSub→N3,reduceMul→N4,reduceEqDiff→N5,reduceLeDiff→N6,reduceLT→N7
open Int renaming reduceLE→I1,reduceLT→I2,reduceToNat→I3
namespace Go.Proofs.YthggfnefjbckeaaGreatDoor.X
open Go
attribute [local irreducible] Ev
structure SrcB(b:Brd)(l:List Int):Prop where
 h: ∀i∈l,0≤i∧i<b.m.w*b.m.h
 n:l.length<2^20
theorem kins_at{b:Brd}{k:Int}(h:kindAsk b k=true):(kins b.r.ks)[k.toNat]?=some (kinA (kindOf b k)):=by
 have hk:=kind_at h
 have:=kins_get (b:=b) (k:=k.toNat) (by omega)
 rwa [show((k.toNat:Nat):Int)=k by omega] at this
section
variable{C:CT}(hC:Closed Tryz.prog G1 md0 C)
include hC
end
end Go.Proofs.YthggfnefjbckeaaGreatDoor.X
set_option maxHeartbeats 4000000
set_option maxRecDepth 8000
set_option linter.unusedSimpArgs false
set_option linter.unusedVariables false
open Nat renaming reduceBEq→N1,reduceAdd→N2,reduceSub→N3,reduceMul→N4,reduceEqDiff→N5,reduceLeDiff→N6,reduceLT→N7
open Int renaming reduceLE→I1,reduceLT→I2,reduceToNat→I3
namespace Go.Proofs.YthggfnefjbckeaaGreatDoor.X
open Go
attribute [local irreducible] Ev
def hold(b:Brd)(s:Sta)(i:Int):Int:=if ctl b s i=0∨ctl b s i=1 then ctl b s i else -1
theorem killS_F{x:AV}(hx:isF x=true):killS x=x:=by
 cases x<;>simp[isF] at hx<;>simp[killS]
theorem killL_F: ∀{xs:List AV},allF xs=true→killL xs=xs
 | [],_=>by simp[killL]
 | x::xs,hx=>by
  simp only[allF,Bool.and_eq_true] at hx
  simp[killL,killS_F hx.1,killL_F hx.2]
section
variable{C:CT}(hC:Closed Tryz.prog G1 md0 C)
include hC
theorem t106(b:Brd)(f:FuncId)(caps:List AV)(p:Nat→Bool)(g:brdOk b=true)(hm:md0 f=false)(hc:allF caps=true)
  (hp: ∀i,i<b.m.t.length→Ev C f (.int .i64 (i:Nat)::caps) (.bool (p i))):Ev C 106 [brdF b,.fn f caps] (.ow 1 (ints (((List.range b.m.t.length).filter p).map fun i:Nat=>(i:Int)))):=by
 have ht:=brd_t g
 have hn:=(show b.m.t.length≤100 by have:=wh_le (mp_wh (brd_mp g)).1 (mp_wh (brd_mp g)).2;omega)
 have hlen: ∀i,(((List.range i).filter p).map fun i:Nat=>(i:Int)).length≤i:=fun i=>by
  rw[List.length_map];exact Nat.le_trans (List.length_filter_le _ _) (by simp)
 have hsuc: ∀i,(((List.range (i+1)).filter p).map fun i:Nat=>(i:Int))=if p i then(((List.range i).filter p).map fun i:Nat=>(i:Int))++[(i:Int)] else(((List.range i).filter p).map fun i:Nat=>(i:Int)):=fun i=>by
  simp only[List.range_succ,List.filter_append]
  cases h:p i
  ·simp[h]
  ·simp[h]
 have hkc:killL caps=caps:=killL_F hc
 have hr: ∀ρ,renL 0 ρ caps=caps:=fun ρ=>renL_F hc
 have h0:(((List.range 0).filter p).map fun i:Nat=>(i:Int))=[]:=rfl
 generalize hF:(fun i:Nat=>((List.range i).filter p).map fun i:Nat=>(i:Int))=F
 have hFi: ∀i,(((List.range i).filter p).map fun i:Nat=>(i:Int))=F i:=fun i=>by rw[←hF]
 simp only[hFi] at hlen hsuc h0⊢
 simp only[brdF,rulF,mpF,List.cons_append,List.nil_append] at *
 refine rT hC Q106 ?_ (own_ints _)
 simp only[c106,ints_length,push_cast,↓J1,↓J2,N1,N2,N3,reduceCtorEq,N4,N5,N6,reduceIte,N7,I1,I2,I3]
 refine RL_count (fun i=>⟨tb 24 .any [(1,.fn f caps),(5,.ref 0 none 1 0 (F i).length),(11,.int .i64 (b.m.t.length:Int)),(12,.int .i64 (i:Int))],[(0,.slice 1 (ints (F i)))],1⟩) (fun _=>True) b.m.t.length 0 (by rw[h0];exact(hdA [(1,0)])) (by omega) trivial fun i hi _ J hJ=>?_
 by_cases h1:i<b.m.t.length
 ·have hJ1:=hJ h1 trivial
  clear hJ
  have hlt:decide ((i:Int)<(b.m.t.length:Int))=true:=decide_eq_true (by omega)
  have hle:=hlen i
  have tk:List.take (F i).length (ints (F i))=ints (F i):=List.take_of_length_le (by rw[ints_length];omega)
  rw[hsuc] at hJ1
  simp only[hlt,hm,frzAL_F hc,frzOkL_F hc,push_cast,↓J1,↓J2,N1,N2,N3,reduceCtorEq,N4,N5,N6,reduceIte,N7,I1,I2,I3]
  refine⟨_,hp i h1,?_⟩
  cases g1:p i
  ·simp only[g1,Bool.false_eq_true,if_false] at hJ1
   simp only[push_cast,↓J1,↓J2,N1,N2,N3,reduceCtorEq,N4,N5,N6,reduceIte,N7,I1,I2,I3]
   exact hJ1 _ (hdA [(0,0)])
  ·simp only[g1,if_true,List.length_append,List.length_singleton] at hJ1
   simp only[tk,ints_length,allScs,apYR_sc,push_cast,↓J1,↓J2,N1,N2,N3,reduceCtorEq,N4,N5,N6,reduceIte,N7,I1,I2,I3]
   repeat (refine⟨by omega,?_⟩)
   refine hJ1 _ (hdA [(2,0)] (hh:=?_))
   simp only[canR,canB,renO,renL,ren,lkp,hget,N7,N5,Nat.not_lt_zero,if_false,if_true,reduceIte,List.append_nil,List.nil_append,ints_sn]
   all_goals rfl
 ·obtain rfl:i=b.m.t.length:=by omega
  have hlt:decide ((b.m.t.length:Int)<(b.m.t.length:Int))=false:=decide_eq_false (by omega)
  simp only[hlt,push_cast,↓J1,↓J2,N1,N2,N3,reduceCtorEq,N4,N5,N6,reduceIte,N7,I1,I2,I3]
  exact RetTo_ow rfl (by rw[ints_length])
end
end Go.Proofs.YthggfnefjbckeaaGreatDoor.X
set_option maxHeartbeats 4000000
set_option maxRecDepth 8000
set_option linter.unusedSimpArgs false
set_option linter.unusedVariables false
open Nat renaming reduceBEq→N1,reduceAdd→N2,reduceSub→N3,reduceMul→N4,reduceEqDiff→N5,reduceLeDiff→N6,reduceLT→N7
open Int renaming reduceLE→I1,reduceLT→I2,reduceToNat→I3
namespace Go.Proofs.YthggfnefjbckeaaGreatDoor.X
open Go
attribute [local irreducible] Ev
def rchL(b:Brd)(kd w:Int)(i:Nat)(mv:Int)(n:Nat):List Int:=((List.range n).filter fun k=>inR 0 mv ((farF b kd w i).getD k 0)).map fun k:Nat=>(k:Int)
theorem rchL_succ(b:Brd)(kd w:Int)(i:Nat)(mv:Int)(n:Nat):rchL b kd w i mv (n+1)=if inR 0 mv ((farF b kd w i).getD n 0) then rchL b kd w i mv n++[(n:Int)] else rchL b kd w i mv n:=by
 simp only[rchL,List.range_succ,List.filter_append]
 cases h:inR 0 mv ((farF b kd w i).getD n 0)
 ·rw[List.filter_cons_of_neg (by simp only[h];simp)];simp
 ·rw[List.filter_cons_of_pos (by simp only[h])];simp
theorem rchL_le(b:Brd)(kd w:Int)(i:Nat)(mv:Int)(n:Nat):(rchL b kd w i mv n).length≤n:=by
 simp only[rchL,List.length_map];exact Nat.le_trans (List.length_filter_le _ _) (by simp)
theorem farF_len{b:Brd}{kd w:Int}{i:Nat}(h:kindAsk b kd=true)(hw:0≤w∧w≤2)(hi:i<b.m.t.length):(farF b kd w i).length=b.m.t.length:=by
 have g:brdOk b=true:=by simp only[kindAsk,Bool.and_eq_true] at h;exact h.1
 exact(rxF_far (brd_n g).1 (fwd_ok h hw) hi).len
theorem farB_len{b:Brd}{kd w:Int}{i:Nat}(h:kindAsk b kd=true)(hw:0≤w∧w≤2)(hi:i<b.m.t.length):(farB b kd w i).length=b.m.t.length:=by
 have g:brdOk b=true:=by simp only[kindAsk,Bool.and_eq_true] at h;exact h.1
 exact(rxF_far (brd_n g).1 (bwd_ok h hw) hi).len
theorem farB_bnd{b:Brd}{kd w:Int}{i:Nat}(h:kindAsk b kd=true)(hw:0≤w∧w≤2)(hi:i<b.m.t.length){y:Nat}(hy:y<b.m.t.length): -1≤(farB b kd w i).getD y 0∧(farB b kd w i).getD y 0≤2000:=by
 have g:brdOk b=true:=by simp only[kindAsk,Bool.and_eq_true] at h;exact h.1
 exact rxF_bnd (brd_n g).1 (bwd_ok h hw) hi _ (getD_mem (l:=farB b kd w i) (by rw[farB_len h hw hi];exact hy) 0)
theorem wayAsk_yes{b:Brd}{kd w:Int}{i:Nat}(h:kindAsk b kd=true)(hw:0≤w∧w≤2)(hi:i<b.m.t.length):wayAsk b kd w (i:Int)=true:=by
 have g:brdOk b=true:=by simp only[kindAsk,Bool.and_eq_true] at h;exact h.1
 have ht:=brd_t g
 simp only[wayAsk,inR,h,Bool.and_eq_true,decide_eq_true_eq,true_and]
 exact⟨⟨hw.1,hw.2⟩,by omega,by omega⟩
section
variable{C:CT}(hC:Closed Tryz.prog G1 md0 C)
include hC
theorem t59(b:Brd)(kd w mv:Int)(i:Nat)(h:kindAsk b kd=true)(hw:0≤w∧w≤2)(hi:i<b.m.t.length)(hv:inR 0 1000 mv=true)(hb:BrdB (2^50) b):Ev C 59 [brdF b,.int .i64 kd,.int .i64 w,.int .i64 (i:Int),.int .i64 mv] (.tup [.ow 1 (ints (rchL b kd w i mv b.m.t.length)),.bool true]):=by
 have g:brdOk b=true:=by simp only[kindAsk,Bool.and_eq_true] at h;exact h.1
 have hn:=(brd_n g).1
 have c1:=t91 hC b kd w (i:Int) hb
 rw[wayAsk_yes h hw hi] at c1
 have c2:=tIn hC mv 0 1000
 rw[hv] at c2
 have c3:=t92 hC b kd w i h hw hi hb
 have c4:=fun x=>tIn hC x 0 mv
 have hfl:=farF_len h hw hi
 have tki: ∀l:List Int,List.take l.length (ints l)=ints l:=fun l=>List.take_of_length_le (by rw[ints_length];omega)
 simp only[brdF,rulF,mpF,List.cons_append,List.nil_append] at *
 refine rT hC Q59 ?_ (by simp only[ownR,ownRL,own_ints1,Bool.and_true])
 simp only[c59,push_cast,↓J1,↓J2,N1,N2,N3,reduceCtorEq,N4,N5,N6,reduceIte,N7,I1,I2,I3]
 refine⟨_,c1,?_⟩
 simp only[push_cast,↓J1,↓J2,N1,N2,N3,reduceCtorEq,N4,N5,N6,reduceIte,N7,I1,I2,I3]
 refine⟨_,c2,?_⟩
 simp only[push_cast,↓J1,↓J2,N1,N2,N3,reduceCtorEq,N4,N5,N6,reduceIte,N7,I1,I2,I3]
 refine⟨_,c3,?_⟩
 simp only[ints_length,hfl,push_cast,↓J1,↓J2,N1,N2,N3,reduceCtorEq,N4,N5,N6,reduceIte,N7,I1,I2,I3]
 refine RL_count (fun k=>⟨tb 46 .any [(12,.ref 1 none 1 0 (rchL b kd w i mv k).length),(4,.int .i64 mv),(30,.ref 0 none 1 0 b.m.t.length),(31,.int .i64 (b.m.t.length:Int)),(32,.int .i64 (k:Int))],[(1,.slice 1 (ints (rchL b kd w i mv k))),(0,.slice 1 (ints (farF b kd w i)))],2⟩) (fun _=>True) b.m.t.length 0 (hdO 12 1 1 [(1,0)]) (by omega) trivial fun k hk _ J hJ=>?_
 by_cases h1:k<b.m.t.length
 ·have hJ1:=hJ h1 trivial
  clear hJ
  have hlt:decide ((k:Int)<(b.m.t.length:Int))=true:=decide_eq_true (by omega)
  have e1:(ints (farF b kd w i))[k]?=some [.int .i64 ((farF b kd w i).getD k 0)]:=cut_ints_get (by omega)
  have hle:=rchL_le b kd w i mv k
  have hsuc:=rchL_succ b kd w i mv k
  rw[hsuc] at hJ1
  generalize rchL b kd w i mv k=r at *
  have tk:=tki r
  simp only[hlt,Int.toNat_natCast,e1,ints_length,hfl,push_cast,↓J1,↓J2,N1,N2,N3,reduceCtorEq,N4,N5,N6,reduceIte,N7,I1,I2,I3]
  repeat (refine⟨by omega,?_⟩)
  refine⟨_,c4 _,?_⟩
  cases g1:inR 0 mv ((farF b kd w i).getD k 0)
  ·simp only[g1,Bool.false_eq_true,if_false] at hJ1
   simp only[push_cast,↓J1,↓J2,N1,N2,N3,reduceCtorEq,N4,N5,N6,reduceIte,N7,I1,I2,I3]
   exact hJ1 _ (hdA [(1,1),(0,0)])
  ·simp only[g1,if_true,List.length_append,List.length_singleton] at hJ1
   simp only[tk,ints_length,allScs,apYR_sc,push_cast,↓J1,↓J2,N1,N2,N3,reduceCtorEq,N4,N5,N6,reduceIte,N7,I1,I2,I3]
   repeat (refine⟨by omega,?_⟩)
   refine hJ1 _ (hdA [(3,1),(0,0)] (hh:=?_))
   simp only[canR,canB,renO,renL,ren,lkp,hget,N7,N5,Nat.not_lt_zero,if_false,if_true,reduceIte,List.append_nil,List.nil_append,ints_sn]
   all_goals rfl
 ·obtain rfl:k=b.m.t.length:=by omega
  have hlt:decide ((b.m.t.length:Int)<(b.m.t.length:Int))=false:=decide_eq_false (by omega)
  simp only[hlt,push_cast,↓J1,↓J2,N1,N2,N3,reduceCtorEq,N4,N5,N6,reduceIte,N7,I1,I2,I3]
  exact RetTo_of (by simp only[conR,conRL,isF,hget,hdel,List.drop_zero,List.take_length,if_true,if_false,reduceIte,N5,reduceCtorEq,tki,ints_length];rfl)
theorem t107(b:Brd)(u:Un)(f:List Int)(i:Nat)(g:brdOk b=true)(hu:unOk b u=true)(hf:f.length=b.m.t.length)(hi:i<b.m.t.length)(hb:BrdB (2^50) b):Ev C 107 [.int .i64 (i:Nat),.pf [.sl (ints f)],.pf (rulF b.r++mpF b.m),.pf (unA u)] (.bool (inR 0 (kindOf b u.k).mv (f.getD i 0))):=by
 have hn:=(brd_n g).1
 have hka:=un_kind g (show inR 0 (b.r.ks.length-1) u.k=true by simp only[unOk,Bool.and_eq_true] at hu;exact hu.1.1.2)
 have e2:=kins_at hka
 have hk2:=kind_at hka
 have b2:=hb.r.ks
 have e1:(ints f)[i]?=some [.int .i64 (f.getD i 0)]:=cut_ints_get (by omega)
 have c1:Ev C 73 [.int .i64 (f.getD i 0),.int .i64 0,.int .i64 (kindOf b u.k).mv] (.bool (inR 0 (kindOf b u.k).mv (f.getD i 0))):=t73 hC _ _ _
 simp only[brdF,rulF,mpF,List.cons_append,List.nil_append,unA] at *
 refine rT hC Q107 ?_
 simp only[c107,push_cast,↓J1,↓J2,N1,N2,N3,reduceCtorEq,N4,N5,N6,reduceIte,N7,I1,I2,I3]
 simp only[Int.toNat_natCast,e1,e2,kinA,kins_length,ints_length,hf,push_cast,↓J1,↓J2,N1,N2,N3,reduceCtorEq,N4,N5,N6,reduceIte,N7,I1,I2,I3]
 repeat (refine⟨by omega,?_⟩)
 refine⟨_,c1,?_⟩
 simp only[push_cast,↓J1,↓J2,N1,N2,N3,reduceCtorEq,N4,N5,N6,reduceIte,N7,I1,I2,I3]
theorem t75(b:Brd)(s:Sta)(u:Un)(g:staOk b s=true)(hu:unOk b u=true)(ha:0≤u.at_)(hb:BrdB (2^50) b):Ev C 75 [brdF b,.agg (staF s),.agg (unA u)] (.ow 1 (ints (rchM b s u))):=by
 have gb:=sta_brd g
 have hn:=(brd_n gb).1
 have ht:=brd_t gb
 have hka:=un_kind gb (show inR 0 (b.r.ks.length-1) u.k=true by simp only[unOk,Bool.and_eq_true] at hu;exact hu.1.1.2)
 have hw:0≤s.w∧s.w≤2:=by simp only[staOk,staOk0,inR,Bool.and_eq_true,decide_eq_true_eq] at g;omega
 have hat:=unOk_at hu (by omega)
 obtain⟨a,ea⟩: ∃a:Nat,u.at_=a:=⟨u.at_.toNat,by omega⟩
 have hai:a<b.m.t.length:=by omega
 have c1:=t105f hC b u.k s.w a hka hw hai hb
 have hfl:=farF_len hka hw hai
 have c2:=t106 hC b 107 [.pf [.sl (ints (farF b u.k s.w a))],.pf (rulF b.r++mpF b.m),.pf (unA u)] (fun i=>inR 0 (kindOf b u.k).mv ((farF b u.k s.w a).getD i 0)) gb rfl rfl fun i hi=>t107 hC b u _ i gb hu hfl hi hb
 have er:rchM b s u=((List.range b.m.t.length).filter fun i=>inR 0 (kindOf b u.k).mv ((farF b u.k s.w a).getD i 0)).map fun i:Nat=>(i:Int):=by
  simp only[rchM,rchT,ea,Int.toNat_natCast]
 rw[er]
 have tki: ∀l:List Int,List.take l.length (ints l)=ints l:=fun l=>List.take_of_length_le (by rw[ints_length];omega)
 rw[←ea] at c1
 simp only[brdF,rulF,mpF,List.cons_append,List.nil_append,staF,unA] at *
 refine rT hC Q75 ?_ (own_ints _)
 simp only[c75,push_cast,↓J1,↓J2,N1,N2,N3,reduceCtorEq,N4,N5,N6,reduceIte,N7,I1,I2,I3]
 refine⟨_,c1,?_⟩
 simp only[tki,ints_length,frzLL_ints,push_cast,↓J1,↓J2,N1,N2,N3,reduceCtorEq,N4,N5,N6,reduceIte,N7,I1,I2,I3]
 refine⟨_,c2,?_⟩
 simp only[push_cast,↓J1,↓J2,N1,N2,N3,reduceCtorEq,N4,N5,N6,reduceIte,N7,I1,I2,I3]
 exact RetTo_of (by simp only[conR,conRL,isF,hget,hdel,List.drop_zero,List.take_length,if_true,if_false,reduceIte,N5,reduceCtorEq,tki,ints_length];rfl)
end
end Go.Proofs.YthggfnefjbckeaaGreatDoor.X
set_option maxHeartbeats 4000000
set_option maxRecDepth 8000
set_option linter.unusedSimpArgs false
set_option linter.unusedVariables false
open Nat renaming reduceBEq→N1,reduceAdd→N2,reduceSub→N3,reduceMul→N4,reduceEqDiff→N5,reduceLeDiff→N6,reduceLT→N7
open Int renaming reduceLE→I1,reduceLT→I2,reduceToNat→I3
namespace Go.Proofs.YthggfnefjbckeaaGreatDoor.X
open Go
attribute [local irreducible] Ev
theorem pI_next{b:Brd}{kd w:Int}{to:List Int}{i k j d:Nat}(hne:(pI b kd w to i k j).1≠k)(e:first6 (pgood b kd w to (pI b kd w to i k j).1)=some d):pI b kd w to i k (j+1)=((nextM b.m (pI b kd w to i k j).1 d).toNat,(pI b kd w to i k j).2++[(d:Int)]):=by
 simp only[pI,if_neg hne,e]
theorem own_ib(l:List Int)(w:Bool):ownR (.tup [.ow 1 (ints l),.bool w])=true:=by
 simp only[ownR,ownRL,own_ints1,Bool.and_true]
section
variable{C:CT}(hC:Closed Tryz.prog G1 md0 C)
include hC
theorem t93(b:Brd)(kd w:Int)(i k:Nat)(h:kindAsk b kd=true)(hw:0≤w∧w≤2)(hi:i<b.m.t.length)(hk:k<b.m.t.length)(h0:0≤(farB b kd w k).getD i 0)(hb:BrdB (2^50) b):Ev C 93 [brdF b,.int .i64 kd,.int .i64 w,.int .i64 (i:Int),.int .i64 (k:Int)] (.ow 1 (ints (pthM b kd w i k))):=by
 have g:brdOk b=true:=by simp only[kindAsk,Bool.and_eq_true] at h;exact h.1
 have hm:=mp_wh (brd_mp g)
 have ht:=brd_t g
 have hn:=(brd_n g).1
 have hfl:=farB_len h hw hk
 have hfb:=fun y hy=>farB_bnd h hw hk (y:=y) hy
 have c1:=t127 hC b kd w k h hw hk hb
 have ccs:=fun(x:Nat) (hx:(x:Int)<b.m.w*b.m.h) (d:Nat) (hd:d<6)=>t125 hC b kd w (x:Nat) d h hw ⟨by omega,hx⟩ hd hb
 have cnx:=fun(x:Nat) (hx:(x:Int)<b.m.w*b.m.h) (d:Nat) (hd:d<6)=>t62 hC b.m (x:Nat) (d:Nat) hm.1 hm.2 (by have:=wh_le hm.1 hm.2;omega) ⟨by omega,by omega⟩
 have hpok:=fun j hj=>pI_ok h hw hi hk h0 j hj
 have hend:=pN_end h hw hi hk h0
 have hlt:=fun j (hj:j<pN b kd w (farB b kd w k) i k)=>pN_lt hj
 have hle:=pN_le (b:=b) (kd:=kd) (w:=w) (to:=farB b kd w k) (i:=i) (k:=k)
 have hgood:=fun x (hx:x<b.m.t.length) hxk hx0=>pgood_some (x:=x) h hw hk hx hxk hx0
 have hnext:=fun j d h1 h2=>pI_next (b:=b) (kd:=kd) (w:=w) (to:=farB b kd w k) (i:=i) (k:=k) (j:=j) (d:=d) h1 h2
 have hsb:=fun(x d:Nat)=>step_bnd (i:=(x:Int)) (d:=d) h hw
 have hpg: ∀x d,pgood b kd w (farB b kd w k) x d=(decide (stepM b kd w x d≠0)&&(decide (0≤(farB b kd w k).getD (nextM b.m x d).toNat 0)&&decide ((farB b kd w k).getD (nextM b.m x d).toNat 0+stepM b kd w x d=(farB b kd w k).getD x 0))):=fun _ _=>rfl
 simp only[pthM]
 generalize farB b kd w k=to at *
 have tki: ∀l:List Int,List.take l.length (ints l)=ints l:=fun l=>List.take_of_length_le (by rw[ints_length];omega)
 simp only[brdF,rulF,mpF,List.cons_append,List.nil_append] at *
 refine rT hC Q93 ?_ (own_ints _)
 simp only[c93,push_cast,↓J1,↓J2,N1,N2,N3,reduceCtorEq,N4,N5,N6,reduceIte,N7,I1,I2,I3]
 refine⟨_,c1,?_⟩
 simp only[ints_length,hfl,push_cast,↓J1,↓J2,N1,N2,N3,reduceCtorEq,N4,N5,N6,reduceIte,N7,I1,I2,I3]
 refine RL_count (fun j=>⟨tb 65 .any [(12,.ref 2 none 1 0 (pI b kd w to i k j).2.length),(1,.int .i64 kd),(2,.int .i64 w),(3,.int .i64 ((pI b kd w to i k j).1:Int)),(4,.int .i64 (k:Int)),(5,.ptr 0 none 0 0 0),(11,.ref 1 none 1 0 b.m.t.length)],[(2,.slice 1 (ints (pI b kd w to i k j).2)),(1,.slice 1 (ints to)),(0,.var (rulF b.r++mpF b.m))],3⟩) (fun _=>True) (pN b kd w to i k) 0 (hdO 12 2 1 [(1,1),(0,0)]) (by omega) trivial fun j hj _ J hJ=>?_
 simp only[rulF,mpF,List.cons_append,List.nil_append]
 obtain⟨i1,i2,i3,i4,i5⟩:=hpok j (fun m hm'=>hlt m (by omega))
 by_cases h1:j<pN b kd w to i k
 rotate_left
 ·obtain rfl:j=pN b kd w to i k:=by omega
  have gx:decide (((pI b kd w to i k (pN b kd w to i k)).1:Int)=(k:Int))=true:=decide_eq_true (by omega)
  simp only[gx,push_cast,↓J1,↓J2,N1,N2,N3,reduceCtorEq,N4,N5,N6,reduceIte,N7,I1,I2,I3]
  exact RetTo_of (by simp only[conR,conRL,isF,hget,hdel,List.drop_zero,List.take_length,if_true,if_false,reduceIte,N5,reduceCtorEq,tki,ints_length];rfl)
 have hJ1:=hJ h1 trivial
 clear hJ
 have hne:=hlt j h1
 obtain⟨dd,hdd,efst,hgd,hbf⟩:=hgood _ i1 hne i2
 rw[hnext j dd hne efst] at hJ1
 generalize pI b kd w to i k j=p at *
 obtain⟨x,q⟩:=p
 simp only at i1 i2 i3 i4 i5 hne hgd hbf hJ1 efst⊢
 have gx:decide ((x:Int)=(k:Int))=false:=decide_eq_false (by omega)
 simp only[gx,push_cast,↓J1,↓J2,N1,N2,N3,reduceCtorEq,N4,N5,N6,reduceIte,N7,I1,I2,I3]
 refine RL_count (fun d=>⟨tb 65 .any [(12,.ref 2 none 1 0 q.length),(1,.int .i64 kd),(2,.int .i64 w),(3,.int .i64 (x:Int)),(4,.int .i64 (k:Int)),(5,.ptr 0 none 0 0 0),(11,.ref 1 none 1 0 b.m.t.length),(13,.int .i64 (d:Int))],[(2,.slice 1 (ints q)),(1,.slice 1 (ints to)),(0,.var (rulF b.r++mpF b.m))],3⟩) (fun d=>d≤dd) 6 0 (hdA [(2,2),(1,1),(0,0)]) (by omega) (by omega) fun d hd hI JJ hJJ=>?_
 simp only[rulF,mpF,List.cons_append,List.nil_append]
 have hd6:decide ((d:Int)<6)=true:=decide_eq_true (by omega)
 have ccs:=ccs x (by omega) d (by omega)
 have cnx:=cnx x (by omega) d (by omega)
 have hs:=hsb x d
 have hpgd:=hpg x d
 have hK:=hJJ (by omega)
 clear hJJ
 have hnot:d<dd→pgood b kd w to x d=false:=fun hh=>hbf d hh
 have hyes:d=dd→pgood b kd w to x d=true:=fun hh=>by rw[hh];exact hgd
 have hK1:pgood b kd w to x d=false→d+1≤dd:=fun hh=>by
  by_cases e:d=dd
  ·rw[hyes e] at hh;cases hh
  ·omega
 have hK2:pgood b kd w to x d=true→d=dd:=fun hh=>by
  by_cases e:d=dd
  ·exact e
  ·rw[hnot (by omega)] at hh;cases hh
 have hJ2:pgood b kd w to x d=true→ ∀s:St,Head 0 s ⟨tb 65 .any [(12,.ref 2 none 1 0 (q++[(d:Int)]).length),(1,.int .i64 kd),(2,.int .i64 w),(3,.int .i64 ((nextM b.m x d).toNat:Int)),(4,.int .i64 (k:Int)),(5,.ptr 0 none 0 0 0),(11,.ref 1 none 1 0 b.m.t.length)],[(2,.slice 1 (ints (q++[(d:Int)]))),(1,.slice 1 (ints to)),(0,.var (rulF b.r++mpF b.m))],3⟩→J s:=fun hh=>by
  have e:=hK2 hh
  subst e
  exact hJ1
 clear hJ1 hyes hnot hgd hbf efst
 rw[hpgd] at hK1 hJ2
 clear hK2 hpgd
 generalize stepM b kd w x d=cc at *
 generalize nextM b.m (x:Nat) (d:Nat)=nx at *
 have ex:(ints to)[x]?=some [.int .i64 (to.getD x 0)]:=cut_ints_get (by omega)
 simp only[hd6,push_cast,↓J1,↓J2,N1,N2,N3,reduceCtorEq,N4,N5,N6,reduceIte,N7,I1,I2,I3]
 refine⟨_,ccs,?_⟩
 by_cases h4:cc=0
 ·have g4:decide (cc=0)=true:=decide_eq_true h4
  have h5:=hK1 (by rw[h4];rfl)
  simp only[g4,push_cast,↓J1,↓J2,N1,N2,N3,reduceCtorEq,N4,N5,N6,reduceIte,N7,I1,I2,I3]
  exact hK h5 _ (hdA [(2,2),(1,1),(0,0)])
 have g4:decide (cc=0)=false:=decide_eq_false h4
 have hnx:=hs.2.2 h4
 obtain⟨y,rfl⟩: ∃y:Nat,nx=y:=⟨nx.toNat,by omega⟩
 have hy:y<b.m.t.length:=by omega
 have ey:(ints to)[y]?=some [.int .i64 (to.getD y 0)]:=cut_ints_get (by omega)
 have by_:=hfb y hy
 have g4':decide (cc≠0)=true:=decide_eq_true h4
 simp only[g4',Bool.true_and,Int.toNat_natCast] at hK1 hJ2
 simp only[g4,push_cast,↓J1,↓J2,N1,N2,N3,reduceCtorEq,N4,N5,N6,reduceIte,N7,I1,I2,I3]
 refine⟨_,cnx,?_⟩
 simp only[Int.toNat_natCast,ex,ey,ints_length,hfl,push_cast,↓J1,↓J2,N1,N2,N3,reduceCtorEq,N4,N5,N6,reduceIte,N7,I1,I2,I3]
 repeat (refine⟨by omega,?_⟩)
 have w5:IntKind.i64.wrap (to.getD y 0+cc)=to.getD y 0+cc:=wrap64 (by omega) (by omega)
 have tq:List.take q.length (ints q)=ints q:=tki q
 cases g5:decide (0≤to.getD y 0)
 ·have h5:=hK1 (by rw[g5];rfl)
  simp only[g5,push_cast,↓J1,↓J2,N1,N2,N3,reduceCtorEq,N4,N5,N6,reduceIte,N7,I1,I2,I3]
  exact hK h5 _ (hdA [(2,2),(1,1),(0,0)])
 simp only[g5,Int.toNat_natCast,ex,ey,w5,ints_length,hfl,push_cast,↓J1,↓J2,N1,N2,N3,reduceCtorEq,N4,N5,N6,reduceIte,N7,I1,I2,I3]
 repeat (refine⟨by omega,?_⟩)
 cases g6:decide (to.getD y 0+cc=to.getD x 0)
 ·have h5:=hK1 (by rw[g5,g6];rfl)
  simp only[g6,push_cast,↓J1,↓J2,N1,N2,N3,reduceCtorEq,N4,N5,N6,reduceIte,N7,I1,I2,I3]
  exact hK h5 _ (hdA [(2,2),(1,1),(0,0)])
 have h6:=hJ2 (by rw[g5,g6];rfl)
 simp only[List.length_append,List.length_singleton] at h6
 simp only[g6,tq,ints_length,allScs,apYR_sc,push_cast,↓J1,↓J2,N1,N2,N3,reduceCtorEq,N4,N5,N6,reduceIte,N7,I1,I2,I3]
 repeat (refine⟨by omega,?_⟩)
 refine h6 _ (hdA [(4,2),(1,1),(0,0)] (hh:=?_))
 simp only[canR,canB,renO,renL,ren,lkp,hget,N7,N5,Nat.not_lt_zero,if_false,if_true,reduceIte,List.append_nil,List.nil_append,ints_sn]
 all_goals rfl
theorem t102(b:Brd)(kd w:Int)(i k:Nat)(h:kindAsk b kd=true)(hw:0≤w∧w≤2)(hi:i<b.m.t.length)(hk:k<b.m.t.length)(h0:0≤(farB b kd w k).getD i 0)(hb:BrdB (2^50) b):Ev C 102 [brdF b,.int .i64 kd,.int .i64 w,.int .i64 (i:Int),.int .i64 (k:Int)] (.tup [.ow 1 (ints (pthM b kd w i k)),.bool true]):=by
 have g:brdOk b=true:=by simp only[kindAsk,Bool.and_eq_true] at h;exact h.1
 have hm:=mp_wh (brd_mp g)
 have ht:=brd_t g
 have hn:=(brd_n g).1
 have hfl:=farB_len h hw hk
 have hfb:=fun y hy=>farB_bnd h hw hk (y:=y) hy
 have c0:=t136 hC b kd w (i:Int) (k:Int) hb
 have hkr:inR 0 (b.m.w*b.m.h-1) (k:Int)=true:=by simp only[inR,Bool.and_eq_true,decide_eq_true_eq];omega
 rw[wayAsk_yes h hw hi,hkr] at c0
 have c1:=t105b hC b kd w k h hw hk hb
 have ccs:=fun(x:Nat) (hx:(x:Int)<b.m.w*b.m.h) (d:Nat) (hd:d<6)=>t137 hC b kd w (x:Nat) d h hw ⟨by omega,hx⟩ hd hb
 have cnx:=fun(x:Nat) (hx:(x:Int)<b.m.w*b.m.h) (d:Nat) (hd:d<6)=>t138 hC b.m (x:Nat) (d:Nat) hm.1 hm.2 (by have:=wh_le hm.1 hm.2;omega) ⟨by omega,by omega⟩
 have hpok:=fun j hj=>pI_ok h hw hi hk h0 j hj
 have hend:=pN_end h hw hi hk h0
 have hlt:=fun j (hj:j<pN b kd w (farB b kd w k) i k)=>pN_lt hj
 have hle:=pN_le (b:=b) (kd:=kd) (w:=w) (to:=farB b kd w k) (i:=i) (k:=k)
 have hgood:=fun x (hx:x<b.m.t.length) hxk hx0=>pgood_some (x:=x) h hw hk hx hxk hx0
 have hnext:=fun j d h1 h2=>pI_next (b:=b) (kd:=kd) (w:=w) (to:=farB b kd w k) (i:=i) (k:=k) (j:=j) (d:=d) h1 h2
 have hsb:=fun(x d:Nat)=>step_bnd (i:=(x:Int)) (d:=d) h hw
 have hpg: ∀x d,pgood b kd w (farB b kd w k) x d=(decide (stepM b kd w x d≠0)&&(decide (0≤(farB b kd w k).getD (nextM b.m x d).toNat 0)&&decide ((farB b kd w k).getD (nextM b.m x d).toNat 0+stepM b kd w x d=(farB b kd w k).getD x 0))):=fun _ _=>rfl
 simp only[pthM]
 generalize farB b kd w k=to at *
 have tki: ∀l:List Int,List.take l.length (ints l)=ints l:=fun l=>List.take_of_length_le (by rw[ints_length];omega)
 simp only[brdF,rulF,mpF,List.cons_append,List.nil_append] at *
 refine rT hC Q102 ?_ (own_ib _ _)
 simp only[c102,push_cast,↓J1,↓J2,N1,N2,N3,reduceCtorEq,N4,N5,N6,reduceIte,N7,I1,I2,I3]
 refine⟨_,c0,?_⟩
 simp only[Bool.and_self,push_cast,↓J1,↓J2,N1,N2,N3,reduceCtorEq,N4,N5,N6,reduceIte,N7,I1,I2,I3]
 refine⟨_,c1,?_⟩
 have ei:(ints to)[i]?=some [.int .i64 (to.getD i 0)]:=cut_ints_get (by omega)
 have gi:decide (to.getD i 0<0)=false:=decide_eq_false (by omega)
 simp only[Int.toNat_natCast,ei,gi,ints_length,hfl,push_cast,↓J1,↓J2,N1,N2,N3,reduceCtorEq,N4,N5,N6,reduceIte,N7,I1,I2,I3]
 repeat (refine⟨by omega,?_⟩)
 refine RL_count (fun j=>⟨tb 81 .any [(13,.ref 2 none 1 0 (pI b kd w to i k j).2.length),(1,.int .i64 kd),(2,.int .i64 w),(3,.int .i64 ((pI b kd w to i k j).1:Int)),(4,.int .i64 (k:Int)),(5,.ptr 0 none 0 0 0),(12,.ref 1 none 1 0 b.m.t.length)],[(2,.slice 1 (ints (pI b kd w to i k j).2)),(1,.slice 1 (ints to)),(0,.var (rulF b.r++mpF b.m))],3⟩) (fun _=>True) (pN b kd w to i k) 0 (hdA [(2,2),(1,1),(0,0)]) (by omega) trivial fun j hj _ J hJ=>?_
 simp only[rulF,mpF,List.cons_append,List.nil_append]
 obtain⟨i1,i2,i3,i4,i5⟩:=hpok j (fun m hm'=>hlt m (by omega))
 by_cases h1:j<pN b kd w to i k
 rotate_left
 ·obtain rfl:j=pN b kd w to i k:=by omega
  have gx:decide (((pI b kd w to i k (pN b kd w to i k)).1:Int)=(k:Int))=true:=decide_eq_true (by omega)
  simp only[gx,push_cast,↓J1,↓J2,N1,N2,N3,reduceCtorEq,N4,N5,N6,reduceIte,N7,I1,I2,I3]
  exact RetTo_of (by simp only[conR,conRL,isF,hget,hdel,List.drop_zero,List.take_length,if_true,if_false,reduceIte,N5,reduceCtorEq,tki,ints_length];rfl)
 have hJ1:=hJ h1 trivial
 clear hJ
 have hne:=hlt j h1
 obtain⟨dd,hdd,efst,hgd,hbf⟩:=hgood _ i1 hne i2
 rw[hnext j dd hne efst] at hJ1
 generalize pI b kd w to i k j=p at *
 obtain⟨x,q⟩:=p
 simp only at i1 i2 i3 i4 i5 hne hgd hbf hJ1 efst⊢
 have gx:decide ((x:Int)=(k:Int))=false:=decide_eq_false (by omega)
 simp only[gx,push_cast,↓J1,↓J2,N1,N2,N3,reduceCtorEq,N4,N5,N6,reduceIte,N7,I1,I2,I3]
 refine RL_count (fun d=>⟨tb 81 .any [(13,.ref 2 none 1 0 q.length),(1,.int .i64 kd),(2,.int .i64 w),(3,.int .i64 (x:Int)),(4,.int .i64 (k:Int)),(5,.ptr 0 none 0 0 0),(12,.ref 1 none 1 0 b.m.t.length),(38,.int .i64 (d:Int))],[(2,.slice 1 (ints q)),(1,.slice 1 (ints to)),(0,.var (rulF b.r++mpF b.m))],3⟩) (fun d=>d≤dd) 6 0 (hdA [(2,2),(1,1),(0,0)]) (by omega) (by omega) fun d hd hI JJ hJJ=>?_
 simp only[rulF,mpF,List.cons_append,List.nil_append]
 have hd6:decide ((d:Int)<6)=true:=decide_eq_true (by omega)
 have ccs:=ccs x (by omega) d (by omega)
 have cnx:=cnx x (by omega) d (by omega)
 have hs:=hsb x d
 have hpgd:=hpg x d
 have hK:=hJJ (by omega)
 clear hJJ
 have hnot:d<dd→pgood b kd w to x d=false:=fun hh=>hbf d hh
 have hyes:d=dd→pgood b kd w to x d=true:=fun hh=>by rw[hh];exact hgd
 have hK1:pgood b kd w to x d=false→d+1≤dd:=fun hh=>by
  by_cases e:d=dd
  ·rw[hyes e] at hh;cases hh
  ·omega
 have hK2:pgood b kd w to x d=true→d=dd:=fun hh=>by
  by_cases e:d=dd
  ·exact e
  ·rw[hnot (by omega)] at hh;cases hh
 have hJ2:pgood b kd w to x d=true→ ∀s:St,Head 0 s ⟨tb 81 .any [(13,.ref 2 none 1 0 (q++[(d:Int)]).length),(1,.int .i64 kd),(2,.int .i64 w),(3,.int .i64 ((nextM b.m x d).toNat:Int)),(4,.int .i64 (k:Int)),(5,.ptr 0 none 0 0 0),(12,.ref 1 none 1 0 b.m.t.length)],[(2,.slice 1 (ints (q++[(d:Int)]))),(1,.slice 1 (ints to)),(0,.var (rulF b.r++mpF b.m))],3⟩→J s:=fun hh=>by
  have e:=hK2 hh
  subst e
  exact hJ1
 clear hJ1 hyes hnot hgd hbf efst
 rw[hpgd] at hK1 hJ2
 clear hK2 hpgd
 generalize stepM b kd w x d=cc at *
 generalize nextM b.m (x:Nat) (d:Nat)=nx at *
 have ex:(ints to)[x]?=some [.int .i64 (to.getD x 0)]:=cut_ints_get (by omega)
 simp only[hd6,push_cast,↓J1,↓J2,N1,N2,N3,reduceCtorEq,N4,N5,N6,reduceIte,N7,I1,I2,I3]
 refine⟨_,ccs,?_⟩
 simp only[push_cast,↓J1,↓J2,N1,N2,N3,reduceCtorEq,N4,N5,N6,reduceIte,N7,I1,I2,I3]
 refine⟨_,cnx,?_⟩
 by_cases h4:cc=0
 ·have g4:decide (0<cc)=false:=decide_eq_false (by omega)
  have h5:=hK1 (by rw[h4];rfl)
  simp only[g4,push_cast,↓J1,↓J2,N1,N2,N3,reduceCtorEq,N4,N5,N6,reduceIte,N7,I1,I2,I3]
  exact hK h5 _ (hdA [(2,2),(1,1),(0,0)])
 have g4:decide (0<cc)=true:=decide_eq_true (by omega)
 have hnx:=hs.2.2 h4
 obtain⟨y,rfl⟩: ∃y:Nat,nx=y:=⟨nx.toNat,by omega⟩
 have hy:y<b.m.t.length:=by omega
 have ey:(ints to)[y]?=some [.int .i64 (to.getD y 0)]:=cut_ints_get (by omega)
 have by_:=hfb y hy
 have g4':decide (cc≠0)=true:=decide_eq_true h4
 simp only[g4',Bool.true_and,Int.toNat_natCast] at hK1 hJ2
 simp only[g4,Int.toNat_natCast,ex,ey,ints_length,hfl,push_cast,↓J1,↓J2,N1,N2,N3,reduceCtorEq,N4,N5,N6,reduceIte,N7,I1,I2,I3]
 repeat (refine⟨by omega,?_⟩)
 have w5:IntKind.i64.wrap (to.getD y 0+cc)=to.getD y 0+cc:=wrap64 (by omega) (by omega)
 have tq:List.take q.length (ints q)=ints q:=tki q
 cases g5:decide (0≤to.getD y 0)
 ·have h5:=hK1 (by rw[g5];rfl)
  simp only[g5,push_cast,↓J1,↓J2,N1,N2,N3,reduceCtorEq,N4,N5,N6,reduceIte,N7,I1,I2,I3]
  exact hK h5 _ (hdA [(2,2),(1,1),(0,0)])
 simp only[g5,Int.toNat_natCast,ex,ey,w5,ints_length,hfl,push_cast,↓J1,↓J2,N1,N2,N3,reduceCtorEq,N4,N5,N6,reduceIte,N7,I1,I2,I3]
 repeat (refine⟨by omega,?_⟩)
 cases g6:decide (to.getD y 0+cc=to.getD x 0)
 ·have h5:=hK1 (by rw[g5,g6];rfl)
  simp only[g6,push_cast,↓J1,↓J2,N1,N2,N3,reduceCtorEq,N4,N5,N6,reduceIte,N7,I1,I2,I3]
  exact hK h5 _ (hdA [(2,2),(1,1),(0,0)])
 have h6:=hJ2 (by rw[g5,g6];rfl)
 simp only[List.length_append,List.length_singleton] at h6
 simp only[g6,tq,ints_length,allScs,apYR_sc,push_cast,↓J1,↓J2,N1,N2,N3,reduceCtorEq,N4,N5,N6,reduceIte,N7,I1,I2,I3]
 repeat (refine⟨by omega,?_⟩)
 refine h6 _ (hdA [(4,2),(1,1),(0,0)] (hh:=?_))
 simp only[canR,canB,renO,renL,ren,lkp,hget,N7,N5,Nat.not_lt_zero,if_false,if_true,reduceIte,List.append_nil,List.nil_append,ints_sn]
 all_goals rfl
theorem t61(b:Brd)(kd w:Int)(i k:Nat)(h:kindAsk b kd=true)(hw:0≤w∧w≤2)(hi:i<b.m.t.length)(hk:k<b.m.t.length)(h0:0≤(farF b kd w i).getD k 0)(hb:BrdB (2^50) b):Ev C 61 [brdF b,.int .i64 kd,.int .i64 w,.int .i64 (i:Int),.int .i64 (k:Int)] (.tup [.ow 1 (ints (pthM b kd w i k)),.bool true]):=by
 have c1:=t91 hC b kd w (i:Int) hb
 rw[wayAsk_yes h hw hi] at c1
 have c2:=t91 hC b kd w (k:Int) hb
 rw[wayAsk_yes h hw hk] at c2
 have c3:=t92 hC b kd w i h hw hi hb
 have c4:=t93 hC b kd w i k h hw hi hk (reach_back h hw hi hk h0) hb
 have hfl:=farF_len h hw hi
 have ek:(ints (farF b kd w i))[k]?=some [.int .i64 ((farF b kd w i).getD k 0)]:=cut_ints_get (by omega)
 have gk:decide ((farF b kd w i).getD k 0<0)=false:=decide_eq_false (by omega)
 have g:brdOk b=true:=by simp only[kindAsk,Bool.and_eq_true] at h;exact h.1
 have hn:=(brd_n g).1
 have tki: ∀l:List Int,List.take l.length (ints l)=ints l:=fun l=>List.take_of_length_le (by rw[ints_length];omega)
 simp only[brdF,rulF,mpF,List.cons_append,List.nil_append] at *
 refine rT hC Q61 ?_ (own_ib _ _)
 simp only[c61,push_cast,↓J1,↓J2,N1,N2,N3,reduceCtorEq,N4,N5,N6,reduceIte,N7,I1,I2,I3]
 refine⟨_,c1,?_⟩
 simp only[push_cast,↓J1,↓J2,N1,N2,N3,reduceCtorEq,N4,N5,N6,reduceIte,N7,I1,I2,I3]
 refine⟨_,c2,?_⟩
 simp only[push_cast,↓J1,↓J2,N1,N2,N3,reduceCtorEq,N4,N5,N6,reduceIte,N7,I1,I2,I3]
 refine⟨_,c3,?_⟩
 simp only[Int.toNat_natCast,ek,gk,ints_length,hfl,push_cast,↓J1,↓J2,N1,N2,N3,reduceCtorEq,N4,N5,N6,reduceIte,N7,I1,I2,I3]
 repeat (refine⟨by omega,?_⟩)
 refine⟨_,c4,?_⟩
 simp only[push_cast,↓J1,↓J2,N1,N2,N3,reduceCtorEq,N4,N5,N6,reduceIte,N7,I1,I2,I3]
 exact RetTo_of (by simp only[conR,conRL,isF,hget,hdel,List.drop_zero,List.take_length,if_true,if_false,reduceIte,N5,reduceCtorEq,tki,ints_length];rfl)
end
end Go.Proofs.YthggfnefjbckeaaGreatDoor.X
set_option maxHeartbeats 1000000
set_option maxRecDepth 8000
set_option linter.unusedSimpArgs false
set_option linter.unusedVariables false
open Nat renaming reduceBEq→N1,reduceAdd→N2,reduceSub→N3,reduceMul→N4,reduceEqDiff→N5,reduceLeDiff→N6,reduceLT→N7
open Int renaming reduceLE→I1,reduceLT→I2,reduceToNat→I3
namespace Go.Proofs.YthggfnefjbckeaaGreatDoor.X
open Go
attribute [local irreducible] Ev szSS szRows
section
variable{C:CT}(hC:Closed Tryz.prog G1 md0 C)
include hC
end
end Go.Proofs.YthggfnefjbckeaaGreatDoor.X
set_option maxHeartbeats 1000000
set_option maxRecDepth 8000
set_option linter.unusedSimpArgs false
set_option linter.unusedVariables false
open Nat renaming reduceBEq→N1,reduceAdd→N2,reduceSub→N3,reduceMul→N4,reduceEqDiff→N5,reduceLeDiff→N6,reduceLT→N7
open Int renaming reduceLE→I1,reduceLT→I2,reduceToNat→I3
namespace Go.Proofs.YthggfnefjbckeaaGreatDoor.X
open Go
attribute [local irreducible] Ev
def absI(n:Int):Int:=if n<0 then -n else n
def distI(q1 r1 q2 r2:Int):Int:=(absI (q2-q1)+absI (r2-r1)+absI (q2-q1+(r2-r1))).tdiv 2
section
variable{C:CT}(hC:Closed Tryz.prog G1 md0 C)
include hC
end
end Go.Proofs.YthggfnefjbckeaaGreatDoor.X
set_option maxHeartbeats 4000000
set_option maxRecDepth 8000
set_option linter.unusedSimpArgs false
set_option linter.unusedVariables false
open Nat renaming reduceBEq→N1,reduceAdd→N2,reduceSub→N3,reduceMul→N4,reduceEqDiff→N5,reduceLeDiff→N6,reduceLT→N7
open Int renaming reduceLE→I1,reduceLT→I2,reduceToNat→I3
namespace Go.Proofs.YthggfnefjbckeaaGreatDoor.X
open Go
attribute [local irreducible] Ev
section
variable{C:CT}(hC:Closed Tryz.prog G1 md0 C)
include hC
end
end Go.Proofs.YthggfnefjbckeaaGreatDoor.X
set_option maxHeartbeats 1000000
set_option maxRecDepth 8000
set_option linter.unusedSimpArgs false
set_option linter.unusedVariables false
open Nat renaming reduceBEq→N1,reduceAdd→N2,reduceSub→N3,reduceMul→N4,reduceEqDiff→N5,reduceLeDiff→N6,reduceLT→N7
open Int renaming reduceLE→I1,reduceLT→I2,reduceToNat→I3
namespace Go.Proofs.YthggfnefjbckeaaGreatDoor.X
open Go
def below(n:Nat)(h:Heap):Prop:=canB n [] h=h
theorem canB_le(n:Nat): ∀h:Heap,(canB n [] h).length≤h.length
 | []=>by simp[canB]
 | (i,o)::h=>by
  simp only[canB]
  have:=canB_le n h
  split<;>simp<;>omega
theorem below_cons{n i:Nat}{o:Ob}{h:Heap}(hb:below n ((i,o)::h)):i<n∧renO n [] o=o∧below n h:=by
 unfold below at hb
 simp only[canB] at hb
 split at hb
 ·rename_i hi
  simp only[List.cons.injEq,Prod.mk.injEq,true_and] at hb
  exact⟨hi,hb.1,hb.2⟩
 ·have:=canB_le n h
  rw[hb] at this
  simp at this
  omega
theorem below_lt{n:Nat}{id:Nat}{o:Ob}: ∀{h:Heap},below n h→hget h id=some o→id<n
 | [],_,hg=>by simp[hget] at hg
 | (i,o')::h,hb,hg=>by
  obtain⟨h1,h2,h3⟩:=below_cons hb
  simp only[hget] at hg
  split at hg
  ·rename_i e;omega
  ·exact below_lt h3 hg
def mk(l:List Int)(k:Int)(i:Nat):List Int:=(List.range i).map (fun j:Nat=>k+(j:Int))++l.drop i
section
variable{C:CT}(hC:Closed Tryz.prog G1 md0 C)
include hC
end
end Go.Proofs.YthggfnefjbckeaaGreatDoor.X
set_option maxHeartbeats 1000000
set_option maxRecDepth 8000
set_option linter.unusedSimpArgs false
set_option linter.unusedVariables false
open Nat renaming reduceBEq→N1,reduceAdd→N2,reduceSub→N3,reduceMul→N4,reduceEqDiff→N5,reduceLeDiff→N6,reduceLT→N7
open Int renaming reduceLE→I1,reduceLT→I2,reduceToNat→I3
namespace Go.Proofs.YthggfnefjbckeaaGreatDoor.X
open Go
attribute [local irreducible] Ev
def solid(h:Heap):Prop:=killH h=h
section
variable{C:CT}(hC:Closed Tryz.prog G1 md0 C)
include hC
end
end Go.Proofs.YthggfnefjbckeaaGreatDoor.X
set_option maxHeartbeats 2000000
set_option maxRecDepth 8000
set_option linter.unusedSimpArgs false
set_option linter.unusedVariables false
open Nat renaming reduceBEq→N1,reduceAdd→N2,reduceSub→N3,reduceMul→N4,reduceEqDiff→N5,reduceLeDiff→N6,reduceLT→N7
open Int renaming reduceLE→I1,reduceLT→I2,reduceToNat→I3
namespace Go.Proofs.YthggfnefjbckeaaGreatDoor.X
open Go
attribute [local irreducible] Ev
def inn(x:Int)(row v:List Int):Nat→List Int
 | 0=>v
 | k+1=>(inn x row v k).set k (w64 ((inn x row v k).getD k 0+w64 (x*row.getD k 0)))
section
variable{C:CT}(hC:Closed Tryz.prog G1 md0 C)
include hC
end
end Go.Proofs.YthggfnefjbckeaaGreatDoor.X
set_option maxHeartbeats 2000000
set_option maxRecDepth 8000
set_option linter.unusedSimpArgs false
set_option linter.unusedVariables false
open Nat renaming reduceBEq→N1,reduceAdd→N2,reduceSub→N3,reduceMul→N4,reduceEqDiff→N5,reduceLeDiff→N6,reduceLT→N7
open Int renaming reduceLE→I1,reduceLT→I2,reduceToNat→I3
namespace Go.Proofs.YthggfnefjbckeaaGreatDoor.X
open Go
attribute [local irreducible] Ev szSS szRows
def run(k:Int)(n:Nat):List Int:=(List.range n).map (fun j:Nat=>k+(j:Int))
section
variable{C:CT}(hC:Closed Tryz.prog G1 md0 C)
include hC
end
end Go.Proofs.YthggfnefjbckeaaGreatDoor.X
set_option maxHeartbeats 2000000
set_option maxRecDepth 8000
set_option linter.unusedSimpArgs false
set_option linter.unusedVariables false
open Nat renaming reduceBEq→N1,reduceAdd→N2,reduceSub→N3,reduceMul→N4,reduceEqDiff→N5,reduceLeDiff→N6,reduceLT→N7
open Int renaming reduceLE→I1,reduceLT→I2,reduceToNat→I3
namespace Go.Proofs.YthggfnefjbckeaaGreatDoor.X
open Go
attribute [local irreducible] Ev szSS szRows
section
variable{C:CT}(hC:Closed Tryz.prog G1 md0 C)
include hC
end
end Go.Proofs.YthggfnefjbckeaaGreatDoor.X
set_option maxHeartbeats 2000000
set_option maxRecDepth 8000
set_option linter.unusedSimpArgs false
set_option linter.unusedVariables false
open Nat renaming reduceBEq→N1,reduceAdd→N2,reduceSub→N3,reduceMul→N4,reduceEqDiff→N5,reduceLeDiff→N6,reduceLT→N7
open Int renaming reduceLE→I1,reduceLT→I2,reduceToNat→I3
namespace Go.Proofs.YthggfnefjbckeaaGreatDoor.X
open Go
attribute [local irreducible] Ev szSS szRows
theorem RetTo_no{h:Heap}:RetTo h .nil (.ow 1 []):=⟨.nil,h,by simp[conR,isF],by simp[NilTo]⟩
section
variable{C:CT}(hC:Closed Tryz.prog G1 md0 C)
include hC
theorem t139(l:List Int)(hl:l.length<2^30):Ev C 139 [.sl (ints l)] (.ow 1 (ints l)):=by
 refine rT hC Q139 ?_ (own_ints l)
 simp only[c139,push_cast,↓J1,↓J2,N1,N2,N3,reduceCtorEq,N4,N5,N6,reduceIte,N7,I1,I2,I3]
 intro b hb
 refine ifB_intro (fun h=>?_) (fun h=>?_)
 ·have:=hb h
  rw[this]
  exact RetTo_no
 ·have e:((ints l).all fun e=>e.length==1)=true:=by simp[ints]
  simp only[e,ints_length,Nat.zero_add,push_cast,↓J1,↓J2,N1,N2,N3,reduceCtorEq,N4,N5,N6,reduceIte,N7,I1,I2,I3]
  refine⟨by omega,?_⟩
  exact RetTo_ow (by simp[hget]) (by rw[ints_length])
end
end Go.Proofs.YthggfnefjbckeaaGreatDoor.X
set_option maxHeartbeats 1000000
set_option maxRecDepth 8000
set_option linter.unusedSimpArgs false
set_option linter.unusedVariables false
open Nat renaming reduceBEq→N1,reduceAdd→N2,reduceSub→N3,reduceMul→N4,reduceEqDiff→N5,reduceLeDiff→N6,reduceLT→N7
open Int renaming reduceLE→I1,reduceLT→I2,reduceToNat→I3
namespace Go.Proofs.YthggfnefjbckeaaGreatDoor.X
open Go
attribute [local irreducible] Ev
section
variable{C:CT}(hC:Closed Tryz.prog G1 md0 C)
include hC
theorem t64o(q:List Int)(hq:q.length<2^30):Ev C 64 [.sl (ints q)] (.ow 1 (ints q)):=by
 have hb:(ints q).all (fun e=>e.length==1)=true:=List.all_eq_true.2 (by simp[ints])
 refine rT hC Q64 ?_ (by simp only[own_ints])
 simp only[c64,ints_length,hb,push_cast,↓J1,↓J2,N1,N2,N3,reduceCtorEq,N4,N5,N6,reduceIte,N7,I1,I2,I3]
 have tku:List.take q.length (ints q)=ints q:=List.take_of_length_le (by rw[ints_length];omega)
 and_intros
 all_goals first
  | omega
  | skip
 all_goals exact RetTo_of (by simp only[conR,conRL,isF,hget,hdel,List.drop_zero,List.take_length,if_true,if_false,reduceIte,N5,reduceCtorEq,tku];rfl)
end
end Go.Proofs.YthggfnefjbckeaaGreatDoor.X
set_option maxHeartbeats 1500000
set_option maxRecDepth 8000
set_option linter.unusedSimpArgs false
set_option linter.unusedVariables false
open Nat renaming reduceBEq→N1,reduceAdd→N2,reduceSub→N3,reduceMul→N4,reduceEqDiff→N5,reduceLeDiff→N6,reduceLT→N7
open Int renaming reduceLE→I1,reduceLT→I2,reduceToNat→I3
namespace Go.Proofs.YthggfnefjbckeaaGreatDoor.X
open Go
attribute [local irreducible] Ev
section
variable{C:CT}(hC:Closed Tryz.prog G1 md0 C)
include hC
end
end Go.Proofs.YthggfnefjbckeaaGreatDoor.X
set_option maxHeartbeats 1500000
set_option maxRecDepth 8000
set_option linter.unusedSimpArgs false
set_option linter.unusedVariables false
open Nat renaming reduceBEq→N1,reduceAdd→N2,reduceSub→N3,reduceMul→N4,reduceEqDiff→N5,reduceLeDiff→N6,reduceLT→N7
open Int renaming reduceLE→I1,reduceLT→I2,reduceToNat→I3
namespace Go.Proofs.YthggfnefjbckeaaGreatDoor.X
open Go
attribute [local irreducible] Ev
section
variable{C:CT}(hC:Closed Tryz.prog G1 md0 C)
include hC
theorem t65(a b:Int):Ev C 65 [.int .i64 a,.int .i64 b] (.int .i64 (if a<b then a else b)):=by
 refine rT hC Q65 ?_
 simp only[c65,push_cast,↓J1,↓J2,N1,N2,N3,reduceCtorEq,N4,N5,N6,reduceIte,N7,I1,I2,I3]
 cases g:decide (a<b)
 ·have h1:=of_decide_eq_false g
  simp only[if_neg h1,push_cast,↓J1,↓J2,N1,N2,N3,reduceCtorEq,N4,N5,N6,reduceIte,N7,I1,I2,I3]
 ·have h1:=of_decide_eq_true g
  simp only[if_pos h1,push_cast,↓J1,↓J2,N1,N2,N3,reduceCtorEq,N4,N5,N6,reduceIte,N7,I1,I2,I3]
end
end Go.Proofs.YthggfnefjbckeaaGreatDoor.X
set_option maxHeartbeats 1500000
set_option maxRecDepth 8000
set_option linter.unusedSimpArgs false
set_option linter.unusedVariables false
open Nat renaming reduceBEq→N1,reduceAdd→N2,reduceSub→N3,reduceMul→N4,reduceEqDiff→N5,reduceLeDiff→N6,reduceLT→N7
open Int renaming reduceLE→I1,reduceLT→I2,reduceToNat→I3
namespace Go.Proofs.YthggfnefjbckeaaGreatDoor.X
open Go
attribute [local irreducible] Ev
section
variable{C:CT}(hC:Closed Tryz.prog G1 md0 C)
include hC
end
end Go.Proofs.YthggfnefjbckeaaGreatDoor.X
set_option maxHeartbeats 1000000
set_option maxRecDepth 8000
set_option linter.unusedSimpArgs false
set_option linter.unusedVariables false
open Nat renaming reduceBEq→N1,reduceAdd→N2,reduceSub→N3,reduceMul→N4,reduceEqDiff→N5,reduceLeDiff→N6,reduceLT→N7
open Int renaming reduceLE→I1,reduceLT→I2,reduceToNat→I3
namespace Go.Proofs.YthggfnefjbckeaaGreatDoor.X
open Go
theorem owner_cnt{s:Sta}{b:Brd}{sd i:Int}(h:staOk b s=true)(hs:sd=0∨sd=1)(hi:0≤i)(ho:owner s i≠1-sd):cnt s.us i (1-sd)=0:=by
 have h1:=own_cnt h hs hi ho
 have hun:=sta_all h
 rw[fil_len (Nat.le_refl _),List.take_length] at h1
 rcases Nat.eq_zero_or_pos (cnt s.us i (1-sd)) with h0 | h0
 ·exact h0
 exfalso
 have h2:s.us.countP (inHex i)=cnt s.us i sd+cnt s.us i (1-sd):=by
  clear h1 ho h h0
  generalize s.us=us at hun
  induction us with
  | nil=>rfl
  | cons u us ih=>
   simp only[List.all_cons,Bool.and_eq_true] at hun
   have hsd:=un_sd hun.1
   have ih:=ih hun.2
   simp only[cnt,List.countP_cons] at ih⊢
   have:(if inHex i u=true then 1 else 0)=(if isAt i sd u=true then 1 else 0)+(if isAt i (1-sd) u=true then(1:Nat) else 0):=by
    simp only[inHex,isAt,Bool.and_eq_true,decide_eq_true_eq]
    by_cases h1:u.at_=i
    ·rcases hsd with e | e<;>rcases hs with e2 | e2<;>simp[h1,e,e2]
    ·simp[h1]
   omega
 omega
end Go.Proofs.YthggfnefjbckeaaGreatDoor.X
set_option maxHeartbeats 1000000
set_option maxRecDepth 8000
set_option linter.unusedSimpArgs false
set_option linter.unusedVariables false
open Nat renaming reduceBEq→N1,reduceAdd→N2,reduceSub→N3,reduceMul→N4,reduceEqDiff→N5,reduceLeDiff→N6,reduceLT→N7
open Int renaming reduceLE→I1,reduceLT→I2,reduceToNat→I3
namespace Go.Proofs.YthggfnefjbckeaaGreatDoor.X
open Go
def redU(u v:Un):Prop:=v.sd=u.sd∧v.k=u.k∧0≤v.st∧v.st≤u.st∧(v.at_= -1∨v.at_=u.at_∧0<v.st)
def lose1(u:Un)(n:Int):Un:=⟨u.sd,u.k,(if u.st-n≤0 then -1 else u.at_),(if u.st-n≤0 then 0 else u.st-n)⟩
def loseK(us:List Un)(k:Nat)(n:Int):List Un:=us.set k (lose1 (us.getD k un0) n)
theorem loseK_len(us:List Un)(k:Nat)(n:Int):(loseK us k n).length=us.length:=by simp[loseK]
theorem redU_refl{b:Brd}{u:Un}(h:unOk b u=true):redU u u:=by
 simp only[unOk,placed,inR,Bool.and_eq_true,Bool.or_eq_true,decide_eq_true_eq] at h
 refine⟨rfl,rfl,h.1.2.1,Int.le_refl _,?_⟩
 rcases h.2 with h | h
 ·exact .inl h
 ·exact .inr ⟨rfl,h.1.1⟩
def RedL(us vs:List Un):Prop:=vs.length=us.length∧ ∀j (h:j<us.length) (h':j<vs.length),redU us[j] vs[j]
theorem red_cnt: ∀{us vs:List Un},RedL us vs→ ∀{a sd:Int},0≤a→cnt vs a sd≤cnt us a sd
 | [],[],_,a,sd,_=>Nat.le_refl _
 | [],v::vs,h,a,sd,_=>by have:=h.1;simp at this
 | u::us,[],h,a,sd,_=>by have:=h.1;simp at this
 | u::us,v::vs,h,a,sd,ha=>by
  have h0:redU u v:=h.2 0 (by simp) (by simp)
  have ih:=red_cnt (us:=us) (vs:=vs) ⟨by have:=h.1;simpa using this,fun j hj hj'=>h.2 (j+1) (by simpa using hj) (by simpa using hj')⟩ (a:=a) (sd:=sd) ha
  simp only[cnt,List.countP_cons] at ih⊢
  have:(if isAt a sd v=true then 1 else 0)≤(if isAt a sd u=true then(1:Nat) else 0):=by
   obtain⟨h1,h2,h3,h4,h5⟩:=h0
   by_cases hv:isAt a sd v=true
   ·have hu:isAt a sd u=true:=by
     simp only[isAt,Bool.and_eq_true,decide_eq_true_eq] at hv⊢
     rcases h5 with h5 | h5
     ·omega
     ·exact⟨by omega,by omega⟩
    rw[if_pos hv,if_pos hu];exact Nat.le_refl _
   ·rw[if_neg hv];exact Nat.zero_le _
  omega
theorem red_ok{b:Brd}{s:Sta}{vs:List Un}(h:staOk b s=true)(hr:RedL s.us vs):staOk b ⟨s.t,s.w,vs⟩=true:=by
 have hun:=sta_all h
 simp only[staOk,staOk0,Bool.and_eq_true,decide_eq_true_eq] at h⊢
 refine⟨h.1,⟨⟨h.2.1.1.1,by rw[hr.1];exact h.2.1.1.2⟩,?_⟩,?_⟩
 ·refine List.all_eq_true.2 fun v hv=>?_
  obtain⟨j,hj,rfl⟩:=List.getElem_of_mem hv
  have hj':j<s.us.length:=by rw[←hr.1];exact hj
  have h0:=List.all_eq_true.1 hun _ (List.getElem_mem hj')
  obtain⟨h1,h2,h3,h4,h5⟩:=hr.2 j hj' hj
  simp only[unOk,placed,inR,Bool.and_eq_true,Bool.or_eq_true,decide_eq_true_eq] at h0⊢
  rw[h1,h2]
  refine⟨⟨⟨h0.1.1.1,h0.1.1.2⟩,h3,by omega⟩,?_⟩
  rcases h5 with h5 | h5
  ·exact .inl h5
  ·rw[h5.1]
   rcases h0.2 with h6 | h6
   ·exact .inl h6
   ·exact .inr ⟨⟨h5.2,h6.1.2⟩,h6.2⟩
 ·refine List.all_eq_true.2 fun v hv=>?_
  obtain⟨j,hj,rfl⟩:=List.getElem_of_mem hv
  have hj':j<s.us.length:=by rw[←hr.1];exact hj
  have h0:=List.all_eq_true.1 h.2.2 _ (List.getElem_mem hj')
  obtain⟨h1,h2,h3,h4,h5⟩:=hr.2 j hj' hj
  simp only[stackOk,Bool.not_eq_true',Bool.and_eq_false_iff,Bool.or_eq_false_iff,decide_eq_false_iff_not] at h0⊢
  by_cases ha:0≤vs[j].at_
  ·rcases h5 with h5 | h5
   ·omega
   ·rcases h0 with h0 | h0
    ·omega
    ·refine .inr ?_
     have r1:=red_cnt hr (a:=vs[j].at_) (sd:=1-vs[j].sd) ha
     have r2:=red_cnt hr (a:=vs[j].at_) (sd:=vs[j].sd) ha
     rw[←h5.1,←h1] at h0
     omega
  ·exact .inl ha
end Go.Proofs.YthggfnefjbckeaaGreatDoor.X
set_option maxHeartbeats 4000000
set_option maxRecDepth 8000
set_option linter.unusedSimpArgs false
set_option linter.unusedVariables false
open Nat renaming reduceBEq→N1,reduceAdd→N2,reduceSub→N3,reduceMul→N4,reduceEqDiff→N5,reduceLeDiff→N6,reduceLT→N7
open Int renaming reduceLE→I1,reduceLT→I2,reduceToNat→I3
namespace Go.Proofs.YthggfnefjbckeaaGreatDoor.X
open Go
attribute [local irreducible] Ev
section
variable{C:CT}(hC:Closed Tryz.prog G1 md0 C)
include hC
end
end Go.Proofs.YthggfnefjbckeaaGreatDoor.X
