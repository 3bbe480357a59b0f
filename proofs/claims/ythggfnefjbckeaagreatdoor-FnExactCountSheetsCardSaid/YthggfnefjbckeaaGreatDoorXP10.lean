/- A part of the proof: lemmas on the machine or on the functions that the law reaches. No condition of its own. -/
import Derived.Test.YthggfnefjbckeaaGreatDoorXP9
import Derived.Test.YthggfnefjbckeaaGreatDoorXP8
import Derived.Test.YthggfnefjbckeaaGreatDoorXP6
import Derived.Test.YthggfnefjbckeaaGreatDoorXP3
import Derived.Test.YthggfnefjbckeaaGreatDoorXP4
set_option maxHeartbeats 4000000
set_option maxRecDepth 8000
set_option linter.unusedSimpArgs false
set_option linter.unusedVariables false
open Nat renaming reduceBEq→N1,reduceAdd→N2,reduceSub→N3,reduceMul→N4,reduceEqDiff→N5,reduceLeDiff→N6,reduceLT→N7
open Int renaming reduceLE→I1,reduceLT→I2,reduceToNat→I3
namespace Go.Proofs.YthggfnefjbckeaaGreatDoor.X
open Go
attribute [local irreducible] Ev
theorem ordsAt_len{b:Brd}(s:Sta)(u:Int)(x:Un)(i:Int)(hn:b.m.t.length≤100):(ordsAt b s u x i).length≤101:=by
 rw[ordsAt_cl]
 have:=clT_le b s x.sd i u (pthM b x.k s.w x.at_.toNat i.toNat) b.m.t.length
 simp;omega
theorem choI_snoc(b:Brd)(s:Sta)(u:Int)(x:Un){l:List Int}{j:Nat}(h:j<l.length):choI b s u x (l.take (j+1))=if goTo s x l[j]&&decide ((choI b s u x (l.take j)).length<12) then choI b s u x (l.take j)++ordsAt b s u x l[j] else choI b s u x (l.take j):=by
 simp only[choI,List.take_succ_eq_append_getElem h,List.foldl_append,List.foldl_cons,List.foldl_nil]
 rfl
theorem choI_len{b:Brd}(s:Sta)(u:Int)(x:Un)(hn:b.m.t.length≤100)(l:List Int): ∀j,j≤l.length→(choI b s u x (l.take j)).length≤200
 | 0,_=>by have:=ordsAt_len (b:=b) s u x x.at_ hn;simp only[List.take_zero,choI,List.foldl_nil];omega
 | j+1,hj=>by
  have ih:=choI_len s u x hn l j (by omega)
  have:=ordsAt_len (b:=b) s u x (l[j]'(by omega)) hn
  rw[choI_snoc b s u x (show j<l.length by omega)]
  split
  ·rename_i g
   simp only[Bool.and_eq_true,decide_eq_true_eq] at g
   simp only[List.length_append];omega
  ·exact ih
section
variable{C:CT}(hC:Closed Tryz.prog G1 md0 C)(hF:FrzC C)
include hC hF
theorem t370(b:Brd)(s:Sta)(k:Nat)(hs:staOk b s=true)(hk:k<s.us.length)(ha:0≤(unOf s k).at_)(hb:BrdB (2^50) b):
  C 37 [brdF b,.agg (staF s),.int .i64 (k:Int)] [] 0 fun v h' _=>RetTo h' v (.ow 3 (orXs ((choI b s k (unOf s k) (rchM b s (unOf s k))).take 12))):=by
 have hwh:=brd_wh (sta_brd hs)
 have hlen:=sta_len hs
 have gb:=sta_brd hs
 have hmw:=mp_wh (brd_mp gb)
 have hn:=(brd_n gb).1
 have hx:=List.all_eq_true.1 (sta_all hs) _ (List.getElem_mem hk)
 rw[←un_at hk] at hx
 have e1:=usl_get hk
 rw[show s.us.getD k un0=unOf s k from rfl] at e1
 have hka:=un_kind gb (show inR 0 (b.r.ks.length-1) (unOf s k).k=true by simp only[unOk,Bool.and_eq_true] at hx;exact hx.1.1.2)
 have hw:0≤s.w∧s.w≤2:=by simp only[staOk,staOk0,inR,Bool.and_eq_true,decide_eq_true_eq] at hs;omega
 have hat:=unOk_at hx (by omega)
 have hsd:=un_sd hx
 have cA:=fun i (hi:i<b.m.t.length) h0=>t74n hC hF b s k i [(2,.var (unA (unOf s k))),(1,.var [.int .i64 s.t,.int .i64 s.w,.sl (uns s.us)]),(0,.var [.sl (tersF b.r.ts),.sl (kins b.r.ks),.int .i64 b.r.stack,.int .i64 b.r.river,.int .i64 b.r.road,.int .i64 b.r.supply,.int .i64 b.r.turns,.int .i64 b.m.w,.int .i64 b.m.h,.sl (ints b.m.t),.sl (ints b.m.ri),.sl (ints b.m.ro)])] hs hk ha hi h0 hb (by simp only[killH,killL,killS,unA]) (fun ρ=>by simp[canB,renO,renL,ren,unA]) (fun m hm=>by simp[hdel,show¬2=m by omega,show¬1=m by omega,show¬0=m by omega])
 have cB:=fun(i:Nat) (hi:i<b.m.t.length) h0 (L:List Od_) (hL:L.length≤2^20) (R:List Int)=>t74r hC hF b s k i [(4,.slice 1 (ints R)),(3,.slice 3 (orXs L)),(2,.var (unA (unOf s k))),(1,.var [.int .i64 s.t,.int .i64 s.w,.sl (uns s.us)]),(0,.var [.sl (tersF b.r.ts),.sl (kins b.r.ks),.int .i64 b.r.stack,.int .i64 b.r.river,.int .i64 b.r.road,.int .i64 b.r.supply,.int .i64 b.r.turns,.int .i64 b.m.w,.int .i64 b.m.h,.sl (ints b.m.t),.sl (ints b.m.ri),.sl (ints b.m.ro)])] L hL [(4,.slice 1 (ints R)),(2,.var (unA (unOf s k))),(1,.var [.int .i64 s.t,.int .i64 s.w,.sl (uns s.us)]),(0,.var [.sl (tersF b.r.ts),.sl (kins b.r.ks),.int .i64 b.r.stack,.int .i64 b.r.river,.int .i64 b.r.road,.int .i64 b.r.supply,.int .i64 b.r.turns,.int .i64 b.m.w,.int .i64 b.m.h,.sl (ints b.m.t),.sl (ints b.m.ri),.sl (ints b.m.ro)])] (by simp[hget]) (by simp only[killH,killL,killS,unA]) (by simp[hdel]) hs hk ha hi h0 hb (by simp only[killH,killL,killS,unA]) (fun ρ=>by simp[canB,renO,renL,ren,unA]) (fun m hm=>by simp[hdel,show¬4=m by omega,show¬2=m by omega,show¬1=m by omega,show¬0=m by omega])
 have c1:=t75 hC b s (unOf s k) hs hx ha hb
 have c2:=fun i=>t76 hC s i (by omega)
 obtain⟨a,ea⟩: ∃a:Nat,(unOf s k).at_=a:=⟨(unOf s k).at_.toNat,by omega⟩
 have eat:(unOf s k).at_.toNat=a:=by omega
 have hR: ∀y∈rchM b s (unOf s k),∃i:Nat,y=i∧i<b.m.t.length∧0≤(farF b (unOf s k).k s.w (unOf s k).at_.toNat).getD i 0:=fun y hy=>by
  obtain⟨i,rfl,hi,hp⟩:=rng_mem hy
  simp only[inR,Bool.and_eq_true,decide_eq_true_eq] at hp
  exact⟨i,rfl,hi,hp.1⟩
 have h00:0≤(farF b (unOf s k).k s.w (unOf s k).at_.toNat).getD a 0:=by
  rw[eat]
  have:=(rxF_far hn (fwd_ok hka hw) (show a<b.m.t.length by omega)).at_
  simp only[farF];omega
 have cA:=cA a (by omega) h00
 rw[←ea] at cA
 have hcl:=fun l j hj=>choI_len (b:=b) s (k:Int) (unOf s k) hn l j hj
 have hcs:=fun(l:List Int) j (hj:j<l.length)=>choI_snoc b s (k:Int) (unOf s k) hj
 have hc0: ∀l:List Int,choI b s k (unOf s k) (l.take 0)=ordsAt b s k (unOf s k) (unOf s k).at_:=fun l=>rfl
 have hol:=ordsAt_len (b:=b) s (k:Int) (unOf s k) (unOf s k).at_ hn
 have hRl:(rchM b s (unOf s k)).length≤100:=Nat.le_trans (rng_le _ _) hn
 generalize rchM b s (unOf s k)=R at *
 have hgt: ∀y,goTo s (unOf s k) y=(!decide (y=(unOf s k).at_)&&!decide (owner s y=1-(unOf s k).sd)):=fun _=>rfl
 generalize hxe:unOf s k=x at *
 have w1:IntKind.i64.wrap (1-x.sd)=1-x.sd:=wrap64 (by omega) (by omega)
 have tkr: ∀l:List Od_,List.take l.length (orXs l)=orXs l:=fun l=>List.take_of_length_le (by rw[orXs_length];omega)
 have tkR:List.take R.length (ints R)=ints R:=List.take_of_length_le (by rw[ints_length];omega)
 refine Closed.rT hC Q37 ?_
 simp only[brdF,rulF,mpF,List.cons_append,List.nil_append,staF,unA] at *
 simp only[c37,push_cast,↓J1,↓J2,N1,N2,N3,reduceCtorEq,N4,N5,N6,reduceIte,N7,I1,I2,I3]
 repeat' (first
  | simp only[e1,uns_length,ints_length,Int.toNat_natCast,push_cast,↓J1,↓J2,N1,N2,N3,reduceCtorEq,N4,N5,N6,reduceIte,N7,I1,I2,I3]
  | (refine⟨by omega,?_⟩)
  | refine ifB_intro (fun h=>?_) (fun h=>?_))
 refine⟨_,cA,?_⟩
 rintro _ _ _ ⟨rfl,rfl,rfl⟩ _
 repeat' (first
  | simp only[uns_length,ints_length,push_cast,↓J1,↓J2,N1,N2,N3,reduceCtorEq,N4,N5,N6,reduceIte,N7,I1,I2,I3]
  | refine⟨_,c1,?_⟩
  | (refine⟨by omega,?_⟩)
  | refine ifB_intro (fun h=>?_) (fun h=>?_))
 refine RL_count (fun j=>⟨tb 61 .any [(2,.int .i64 (k:Int)),(3,.ptr 0 none 0 0 0),(4,.ptr 1 none 0 0 0),(7,.ptr 2 none 0 0 0),(8,.ref 3 none 3 0 (choI b s k x (R.take j)).length),(25,.ref 4 none 1 0 R.length),(26,.int .i64 (R.length:Int)),(27,.int .i64 (j:Int))],[(4,.slice 1 (ints R)),(3,.slice 3 (orXs (choI b s k x (R.take j)))),(2,.var [.int .i64 x.sd,.int .i64 x.k,.int .i64 x.at_,.int .i64 x.st]),(1,.var [.int .i64 s.t,.int .i64 s.w,.sl (uns s.us)]),(0,.var [.sl (tersF b.r.ts),.sl (kins b.r.ks),.int .i64 b.r.stack,.int .i64 b.r.river,.int .i64 b.r.road,.int .i64 b.r.supply,.int .i64 b.r.turns,.int .i64 b.m.w,.int .i64 b.m.h,.sl (ints b.m.t),.sl (ints b.m.ri),.sl (ints b.m.ro)])],5⟩) (fun _=>True) R.length 0 (by rw[hc0];exact(hdA [(7,4),(5,3),(2,2),(1,1),(0,0)])) (by omega) trivial fun j hj _ J hJ=>?_
 have hcl:=hcl R j hj
 by_cases h1:j<R.length
 ·have hlt:decide ((j:Int)<(R.length:Int))=true:=decide_eq_true (by omega)
  have hJ1:=hJ h1 trivial
  clear hJ cA
  have er:(ints R)[j]?=some [.int .i64 R[j]]:=by simp[ints,h1]
  obtain⟨i,ei,hi,h0⟩:=hR R[j] (List.getElem_mem h1)
  have hcs:=hcs R j h1
  rw[ei] at hcs er
  rw[hcs,hgt] at hJ1
  have cB:=cB i hi h0 (choI b s k x (R.take j)) (by omega) R
  have c2:=c2 i
  generalize choI b s k x (R.take j)=O at *
  cases p1:decide ((i:Int)=x.at_)
  ·cases p2:decide (owner s i=1-x.sd)
   ·by_cases g3:O.length<12
    ·have p3:decide ((O.length:Int)<12)=true:=decide_eq_true (by omega)
     rw[p1,p2,decide_eq_true g3] at hJ1
     simp only[Bool.not_false,Bool.and_self,if_true] at hJ1
     repeat' (first
  | simp only[hlt,er,p1,p2,p3,w1,uns_length,ints_length,Int.toNat_natCast,Bool.not_false,push_cast,↓J1,↓J2,N1,N2,N3,reduceCtorEq,N4,N5,N6,reduceIte,N7,I1,I2,I3]
  | refine⟨_,c2,?_⟩
  | (refine⟨by omega,?_⟩)
  | refine ifB_intro (fun h=>?_) (fun h=>?_))
     refine⟨_,cB,?_⟩
     rintro _ _ _ ⟨rfl,rfl,rfl⟩ _
     repeat' (first
  | simp only[push_cast,↓J1,↓J2,N1,N2,N3,reduceCtorEq,N4,N5,N6,reduceIte,N7,I1,I2,I3]
  | (refine⟨by omega,?_⟩)
  | refine ifB_intro (fun h=>?_) (fun h=>?_))
     exact hJ1 _ (hdA [(4,4),(7,3),(2,2),(1,1),(0,0)])
    ·have p3:decide ((O.length:Int)<12)=false:=decide_eq_false (by omega)
     rw[decide_eq_false g3,Bool.and_false,if_neg Bool.false_ne_true] at hJ1
     repeat' (first
  | simp only[hlt,er,p1,p2,p3,w1,uns_length,ints_length,Int.toNat_natCast,Bool.not_false,push_cast,↓J1,↓J2,N1,N2,N3,reduceCtorEq,N4,N5,N6,reduceIte,N7,I1,I2,I3]
  | refine⟨_,c2,?_⟩
  | (refine⟨by omega,?_⟩)
  | refine ifB_intro (fun h=>?_) (fun h=>?_))
     exact hJ1 _ (hdA [(4,4),(3,3),(2,2),(1,1),(0,0)])
   ·rw[p2,Bool.not_true,Bool.and_false,Bool.false_and,if_neg Bool.false_ne_true] at hJ1
    repeat' (first
  | simp only[hlt,er,p1,p2,w1,uns_length,ints_length,Int.toNat_natCast,Bool.not_false,Bool.not_true,push_cast,↓J1,↓J2,N1,N2,N3,reduceCtorEq,N4,N5,N6,reduceIte,N7,I1,I2,I3]
  | refine⟨_,c2,?_⟩
  | (refine⟨by omega,?_⟩)
  | refine ifB_intro (fun h=>?_) (fun h=>?_))
    exact hJ1 _ (hdA [(4,4),(3,3),(2,2),(1,1),(0,0)])
  ·rw[p1,Bool.not_true,Bool.false_and,Bool.false_and,if_neg Bool.false_ne_true] at hJ1
   repeat' (first
  | simp only[hlt,er,p1,w1,uns_length,ints_length,Int.toNat_natCast,Bool.not_true,push_cast,↓J1,↓J2,N1,N2,N3,reduceCtorEq,N4,N5,N6,reduceIte,N7,I1,I2,I3]
  | (refine⟨by omega,?_⟩)
  | refine ifB_intro (fun h=>?_) (fun h=>?_))
   exact hJ1 _ (hdA [(4,4),(3,3),(2,2),(1,1),(0,0)])
 ·have hlt:decide ((j:Int)<(R.length:Int))=false:=decide_eq_false (by omega)
  obtain rfl:j=R.length:=by omega
  clear hJ cA cB hcs
  rw[List.take_length] at hcl⊢
  generalize choI b s k x R=O at *
  by_cases g3:12<O.length
  ·have p3:((12:Int)<(O.length:Int)):=by omega
   have tk12:List.take 12 (orXs O)=orXs (O.take 12):=orXs_take O 12
   have w12:((12:Int)-0).toNat=12:=rfl
   have hlq:(orXs (O.take 12)).length=12:=by rw[orXs_length];simp;omega
   simp only[hlt,if_pos p3,push_cast,↓J1,↓J2,N1,N2,N3,reduceCtorEq,N4,N5,N6,reduceIte,N7,I1,I2,I3]
   and_intros
   all_goals first
    | omega
    | skip
   exact RetTo_of (by simp only[conR,conRL,isF,hget,hdel,List.drop_zero,List.take_length,if_true,if_false,reduceIte,N5,reduceCtorEq,tk12,w12,hlq];rfl)
  ·have p3: ¬((12:Int)<(O.length:Int)):=by omega
   have e12:O.take 12=O:=List.take_of_length_le (by omega)
   have w12:((O.length:Int)-0).toNat=O.length:=by omega
   rw[e12]
   simp only[hlt,if_neg p3,push_cast,↓J1,↓J2,N1,N2,N3,reduceCtorEq,N4,N5,N6,reduceIte,N7,I1,I2,I3]
   and_intros
   all_goals first
    | omega
    | skip
   exact RetTo_of (by simp only[conR,conRL,isF,hget,hdel,List.drop_zero,List.take_length,if_true,if_false,reduceIte,N5,reduceCtorEq,tkr,w12];rfl)
theorem t37(b:Brd)(s:Sta)(k:Nat)(h:Heap)(n:Nat)(hs:staOk b s=true)(hk:k<s.us.length)(ha:0≤(unOf s k).at_)(hb:BrdB (2^50) b):
  C 37 [brdF b,.agg (staF s),.int .i64 (k:Int)] h n fun v h' n'=>v= .sl (orFs (choM b s k (unOf s k)))∧h'=h∧n'=n:=by
 have:=hF.up (r:= .ow 3 (orXs (choM b s k (unOf s k)))) (h:=h) (n:=n) (t370 hC hF b s k hs hk ha hb) rfl (fun v h' n' hr=>by rw[←cho_eq];exact hr) rfl
 rwa [show frzT (.ow 3 (orXs (choM b s k (unOf s k))))= .sl (orFs (choM b s k (unOf s k))) by simp only[frzT,frz_orXs]] at this
end
end Go.Proofs.YthggfnefjbckeaaGreatDoor.X
set_option maxHeartbeats 4000000
set_option maxRecDepth 8000
set_option linter.unusedSimpArgs false
set_option linter.unusedVariables false
open Nat renaming reduceBEq→N1,reduceAdd→N2,reduceSub→N3,reduceMul→N4,reduceEqDiff→N5,reduceLeDiff→N6,reduceLT→N7
open Int renaming reduceLE→I1,reduceLT→I2,reduceToNat→I3
namespace Go.Proofs.YthggfnefjbckeaaGreatDoor.X
open Go
attribute [local irreducible] Ev
theorem mv_ok{b:Brd}{kd:Int}(g:brdOk b=true)(h:inR 0 (b.r.ks.length-1) kd=true):inR 0 1000 (kindOf b kd).mv=true:=by
 simp only[inR,Bool.and_eq_true,decide_eq_true_eq] at h
 have h2:kd.toNat<b.r.ks.length:=by omega
 have e:kindOf b kd=b.r.ks[kd.toNat]:=by
  simp only[kindOf]
  rw[List.getD,List.getElem?_eq_getElem h2,Option.getD_some]
 have hr:=brd_ru g
 simp only[rulOk,allI,Bool.and_eq_true,List.all_eq_true,List.mem_range] at hr
 have h3:=hr.1.2 _ h2
 simp only[List.getElem?_eq_getElem h2,kinOk,inR,Bool.and_eq_true,decide_eq_true_eq] at h3
 rw[e]
 simp only[inR,Bool.and_eq_true,decide_eq_true_eq]
 omega
def outT(b:Brd)(s:Sta)(u:Int)(x:Un)(l:List Int):List Od_:=(l.filter fun y=>!decide (owner s y=1-x.sd)).flatMap (ordsAt b s u x)
theorem outT_snoc(b:Brd)(s:Sta)(u:Int)(x:Un){l:List Int}{m:Nat}(h:m<l.length):outT b s u x (l.take (m+1))=if decide (owner s l[m]=1-x.sd) then outT b s u x (l.take m) else outT b s u x (l.take m)++ordsAt b s u x l[m]:=by
 simp only[outT,List.take_succ_eq_append_getElem h,List.filter_append,List.flatMap_append]
 cases g:decide (owner s l[m]=1-x.sd)<;>simp[List.filter,g]
theorem outT_len{b:Brd}(s:Sta)(u:Int)(x:Un)(hn:b.m.t.length≤100): ∀l:List Int,(outT b s u x l).length≤101*l.length
 | []=>by simp[outT]
 | y::l=>by
  have ih:=outT_len s u x hn l
  have:=ordsAt_len (b:=b) s u x y hn
  simp only[outT,List.filter_cons] at ih⊢
  split
  ·simp only[List.flatMap_cons,List.length_append,List.length_cons];omega
  ·simp only[List.length_cons];omega
theorem outT_cho{b:Brd}{s:Sta}{k:Nat}(hs:staOk b s=true)(hk:k<s.us.length)(ha:0≤(unOf s k).at_)(R:List Int):outT b s k (unOf s k) ((unOf s k).at_::R.filter fun y=>!decide (y=(unOf s k).at_))=choF b s k (unOf s k) R:=by
 have ho:=owner_own hs hk ha
 simp only[outT,choF,List.filter_cons,decide_eq_false ho,Bool.not_false,if_true,List.flatMap_cons,List.filter_filter]
 congr 2
 refine List.filter_congr fun y _=>?_
 simp only[goTo]
 rw[Bool.and_comm]
theorem ordsAt_near(b:Brd)(s:Sta)(u:Int)(x:Un)(i:Int)(g:brdOk b=true):ordsAt b s u x i=[⟨u,pthM b x.k s.w x.at_.toNat i.toNat,-1⟩]++(nearT b s x.sd i 6).map fun y=>⟨u,pthM b x.k s.w x.at_.toNat i.toNat,y⟩:=by
 rw[near_eq g];rfl
theorem near_new{b:Brd}{s:Sta}{sd i:Int}{d:Nat}(hw:1≤b.m.w)(hd:d<6)(h0:0≤nextM b.m i (d:Nat)):hasI (nearT b s sd i d) (nextM b.m i (d:Nat))=false:=by
 cases g:hasI (nearT b s sd i d) (nextM b.m i (d:Nat))
 ·rfl
 ·exfalso
  obtain⟨e,he,h1,h2,_⟩:=((nearT_ok b s sd i d).2.2 _).1 (hasI_mem.1 g)
  have:=nextM_inj hw hd (by omega) h0 h1.symm
  omega
section
variable{C:CT}(hC:Closed Tryz.prog G1 md0 C)(hF:FrzC C)
include hC hF
theorem t280(X:Se)(s:Sta)(k:Nat)(hs:staOk X.b s=true)(hk:k<s.us.length)(ha:0≤(unOf s k).at_)(hb:BrdB (2^50) X.b):
  C 28 [seF X,.agg (staF s),.int .i64 (k:Int)] [] 0 fun v h' _=>RetTo h' v (.ow 3 (orXs ((choF X.b s k (unOf s k) (rchM X.b s (unOf s k))).take 12))):=by
 have eo:=outT_cho hs hk ha (rchM X.b s (unOf s k))
 rw[←eo]
 clear eo
 have hwh:=brd_wh (sta_brd hs)
 have hlen:=sta_len hs
 have gb:=sta_brd hs
 have hmw:=mp_wh (brd_mp gb)
 have hn:=(brd_n gb).1
 have hx:=List.all_eq_true.1 (sta_all hs) _ (List.getElem_mem hk)
 rw[←un_at hk] at hx
 have e1:=usl_get hk
 rw[show s.us.getD k un0=unOf s k from rfl] at e1
 have hkr:inR 0 (X.b.r.ks.length-1) (unOf s k).k=true:=by simp only[unOk,Bool.and_eq_true] at hx;exact hx.1.1.2
 have hka:=un_kind gb hkr
 have hmv:=mv_ok gb hkr
 have ek:=kins_at hka
 have hk2:=kind_at hka
 have hw:0≤s.w∧s.w≤2:=by simp only[staOk,staOk0,inR,Bool.and_eq_true,decide_eq_true_eq] at hs;omega
 have hat:=unOk_at hx (by omega)
 have hsd:=un_sd hx
 obtain⟨a,ea⟩: ∃a:Nat,(unOf s k).at_=a:=⟨(unOf s k).at_.toNat,by omega⟩
 have eat:(unOf s k).at_.toNat=a:=by omega
 have c1:=t59 hC X.b (unOf s k).k s.w (kindOf X.b (unOf s k).k).mv a hka hw (by omega) hmv hb
 rw[show rchL X.b (unOf s k).k s.w a (kindOf X.b (unOf s k).k).mv X.b.m.t.length=rchM X.b s (unOf s k) by simp only[rchL,rchM,rchT,eat],←ea] at c1
 have hR: ∀y∈rchM X.b s (unOf s k),∃i:Nat,y=i∧i<X.b.m.t.length∧0≤(farF X.b (unOf s k).k s.w a).getD i 0:=fun y hy=>by
  obtain⟨i,rfl,hi,hp⟩:=rng_mem hy
  simp only[inR,Bool.and_eq_true,decide_eq_true_eq,eat] at hp
  exact⟨i,rfl,hi,hp.1⟩
 have h00:0≤(farF X.b (unOf s k).k s.w a).getD a 0:=by
  have:=(rxF_far hn (fwd_ok hka hw) (show a<X.b.m.t.length by omega)).at_
  simp only[farF];omega
 have hRl:(rchM X.b s (unOf s k)).length≤100:=Nat.le_trans (rng_le _ _) hn
 have c2:=fun i=>t60 hC s i (by omega)
 have c3:=fun(i:Nat) (hi:i<X.b.m.t.length) h0=>t61 hC X.b (unOf s k).k s.w a i hka hw (by omega) hi h0 hb
 have hpl:=fun(i:Nat) (hi:i<X.b.m.t.length) h0=>pth_len hka hw (show a<X.b.m.t.length by omega) hi (reach_back hka hw (by omega) hi h0)
 rw[←ea] at c3
 have c4:=fun(i d:Nat) (hi:i<X.b.m.t.length) (hd:d<6)=>t62 hC X.b.m i d hmw.1 hmw.2 (by omega) ⟨by omega,by omega⟩
 have c5:=fun l y hl hx=>t63 hC l y hl hx
 have c6:=fun p hp=>t64o hC p hp
 have c7:=fun a b=>t65 hC a b
 have hHm: ∀y∈(unOf s k).at_::(rchM X.b s (unOf s k)).filter fun y=>!decide (y=(unOf s k).at_),∃i:Nat,y=i∧i<X.b.m.t.length∧0≤(farF X.b (unOf s k).k s.w a).getD i 0:=fun y hy=>by
  rcases List.mem_cons.1 hy with rfl | hy
  ·exact⟨a,ea,by omega,h00⟩
  ·exact hR y (List.mem_filter.1 hy).1
 have eor:=fun(i:Nat)=>ordsAt_near X.b s k (unOf s k) i gb
 have hos:=fun(H:List Int) (m:Nat) (hm:m<H.length)=>outT_snoc X.b s (k:Int) (unOf s k) hm
 have hol:=fun(H:List Int)=>outT_len (b:=X.b) s (k:Int) (unOf s k) hn H
 rw[eat] at eor
 have hxe:unOf s k=unOf s k:=rfl
 generalize rchM X.b s (unOf s k)=R at *
 generalize unOf s k=x at *
 have w1:IntKind.i64.wrap (1-x.sd)=1-x.sd:=wrap64 (by omega) (by omega)
 have tkr: ∀l:List Od_,List.take l.length (orXs l)=orXs l:=fun l=>List.take_of_length_le (by rw[orXs_length];omega)
 have tki: ∀l:List Int,List.take l.length (ints l)=ints l:=fun l=>List.take_of_length_le (by rw[ints_length];omega)
 have ints_one: ∀y:Int,[[AV.int .i64 y]]=ints [y]:=fun _=>rfl
 have ints_app: ∀p q:List Int,ints p++ints q=ints (p++q):=fun p q=>by simp[ints]
 refine Closed.rT hC Q28 ?_
 simp only[seF,brdF,rulF,mpF,ctF,List.cons_append,List.nil_append,staF,unA,kinA] at *
 simp only[c28,push_cast,↓J1,↓J2,N1,N2,N3,reduceCtorEq,N4,N5,N6,reduceIte,N7,I1,I2,I3]
 repeat' (first
  | simp only[e1,ek,uns_length,ints_length,kins_length,Int.toNat_natCast,push_cast,↓J1,↓J2,N1,N2,N3,reduceCtorEq,N4,N5,N6,reduceIte,N7,I1,I2,I3]
  | refine⟨_,c1,?_⟩
  | (refine⟨by omega,?_⟩)
  | refine ifB_intro (fun h=>?_) (fun h=>?_))
 generalize hb':X.b=b at *
 have hhs: ∀j (h:j<R.length),(x.at_::(R.take (j+1)).filter fun y=>!decide (y=x.at_))=if decide (R[j]=x.at_) then(x.at_::(R.take j).filter fun y=>!decide (y=x.at_)) else(x.at_::(R.take j).filter fun y=>!decide (y=x.at_))++[R[j]]:=fun j h=>by
  rw[List.take_succ_eq_append_getElem h,List.filter_append]
  cases g:decide (R[j]=x.at_)<;>simp[List.filter,g]
 have hfl: ∀j,(x.at_::(R.take j).filter fun y=>!decide (y=x.at_)).length≤101:=fun j=>by
  have:=List.length_filter_le (fun y=>!decide (y=x.at_)) (R.take j)
  simp only[List.length_cons]
  have:(R.take j).length≤R.length:=by simp;omega
  omega
 refine RL_count (fun j=>⟨tb 143 .any [(2,.int .i64 (k:Int)),(4,.ptr 0 none 0 0 0),(7,.ptr 1 none 0 0 0),(8,.ptr 2 none 0 0 0),(9,.ref 3 none 1 0 ((x.at_::(R.take j).filter fun y=>!decide (y=x.at_))).length),(53,.ref 4 none 1 0 R.length),(54,.int .i64 (R.length:Int)),(55,.int .i64 (j:Int))],[(4,.slice 1 (ints R)),(3,.slice 1 (ints (x.at_::(R.take j).filter fun y=>!decide (y=x.at_)))),(2,.var [.sl (tersF b.r.ts),.sl (kins b.r.ks),.int .i64 b.r.stack,.int .i64 b.r.river,.int .i64 b.r.road,.int .i64 b.r.supply,.int .i64 b.r.turns,.int .i64 b.m.w,.int .i64 b.m.h,.sl (ints b.m.t),.sl (ints b.m.ri),.sl (ints b.m.ro)]),(1,.var [.int .i64 x.sd,.int .i64 x.k,.int .i64 x.at_,.int .i64 x.st]),(0,.var [.int .i64 s.t,.int .i64 s.w,.sl (uns s.us)])],5⟩) (fun _=>True) R.length 0 (hdA [(5,4),(4,3),(3,2),(2,1),(1,0)]) (by omega) trivial fun j hj _ J hJ=>?_
 have hfl':=hfl j
 by_cases h1:j<R.length
 ·have hlt:decide ((j:Int)<(R.length:Int))=true:=decide_eq_true (by omega)
  have hJ1:=hJ h1 trivial
  clear hJ
  have er:(ints R)[j]?=some [.int .i64 R[j]]:=by simp[ints,h1]
  rw[hhs j h1] at hJ1
  generalize (x.at_::(R.take j).filter fun y=>!decide (y=x.at_))=Hj at *
  generalize R[j]=y at *
  cases p1:decide (y=x.at_)
  ·rw[p1,if_neg Bool.false_ne_true] at hJ1
   have hla:(Hj++[y]).length=Hj.length+1:=by simp
   rw[hla] at hJ1
   repeat' (first
  | simp only[hlt,er,p1,ints_length,Int.toNat_natCast,tki,allScs,apYR_sc,ints_sn,Bool.not_false,push_cast,↓J1,↓J2,N1,N2,N3,reduceCtorEq,N4,N5,N6,reduceIte,N7,I1,I2,I3]
  | (refine⟨by omega,?_⟩)
  | refine ifB_intro (fun h=>?_) (fun h=>?_))
   exact hJ1 _ (hdA [(4,4),(6,3),(2,2),(1,1),(0,0)])
  ·rw[p1,if_pos rfl] at hJ1
   repeat' (first
  | simp only[hlt,er,p1,ints_length,Int.toNat_natCast,Bool.not_true,push_cast,↓J1,↓J2,N1,N2,N3,reduceCtorEq,N4,N5,N6,reduceIte,N7,I1,I2,I3]
  | (refine⟨by omega,?_⟩)
  | refine ifB_intro (fun h=>?_) (fun h=>?_))
   exact hJ1 _ (hdA [(4,4),(3,3),(2,2),(1,1),(0,0)])
 have hlt:decide ((j:Int)<(R.length:Int))=false:=decide_eq_false (by omega)
 obtain rfl:j=R.length:=by omega
 clear hJ hhs hfl
 rw[List.take_length] at hfl'⊢
 generalize (x.at_::R.filter fun y=>!decide (y=x.at_))=H at *
 have hos:=fun m hm=>hos H m hm
 repeat' (first
  | simp only[hlt,ints_length,push_cast,↓J1,↓J2,N1,N2,N3,reduceCtorEq,N4,N5,N6,reduceIte,N7,I1,I2,I3]
  | (refine⟨by omega,?_⟩)
  | refine ifB_intro (fun h=>?_) (fun h=>?_))
 refine RL_count (fun m=>⟨tb 143 .any [(14,.ref 4 none 3 0 (outT b s k x (H.take m)).length),(2,.int .i64 (k:Int)),(4,.ptr 0 none 0 0 0),(7,.ptr 1 none 0 0 0),(8,.ptr 2 none 0 0 0),(68,.ref 3 none 1 0 H.length),(69,.int .i64 (H.length:Int)),(70,.int .i64 (m:Int))],[(4,.slice 3 (orXs (outT b s k x (H.take m)))),(3,.slice 1 (ints H)),(2,.var [.sl (tersF b.r.ts),.sl (kins b.r.ks),.int .i64 b.r.stack,.int .i64 b.r.river,.int .i64 b.r.road,.int .i64 b.r.supply,.int .i64 b.r.turns,.int .i64 b.m.w,.int .i64 b.m.h,.sl (ints b.m.t),.sl (ints b.m.ri),.sl (ints b.m.ro)]),(1,.var [.int .i64 x.sd,.int .i64 x.k,.int .i64 x.at_,.int .i64 x.st]),(0,.var [.int .i64 s.t,.int .i64 s.w,.sl (uns s.us)])],5⟩) (fun _=>True) H.length 0 (by rw[show outT b s k x (H.take 0)=[] from rfl];exact(hdO 14 4 3 [(3,3),(2,2),(1,1),(0,0)])) (by omega) trivial fun m hm _ J hJ=>?_
 have hol:=hol (H.take m)
 have hml:(H.take m).length=m:=by simp;omega
 rw[hml] at hol
 by_cases h1:m<H.length
 ·have hlt:decide ((m:Int)<(H.length:Int))=true:=decide_eq_true (by omega)
  have hJ1:=hJ h1 trivial
  clear hJ
  have er:(ints H)[m]?=some [.int .i64 H[m]]:=by simp[ints,h1]
  obtain⟨i,ei,hi,h0⟩:=hHm H[m] (List.getElem_mem h1)
  have hos:=hos m h1
  rw[ei] at hos er
  rw[hos] at hJ1
  generalize outT b s k x (H.take m)=A0 at *
  have c2i:=c2 i
  cases p1:decide (owner s i=1-x.sd)
  ·rw[p1,if_neg Bool.false_ne_true] at hJ1
   have c3:=c3 i hi h0
   have hpl:=hpl i hi h0
   have eor:=eor i
   rw[Int.toNat_natCast] at eor
   rw[eor] at hJ1
   clear eor
   have c4:=fun d hd=>c4 i d hi hd
   generalize pthM b x.k s.w a i=pth at *
   have c6:=c6 pth (by omega)
   have tkp:=tki pth
   have hq:=orXs_path A0 k pth
   have isNf: ∀(n a:Int) (l:List (List AV)),allScs [[AV.int .i64 n,AV.sl l,AV.int .i64 a]]=false:=fun _ _ _=>rfl
   have isNs: ∀(n a:Int) (l:List (List AV)),allScs [[AV.int .i64 n,AV.ow 1 l,AV.int .i64 a]]=false:=fun _ _ _=>rfl
   repeat' (first
  | simp only[hlt,er,p1,w1,uns_length,ints_length,Int.toNat_natCast,push_cast,↓J1,↓J2,N1,N2,N3,reduceCtorEq,N4,N5,N6,reduceIte,N7,I1,I2,I3]
  | refine⟨_,c2i,?_⟩
  | (refine⟨by omega,?_⟩)
  | refine ifB_intro (fun h=>?_) (fun h=>?_))
   refine open_frz hF c3 (by simp only[push_cast,↓J1,↓J2,N1,N2,N3,reduceCtorEq,N4,N5,N6,reduceIte,N7,I1,I2,I3]) ?_
   rw[show frzT (.tup [.ow 1 (ints pth),.bool true])= .tup [.sl (ints pth),.bool true] by simp only[frzT,frzL,frzLL_ints]]
   have hAl:(A0++([⟨(k:Int),pth,-1⟩]:List Od_)).length=A0.length+1:=by simp
   repeat' (first
  | simp only[uns_length,ints_length,orXs_length,isNf,apYR_ns,tkr,hq,Int.toNat_natCast,push_cast,↓J1,↓J2,N1,N2,N3,reduceCtorEq,N4,N5,N6,reduceIte,N7,I1,I2,I3]
  | (refine⟨by omega,?_⟩)
  | refine ifB_intro (fun h=>?_) (fun h=>?_))
   rw[List.append_cons] at hJ1
   rw[←hAl]
   generalize A0++([⟨(k:Int),pth,-1⟩]:List Od_)=A at *
   refine RL_count (fun d=>⟨tb 143 .any [(19,.ref 5 none 1 0 (nearT b s x.sd i d).length),(14,.ref 4 none 3 0 (A).length),(2,.int .i64 (k:Int)),(4,.ptr 0 none 0 0 0),(7,.ptr 1 none 0 0 0),(8,.ptr 2 none 0 0 0),(68,.ref 3 none 1 0 H.length),(69,.int .i64 (H.length:Int)),(70,.int .i64 (m:Int)),(16,.int .i64 (i:Int)),(17,.sl (ints pth)),(20,.int .i64 (d:Int))],[(5,.slice 1 (ints (nearT b s x.sd i d))),(4,.slice 3 (orXs (A))),(3,.slice 1 (ints H)),(2,.var [.sl (tersF b.r.ts),.sl (kins b.r.ks),.int .i64 b.r.stack,.int .i64 b.r.river,.int .i64 b.r.road,.int .i64 b.r.supply,.int .i64 b.r.turns,.int .i64 b.m.w,.int .i64 b.m.h,.sl (ints b.m.t),.sl (ints b.m.ri),.sl (ints b.m.ro)]),(1,.var [.int .i64 x.sd,.int .i64 x.k,.int .i64 x.at_,.int .i64 x.st]),(0,.var [.int .i64 s.t,.int .i64 s.w,.sl (uns s.us)])],6⟩) (fun _=>True) 6 0 (by rw[show nearT b s x.sd i 0=[] from rfl];exact(hdO 19 5 1 [(6,4),(3,3),(2,2),(1,1),(0,0)])) (by omega) trivial fun d hd _ JJ hJJ=>?_
   have hnl:=(nearT_ok b s x.sd i d).2.1
   have hnm:=(nearT_ok b s x.sd i d).2.2
   by_cases h2:d<6
   ·have hlt6:decide ((d:Int)<6)=true:=decide_eq_true (by omega)
    have hJ2:=hJJ h2 trivial
    clear hJJ hJ1 hnm
    have c4:=c4 d h2
    have hns:=nearT_succ b s x.sd i d
    have hnw:=near_new (b:=b) (s:=s) (sd:=x.sd) (i:=(i:Int)) hmw.1.1 h2
    rw[hns] at hJ2
    generalize nearT b s x.sd i d=N at *
    generalize nextM b.m i d=y at *
    have c2y:=c2 y
    cases p2:decide (0≤y)
    ·rw[if_neg (fun h=>absurd h.1 (of_decide_eq_false p2))] at hJ2
     repeat' (first
  | simp only[hlt6,p2,w1,uns_length,push_cast,↓J1,↓J2,N1,N2,N3,reduceCtorEq,N4,N5,N6,reduceIte,N7,I1,I2,I3]
  | refine⟨_,c4,?_⟩
  | (refine⟨by omega,?_⟩)
  | refine ifB_intro (fun h=>?_) (fun h=>?_))
     exact hJ2 _ (hdA [(5,5),(4,4),(3,3),(2,2),(1,1),(0,0)])
    cases p3:decide (owner s y=1-x.sd)
    ·rw[if_neg (fun h=>absurd h.2 (of_decide_eq_false p3))] at hJ2
     repeat' (first
  | simp only[hlt6,p2,p3,w1,uns_length,push_cast,↓J1,↓J2,N1,N2,N3,reduceCtorEq,N4,N5,N6,reduceIte,N7,I1,I2,I3]
  | refine⟨_,c4,?_⟩
  | refine⟨_,c2y,?_⟩
  | (refine⟨by omega,?_⟩)
  | refine ifB_intro (fun h=>?_) (fun h=>?_))
     exact hJ2 _ (hdA [(5,5),(4,4),(3,3),(2,2),(1,1),(0,0)])
    ·rw[if_pos ⟨of_decide_eq_true p2,of_decide_eq_true p3⟩] at hJ2
     have c5:=c5 N y (by omega) (hnw (of_decide_eq_true p2))
     have tkN:=tki N
     repeat' (first
  | simp only[hlt6,p2,p3,w1,uns_length,push_cast,↓J1,↓J2,N1,N2,N3,reduceCtorEq,N4,N5,N6,reduceIte,N7,I1,I2,I3]
  | refine⟨_,c4,?_⟩
  | refine⟨_,c2y,?_⟩
  | (refine⟨by omega,?_⟩)
  | refine ifB_intro (fun h=>?_) (fun h=>?_))
     refine open_own hF c5 (by simp only[tkN,frzLL_ints,push_cast,↓J1,↓J2,N1,N2,N3,reduceCtorEq,N4,N5,N6,reduceIte,N7,I1,I2,I3]) ?_
     repeat' (first
  | simp only[ints_length,push_cast,↓J1,↓J2,N1,N2,N3,reduceCtorEq,N4,N5,N6,reduceIte,N7,I1,I2,I3]
  | refine ifB_intro (fun h=>?_) (fun h=>?_))
     exact hJ2 _ (hdA [(6,5),(4,4),(3,3),(2,2),(1,1),(0,0)])
   have hlt6:decide ((d:Int)<6)=false:=decide_eq_false (by omega)
   have ed:d=6:=by omega
   rw[show nearT b s x.sd i d=nearT b s x.sd i 6 by rw[ed]]
   have hnl:(nearT b s x.sd i 6).length≤6:=(nearT_ok b s x.sd i 6).2.1
   have hnm:=(nearT_ok b s x.sd i 6).2.2
   clear hJJ c4
   have hn0: ∀y∈nearT b s x.sd i 6,0≤y:=fun y hy=>by
    obtain⟨_,_,_,h,_⟩:=(hnm y).1 hy
    exact h
   clear hnm
   generalize nearT b s x.sd i 6=N at *
   repeat' (first
  | simp only[hlt6,ints_length,push_cast,↓J1,↓J2,N1,N2,N3,reduceCtorEq,N4,N5,N6,reduceIte,N7,I1,I2,I3]
  | (refine⟨by omega,?_⟩)
  | refine ifB_intro (fun h=>?_) (fun h=>?_))
   refine RL_count (fun q=>⟨tb 143 .any [(14,.ref 4 none 3 0 (A++((N.take q).map fun y=>(⟨(k:Int),pth,y⟩:Od_))).length),(2,.int .i64 (k:Int)),(4,.ptr 0 none 0 0 0),(7,.ptr 1 none 0 0 0),(8,.ptr 2 none 0 0 0),(68,.ref 3 none 1 0 H.length),(69,.int .i64 (H.length:Int)),(70,.int .i64 (m:Int)),(17,.sl (ints pth)),(122,.ref 5 none 1 0 N.length),(123,.int .i64 (N.length:Int)),(124,.int .i64 (q:Int))],[(5,.slice 1 (ints N)),(4,.slice 3 (orXs (A++((N.take q).map fun y=>(⟨(k:Int),pth,y⟩:Od_))))),(3,.slice 1 (ints H)),(2,.var [.sl (tersF b.r.ts),.sl (kins b.r.ks),.int .i64 b.r.stack,.int .i64 b.r.river,.int .i64 b.r.road,.int .i64 b.r.supply,.int .i64 b.r.turns,.int .i64 b.m.w,.int .i64 b.m.h,.sl (ints b.m.t),.sl (ints b.m.ri),.sl (ints b.m.ro)]),(1,.var [.int .i64 x.sd,.int .i64 x.k,.int .i64 x.at_,.int .i64 x.st]),(0,.var [.int .i64 s.t,.int .i64 s.w,.sl (uns s.us)])],6⟩) (fun _=>True) N.length 0 (by rw[show A++((N.take 0).map fun y=>(⟨(k:Int),pth,y⟩:Od_))=A by simp];exact(hdA [(5,5),(4,4),(3,3),(2,2),(1,1),(0,0)])) (by omega) trivial fun q hq' _ JJ hJJ=>?_
   by_cases h3:q<N.length
   ·have hlt3:decide ((q:Int)<(N.length:Int))=true:=decide_eq_true (by omega)
    have hJ3:=hJJ h3 trivial
    clear hJJ hJ1
    have eN:(ints N)[q]?=some [.int .i64 N[q]]:=by simp[ints,h3]
    have hsn:A++((N.take (q+1)).map fun y=>(⟨(k:Int),pth,y⟩:Od_))=(A++((N.take q).map fun y=>(⟨(k:Int),pth,y⟩:Od_)))++([⟨(k:Int),pth,N[q]⟩]:List Od_):=by
     rw[List.take_succ_eq_append_getElem h3];simp only[List.map_append,List.map_cons,List.map_nil,List.append_assoc]
    rw[hsn] at hJ3
    have hBl:(A++((N.take q).map fun y=>(⟨(k:Int),pth,y⟩:Od_))).length≤A.length+6:=by simp;omega
    have hny:=hn0 N[q] (List.getElem_mem h3)
    generalize A++((N.take q).map fun y=>(⟨(k:Int),pth,y⟩:Od_))=B at *
    generalize N[q]=y at *
    have ho:=orXs_own B k pth hny
    have hbl:(B++([⟨(k:Int),pth,y⟩]:List Od_)).length=B.length+1:=by simp
    rw[hbl] at hJ3
    repeat' (first
  | simp only[hlt3,eN,ints_length,orXs_length,tkp,tkr,isNs,apYR_ns,ho,Int.toNat_natCast,push_cast,↓J1,↓J2,N1,N2,N3,reduceCtorEq,N4,N5,N6,reduceIte,N7,I1,I2,I3]
  | refine⟨_,c6,?_⟩
  | (refine⟨by omega,?_⟩)
  | refine ifB_intro (fun h=>?_) (fun h=>?_))
    exact hJ3 _ (hdA [(5,5),(8,4),(3,3),(2,2),(1,1),(0,0)])
   ·have hlt3:decide ((q:Int)<(N.length:Int))=false:=decide_eq_false (by omega)
    obtain rfl:q=N.length:=by omega
    clear hJJ
    rw[List.take_length]
    generalize A++(N.map fun y=>(⟨(k:Int),pth,y⟩:Od_))=B at *
    repeat' (first
  | simp only[hlt3,push_cast,↓J1,↓J2,N1,N2,N3,reduceCtorEq,N4,N5,N6,reduceIte,N7,I1,I2,I3]
  | (refine⟨by omega,?_⟩)
  | refine ifB_intro (fun h=>?_) (fun h=>?_))
    exact hJ1 _ (hdA [(4,4),(3,3),(2,2),(1,1),(0,0)])
  ·rw[p1,if_pos rfl] at hJ1
   repeat' (first
  | simp only[hlt,er,p1,w1,uns_length,ints_length,Int.toNat_natCast,push_cast,↓J1,↓J2,N1,N2,N3,reduceCtorEq,N4,N5,N6,reduceIte,N7,I1,I2,I3]
  | refine⟨_,c2i,?_⟩
  | (refine⟨by omega,?_⟩)
  | refine ifB_intro (fun h=>?_) (fun h=>?_))
   exact hJ1 _ (hdA [(4,4),(3,3),(2,2),(1,1),(0,0)])
 ·have hlt:decide ((m:Int)<(H.length:Int))=false:=decide_eq_false (by omega)
  obtain rfl:m=H.length:=by omega
  clear hJ hos
  rw[List.take_length] at hol⊢
  generalize outT b s k x H=O at *
  have c7:=c7 O.length 12
  by_cases g3:(O.length:Int)<12
  ·rw[if_pos g3] at c7
   have e12:O.take 12=O:=List.take_of_length_le (by omega)
   have w12:((O.length:Int)-0).toNat=O.length:=by omega
   rw[e12]
   repeat' (first
  | simp only[hlt,push_cast,↓J1,↓J2,N1,N2,N3,reduceCtorEq,N4,N5,N6,reduceIte,N7,I1,I2,I3]
  | refine⟨_,c7,?_⟩
  | (refine⟨by omega,?_⟩)
  | refine ifB_intro (fun h=>?_) (fun h=>?_))
   exact RetTo_of (by simp only[conR,conRL,isF,hget,hdel,List.drop_zero,List.take_length,if_true,if_false,reduceIte,N5,reduceCtorEq,tkr,w12];rfl)
  ·rw[if_neg g3] at c7
   have tk12:List.take 12 (orXs O)=orXs (O.take 12):=orXs_take O 12
   have w12:((12:Int)-0).toNat=12:=rfl
   have hlq:(orXs (O.take 12)).length=12:=by rw[orXs_length];simp;omega
   repeat' (first
  | simp only[hlt,push_cast,↓J1,↓J2,N1,N2,N3,reduceCtorEq,N4,N5,N6,reduceIte,N7,I1,I2,I3]
  | refine⟨_,c7,?_⟩
  | (refine⟨by omega,?_⟩)
  | refine ifB_intro (fun h=>?_) (fun h=>?_))
   exact RetTo_of (by simp only[conR,conRL,isF,hget,hdel,List.drop_zero,List.take_length,if_true,if_false,reduceIte,N5,reduceCtorEq,tk12,w12,hlq];rfl)
theorem t28(X:Se)(s:Sta)(k:Nat)(h:Heap)(n:Nat)(hs:staOk X.b s=true)(hk:k<s.us.length)(ha:0≤(unOf s k).at_)(hb:BrdB (2^50) X.b):
  C 28 [seF X,.agg (staF s),.int .i64 (k:Int)] h n fun v h' n'=>v= .sl (orFs (choM X.b s k (unOf s k)))∧h'=h∧n'=n:=by
 have:=hF.up (r:= .ow 3 (orXs (choM X.b s k (unOf s k)))) (h:=h) (n:=n) (t280 hC hF X s k hs hk ha hb) rfl (fun v h' n' hr=>hr) rfl
 rwa [show frzT (.ow 3 (orXs (choM X.b s k (unOf s k))))= .sl (orFs (choM X.b s k (unOf s k))) by simp only[frzT,frz_orXs]] at this
end
end Go.Proofs.YthggfnefjbckeaaGreatDoor.X
set_option linter.unusedVariables false
set_option maxHeartbeats 1000000
open Nat renaming reduceBEq→N1,reduceAdd→N2,reduceSub→N3,reduceMul→N4,reduceEqDiff→N5,reduceLeDiff→N6,reduceLT→N7
open Int renaming reduceLE→I1,reduceLT→I2,reduceToNat→I3
namespace Go.Proofs.YthggfnefjbckeaaGreatDoor.X
open Go
theorem andThen_le{f g:Int→Int}{v:Int}(hf: -1≤f v∧f v≤v)(hg:0≤f v→ -1≤g (f v)∧g (f v)≤f v): -1≤andThen f g v∧andThen f g v≤v:=by
 have e:andThen f g v=if f v<0 then -1 else if g (f v)<0 then -1 else g (f v):=rfl
 rw[e]
 split
 ·omega
 ·have:=hg (by omega)
  split<;>omega
theorem szSe_le{s:Se}{v:Int}(h0:0≤v)(hB:v≤2^50): -1≤szSe s v∧szSe s v≤v:=by
 unfold szSe
 refine andThen_le (andThen_le (andThen_le (szBrd_le h0 hB) fun h=>szCt_rng h) fun h=>szCl_rng h) fun h=>szSS_rng h
end Go.Proofs.YthggfnefjbckeaaGreatDoor.X
set_option maxHeartbeats 4000000
set_option maxRecDepth 8000
set_option linter.unusedSimpArgs false
set_option linter.unusedVariables false
open Nat renaming reduceBEq→N1,reduceAdd→N2,reduceSub→N3,reduceMul→N4,reduceEqDiff→N5,reduceLeDiff→N6,reduceLT→N7
open Int renaming reduceLE→I1,reduceLT→I2,reduceToNat→I3
namespace Go.Proofs.YthggfnefjbckeaaGreatDoor.X
open Go
attribute [local irreducible] Ev
def plOk(X:Se)(s:Sta):Bool:=gaOk X s&&!overOk X s
theorem ga_sta{x:Se}{s:Sta}(g:gaOk x s=true):staOk x.b s=true:=by
 simp only[gaOk,Bool.and_eq_true] at g;exact g.2
def cntT(X:Se)(s:Sta)(l:List Int):Int:=l.foldl (fun n u=>IntKind.i64.wrap (n*(((choM X.b s u.toNat (unOf s u.toNat)).length:Int)+1))) 1
theorem cntT_snoc(X:Se)(s:Sta){l:List Int}{j:Nat}(h:j<l.length):cntT X s (l.take (j+1))=IntKind.i64.wrap (cntT X s (l.take j)*(((choM X.b s l[j].toNat (unOf s l[j].toNat)).length:Int)+1)):=by
 simp only[cntT,List.take_succ_eq_append_getElem h,List.foldl_append,List.foldl_cons,List.foldl_nil]
def cntM(X:Se)(s:Sta)(d:Int):Int:=if plOk X s&&inR 0 1 d then cntT X s (fil (onSide d) s.us s.us.length) else 0
section
variable{C:CT}(hC:Closed Tryz.prog G1 md0 C)(hF:FrzC C)
include hC
theorem t34(X:Se)(s:Sta)(hb:SeB (2^50) X)(hl:s.us.length<2^40):Ev C 34 [seF X,.agg (staF s)] (.bool (plOk X s)):=by
 have c1:=t71 hC X s hb hl
 have c2:=t72 hC X s hl
 simp only[seF,brdF,rulF,mpF,ctF,clA,List.cons_append,List.nil_append,staF] at *
 refine rT hC Q34 ?_
 simp only[c34,push_cast,↓J1,↓J2,N1,N2,N3,reduceCtorEq,N4,N5,N6,reduceIte,N7,I1,I2,I3]
 refine⟨_,c1,?_⟩
 cases g1:gaOk X s
 ·simp only[plOk,g1,Bool.false_and,push_cast,↓J1,↓J2,N1,N2,N3,reduceCtorEq,N4,N5,N6,reduceIte,N7,I1,I2,I3]
 simp only[plOk,g1,Bool.true_and,push_cast,↓J1,↓J2,N1,N2,N3,reduceCtorEq,N4,N5,N6,reduceIte,N7,I1,I2,I3]
 refine⟨_,c2,?_⟩
 simp only[push_cast,↓J1,↓J2,N1,N2,N3,reduceCtorEq,N4,N5,N6,reduceIte,N7,I1,I2,I3]
theorem t25(X:Se)(s:Sta)(sd:Int)(hb:SeB (2^50) X)(hl:s.us.length<2^40)(h0:inR 0 4611686016279904236 sd=true):Ev C 25 [seF X,.agg (staF s),.int .i64 sd] (.bool (plOk X s)):=by
 have c1:=t57 hC X s sd hb hl
 rw[h0,Bool.and_true] at c1
 have c2:=t58 hC X s hl
 simp only[seF,brdF,rulF,mpF,ctF,clA,List.cons_append,List.nil_append,staF] at *
 refine rT hC Q25 ?_
 simp only[c25,push_cast,↓J1,↓J2,N1,N2,N3,reduceCtorEq,N4,N5,N6,reduceIte,N7,I1,I2,I3]
 refine⟨_,c1,?_⟩
 cases g1:gaOk X s
 ·simp only[plOk,g1,Bool.false_and,push_cast,↓J1,↓J2,N1,N2,N3,reduceCtorEq,N4,N5,N6,reduceIte,N7,I1,I2,I3]
 simp only[plOk,g1,Bool.true_and,push_cast,↓J1,↓J2,N1,N2,N3,reduceCtorEq,N4,N5,N6,reduceIte,N7,I1,I2,I3]
 refine⟨_,c2,?_⟩
 simp only[push_cast,↓J1,↓J2,N1,N2,N3,reduceCtorEq,N4,N5,N6,reduceIte,N7,I1,I2,I3]
include hF
theorem t10(X:Se)(s:Sta)(d:Int)(hb:SeB (2^50) X)(hl:s.us.length<2^40):Ev C 10 [seF X,.agg (staF s),.int .i64 d] (.tup [.int .i64 (cntM X s d),.bool (plOk X s&&inR 0 1 d)]):=by
 have c1:=t34 hC X s hb hl
 have c2:=t35 hC d
 have c3:=t36 hC s d hl
 have c4:=fun(k:Nat) (h:Heap) (n:Nat) hs hk ha=>t37 hC hF X.b s k h n hs hk ha hb.b
 have hU: ∀y∈fil (onSide d) s.us s.us.length,∃k:Nat,y=k∧k<s.us.length∧0≤(unOf s k).at_:=fun y hy=>by
  obtain⟨k,hk,rfl,_,hp⟩:=fil_mem hy
  simp only[onSide,Bool.and_eq_true,decide_eq_true_eq] at hp
  exact⟨k,rfl,hk,by rw[un_at hk];exact hp.2⟩
 have hUl:(fil (onSide d) s.us s.us.length).length≤s.us.length:=fil_le (Nat.le_refl _)
 have em:cntM X s d=if plOk X s&&inR 0 1 d then cntT X s (fil (onSide d) s.us s.us.length) else 0:=rfl
 have hga:plOk X s=true→staOk X.b s=true:=fun h=>by
  simp only[plOk,Bool.and_eq_true] at h;exact ga_sta h.1
 generalize plOk X s=p at *
 generalize cntM X s d=M at *
 generalize fil (onSide d) s.us s.us.length=U at *
 simp only[seF,brdF,rulF,mpF,ctF,clA,List.cons_append,List.nil_append,staF] at *
 refine rT hC Q10 ?_
 simp only[c10,push_cast,↓J1,↓J2,N1,N2,N3,reduceCtorEq,N4,N5,N6,reduceIte,N7,I1,I2,I3]
 refine⟨_,c1,?_⟩
 cases p
 ·simp only[Bool.false_and,Bool.false_eq_true,if_false] at em⊢
  subst em
  simp only[push_cast,↓J1,↓J2,N1,N2,N3,reduceCtorEq,N4,N5,N6,reduceIte,N7,I1,I2,I3]
 simp only[push_cast,↓J1,↓J2,N1,N2,N3,reduceCtorEq,N4,N5,N6,reduceIte,N7,I1,I2,I3]
 refine⟨_,c2,?_⟩
 cases g:inR 0 1 d
 ·rw[g] at em
  simp only[Bool.and_false,Bool.false_eq_true,if_false] at em⊢
  subst em
  simp only[push_cast,↓J1,↓J2,N1,N2,N3,reduceCtorEq,N4,N5,N6,reduceIte,N7,I1,I2,I3]
 rw[g] at em
 simp only[Bool.and_self,if_true] at em⊢
 subst em
 have hs:=hga rfl
 have c4:=fun(k:Nat) (h:Heap) (n:Nat)=>c4 k h n hs
 simp only[push_cast,↓J1,↓J2,N1,N2,N3,reduceCtorEq,N4,N5,N6,reduceIte,N7,I1,I2,I3]
 refine⟨_,c3,?_⟩
 simp only[ints_length,push_cast,↓J1,↓J2,N1,N2,N3,reduceCtorEq,N4,N5,N6,reduceIte,N7,I1,I2,I3]
 refine RL_count (fun j=>⟨tb 39 .any [(3,.ptr 0 none 0 0 0),(4,.ptr 1 none 0 0 0),(8,.int .i64 (cntT X s (U.take j))),(22,.ref 2 none 1 0 U.length),(23,.int .i64 (U.length:Int)),(24,.int .i64 (j:Int))],[(2,.slice 1 (ints U)),(1,.var [.int .i64 s.t,.int .i64 s.w,.sl (uns s.us)]),(0,.var [.sl (tersF X.b.r.ts),.sl (kins X.b.r.ks),.int .i64 X.b.r.stack,.int .i64 X.b.r.river,.int .i64 X.b.r.road,.int .i64 X.b.r.supply,.int .i64 X.b.r.turns,.int .i64 X.b.m.w,.int .i64 X.b.m.h,.sl (ints X.b.m.t),.sl (ints X.b.m.ri),.sl (ints X.b.m.ro),.sl (ods X.t.cs),.int .i64 X.t.d,.sl (intss X.t.rs),.sl (intss X.c),.sl (intss X.src)])],3⟩) (fun _=>True) U.length 0 (hdA [(2,2),(1,1),(0,0)]) (by omega) trivial fun j hj _ J hJ=>?_
 by_cases h1:j<U.length
 ·have hlt:decide ((j:Int)<(U.length:Int))=true:=decide_eq_true (by omega)
  have hJ1:=hJ h1 trivial
  clear hJ
  have er:(ints U)[j]?=some [.int .i64 U[j]]:=by simp[ints,h1]
  obtain⟨k,ek,hk,ha⟩:=hU U[j] (List.getElem_mem h1)
  have hsn:=cntT_snoc X s h1
  rw[ek] at er hsn
  rw[hsn] at hJ1
  simp only[Int.toNat_natCast] at hJ1
  have c4:=fun(h:Heap) (n:Nat)=>c4 k h n hk ha
  generalize cntT X s (U.take j)=T at *
  have hcl:(choM X.b s k (unOf s k)).length≤12:=by simp only[choM];simp;omega
  generalize choM X.b s k (unOf s k)=L at *
  have w1:IntKind.i64.wrap ((L.length:Int)+1)=(L.length:Int)+1:=wrap64 (by omega) (by omega)
  repeat' (first
  | simp only[hlt,er,ints_length,uns_length,Int.toNat_natCast,push_cast,↓J1,↓J2,N1,N2,N3,reduceCtorEq,N4,N5,N6,reduceIte,N7,I1,I2,I3]
  | (refine⟨by omega,?_⟩)
  | refine ifB_intro (fun h=>?_) (fun h=>?_))
  refine⟨_,c4 _ _,?_⟩
  rintro _ _ _ ⟨rfl,rfl,rfl⟩ _
  repeat' (first
  | simp only[orFs_length,w1,push_cast,↓J1,↓J2,N1,N2,N3,reduceCtorEq,N4,N5,N6,reduceIte,N7,I1,I2,I3]
  | (refine⟨by omega,?_⟩)
  | refine ifB_intro (fun h=>?_) (fun h=>?_))
  exact hJ1 _ (hdA [(2,2),(1,1),(0,0)])
 ·have hlt:decide ((j:Int)<(U.length:Int))=false:=decide_eq_false (by omega)
  obtain rfl:j=U.length:=by omega
  rw[List.take_length]
  simp only[hlt,push_cast,↓J1,↓J2,N1,N2,N3,reduceCtorEq,N4,N5,N6,reduceIte,N7,I1,I2,I3]
theorem t7(X:Se)(s:Sta)(d:Int)(hb:SeB (2^50) X)(hl:s.us.length<2^40):Ev C 7 [seF X,.agg (staF s),.int .i64 d] (.tup [.int .i64 (cntM X s d),.bool (plOk X s&&inR 0 1 d)]):=by
 have c1:=t25 hC X s 0 hb hl rfl
 have c2:Ev C 26 [.int .i64 d,.int .i64 0,.int .i64 1] (.bool (inR 0 1 d)):=t26 hC d 0 1
 have c3:=t27 hC s d hl
 have c4:=fun(k:Nat) (h:Heap) (n:Nat) hs hk ha=>t28 hC hF X s k h n hs hk ha hb.b
 have hU: ∀y∈fil (onSide d) s.us s.us.length,∃k:Nat,y=k∧k<s.us.length∧0≤(unOf s k).at_:=fun y hy=>by
  obtain⟨k,hk,rfl,_,hp⟩:=fil_mem hy
  simp only[onSide,Bool.and_eq_true,decide_eq_true_eq] at hp
  exact⟨k,rfl,hk,by rw[un_at hk];exact hp.2⟩
 have hUl:(fil (onSide d) s.us s.us.length).length≤s.us.length:=fil_le (Nat.le_refl _)
 have em:cntM X s d=if plOk X s&&inR 0 1 d then cntT X s (fil (onSide d) s.us s.us.length) else 0:=rfl
 have hga:plOk X s=true→staOk X.b s=true:=fun h=>by
  simp only[plOk,Bool.and_eq_true] at h;exact ga_sta h.1
 generalize plOk X s=p at *
 generalize cntM X s d=M at *
 generalize fil (onSide d) s.us s.us.length=U at *
 simp only[seF,brdF,rulF,mpF,ctF,clA,List.cons_append,List.nil_append,staF] at *
 refine rT hC Q7 ?_
 simp only[c7,push_cast,↓J1,↓J2,N1,N2,N3,reduceCtorEq,N4,N5,N6,reduceIte,N7,I1,I2,I3]
 refine⟨_,c1,?_⟩
 cases p
 ·simp only[Bool.false_and,Bool.false_eq_true,if_false] at em⊢
  subst em
  simp only[push_cast,↓J1,↓J2,N1,N2,N3,reduceCtorEq,N4,N5,N6,reduceIte,N7,I1,I2,I3]
 simp only[push_cast,↓J1,↓J2,N1,N2,N3,reduceCtorEq,N4,N5,N6,reduceIte,N7,I1,I2,I3]
 refine⟨_,c2,?_⟩
 cases g:inR 0 1 d
 ·rw[g] at em
  simp only[Bool.and_false,Bool.false_eq_true,if_false] at em⊢
  subst em
  simp only[push_cast,↓J1,↓J2,N1,N2,N3,reduceCtorEq,N4,N5,N6,reduceIte,N7,I1,I2,I3]
 rw[g] at em
 simp only[Bool.and_self,if_true] at em⊢
 subst em
 have hs:=hga rfl
 have c4:=fun(k:Nat) (h:Heap) (n:Nat)=>c4 k h n hs
 simp only[push_cast,↓J1,↓J2,N1,N2,N3,reduceCtorEq,N4,N5,N6,reduceIte,N7,I1,I2,I3]
 refine⟨_,c3,?_⟩
 simp only[ints_length,push_cast,↓J1,↓J2,N1,N2,N3,reduceCtorEq,N4,N5,N6,reduceIte,N7,I1,I2,I3]
 refine RL_count (fun j=>⟨tb 38 .any [(3,.ptr 0 none 0 0 0),(4,.ptr 1 none 0 0 0),(8,.int .i64 (cntT X s (U.take j))),(22,.ref 2 none 1 0 U.length),(23,.int .i64 (U.length:Int)),(24,.int .i64 (j:Int))],[(2,.slice 1 (ints U)),(1,.var [.int .i64 s.t,.int .i64 s.w,.sl (uns s.us)]),(0,.var [.sl (tersF X.b.r.ts),.sl (kins X.b.r.ks),.int .i64 X.b.r.stack,.int .i64 X.b.r.river,.int .i64 X.b.r.road,.int .i64 X.b.r.supply,.int .i64 X.b.r.turns,.int .i64 X.b.m.w,.int .i64 X.b.m.h,.sl (ints X.b.m.t),.sl (ints X.b.m.ri),.sl (ints X.b.m.ro),.sl (ods X.t.cs),.int .i64 X.t.d,.sl (intss X.t.rs),.sl (intss X.c),.sl (intss X.src)])],3⟩) (fun _=>True) U.length 0 (hdA [(2,2),(1,1),(0,0)]) (by omega) trivial fun j hj _ J hJ=>?_
 by_cases h1:j<U.length
 ·have hlt:decide ((j:Int)<(U.length:Int))=true:=decide_eq_true (by omega)
  have hJ1:=hJ h1 trivial
  clear hJ
  have er:(ints U)[j]?=some [.int .i64 U[j]]:=by simp[ints,h1]
  obtain⟨k,ek,hk,ha⟩:=hU U[j] (List.getElem_mem h1)
  have hsn:=cntT_snoc X s h1
  rw[ek] at er hsn
  rw[hsn] at hJ1
  simp only[Int.toNat_natCast] at hJ1
  have c4:=fun(h:Heap) (n:Nat)=>c4 k h n hk ha
  generalize cntT X s (U.take j)=T at *
  have hcl:(choM X.b s k (unOf s k)).length≤12:=by simp only[choM];simp;omega
  generalize choM X.b s k (unOf s k)=L at *
  have w1:IntKind.i64.wrap ((L.length:Int)+1)=(L.length:Int)+1:=wrap64 (by omega) (by omega)
  repeat' (first
  | simp only[hlt,er,ints_length,uns_length,Int.toNat_natCast,push_cast,↓J1,↓J2,N1,N2,N3,reduceCtorEq,N4,N5,N6,reduceIte,N7,I1,I2,I3]
  | (refine⟨by omega,?_⟩)
  | refine ifB_intro (fun h=>?_) (fun h=>?_))
  refine⟨_,c4 _ _,?_⟩
  rintro _ _ _ ⟨rfl,rfl,rfl⟩ _
  repeat' (first
  | simp only[orFs_length,w1,push_cast,↓J1,↓J2,N1,N2,N3,reduceCtorEq,N4,N5,N6,reduceIte,N7,I1,I2,I3]
  | (refine⟨by omega,?_⟩)
  | refine ifB_intro (fun h=>?_) (fun h=>?_))
  exact hJ1 _ (hdA [(2,2),(1,1),(0,0)])
 ·have hlt:decide ((j:Int)<(U.length:Int))=false:=decide_eq_false (by omega)
  obtain rfl:j=U.length:=by omega
  rw[List.take_length]
  simp only[hlt,push_cast,↓J1,↓J2,N1,N2,N3,reduceCtorEq,N4,N5,N6,reduceIte,N7,I1,I2,I3]
theorem t3(x:Se)(s:Sta)(d:Int)(hx:SeB (2^50) x)(hs:s.us.length<2^50):Ev C 3 [seF x,.agg (staF s),.int .i64 d] (.bool true):=by
 have z0:=fun p=>t5 hC x 1048576 p hx
 have z1:=fun p=>t6 hC s (szSe x 1048576) p hs
 have d0:=fun Hx=>t8 hC x Hx
 have e0:=t11 hC x x hx hx
 have d1:=fun Hs=>t9 hC s Hs
 have e1:=t12 hC s s hs hs
 have f1:=fun(Hx:SeB (2^30) x) (Hs:s.us.length<2^30)=>t7 hC hF x s d hx (by omega)
 have f2:=fun(Hx:SeB (2^30) x) (Hs:s.us.length<2^30)=>t10 hC hF x s d hx (by omega)
 simp only[brdO,rulO,mpO,brdF,rulF,mpF,seF,seO,ctF,ctO,szSta,staF,staO,List.cons_append,List.nil_append,List.append_assoc,decide_true] at *
 refine rT hC Q3 ?_
 simp only[X.c3,push_cast,↓J1,↓J2,N1,N2,N3,reduceCtorEq,N4,N5,N6,reduceIte,N7,I1,I2,I3]
 refine⟨_,z0 (by omega),?_⟩
 simp only[push_cast,↓J1,↓J2,N1,N2,N3,reduceCtorEq,N4,N5,N6,reduceIte,N7,I1,I2,I3]
 refine ifB_intro (fun h=>trivial) (fun h=>?_)
 have n0:=of_decide_eq_false h
 clear h
 have l0:=szSe_le (s:=x) (v:=1048576) (by omega) (by omega)
 have Hx:SeB (2^30) x:=(szSe_pos (by omega)).mono (by omega)
 refine⟨_,z1 (by omega),?_⟩
 simp only[push_cast,↓J1,↓J2,N1,N2,N3,reduceCtorEq,N4,N5,N6,reduceIte,N7,I1,I2,I3]
 refine ifB_intro (fun h=>trivial) (fun h=>?_)
 have n1:=of_decide_eq_false h
 clear h
 have l1:=sub1_le (v:=(szSe x 1048576)) (n:=s.us.length) (by omega)
 have Hs:s.us.length<2^30:=by have:=sub1_pos (v:=(szSe x 1048576)) (n:=s.us.length) (by omega);omega
 repeat' (first
  | simp only[frzLL_ints,frzLL_ters,frzLL_kins,frzLL_owss,frzLL_ods,frzLL_uns,push_cast,↓J1,↓J2,N1,N2,N3,reduceCtorEq,N4,N5,N6,reduceIte,N7,I1,I2,I3]
  | refine⟨_,d0 Hx,?_⟩
  | refine⟨_,e0,?_⟩
  | refine⟨_,d1 Hs,?_⟩
  | refine⟨_,e1,?_⟩
  | refine⟨_,f1 Hx Hs,?_⟩
  | refine⟨_,f2 Hx Hs,?_⟩
  | refine ifB_intro (fun h=>?_) (fun h=>?_))
end
end Go.Proofs.YthggfnefjbckeaaGreatDoor.X
set_option maxHeartbeats 4000000
set_option maxRecDepth 8000
set_option linter.unusedSimpArgs false
set_option linter.unusedVariables false
open Nat renaming reduceBEq→N1,reduceAdd→N2,reduceSub→N3,reduceMul→N4,reduceEqDiff→N5,reduceLeDiff→N6,reduceLT→N7
open Int renaming reduceLE→I1,reduceLT→I2,reduceToNat→I3
namespace Go.Proofs.YthggfnefjbckeaaGreatDoor.X
open Go
theorem has_ints{k:Nat}{xs:List AV}(h:Has Tryz.prog (k+2) 26 xs): ∃l,xs=[.sl (ints l)]∧l.length<2^50:=by
 obtain⟨es,rfl,_,hb,he⟩:=has_slice tk_26 h
 rw[bo_3] at hb
 obtain⟨l,rfl⟩:=all_map (f:=fun n:Int=>[AV.int .i64 n]) (es:=es) fun e hx=>by
  obtain⟨n,hn,_⟩:=has_int tk_3 (he e hx).2
  exact⟨n,hn⟩
 simp only[reachBytes,List.length_map] at hb
 exact⟨l,rfl,by omega⟩
theorem all_map2{α:Type}{f:α→List AV}{p:α→Prop}{es:List (List AV)}(h: ∀e∈es,∃x,e=f x∧p x): ∃l:List α,es=l.map f∧ ∀x∈l,p x:=by
 induction es with
 | nil=>exact⟨[],rfl,by simp⟩
 | cons e es ih=>
  obtain⟨l,hl,hp⟩:=ih fun x hx=>h x (by simp[hx])
  obtain⟨x,hx,px⟩:=h e (by simp)
  exact⟨x::l,by rw[hl,hx];rfl,by simp only[List.mem_cons,forall_eq_or_imp];exact⟨px,hp⟩⟩
theorem has_ter{k:Nat}{xs:List AV}(h:Has Tryz.prog (k+9) 166 xs): ∃t:Ter,xs=terF t∧t.n.size<2^50∧t.c.length<2^50:=by
 have h:=has_struct sty_166 h
 obtain⟨x0,r,rfl,_,h0,h⟩:=hasE_cons h
 obtain⟨x1,r,rfl,_,h1,h⟩:=hasE_cons h
 obtain⟨x2,r,rfl,_,h2,h⟩:=hasE_cons h
 obtain⟨x3,r,rfl,_,h3,h⟩:=hasE_cons h
 obtain⟨x4,r,rfl,_,h4,h⟩:=hasE_cons h
 obtain rfl:=hasE_nil h
 obtain⟨n,rfl,hn⟩:=has_str tk_9 h0
 obtain⟨c,rfl,hc⟩:=has_ints h1
 obtain⟨s,rfl,_⟩:=has_int tk_3 h2
 obtain⟨e,rfl,_⟩:=has_int tk_3 h3
 obtain⟨b,rfl⟩:=has_bool tk_4 h4
 simp only[reachBytes] at hn
 exact⟨⟨n,c,s,e,b⟩,rfl,by show n.size<_;omega,hc⟩
theorem has_kin{k:Nat}{xs:List AV}(h:Has Tryz.prog (k+9) 168 xs): ∃t:Kin,xs=kinA t∧t.n.size<2^50:=by
 have h:=has_struct sty_168 h
 obtain⟨x0,r,rfl,_,h0,h⟩:=hasE_cons h
 obtain⟨x1,r,rfl,_,h1,h⟩:=hasE_cons h
 obtain⟨x2,r,rfl,_,h2,h⟩:=hasE_cons h
 obtain⟨x3,r,rfl,_,h3,h⟩:=hasE_cons h
 obtain⟨x4,r,rfl,_,h4,h⟩:=hasE_cons h
 obtain⟨x5,r,rfl,_,h5,h⟩:=hasE_cons h
 obtain rfl:=hasE_nil h
 obtain⟨n,rfl,hn⟩:=has_str tk_9 h0
 obtain⟨s,rfl,_⟩:=has_int tk_3 h1
 obtain⟨m,rfl,_⟩:=has_int tk_3 h2
 obtain⟨p,rfl,_⟩:=has_int tk_3 h3
 obtain⟨z,rfl⟩:=has_bool tk_4 h4
 obtain⟨v,rfl,_⟩:=has_int tk_3 h5
 simp only[reachBytes] at hn
 exact⟨⟨n,s,m,p,z,v⟩,rfl,by show n.size<_;omega⟩
theorem has_rul{k:Nat}{xs:List AV}(h:Has Tryz.prog (k+16) 25 xs): ∃r:Rul,xs=rulF r∧RulB (2^50) r:=by
 have h:=has_struct sty_25 h
 obtain⟨x0,r,rfl,_,h0,h⟩:=hasE_cons h
 obtain⟨x1,r,rfl,_,h1,h⟩:=hasE_cons h
 obtain⟨x2,r,rfl,_,h2,h⟩:=hasE_cons h
 obtain⟨x3,r,rfl,_,h3,h⟩:=hasE_cons h
 obtain⟨x4,r,rfl,_,h4,h⟩:=hasE_cons h
 obtain⟨x5,r,rfl,_,h5,h⟩:=hasE_cons h
 obtain⟨x6,r,rfl,_,h6,h⟩:=hasE_cons h
 obtain rfl:=hasE_nil h
 obtain⟨es,rfl,_,hb,he⟩:=has_slice tk_22 h0
 obtain⟨ts,rfl,ht⟩:=all_map2 (f:=terF) (es:=es) fun e hx=>has_ter (he e hx).2
 obtain⟨fs,rfl,_,hc,hf⟩:=has_slice tk_23 h1
 obtain⟨ks,rfl,hk⟩:=all_map2 (f:=kinA) (es:=fs) fun e hx=>has_kin (hf e hx).2
 obtain⟨a,rfl,_⟩:=has_int tk_3 h2
 obtain⟨b,rfl,_⟩:=has_int tk_3 h3
 obtain⟨c,rfl,_⟩:=has_int tk_3 h4
 obtain⟨d,rfl,_⟩:=has_int tk_3 h5
 obtain⟨e,rfl,_⟩:=has_int tk_3 h6
 rw[bo_166] at hb
 rw[bo_168] at hc
 simp only[reachBytes,List.length_map] at hb hc
 exact⟨⟨ts,ks,a,b,c,d,e⟩,rfl,⟨by show ts.length<_;omega,by show ks.length<_;omega,ht,hk⟩⟩
theorem has_mp{k:Nat}{xs:List AV}(h:Has Tryz.prog (k+16) 28 xs): ∃m:Mp,xs=mpF m∧MpB (2^50) m:=by
 have h:=has_struct sty_28 h
 obtain⟨x0,r,rfl,_,h0,h⟩:=hasE_cons h
 obtain⟨x1,r,rfl,_,h1,h⟩:=hasE_cons h
 obtain⟨x2,r,rfl,_,h2,h⟩:=hasE_cons h
 obtain⟨x3,r,rfl,_,h3,h⟩:=hasE_cons h
 obtain⟨x4,r,rfl,_,h4,h⟩:=hasE_cons h
 obtain rfl:=hasE_nil h
 obtain⟨w,rfl,_⟩:=has_int tk_3 h0
 obtain⟨e,rfl,_⟩:=has_int tk_3 h1
 obtain⟨t,rfl,ht⟩:=has_ints h2
 obtain⟨ri,rfl,hri⟩:=has_ints h3
 obtain⟨ro,rfl,hro⟩:=has_ints h4
 exact⟨⟨w,e,t,ri,ro⟩,rfl,⟨ht,hri,hro⟩⟩
theorem has_brd{k:Nat}{xs:List AV}(h:Has Tryz.prog (k+20) 30 xs): ∃b:Brd,xs=rulF b.r++mpF b.m∧BrdB (2^50) b:=by
 have h:=has_struct sty_30 h
 obtain⟨x0,r,rfl,_,h0,h⟩:=hasE_cons h
 obtain⟨x1,r,rfl,_,h1,h⟩:=hasE_cons h
 obtain rfl:=hasE_nil h
 obtain⟨r,rfl,hr⟩:=has_rul h0
 obtain⟨m,rfl,hm⟩:=has_mp h1
 exact⟨⟨r,m⟩,by simp only[List.append_nil],⟨hr,hm⟩⟩
end Go.Proofs.YthggfnefjbckeaaGreatDoor.X
set_option maxHeartbeats 1000000
set_option maxRecDepth 8000
set_option linter.unusedSimpArgs false
set_option linter.unusedVariables false
open Nat renaming reduceBEq→N1,reduceAdd→N2,reduceSub→N3,reduceMul→N4,reduceEqDiff→N5,reduceLeDiff→N6,reduceLT→N7
open Int renaming reduceLE→I1,reduceLT→I2,reduceToNat→I3
namespace Go.Proofs.YthggfnefjbckeaaGreatDoor.X
open Go
theorem hasV_sta{k:Nat}{x:AV}(hv:HasV Tryz.prog (k+20) 41 x): ∃s:Sta,x= .agg (staF s)∧s.us.length<2^50:=by
 obtain⟨ys,rfl,h⟩:=hasV_struct sty_41 hv
 obtain⟨x0,r,rfl,_,h0,h⟩:=hasE_cons h
 obtain⟨x1,r,rfl,_,h1,h⟩:=hasE_cons h
 obtain⟨x2,r,rfl,_,h2,h⟩:=hasE_cons h
 obtain rfl:=hasE_nil h
 obtain⟨a,rfl,_⟩:=has_int tk_3 h0
 obtain⟨b,rfl,_⟩:=has_int tk_3 h1
 obtain⟨es,rfl,_,hb,he⟩:=has_slice tk_39 h2
 obtain⟨us,rfl⟩:=all_map (f:=unA) (es:=es) fun e hx=>by
  have h:=has_struct sty_122 (he e hx).2
  obtain⟨x0,r,rfl,_,h0,h⟩:=hasE_cons h
  obtain⟨x1,r,rfl,_,h1,h⟩:=hasE_cons h
  obtain⟨x2,r,rfl,_,h2,h⟩:=hasE_cons h
  obtain⟨x3,r,rfl,_,h3,h⟩:=hasE_cons h
  obtain rfl:=hasE_nil h
  obtain⟨a,rfl,_⟩:=has_int tk_3 h0
  obtain⟨b,rfl,_⟩:=has_int tk_3 h1
  obtain⟨c,rfl,_⟩:=has_int tk_3 h2
  obtain⟨d,rfl,_⟩:=has_int tk_3 h3
  exact⟨⟨a,b,c,d⟩,rfl⟩
 rw[bo_122] at hb
 simp only[reachBytes,List.length_map] at hb
 exact⟨⟨a,b,us⟩,rfl,by show us.length<_;omega⟩
end Go.Proofs.YthggfnefjbckeaaGreatDoor.X
set_option maxHeartbeats 1000000
set_option maxRecDepth 8000
set_option linter.unusedSimpArgs false
set_option linter.unusedVariables false
open Nat renaming reduceBEq→N1,reduceAdd→N2,reduceSub→N3,reduceMul→N4,reduceEqDiff→N5,reduceLeDiff→N6,reduceLT→N7
open Int renaming reduceLE→I1,reduceLT→I2,reduceToNat→I3
namespace Go.Proofs.YthggfnefjbckeaaGreatDoor.X
open Go
theorem has_intss{k:Nat}{xs:List AV}(h:Has Tryz.prog (k+3) 32 xs): ∃W,xs=[.sl (intss W)]∧SSB (2^50) W:=by
 obtain⟨es,rfl,_,hb,he⟩:=has_slice tk_32 h
 rw[bo_26] at hb
 obtain⟨W,rfl,hr⟩:=all_map2 (f:=fun r:List Int=>[AV.sl (ints r)]) (p:=fun r=>r.length<2^50) (es:=es) fun e hx=>by
  obtain⟨l,rfl,hl⟩:=has_ints (he e hx).2
  exact⟨l,rfl,hl⟩
 simp only[reachBytes,List.length_map] at hb
 exact⟨W,rfl,⟨by omega,hr⟩⟩
theorem has_od{k:Nat}{xs:List AV}(h:Has Tryz.prog (k+6) 150 xs): ∃p:Od,xs=odA p:=by
 have h:=has_struct sty_150 h
 obtain⟨x1,r,rfl,_,h1,h⟩:=hasE_cons h
 obtain⟨x2,r,rfl,_,h2,h⟩:=hasE_cons h
 obtain rfl:=hasE_nil h
 obtain⟨a,rfl,_⟩:=has_int tk_3 h1
 obtain⟨b,rfl,_⟩:=has_int tk_3 h2
 exact⟨⟨a,b⟩,rfl⟩
theorem has_ct{k:Nat}{xs:List AV}(h:Has Tryz.prog (k+12) 34 xs): ∃t:Ct,xs=ctF t∧CtB (2^50) t:=by
 have h:=has_struct sty_34 h
 obtain⟨x0,r,rfl,_,h0,h⟩:=hasE_cons h
 obtain⟨x1,r,rfl,_,h1,h⟩:=hasE_cons h
 obtain⟨x2,r,rfl,_,h2,h⟩:=hasE_cons h
 obtain rfl:=hasE_nil h
 obtain⟨es,rfl,_,hb,he⟩:=has_slice tk_31 h0
 obtain⟨cs,rfl⟩:=all_map (f:=odA) (es:=es) fun e hx=>has_od (he e hx).2
 obtain⟨d,rfl,_⟩:=has_int tk_3 h1
 obtain⟨rs,rfl,hr⟩:=has_intss h2
 rw[bo_150] at hb
 simp only[reachBytes,List.length_map] at hb
 exact⟨⟨cs,d,rs⟩,rfl,⟨by show cs.length<_;omega,hr⟩⟩
theorem has_cl{k:Nat}{xs:List AV}(h:Has Tryz.prog (k+8) 36 xs): ∃W,xs=[.sl (intss W)]∧SSB (2^50) W:=by
 have h:=has_struct sty_36 h
 obtain⟨x0,r,rfl,_,h0,h⟩:=hasE_cons h
 obtain rfl:=hasE_nil h
 obtain⟨W,rfl,hr⟩:=has_intss h0
 exact⟨W,rfl,hr⟩
theorem hasV_se{k:Nat}{x:AV}(hv:HasV Tryz.prog (k+26) 38 x): ∃s:Se,x=seF s∧SeB (2^50) s:=by
 obtain⟨ys,rfl,h⟩:=hasV_struct sty_38 hv
 obtain⟨x0,r,rfl,_,h0,h⟩:=hasE_cons h
 obtain⟨x1,r,rfl,_,h1,h⟩:=hasE_cons h
 obtain⟨x2,r,rfl,_,h2,h⟩:=hasE_cons h
 obtain⟨x3,r,rfl,_,h3,h⟩:=hasE_cons h
 obtain rfl:=hasE_nil h
 obtain⟨b,rfl,hb⟩:=has_brd h0
 obtain⟨t,rfl,ht⟩:=has_ct h1
 obtain⟨c,rfl,hc⟩:=has_cl h2
 obtain⟨w,rfl,hw⟩:=has_intss h3
 exact⟨⟨b,t,c,w⟩,by simp only[seF,List.append_nil,List.append_assoc,List.cons_append,List.nil_append],⟨hb,ht,hc,hw⟩⟩
end Go.Proofs.YthggfnefjbckeaaGreatDoor.X
set_option maxHeartbeats 1000000
set_option maxRecDepth 8000
set_option linter.unusedSimpArgs false
set_option linter.unusedVariables false
open Nat renaming reduceBEq→N1,reduceAdd→N2,reduceSub→N3,reduceMul→N4,reduceEqDiff→N5,reduceLeDiff→N6,reduceLT→N7
open Int renaming reduceLE→I1,reduceLT→I2,reduceToNat→I3
namespace Go.Proofs.YthggfnefjbckeaaGreatDoor.X
open Go
theorem lawCountSheets_C{C:CT}(hC:Closed Tryz.prog G1 md0 C)(hF:FrzC C): ∀xs,HasVs Tryz.prog 30 [38,41,3] xs→Ev C 3 xs (.bool true):=by
 rintro xs ⟨x0,r0,rfl,h0,x1,r1,rfl,h1,x2,r2,rfl,h2,rfl⟩
 obtain⟨x,rfl,hx⟩:=hasV_se h0
 obtain⟨s,rfl,hs⟩:=hasV_sta h1
 obtain⟨d,rfl,_⟩:=hasV_int tk_3 h2
 exact t3 hC hF x s d hx hs
theorem lawCountSheets: ∀xs,HasVs Tryz.prog 30 [38,41,3] xs→Ev (CS Tryz.prog G1) 3 xs (.bool true):=lawCountSheets_C (CS_closed (by kernel_rfl)) CS_frz
end Go.Proofs.YthggfnefjbckeaaGreatDoor.X
