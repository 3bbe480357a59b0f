/- A part of the proof: lemmas on the machine or on the functions that the law reaches. No condition of its own. -/
import Derived.Test.YthggfnefjbckeaaGreatDoorXP6
set_option maxHeartbeats 1000000
set_option maxRecDepth 8000
set_option linter.unusedSimpArgs false
set_option linter.unusedVariables false
open Nat renaming reduceBEq→N1,reduceAdd→N2,reduceSub→N3,reduceMul→N4,reduceEqDiff→N5,reduceLeDiff→N6,reduceLT→N7
open Int renaming reduceLE→I1,reduceLT→I2,reduceToNat→I3
namespace Go.Proofs.YthggfnefjbckeaaGreatDoor.X
open Go
def putI(n:Int):List Int→List Int
 | []=>[n]
 | x::l=>if x<n then x::putI n l else if x=n then x::l else n::x::l
theorem putI_at(n:Int): ∀(l:List Int) (k:Nat),k≤l.length→(∀j (h:j<l.length),j<k→l[j]<n)→(∀h:k<l.length,¬l[k]<n)→putI n l=if h:k<l.length then(if l[k]=n then l else l.take k++n::l.drop k) else l++[n]
 | [],k,hk,h1,h2=>by simp at hk;subst hk;simp[putI]
 | x::l,0,hk,h1,h2=>by
  have:=h2 (by simp)
  simp only[List.getElem_cons_zero] at this
  simp only[putI,if_neg this,List.length_cons,Nat.zero_lt_succ,dite_true,List.getElem_cons_zero]
  split<;>simp
 | x::l,k+1,hk,h1,h2=>by
  have h0:=h1 0 (by simp) (by omega)
  simp only[List.getElem_cons_zero] at h0
  have ih:=putI_at n l k (by simpa using hk) (fun j h hj=>h1 (j+1) (Nat.succ_lt_succ h) (by omega)) (fun h=>h2 (Nat.succ_lt_succ h))
  simp only[putI,if_pos h0,ih,List.length_cons,Nat.add_lt_add_iff_right,List.getElem_cons_succ,List.take_succ_cons,List.drop_succ_cons,List.cons_append]
  split
  ·split<;>rfl
  ·rfl
theorem putI_mem(n x:Int): ∀l:List Int,x∈putI n l↔x=n∨x∈l
 | []=>by simp[putI]
 | y::l=>by
  simp only[putI]
  split
  ·simp only[List.mem_cons,putI_mem n x l]
   constructor
   ·rintro(h | h | h)<;>simp[h]
   ·rintro(h | h | h)<;>simp[h]
  ·split
   ·rename_i e;subst e;simp only[List.mem_cons]
    constructor
    ·rintro(h | h)<;>simp[h]
    ·rintro(h | h | h)<;>simp[h]
   ·simp only[List.mem_cons]
theorem putI_inc(n:Int): ∀l:List Int,l.Pairwise (· < ·)→(putI n l).Pairwise (· < ·)
 | [],_=>by simp[putI]
 | y::l,h=>by
  have h':=List.pairwise_cons.1 h
  simp only[putI]
  split
  ·refine List.pairwise_cons.2 ⟨fun x hx=>?_,putI_inc n l h'.2⟩
   rcases(putI_mem n x l).1 hx with e | e
   ·omega
   ·exact h'.1 x e
  ·split
   ·exact h
   ·refine List.pairwise_cons.2 ⟨fun x hx=>?_,h⟩
    rcases List.mem_cons.1 hx with e | e
    ·omega
    ·have:=h'.1 x e;omega
theorem putI_len(n:Int): ∀l:List Int,(putI n l).length≤l.length+1
 | []=>by simp[putI]
 | y::l=>by
  have:=putI_len n l
  simp only[putI]
  split
  ·simp only[List.length_cons];omega
  ·split<;>simp
theorem inc_eq: ∀{l m:List Int},l.Pairwise (· < ·)→m.Pairwise (· < ·)→(∀x,x∈l↔x∈m)→l=m
 | [],[],_,_,_=>rfl
 | [],y::m,_,_,h=>by have:=(h y).2 (by simp);simp at this
 | x::l,[],_,_,h=>by have:=(h x).1 (by simp);simp at this
 | x::l,y::m,hl,hm,h=>by
  have hl':=List.pairwise_cons.1 hl
  have hm':=List.pairwise_cons.1 hm
  have e:x=y:=by
   rcases List.mem_cons.1 ((h x).1 (by simp)) with e | e
   ·exact e
   ·rcases List.mem_cons.1 ((h y).2 (by simp)) with e2 | e2
    ·exact e2.symm
    ·have a:=hm'.1 x e
     have b:=hl'.1 y e2
     omega
  subst e
  rw[inc_eq hl'.2 hm'.2 fun z=>?_]
  constructor
  ·intro hz
   rcases List.mem_cons.1 ((h z).1 (by simp[hz])) with e | e
   ·have:=hl'.1 z hz;omega
   ·exact e
  ·intro hz
   rcases List.mem_cons.1 ((h z).2 (by simp[hz])) with e | e
   ·have:=hm'.1 z hz;omega
   ·exact e
structure Od_ where
 u:Int
 p:List Int
 a:Int
def nearT(b:Brd)(s:Sta)(sd i:Int)(j:Nat):List Int:=(List.range j).foldl (fun l d=>if 0≤nextM b.m i (d:Nat)∧owner s (nextM b.m i (d:Nat))=1-sd then putI (nextM b.m i (d:Nat)) l else l) []
def nearM(b:Brd)(s:Sta)(sd i:Int):List Int:=((List.range b.m.t.length).filter fun k=>hasI (nbs b.m i) (k:Nat)&&decide (owner s (k:Nat)=1-sd)).map fun k:Nat=>(k:Int)
theorem nearT_succ(b:Brd)(s:Sta)(sd i:Int)(j:Nat):nearT b s sd i (j+1)=if 0≤nextM b.m i (j:Nat)∧owner s (nextM b.m i (j:Nat))=1-sd then putI (nextM b.m i (j:Nat)) (nearT b s sd i j) else nearT b s sd i j:=by
 simp only[nearT,List.range_succ,List.foldl_append,List.foldl_cons,List.foldl_nil]
theorem nearT_ok(b:Brd)(s:Sta)(sd i:Int)(j:Nat):(nearT b s sd i j).Pairwise (· < ·)∧(nearT b s sd i j).length≤j∧ ∀x,x∈nearT b s sd i j↔ ∃d,d<j∧nextM b.m i (d:Nat)=x∧0≤x∧owner s x=1-sd:=by
 induction j with
 | zero=>simp[nearT]
 | succ j ih=>
  rw[nearT_succ]
  by_cases g:0≤nextM b.m i (j:Nat)∧owner s (nextM b.m i (j:Nat))=1-sd
  ·rw[if_pos g]
   refine⟨putI_inc _ _ ih.1,by have:=putI_len (nextM b.m i (j:Nat)) (nearT b s sd i j);omega,fun x=>?_⟩
   rw[putI_mem,ih.2.2]
   constructor
   ·rintro(h | ⟨d,hd,h⟩)
    ·exact⟨j,by omega,h.symm,by rw[h];exact g⟩
    ·exact⟨d,by omega,h⟩
   ·rintro⟨d,hd,h1,h2⟩
    by_cases e:d=j
    ·subst e;exact .inl h1.symm
    ·exact .inr ⟨d,by omega,h1,h2⟩
  ·rw[if_neg g]
   refine⟨ih.1,by omega,fun x=>?_⟩
   rw[ih.2.2]
   constructor
   ·rintro⟨d,hd,h⟩;exact⟨d,by omega,h⟩
   ·rintro⟨d,hd,h1,h2⟩
    by_cases e:d=j
    ·subst e;rw[h1] at g;exact absurd h2 g
    ·exact⟨d,by omega,h1,h2⟩
theorem nbs_mem(m:Mp)(i x:Int):x∈nbs m i↔ ∃d,d<6∧nextM m i (d:Nat)=x∧0≤x:=by
 simp only[nbs,nbT,List.mem_filter,List.mem_map,List.mem_range,decide_eq_true_eq]
 constructor
 ·rintro⟨⟨d,h1,h2⟩,h3⟩;exact⟨d,h1,h2,h3⟩
 ·rintro⟨d,h1,h2,h3⟩;exact⟨⟨d,h1,h2⟩,h3⟩
theorem hasI_mem{l:List Int}{n:Int}:hasI l n=true↔n∈l:=by
 simp only[hasI,List.any_eq_true,decide_eq_true_eq]
 constructor
 ·rintro⟨x,h,rfl⟩;exact h
 ·intro h;exact⟨n,h,rfl⟩
theorem near_eq{b:Brd}{s:Sta}{sd i:Int}(g:brdOk b=true):nearT b s sd i 6=nearM b s sd i:=by
 obtain⟨h1,_,h2⟩:=nearT_ok b s sd i 6
 refine inc_eq h1 ?_ fun x=>?_
 ·simp only[nearM]
  refine List.pairwise_map.2 ?_
  exact(List.Pairwise.filter _ List.pairwise_lt_range).imp fun h=>by omega
 ·rw[h2]
  simp only[nearM,List.mem_map,List.mem_filter,List.mem_range,Bool.and_eq_true,hasI_mem,nbs_mem,decide_eq_true_eq]
  constructor
  ·rintro⟨d,hd,e,h0,ho⟩
   have:=(nextM_bnd (m:=b.m) (i:=i) (d:=d) (mp_wh (brd_mp g)).1 (mp_wh (brd_mp g)).2).2
   have ht:=brd_t g
   refine⟨x.toNat,⟨by omega,⟨d,hd,by omega,by omega⟩,?_⟩,by omega⟩
   rw[show((x.toNat:Nat):Int)=x by omega];exact ho
  ·rintro⟨k,⟨hk,⟨d,hd,e,h0⟩,ho⟩,rfl⟩
   exact⟨d,hd,e,h0,ho⟩
theorem nextM_inj{m:Mp}{i:Int}{d e:Nat}(hw:1≤m.w)(hd:d<6)(he:e<6)(h0:0≤nextM m i (d:Nat))(h:nextM m i (d:Nat)=nextM m i (e:Nat)):d=e:=by
 simp only[nextM,Int.toNat_natCast] at h h0
 split at h
 rotate_left
 ·rename_i g;rw[if_neg g] at h0;omega
 split at h
 rotate_left
 ·rename_i g _;rw[if_pos g] at h0;omega
 rename_i g1 g2
 simp only[inR,Bool.and_eq_true,decide_eq_true_eq] at g1 g2
 generalize i.tdiv m.w=r at *
 generalize i.tmod m.w=q at *
 have hr:r+dr d=r+dr e:=by
  rcases Int.lt_trichotomy (r+dr d) (r+dr e) with h1 | h1 | h1
  ·have:(r+dr d+1)*m.w≤(r+dr e)*m.w:=Int.mul_le_mul_of_nonneg_right (by omega) (by omega)
   rw[Int.add_mul,Int.one_mul] at this
   omega
  ·exact h1
  ·have:(r+dr e+1)*m.w≤(r+dr d)*m.w:=Int.mul_le_mul_of_nonneg_right (by omega) (by omega)
   rw[Int.add_mul,Int.one_mul] at this
   omega
 have hq:dq d=dq e:=by rw[hr] at h;omega
 have hr':dr d=dr e:=by omega
 have key: ∀a b:Fin 6,dq a=dq b→dr a=dr b→a=b:=by decide
 have:=key ⟨d,hd⟩ ⟨e,he⟩ hq hr'
 simpa using this
def ordsAt(b:Brd)(s:Sta)(u:Int)(x:Un)(i:Int):List Od_:=⟨u,pthM b x.k s.w x.at_.toNat i.toNat,-1⟩::(nearM b s x.sd i).map fun k=>⟨u,pthM b x.k s.w x.at_.toNat i.toNat,k⟩
def rchT(b:Brd)(s:Sta)(x:Un)(n:Nat):List Int:=((List.range n).filter fun k=>inR 0 (kindOf b x.k).mv ((farF b x.k s.w x.at_.toNat).getD k 0)).map fun k:Nat=>(k:Int)
def rchM(b:Brd)(s:Sta)(x:Un):List Int:=rchT b s x b.m.t.length
def goTo(s:Sta)(x:Un)(i:Int):Bool:=!decide (i=x.at_)&&!decide (owner s i=1-x.sd)
def choF(b:Brd)(s:Sta)(u:Int)(x:Un)(l:List Int):List Od_:=ordsAt b s u x x.at_++(l.filter (goTo s x)).flatMap (ordsAt b s u x)
def choM(b:Brd)(s:Sta)(u:Int)(x:Un):List Od_:=(choF b s u x (rchM b s x)).take 12
def choI(b:Brd)(s:Sta)(u:Int)(x:Un)(l:List Int):List Od_:=l.foldl (fun o i=>if goTo s x i&&decide (o.length<12) then o++ordsAt b s u x i else o) (ordsAt b s u x x.at_)
theorem fold_take{α β:Type}(c:β→Bool)(f:β→List α)(n:Nat): ∀(l:List β) (o:List α),(l.foldl (fun o i=>if c i&&decide (o.length<n) then o++f i else o) o).take n=(o++(l.filter c).flatMap f).take n
 | [],o=>by simp
 | i::l,o=>by
  simp only[List.foldl_cons]
  rw[fold_take c f n l]
  by_cases hc:c i=true
  ·simp only[hc,Bool.true_and,List.filter_cons,if_true,List.flatMap_cons,decide_eq_true_eq]
   split
   ·rw[List.append_assoc]
   ·rename_i h
    rw[List.take_append_of_le_length (by omega),List.take_append_of_le_length (by omega)]
  ·simp only[Bool.not_eq_true] at hc
   simp[hc,List.filter_cons]
theorem cho_eq(b:Brd)(s:Sta)(u:Int)(x:Un):(choI b s u x (rchM b s x)).take 12=choM b s u x:=by
 simp only[choI,choM,choF];exact fold_take _ _ _ _ _
theorem owner_own{b:Brd}{s:Sta}{k:Nat}(h:staOk b s=true)(hk:k<s.us.length)(ha:0≤(unOf s k).at_):owner s (unOf s k).at_≠1-(unOf s k).sd:=by
 have eu:unOf s k=s.us[k]:=by simp[unOf,List.getD,hk]
 rw[eu] at ha⊢
 have hs:stackOk b s.us s.us[k]=true:=by
  simp only[staOk,staOk0,Bool.and_eq_true] at h
  exact List.all_eq_true.1 h.2.2 _ (List.getElem_mem hk)
 intro ho
 have hun:=List.all_eq_true.1 (sta_all h) _ (List.getElem_mem hk)
 have hsd:=un_sd hun
 simp only[owner] at ho
 cases e:s.us.find? (inHex s.us[k].at_) with
 | none=>rw[e] at ho;simp only at ho;omega
 | some u=>
  rw[e] at ho
  simp only at ho
  have h1:=List.find?_some e
  have h2:=List.mem_of_find?_eq_some e
  have hc:0<cnt s.us s.us[k].at_ (1-s.us[k].sd):=List.countP_pos_iff.2 ⟨u,h2,by simp only[inHex,decide_eq_true_eq] at h1;simp only[isAt,Bool.and_eq_true,decide_eq_true_eq];exact⟨h1,ho⟩⟩
  simp only[stackOk,Bool.not_eq_true',Bool.and_eq_false_iff,Bool.or_eq_false_iff,decide_eq_false_iff_not] at hs
  omega
end Go.Proofs.YthggfnefjbckeaaGreatDoor.X
set_option maxHeartbeats 4000000
set_option maxRecDepth 8000
set_option linter.unusedSimpArgs false
set_option linter.unusedVariables false
open Nat renaming reduceBEq→N1,reduceAdd→N2,reduceSub→N3,reduceMul→N4,reduceEqDiff→N5,reduceLeDiff→N6,reduceLT→N7
open Int renaming reduceLE→I1,reduceLT→I2,reduceToNat→I3
namespace Go.Proofs.YthggfnefjbckeaaGreatDoor.X
open Go
attribute [local irreducible] Ev
def bools(l:List Bool):List (List AV):=l.map fun n=>[.bool n]
theorem bools_length(l:List Bool):(bools l).length=l.length:=by simp[bools]
theorem bools_get{v:List Bool}{k:Nat}(h:k<v.length):(bools v)[k]?=some [.bool (v.getD k false)]:=by
 simp[bools,List.getD,h]
theorem bools_set{v:List Bool}{k:Nat}{y:Bool}:(bools v).set k [.bool y]=bools (v.set k y):=by
 simp[bools,List.map_set]
theorem bools_rep{n:Nat}:List.replicate n [AV.bool false]=bools (List.replicate n false):=by simp[bools]
theorem ints_rep0{n:Nat}:List.replicate n [AV.int .i64 0]=ints (List.replicate n 0):=by simp[ints]
def repT(j n:Nat):List Int:=List.replicate j (-1)++List.replicate (n-j) 0
theorem repT_len{j n:Nat}(h:j≤n):(repT j n).length=n:=by simp[repT];omega
theorem repT_set{j n:Nat}(h:j<n):(repT j n).set j (-1)=repT (j+1) n:=by
 simp only[repT]
 rw[show n-j=(n-(j+1))+1 by omega,List.replicate_succ,mid_set (by simp),List.replicate_succ' (n:=j),List.append_assoc]
 rfl
theorem repT_0{n:Nat}:repT 0 n=List.replicate n 0:=by simp[repT]
theorem repT_n{n:Nat}:repT n n=List.replicate n (-1):=by simp[repT]
section
variable{C:CT}(hC:Closed Tryz.prog G1 md0 C)
include hC
theorem t103(m:Mp)(c:Int)(hw:1≤m.w∧m.w≤10)(hh:1≤m.h∧m.h≤10)(hc:0≤c∧c<300):Ev C 103 [.agg (mpF m),.int .i64 c] (.ow 1 (ints (nbs m c))):=by
 have c1:=fun d (hd:d<6)=>t138 hC m c (d:Nat) hw hh hc ⟨by omega,by omega⟩
 simp only[mpF] at *
 refine rT hC Q103 ?_ (own_ints _)
 simp only[c103,push_cast,↓J1,↓J2,N1,N2,N3,reduceCtorEq,N4,N5,N6,reduceIte,N7,I1,I2,I3]
 refine RL_count (fun i=>⟨tb 24 .any [(1,.int .i64 c),(2,.ptr 0 none 0 0 0),(5,.ref 1 none 1 0 (nbT m c i).length),(9,.int .i64 (i:Int))],[(1,.slice 1 (ints (nbT m c i))),(0,.var (mpF m))],2⟩) (fun _=>True) 6 0 (hdA [(1,1),(0,0)]) (by omega) trivial fun i hi _ J hJ=>?_
 simp only[mpF]
 by_cases h1:i<6
 ·have hJ1:=hJ h1 trivial
  clear hJ
  have hlt:decide ((i:Int)<6)=true:=decide_eq_true (by omega)
  have hle:=nbT_le m c i
  have tk:List.take (nbT m c i).length (ints (nbT m c i))=ints (nbT m c i):=List.take_of_length_le (by rw[ints_length];omega)
  rw[nbT_succ] at hJ1
  simp only[hlt,push_cast,↓J1,↓J2,N1,N2,N3,reduceCtorEq,N4,N5,N6,reduceIte,N7,I1,I2,I3]
  refine⟨_,c1 i h1,?_⟩
  by_cases g1:0≤nextM m c (i:Nat)
  ·have g2:decide (0≤nextM m c (i:Nat))=true:=decide_eq_true g1
   simp only[if_pos g1] at hJ1
   simp only[g2,tk,ints_length,allScs,apYR_sc,push_cast,↓J1,↓J2,N1,N2,N3,reduceCtorEq,N4,N5,N6,reduceIte,N7,I1,I2,I3]
   repeat (refine⟨by omega,?_⟩)
   refine hJ1 _ (hdA [(3,1),(0,0)] (hh:=?_))
   simp only[canR,canB,renO,renL,ren,lkp,hget,N7,N5,Nat.not_lt_zero,if_false,if_true,reduceIte,List.append_nil,List.nil_append,ints_sn]
   all_goals rfl
  ·have g2:decide (0≤nextM m c (i:Nat))=false:=decide_eq_false g1
   simp only[if_neg g1] at hJ1
   simp only[g2,push_cast,↓J1,↓J2,N1,N2,N3,reduceCtorEq,N4,N5,N6,reduceIte,N7,I1,I2,I3]
   exact hJ1 _ (hdA [(1,1),(0,0)])
 ·have hlt:decide ((i:Int)<6)=false:=decide_eq_false (by omega)
  rw[show nbs m c=nbT m c i by rw[show i=6 by omega];rfl]
  simp only[hlt,push_cast,↓J1,↓J2,N1,N2,N3,reduceCtorEq,N4,N5,N6,reduceIte,N7,I1,I2,I3]
  exact RetTo_ow rfl (by rw[ints_length])
end
end Go.Proofs.YthggfnefjbckeaaGreatDoor.X
set_option maxHeartbeats 4000000
set_option maxRecDepth 8000
set_option linter.unusedSimpArgs false
set_option linter.unusedVariables false
open Nat renaming reduceBEq→N1,reduceAdd→N2,reduceSub→N3,reduceMul→N4,reduceEqDiff→N5,reduceLeDiff→N6,reduceLT→N7
open Int renaming reduceLE→I1,reduceLT→I2,reduceToNat→I3
namespace Go.Proofs.YthggfnefjbckeaaGreatDoor.X
open Go
attribute [local irreducible] Ev
section
variable{C:CT}(hC:Closed Tryz.prog G1 md0 C)
include hC
end
end Go.Proofs.YthggfnefjbckeaaGreatDoor.X
set_option maxHeartbeats 4000000
set_option maxRecDepth 8000
set_option linter.unusedSimpArgs false
set_option linter.unusedVariables false
open Nat renaming reduceBEq→N1,reduceAdd→N2,reduceSub→N3,reduceMul→N4,reduceEqDiff→N5,reduceLeDiff→N6,reduceLT→N7
open Int renaming reduceLE→I1,reduceLT→I2,reduceToNat→I3
namespace Go.Proofs.YthggfnefjbckeaaGreatDoor.X
open Go
attribute [local irreducible] Ev
def wayAsk(b:Brd)(kd w i:Int):Bool:=kindAsk b kd&&inR 0 2 w&&inR 0 (b.m.w*b.m.h-1) i
section
variable{C:CT}(hC:Closed Tryz.prog G1 md0 C)
include hC
theorem t151(w:Int)(r:Bool)(hw:0≤w∧w≤2):Ev C 151 [.int .i64 w,.bool r] (.int .i64 (if r then wRoad w else w)):=by
 refine rT hC Q151 ?_
 simp only[c151,push_cast,↓J1,↓J2,N1,N2,N3,reduceCtorEq,N4,N5,N6,reduceIte,N7,I1,I2,I3]
 cases r
 ·simp only[Bool.false_eq_true,if_false,push_cast,↓J1,↓J2,N1,N2,N3,reduceCtorEq,N4,N5,N6,reduceIte,N7,I1,I2,I3]
 ·have e:wRoad w=w.tdiv 2:=by
   simp only[wRoad]
   rcases(show w=0∨w=1∨w=2 by omega) with h | h | h<;>subst h<;>decide
  rw[if_pos rfl,e]
  simp only[push_cast,↓J1,↓J2,N1,N2,N3,reduceCtorEq,N4,N5,N6,reduceIte,N7,I1,I2,I3]
  have hq:0≤w.tdiv 2∧w.tdiv 2≤1:=by
   rcases(show w=0∨w=1∨w=2 by omega) with h | h | h<;>subst h<;>decide
  exact⟨by omega,wrap64 (by omega) (by omega)⟩
theorem t165(w:Int)(r:Bool)(hw:0≤w∧w≤2):Ev C 165 [.int .i64 w,.bool r] (.int .i64 (if r then wRoad w else w)):=by
 have w1:IntKind.i64.wrap (w-1)=w-1:=wrap64 (by omega) (by omega)
 refine rT hC Q165 ?_
 simp only[c165,push_cast,↓J1,↓J2,N1,N2,N3,reduceCtorEq,N4,N5,N6,reduceIte,N7,I1,I2,I3]
 cases r
 ·simp only[Bool.false_eq_true,if_false,push_cast,↓J1,↓J2,N1,N2,N3,reduceCtorEq,N4,N5,N6,reduceIte,N7,I1,I2,I3]
 ·simp only[wRoad,if_true]
  by_cases h:0<w
  ·have g1:decide (0<w)=true:=decide_eq_true h
   simp only[g1,if_pos h,w1,push_cast,↓J1,↓J2,N1,N2,N3,reduceCtorEq,N4,N5,N6,reduceIte,N7,I1,I2,I3]
  ·have g1:decide (0<w)=false:=decide_eq_false h
   simp only[g1,if_neg h,push_cast,↓J1,↓J2,N1,N2,N3,reduceCtorEq,N4,N5,N6,reduceIte,N7,I1,I2,I3]
theorem t125(b:Brd)(kd w i:Int)(d:Nat)(h:kindAsk b kd=true)(hw:0≤w∧w≤2)(hi:0≤i∧i<b.m.w*b.m.h)(hd:d<6)(hb:BrdB (2^50) b):Ev C 125 [brdF b,.int .i64 kd,.int .i64 i,.int .i64 (d:Int),.int .i64 w] (.int .i64 (stepM b kd w i d)):=by
 have g:brdOk b=true:=by simp only[kindAsk,Bool.and_eq_true] at h;exact h.1
 have hik:inR 0 (b.r.ks.length-1) kd=true:=by simp only[kindAsk,Bool.and_eq_true] at h;exact h.2
 have hm:=mp_wh (brd_mp g)
 have hwh:=wh_le hm.1 hm.2
 have hr:=brd_ru g
 simp only[rulOk,tailOk,inR,Bool.and_eq_true,decide_eq_true_eq] at hr
 have hn:=nextM_bnd (m:=b.m) (i:=i) (d:=d) hm.1 hm.2
 have hin: ∀k,0≤k→k<b.m.w*b.m.h→inR 0 (b.m.w*b.m.h-1) k=true:=fun k h1 h2=>by simp only[inR,Bool.and_eq_true,decide_eq_true_eq];omega
 have hcb:=fun k h1 h2=>cost_bnd h (i:=k) ⟨h1,h2⟩
 have c1:=t62 hC b.m i (d:Nat) hm.1 hm.2 (by omega) ⟨by omega,by omega⟩
 have c2:=fun k h1 h2=>t146 hC b kd k g hik (hin k h1 h2) hb
 have c3:=t150 hC b.m i d hm.1 hm.2 (by omega) hd hb.m
 have c4:=t152 hC b.m i d hm.1 hm.2 (by omega) hd hb.m
 have c5:=fun r=>t151 hC w r hw
 have hwr:0≤wRoad w∧wRoad w≤2:=by simp only[wRoad];constructor<;>split<;>omega
 simp only[brdF,rulF,mpF,List.cons_append,List.nil_append] at *
 refine rT hC Q125 ?_
 simp only[c125,push_cast,↓J1,↓J2,N1,N2,N3,reduceCtorEq,N4,N5,N6,reduceIte,N7,I1,I2,I3]
 refine⟨_,c1,?_⟩
 simp only[stepM]
 generalize edgeM b.m i d=e at *
 generalize nextM b.m i (d:Nat)=k at *
 by_cases h1:k<0
 ·have g1:decide (k<0)=true:=decide_eq_true h1
  simp only[g1,Bool.true_or,if_true,push_cast,↓J1,↓J2,N1,N2,N3,reduceCtorEq,N4,N5,N6,reduceIte,N7,I1,I2,I3]
 have g1:decide (k<0)=false:=decide_eq_false h1
 have h2:=hcb k (by omega) (by omega)
 have c2:=c2 k (by omega) (by omega)
 simp only[g1,Bool.false_or,push_cast,↓J1,↓J2,N1,N2,N3,reduceCtorEq,N4,N5,N6,reduceIte,N7,I1,I2,I3]
 refine⟨_,c2,?_⟩
 by_cases h3:costAt b kd k=0
 ·have g3:decide (costAt b kd k=0)=true:=decide_eq_true h3
  simp only[g3,if_pos h3,push_cast,↓J1,↓J2,N1,N2,N3,reduceCtorEq,N4,N5,N6,reduceIte,N7,I1,I2,I3]
 have g3:decide (costAt b kd k=0)=false:=decide_eq_false h3
 simp only[g3,Bool.false_eq_true,if_false,push_cast,↓J1,↓J2,N1,N2,N3,reduceCtorEq,N4,N5,N6,reduceIte,N7,I1,I2,I3]
 refine⟨_,c3,?_⟩
 cases hasI b.m.ro e
 rotate_left
 ·have w1:IntKind.i64.wrap (b.r.road+wRoad w)=b.r.road+wRoad w:=wrap64 (by omega) (by omega)
  simp only[if_true,push_cast,↓J1,↓J2,N1,N2,N3,reduceCtorEq,N4,N5,N6,reduceIte,N7,I1,I2,I3]
  refine⟨_,c5 true,?_⟩
  simp only[if_true,if_neg h3,w1,push_cast,↓J1,↓J2,N1,N2,N3,reduceCtorEq,N4,N5,N6,reduceIte,N7,I1,I2,I3]
 simp only[Bool.false_eq_true,if_false,push_cast,↓J1,↓J2,N1,N2,N3,reduceCtorEq,N4,N5,N6,reduceIte,N7,I1,I2,I3]
 have w1:IntKind.i64.wrap (costAt b kd k+w)=costAt b kd k+w:=wrap64 (by omega) (by omega)
 have w2:IntKind.i64.wrap (costAt b kd k+w+b.r.river)=costAt b kd k+w+b.r.river:=wrap64 (by omega) (by omega)
 refine⟨_,c2,?_⟩
 simp only[push_cast,↓J1,↓J2,N1,N2,N3,reduceCtorEq,N4,N5,N6,reduceIte,N7,I1,I2,I3]
 refine⟨_,c5 false,?_⟩
 simp only[Bool.false_eq_true,if_false,w1,push_cast,↓J1,↓J2,N1,N2,N3,reduceCtorEq,N4,N5,N6,reduceIte,N7,I1,I2,I3]
 refine⟨_,c4,?_⟩
 cases hasI b.m.ri e
 ·simp only[Bool.false_eq_true,if_false,if_neg h3,Int.add_zero,push_cast,↓J1,↓J2,N1,N2,N3,reduceCtorEq,N4,N5,N6,reduceIte,N7,I1,I2,I3]
 ·simp only[if_true,if_neg h3,w2,push_cast,↓J1,↓J2,N1,N2,N3,reduceCtorEq,N4,N5,N6,reduceIte,N7,I1,I2,I3]
theorem t137(b:Brd)(kd w i:Int)(d:Nat)(h:kindAsk b kd=true)(hw:0≤w∧w≤2)(hi:0≤i∧i<b.m.w*b.m.h)(hd:d<6)(hb:BrdB (2^50) b):Ev C 137 [brdF b,.int .i64 kd,.int .i64 w,.int .i64 i,.int .i64 (d:Int)] (.int .i64 (stepM b kd w i d)):=by
 have g:brdOk b=true:=by simp only[kindAsk,Bool.and_eq_true] at h;exact h.1
 have hik:inR 0 (b.r.ks.length-1) kd=true:=by simp only[kindAsk,Bool.and_eq_true] at h;exact h.2
 have hm:=mp_wh (brd_mp g)
 have hwh:=wh_le hm.1 hm.2
 have hr:=brd_ru g
 simp only[rulOk,tailOk,inR,Bool.and_eq_true,decide_eq_true_eq] at hr
 have hn:=nextM_bnd (m:=b.m) (i:=i) (d:=d) hm.1 hm.2
 have hin: ∀k,0≤k→k<b.m.w*b.m.h→inR 0 (b.m.w*b.m.h-1) k=true:=fun k h1 h2=>by simp only[inR,Bool.and_eq_true,decide_eq_true_eq];omega
 have hcb:=fun k h1 h2=>cost_bnd h (i:=k) ⟨h1,h2⟩
 have c1:=t138 hC b.m i (d:Nat) hm.1 hm.2 (by omega) ⟨by omega,by omega⟩
 have c2:=fun k h1 h2=>t162 hC b kd k g hik (hin k h1 h2) hb
 have c6:=fun hx=>t164 hC b.m i d hm.1 hm.2 (by omega) hd hx
 have c3:=fun e=>t140 hC b.m.ro e hb.m.ro
 have c4:=fun e=>t140 hC b.m.ri e hb.m.ri
 have c5:=fun r=>t165 hC w r hw
 have hwr:0≤wRoad w∧wRoad w≤2:=by simp only[wRoad];constructor<;>split<;>omega
 simp only[brdF,rulF,mpF,List.cons_append,List.nil_append] at *
 refine rT hC Q137 ?_
 simp only[c137,push_cast,↓J1,↓J2,N1,N2,N3,reduceCtorEq,N4,N5,N6,reduceIte,N7,I1,I2,I3]
 refine⟨_,c1,?_⟩
 simp only[stepM]
 generalize edgeM b.m i d=e at *
 generalize nextM b.m i (d:Nat)=k at *
 by_cases h1:k<0
 ·have g1:decide (k<0)=true:=decide_eq_true h1
  simp only[g1,Bool.true_or,if_true,push_cast,↓J1,↓J2,N1,N2,N3,reduceCtorEq,N4,N5,N6,reduceIte,N7,I1,I2,I3]
 have g1:decide (k<0)=false:=decide_eq_false h1
 have h2:=hcb k (by omega) (by omega)
 have c2:=c2 k (by omega) (by omega)
 simp only[g1,Bool.false_or,push_cast,↓J1,↓J2,N1,N2,N3,reduceCtorEq,N4,N5,N6,reduceIte,N7,I1,I2,I3]
 refine⟨_,c2,?_⟩
 by_cases h3:costAt b kd k=0
 ·have g3:decide (costAt b kd k=0)=true:=decide_eq_true h3
  simp only[g3,if_pos h3,push_cast,↓J1,↓J2,N1,N2,N3,reduceCtorEq,N4,N5,N6,reduceIte,N7,I1,I2,I3]
 have g3:decide (costAt b kd k=0)=false:=decide_eq_false h3
 simp only[g3,Bool.false_eq_true,if_false,push_cast,↓J1,↓J2,N1,N2,N3,reduceCtorEq,N4,N5,N6,reduceIte,N7,I1,I2,I3]
 refine⟨_,c6 (by omega),?_⟩
 simp only[push_cast,↓J1,↓J2,N1,N2,N3,reduceCtorEq,N4,N5,N6,reduceIte,N7,I1,I2,I3]
 refine⟨_,c3 _,?_⟩
 cases hasI b.m.ro e
 rotate_left
 ·have w1:IntKind.i64.wrap (b.r.road+wRoad w)=b.r.road+wRoad w:=wrap64 (by omega) (by omega)
  simp only[if_true,push_cast,↓J1,↓J2,N1,N2,N3,reduceCtorEq,N4,N5,N6,reduceIte,N7,I1,I2,I3]
  refine⟨_,c5 true,?_⟩
  simp only[if_true,if_neg h3,w1,push_cast,↓J1,↓J2,N1,N2,N3,reduceCtorEq,N4,N5,N6,reduceIte,N7,I1,I2,I3]
 simp only[Bool.false_eq_true,if_false,push_cast,↓J1,↓J2,N1,N2,N3,reduceCtorEq,N4,N5,N6,reduceIte,N7,I1,I2,I3]
 have w1:IntKind.i64.wrap (costAt b kd k+w)=costAt b kd k+w:=wrap64 (by omega) (by omega)
 have w2:IntKind.i64.wrap (costAt b kd k+w+b.r.river)=costAt b kd k+w+b.r.river:=wrap64 (by omega) (by omega)
 refine⟨_,c2,?_⟩
 simp only[push_cast,↓J1,↓J2,N1,N2,N3,reduceCtorEq,N4,N5,N6,reduceIte,N7,I1,I2,I3]
 refine⟨_,c5 false,?_⟩
 simp only[Bool.false_eq_true,if_false,w1,push_cast,↓J1,↓J2,N1,N2,N3,reduceCtorEq,N4,N5,N6,reduceIte,N7,I1,I2,I3]
 refine⟨_,c4 _,?_⟩
 cases hasI b.m.ri e
 ·simp only[Bool.false_eq_true,if_false,if_neg h3,Int.add_zero,push_cast,↓J1,↓J2,N1,N2,N3,reduceCtorEq,N4,N5,N6,reduceIte,N7,I1,I2,I3]
 ·simp only[if_true,if_neg h3,w2,push_cast,↓J1,↓J2,N1,N2,N3,reduceCtorEq,N4,N5,N6,reduceIte,N7,I1,I2,I3]
theorem t91(b:Brd)(kd w i:Int)(hb:BrdB (2^50) b):Ev C 91 [brdF b,.int .i64 kd,.int .i64 w,.int .i64 i] (.bool (wayAsk b kd w i)):=by
 have c1:=t123 hC b kd i hb
 have c2:=tIn hC w 0 2
 simp only[wayAsk]
 simp only[brdF,rulF,mpF,List.cons_append,List.nil_append] at *
 refine rT hC Q91 ?_
 simp only[c91,push_cast,↓J1,↓J2,N1,N2,N3,reduceCtorEq,N4,N5,N6,reduceIte,N7,I1,I2,I3]
 refine⟨_,c1,?_⟩
 cases kindAsk b kd
 ·simp only[Bool.false_and,push_cast,↓J1,↓J2,N1,N2,N3,reduceCtorEq,N4,N5,N6,reduceIte,N7,I1,I2,I3]
 cases inR 0 (b.m.w*b.m.h-1) i
 ·simp only[Bool.and_false,push_cast,↓J1,↓J2,N1,N2,N3,reduceCtorEq,N4,N5,N6,reduceIte,N7,I1,I2,I3]
 simp only[Bool.and_self,Bool.true_and,Bool.and_true,push_cast,↓J1,↓J2,N1,N2,N3,reduceCtorEq,N4,N5,N6,reduceIte,N7,I1,I2,I3]
 refine⟨_,c2,?_⟩
 simp only[push_cast,↓J1,↓J2,N1,N2,N3,reduceCtorEq,N4,N5,N6,reduceIte,N7,I1,I2,I3]
theorem t163(b:Brd)(kd w i:Int)(hb:BrdB (2^50) b):Ev C 163 [brdF b,.int .i64 kd,.int .i64 w,.int .i64 i] (.bool (wayAsk b kd w i)):=by
 have c1:=t183 hC b kd hb
 have c2:=t184 hC w
 have c3:=t134 hC b
 have c4:=fun h=>tIdx hC i (b.m.t.length:Int) h
 have hb2:=hb.m.t
 simp only[wayAsk]
 simp only[brdF,rulF,mpF,List.cons_append,List.nil_append] at *
 refine rT hC Q163 ?_
 simp only[c163,push_cast,↓J1,↓J2,N1,N2,N3,reduceCtorEq,N4,N5,N6,reduceIte,N7,I1,I2,I3]
 refine⟨_,c1,?_⟩
 cases g1:kindAsk b kd
 ·simp only[g1,Bool.false_and,push_cast,↓J1,↓J2,N1,N2,N3,reduceCtorEq,N4,N5,N6,reduceIte,N7,I1,I2,I3]
 have g:brdOk b=true:=by simp only[kindAsk,Bool.and_eq_true] at g1;exact g1.1
 have ht:=brd_t g
 simp only[g1,push_cast,↓J1,↓J2,N1,N2,N3,reduceCtorEq,N4,N5,N6,reduceIte,N7,I1,I2,I3]
 refine⟨_,c2,?_⟩
 cases inR 0 2 w
 ·simp only[Bool.and_false,Bool.false_and,push_cast,↓J1,↓J2,N1,N2,N3,reduceCtorEq,N4,N5,N6,reduceIte,N7,I1,I2,I3]
 simp only[push_cast,↓J1,↓J2,N1,N2,N3,reduceCtorEq,N4,N5,N6,reduceIte,N7,I1,I2,I3]
 refine⟨_,c3,?_⟩
 simp only[push_cast,↓J1,↓J2,N1,N2,N3,reduceCtorEq,N4,N5,N6,reduceIte,N7,I1,I2,I3]
 refine⟨_,c4 (by omega),?_⟩
 simp only[ht,Bool.and_self,Bool.true_and,push_cast,↓J1,↓J2,N1,N2,N3,reduceCtorEq,N4,N5,N6,reduceIte,N7,I1,I2,I3]
theorem t136(b:Brd)(kd w i k:Int)(hb:BrdB (2^50) b):Ev C 136 [brdF b,.int .i64 kd,.int .i64 w,.int .i64 i,.int .i64 k] (.bool (wayAsk b kd w i&&inR 0 (b.m.w*b.m.h-1) k)):=by
 have c1:=t163 hC b kd w i hb
 have c3:=t134 hC b
 have c4:=fun h=>tIdx hC k (b.m.t.length:Int) h
 have hb2:=hb.m.t
 simp only[brdF,rulF,mpF,List.cons_append,List.nil_append] at *
 refine rT hC Q136 ?_
 simp only[c136,push_cast,↓J1,↓J2,N1,N2,N3,reduceCtorEq,N4,N5,N6,reduceIte,N7,I1,I2,I3]
 refine⟨_,c1,?_⟩
 cases g1:wayAsk b kd w i
 ·simp only[g1,Bool.false_and,push_cast,↓J1,↓J2,N1,N2,N3,reduceCtorEq,N4,N5,N6,reduceIte,N7,I1,I2,I3]
 have g:brdOk b=true:=by simp only[wayAsk,kindAsk,Bool.and_eq_true] at g1;exact g1.1.1.1
 have ht:=brd_t g
 simp only[g1,push_cast,↓J1,↓J2,N1,N2,N3,reduceCtorEq,N4,N5,N6,reduceIte,N7,I1,I2,I3]
 refine⟨_,c3,?_⟩
 simp only[push_cast,↓J1,↓J2,N1,N2,N3,reduceCtorEq,N4,N5,N6,reduceIte,N7,I1,I2,I3]
 refine⟨_,c4 (by omega),?_⟩
 simp only[ht,Bool.true_and,push_cast,↓J1,↓J2,N1,N2,N3,reduceCtorEq,N4,N5,N6,reduceIte,N7,I1,I2,I3]
theorem t126n(n:Int):Ev C 126 [.nil,.int .i64 n] (.bool false):=by
 refine rT hC Q126 ?_
 simp only[c126,push_cast,↓J1,↓J2,N1,N2,N3,reduceCtorEq,N4,N5,N6,reduceIte,N7,I1,I2,I3]
 refine RL_count (fun i=>⟨tb 17 .any [(1,.int .i64 n),(7,.nil),(8,.int .i64 0),(9,.int .i64 0)],[],0⟩) (fun _=>True) 0 0 (hdA []) (by omega) trivial fun i hi _ J hJ=>?_
 have hlt:decide ((0:Int)<0)=false:=rfl
 simp only[hlt,decide_false,push_cast,↓J1,↓J2,N1,N2,N3,reduceCtorEq,N4,N5,N6,reduceIte,N7,I1,I2,I3]
theorem t169n(n:Int):Ev C 169 [.nil,.int .i64 n] (.int .i64 (-1)):=by
 refine rT hC Q169 ?_
 simp only[c169,push_cast,↓J1,↓J2,N1,N2,N3,reduceCtorEq,N4,N5,N6,reduceIte,N7,I1,I2,I3]
 refine RL_count (fun i=>⟨tb 19 .any [(0,.nil),(1,.int .i64 n),(7,.int .i64 0),(8,.int .i64 0)],[],0⟩) (fun _=>True) 0 0 (hdA []) (by omega) trivial fun i hi _ J hJ=>?_
 have hlt:decide ((0:Int)<0)=false:=rfl
 simp only[hlt,decide_false,push_cast,↓J1,↓J2,N1,N2,N3,reduceCtorEq,N4,N5,N6,reduceIte,N7,I1,I2,I3]
theorem t140n(n:Int):Ev C 140 [.nil,.int .i64 n] (.bool false):=by
 have c1:=t169n hC n
 refine rT hC Q140 ?_
 simp only[c140,push_cast,↓J1,↓J2,N1,N2,N3,reduceCtorEq,N4,N5,N6,reduceIte,N7,I1,I2,I3]
 refine⟨_,c1,?_⟩
 have hlt:decide ((0:Int)≤ -1)=false:=rfl
 simp only[hlt,decide_false,push_cast,↓J1,↓J2,N1,N2,N3,reduceCtorEq,N4,N5,N6,reduceIte,N7,I1,I2,I3]
end
end Go.Proofs.YthggfnefjbckeaaGreatDoor.X
set_option maxHeartbeats 4000000
set_option maxRecDepth 8000
set_option linter.unusedSimpArgs false
set_option linter.unusedVariables false
open Nat renaming reduceBEq→N1,reduceAdd→N2,reduceSub→N3,reduceMul→N4,reduceEqDiff→N5,reduceLeDiff→N6,reduceLT→N7
open Int renaming reduceLE→I1,reduceLT→I2,reduceToNat→I3
namespace Go.Proofs.YthggfnefjbckeaaGreatDoor.X
open Go
attribute [local irreducible] Ev
theorem rset_eq{n i:Nat}:(ints (List.replicate n (-1))).set i [.int .i64 0]=ints ((List.replicate n (-1)).set i 0):=ints_set
section
variable{C:CT}(hC:Closed Tryz.prog G1 md0 C)
include hC
theorem t105f(b:Brd)(kd w:Int)(i:Nat)(h:kindAsk b kd=true)(hw:0≤w∧w≤2)(hi:i<b.m.t.length)(hb:BrdB (2^50) b):Ev C 105 [brdF b,.int .i64 kd,.int .i64 w,.int .i64 (i:Int),.bool false,.nil] (.ow 1 (ints (farF b kd w i))):=by
 have g:brdOk b=true:=by simp only[kindAsk,Bool.and_eq_true] at h;exact h.1
 have hm:=mp_wh (brd_mp g)
 have ht:=brd_t g
 have hn:=(brd_n g).1
 have hok:=fwd_ok h hw
 have c0:=t134 hC b
 have ccs:=fun(k:Nat) (hk:(k:Int)<b.m.w*b.m.h) (d:Nat) (hd:d<6)=>t137 hC b kd w (k:Nat) d h hw ⟨by omega,hk⟩ hd hb
 have cnx:=fun(k:Nat) (hk:(k:Int)<b.m.w*b.m.h) (d:Nat) (hd:d<6)=>t138 hC b.m (k:Nat) (d:Nat) hm.1 hm.2 (by have:=wh_le hm.1 hm.2;omega) ⟨by omega,by omega⟩
 have cnt:=fun n=>t140n hC n
 have hlt0:=fun(k n:Nat) (h:k<n)=>(decide_eq_true (show(k:Int)<(n:Int) by omega):decide ((k:Int)<(n:Int))=true)
 simp only[farF,rxF]
 generalize hN:b.m.t.length=n at *
 simp only[brdF,rulF,mpF,List.cons_append,List.nil_append] at *
 refine rT hC Q105 ?_ (own_ints _)
 simp only[c105,push_cast,↓J1,↓J2,N1,N2,N3,reduceCtorEq,N4,N5,N6,reduceIte,N7,I1,I2,I3]
 refine⟨_,c0,?_⟩
 simp only[Int.toNat_natCast,List.length_replicate,ints_rep0,push_cast,↓J1,↓J2,N1,N2,N3,reduceCtorEq,N4,N5,N6,reduceIte,N7,I1,I2,I3]
 repeat (refine⟨by omega,?_⟩)
 refine RL_count (fun j=>⟨tb 102 .any [(1,.int .i64 kd),(2,.int .i64 w),(3,.int .i64 (i:Int)),(4,.bool false),(5,.nil),(6,.ptr 0 none 0 0 0),(13,.ref 1 none 1 0 n),(25,.int .i64 (n:Int)),(26,.int .i64 (j:Int))],[(1,.slice 1 (ints (repT j n))),(0,.var (rulF b.r++mpF b.m))],2⟩) (fun _=>True) n 0 (by rw[repT_0];exact(hdA [(1,1),(0,0)])) (by omega) trivial fun j hj _ J hJ=>?_
 simp only[rulF,mpF,List.cons_append,List.nil_append]
 by_cases h1:j<n
 ·have hJ1:=hJ h1 trivial
  clear hJ
  have hlt:=hlt0 j n h1
  have hrl:=repT_len hj
  have e1:(ints (repT j n))[j]?=some [.int .i64 ((repT j n).getD j 0)]:=cut_ints_get (by omega)
  rw[←repT_set h1] at hJ1
  simp only[hlt,Int.toNat_natCast,e1,ints_set,ints_length,hrl,push_cast,↓J1,↓J2,N1,N2,N3,reduceCtorEq,N4,N5,N6,reduceIte,N7,I1,I2,I3]
  repeat (refine⟨by omega,?_⟩)
  exact hJ1 _ (hdA [(1,1),(0,0)])
 obtain rfl:j=n:=by omega
 clear hJ h1
 have hlt:decide ((j:Int)<(j:Int))=false:=decide_eq_false (by omega)
 have e1:(ints (List.replicate j (-1)))[i]?=some [.int .i64 ((List.replicate j (-1:Int)).getD i 0)]:=cut_ints_get (by simpa using hi)
 rw[repT_n]
 simp only[hlt,Int.toNat_natCast,e1,rset_eq,ints_length,List.length_replicate,push_cast,↓J1,↓J2,N1,N2,N3,reduceCtorEq,N4,N5,N6,reduceIte,N7,I1,I2,I3]
 repeat (refine⟨by omega,?_⟩)
 have hNle:=rxN_le (w:=fwd b kd w) (n:=j) (i:=i)
 refine RL_count (fun m=>⟨tb 102 .any [(1,.int .i64 kd),(2,.int .i64 w),(4,.bool false),(5,.nil),(6,.ptr 0 none 0 0 0),(13,.ref 1 none 1 0 j),(15,.bool (rxI (fwd b kd w) j i m).2)],[(1,.slice 1 (ints ((rxI (fwd b kd w) j i m).1))),(0,.var (rulF b.r++mpF b.m))],2⟩) (fun _=>True) (rxN (fwd b kd w) j i) 0 (hdA [(1,1),(0,0)]) (by omega) trivial fun m hm' _ J hJ=>?_
 simp only[rulF,mpF,List.cons_append,List.nil_append]
 have inv:=rxI_inv hn hok hi m
 by_cases h1:m<rxN (fwd b kd w) j i
 rotate_left
 ·obtain rfl:m=rxN (fwd b kd w) j i:=by omega
  have hend:=rxN_end hn hok hi
  have hil:=inv.len
  simp only[hend,push_cast,↓J1,↓J2,N1,N2,N3,reduceCtorEq,N4,N5,N6,reduceIte,N7,I1,I2,I3]
  exact RetTo_ow rfl (by rw[ints_length,hil])
 have hfl:=rxN_lt h1
 have hJ1:=hJ h1 trivial
 clear hJ
 simp only[rxI] at hJ1
 generalize (rxI (fwd b kd w) j i m).1=o0 at *
 simp only[hfl,push_cast,↓J1,↓J2,N1,N2,N3,reduceCtorEq,N4,N5,N6,reduceIte,N7,I1,I2,I3]
 refine RL_count (fun k=>⟨tb 102 .any [(1,.int .i64 kd),(2,.int .i64 w),(4,.bool false),(5,.nil),(6,.ptr 0 none 0 0 0),(13,.ref 1 none 1 0 j),(15,.bool (rxP (fwd b kd w) (o0,false) k).2),(38,.int .i64 (j:Int)),(39,.int .i64 (k:Int))],[(1,.slice 1 (ints ((rxP (fwd b kd w) (o0,false) k).1))),(0,.var (rulF b.r++mpF b.m))],2⟩) (fun _=>True) j 0 (hdA [(1,1),(0,0)]) (by omega) trivial fun k hk _ JJ hJJ=>?_
 simp only[rulF,mpF,List.cons_append,List.nil_append]
 have inv2:=(rxP_inv (p:=(o0,false)) hn hok inv k hk).1
 by_cases h2:k<j
 rotate_left
 ·obtain rfl:k=j:=by omega
  have hlt:decide ((k:Int)<(k:Int))=false:=decide_eq_false (by omega)
  simp only[hlt,push_cast,↓J1,↓J2,N1,N2,N3,reduceCtorEq,N4,N5,N6,reduceIte,N7,I1,I2,I3]
  exact hJ1 _ (hdA [(1,1),(0,0)])
 have hJ2:=hJJ h2 trivial
 clear hJJ hJ1
 have hlt:=hlt0 k j h2
 rw[rxP_succ] at hJ2
 generalize rxP (fwd b kd w) (o0,false) k=p at *
 simp only[hlt,push_cast,↓J1,↓J2,N1,N2,N3,reduceCtorEq,N4,N5,N6,reduceIte,N7,I1,I2,I3]
 refine RL_count (fun d=>⟨tb 102 .any [(1,.int .i64 kd),(2,.int .i64 w),(4,.bool false),(5,.nil),(6,.ptr 0 none 0 0 0),(13,.ref 1 none 1 0 j),(15,.bool (rxT (fwd b kd w) k p d).2),(16,.int .i64 (k:Int)),(38,.int .i64 (j:Int)),(39,.int .i64 (k:Int)),(42,.int .i64 (d:Int))],[(1,.slice 1 (ints ((rxT (fwd b kd w) k p d).1))),(0,.var (rulF b.r++mpF b.m))],2⟩) (fun _=>True) 6 0 (hdA [(1,1),(0,0)]) (by omega) trivial fun d hd _ JK hJK=>?_
 simp only[rulF,mpF,List.cons_append,List.nil_append]
 have inv3:=(rxT_inv (p:=p) hn hok h2 inv2 d hd).1
 by_cases h3:d<6
 rotate_left
 ·have hd6:decide ((d:Int)<6)=false:=decide_eq_false (by omega)
  have e6:rxT (fwd b kd w) k p 6=rxT (fwd b kd w) k p d:=by rw[show d=6 by omega]
  rw[e6] at hJ2
  simp only[hd6,push_cast,↓J1,↓J2,N1,N2,N3,reduceCtorEq,N4,N5,N6,reduceIte,N7,I1,I2,I3]
  exact hJ2 _ (hdA [(1,1),(0,0)])
 have hd6:decide ((d:Int)<6)=true:=decide_eq_true (by omega)
 have hK:=hJK h3 trivial
 clear hJK hJ2
 rw[rxT_succ] at hK
 generalize rxT (fwd b kd w) k p d=q at *
 have er:rx (fwd b kd w) k q d=if(!decide (stepM b kd w k d=0)&&(decide (0≤q.1.getD (k) 0)&&(decide (q.1.getD ((nextM b.m k d).toNat) 0<0)||decide (q.1.getD (k) 0+stepM b kd w k d<q.1.getD ((nextM b.m k d).toNat) 0))))=true then(q.1.set ((nextM b.m k d).toNat) (q.1.getD (k) 0+stepM b kd w k d),true) else q:=rfl
 rw[er] at hK
 clear er
 have ccs:=ccs k (by omega) d h3
 have cnx:=cnx k (by omega) d h3
 have hsb:=step_bnd (i:=(k:Int)) (d:=d) h hw
 generalize stepM b kd w k d=cc at *
 generalize nextM b.m (k:Nat) (d:Nat)=nx at *
 obtain⟨o,f⟩:=q
 have hil:=inv3.len
 have hlo:=inv3.lo
 simp only at hil hlo hK⊢
 simp only[hd6,push_cast,↓J1,↓J2,N1,N2,N3,reduceCtorEq,N4,N5,N6,reduceIte,N7,I1,I2,I3]
 refine⟨_,ccs,?_⟩
 by_cases h4:cc=0
 ·have g4:decide (cc=0)=true:=decide_eq_true h4
  simp only[g4,Bool.not_true,Bool.false_and,Bool.false_eq_true,if_false] at hK
  simp only[g4,push_cast,↓J1,↓J2,N1,N2,N3,reduceCtorEq,N4,N5,N6,reduceIte,N7,I1,I2,I3]
  exact hK _ (hdA [(1,1),(0,0)])
 have g4:decide (cc=0)=false:=decide_eq_false h4
 have hnx:=hsb.2.2 h4
 obtain⟨y,rfl⟩: ∃y:Nat,nx=y:=⟨nx.toNat,by omega⟩
 have hy:y<j:=by omega
 have ek:(ints o)[k]?=some [.int .i64 (o.getD k 0)]:=cut_ints_get (by omega)
 have ey:(ints o)[y]?=some [.int .i64 (o.getD y 0)]:=cut_ints_get (by omega)
 have bk:=hlo _ (getD_mem (l:=o) (i:=k) (by omega) 0)
 have by_:=hlo _ (getD_mem (l:=o) (i:=y) (by omega) 0)
 simp only[g4,Bool.not_false,Bool.true_and,Int.toNat_natCast] at hK
 simp only[g4,push_cast,↓J1,↓J2,N1,N2,N3,reduceCtorEq,N4,N5,N6,reduceIte,N7,I1,I2,I3]
 refine⟨_,cnx,?_⟩
 simp only[push_cast,↓J1,↓J2,N1,N2,N3,reduceCtorEq,N4,N5,N6,reduceIte,N7,I1,I2,I3]
 refine⟨_,cnt _,?_⟩
 simp only[Int.toNat_natCast,ek,ey,ints_length,hil,push_cast,↓J1,↓J2,N1,N2,N3,reduceCtorEq,N4,N5,N6,reduceIte,N7,I1,I2,I3]
 repeat (refine⟨by omega,?_⟩)
 have w5:IntKind.i64.wrap (o.getD k 0+cc)=o.getD k 0+cc:=wrap64 (by omega) (by omega)
 cases g5:decide (0≤o.getD k 0)
 ·simp only[g5,Bool.false_and,Bool.false_eq_true,if_false] at hK
  simp only[g5,push_cast,↓J1,↓J2,N1,N2,N3,reduceCtorEq,N4,N5,N6,reduceIte,N7,I1,I2,I3]
  exact hK _ (hdA [(1,1),(0,0)])
 simp only[g5,Int.toNat_natCast,ek,ey,ints_length,hil,push_cast,↓J1,↓J2,N1,N2,N3,reduceCtorEq,N4,N5,N6,reduceIte,N7,I1,I2,I3]
 repeat (refine⟨by omega,?_⟩)
 cases g6:decide (o.getD y 0<0)
 rotate_left
 ·simp only[g5,g6,Bool.true_and,Bool.true_or,if_true] at hK
  simp only[g5,g6,Int.toNat_natCast,ek,ey,w5,ints_set,ints_length,hil,push_cast,↓J1,↓J2,N1,N2,N3,reduceCtorEq,N4,N5,N6,reduceIte,N7,I1,I2,I3]
  repeat (refine⟨by omega,?_⟩)
  exact hK _ (hdA [(1,1),(0,0)])
 simp only[g5,g6,Int.toNat_natCast,ek,ey,w5,ints_length,hil,push_cast,↓J1,↓J2,N1,N2,N3,reduceCtorEq,N4,N5,N6,reduceIte,N7,I1,I2,I3]
 repeat (refine⟨by omega,?_⟩)
 cases g7:decide (o.getD k 0+cc<o.getD y 0)
 ·simp only[g5,g6,g7,Bool.true_and,Bool.false_or,Bool.false_eq_true,if_false] at hK
  simp only[g7,push_cast,↓J1,↓J2,N1,N2,N3,reduceCtorEq,N4,N5,N6,reduceIte,N7,I1,I2,I3]
  exact hK _ (hdA [(1,1),(0,0)])
 ·simp only[g5,g6,g7,Bool.true_and,Bool.false_or,if_true] at hK
  simp only[g7,Int.toNat_natCast,ek,ey,w5,ints_set,ints_length,hil,push_cast,↓J1,↓J2,N1,N2,N3,reduceCtorEq,N4,N5,N6,reduceIte,N7,I1,I2,I3]
  repeat (refine⟨by omega,?_⟩)
  exact hK _ (hdA [(1,1),(0,0)])
theorem t105b(b:Brd)(kd w:Int)(i:Nat)(h:kindAsk b kd=true)(hw:0≤w∧w≤2)(hi:i<b.m.t.length)(hb:BrdB (2^50) b):Ev C 105 [brdF b,.int .i64 kd,.int .i64 w,.int .i64 (i:Int),.bool true,.nil] (.ow 1 (ints (farB b kd w i))):=by
 have g:brdOk b=true:=by simp only[kindAsk,Bool.and_eq_true] at h;exact h.1
 have hm:=mp_wh (brd_mp g)
 have ht:=brd_t g
 have hn:=(brd_n g).1
 have hok:=bwd_ok h hw
 have c0:=t134 hC b
 have ccs:=fun(k:Nat) (hk:(k:Int)<b.m.w*b.m.h) (d:Nat) (hd:d<6)=>t137 hC b kd w (k:Nat) d h hw ⟨by omega,hk⟩ hd hb
 have cnx:=fun(k:Nat) (hk:(k:Int)<b.m.w*b.m.h) (d:Nat) (hd:d<6)=>t138 hC b.m (k:Nat) (d:Nat) hm.1 hm.2 (by have:=wh_le hm.1 hm.2;omega) ⟨by omega,by omega⟩
 have cnt:=fun n=>t140n hC n
 have hlt0:=fun(k n:Nat) (h:k<n)=>(decide_eq_true (show(k:Int)<(n:Int) by omega):decide ((k:Int)<(n:Int))=true)
 simp only[farB,rxF]
 generalize hN:b.m.t.length=n at *
 simp only[brdF,rulF,mpF,List.cons_append,List.nil_append] at *
 refine rT hC Q105 ?_ (own_ints _)
 simp only[c105,push_cast,↓J1,↓J2,N1,N2,N3,reduceCtorEq,N4,N5,N6,reduceIte,N7,I1,I2,I3]
 refine⟨_,c0,?_⟩
 simp only[Int.toNat_natCast,List.length_replicate,ints_rep0,push_cast,↓J1,↓J2,N1,N2,N3,reduceCtorEq,N4,N5,N6,reduceIte,N7,I1,I2,I3]
 repeat (refine⟨by omega,?_⟩)
 refine RL_count (fun j=>⟨tb 102 .any [(1,.int .i64 kd),(2,.int .i64 w),(3,.int .i64 (i:Int)),(4,.bool true),(5,.nil),(6,.ptr 0 none 0 0 0),(13,.ref 1 none 1 0 n),(25,.int .i64 (n:Int)),(26,.int .i64 (j:Int))],[(1,.slice 1 (ints (repT j n))),(0,.var (rulF b.r++mpF b.m))],2⟩) (fun _=>True) n 0 (by rw[repT_0];exact(hdA [(1,1),(0,0)])) (by omega) trivial fun j hj _ J hJ=>?_
 simp only[rulF,mpF,List.cons_append,List.nil_append]
 by_cases h1:j<n
 ·have hJ1:=hJ h1 trivial
  clear hJ
  have hlt:=hlt0 j n h1
  have hrl:=repT_len hj
  have e1:(ints (repT j n))[j]?=some [.int .i64 ((repT j n).getD j 0)]:=cut_ints_get (by omega)
  rw[←repT_set h1] at hJ1
  simp only[hlt,Int.toNat_natCast,e1,ints_set,ints_length,hrl,push_cast,↓J1,↓J2,N1,N2,N3,reduceCtorEq,N4,N5,N6,reduceIte,N7,I1,I2,I3]
  repeat (refine⟨by omega,?_⟩)
  exact hJ1 _ (hdA [(1,1),(0,0)])
 obtain rfl:j=n:=by omega
 clear hJ h1
 have hlt:decide ((j:Int)<(j:Int))=false:=decide_eq_false (by omega)
 have e1:(ints (List.replicate j (-1)))[i]?=some [.int .i64 ((List.replicate j (-1:Int)).getD i 0)]:=cut_ints_get (by simpa using hi)
 rw[repT_n]
 simp only[hlt,Int.toNat_natCast,e1,rset_eq,ints_length,List.length_replicate,push_cast,↓J1,↓J2,N1,N2,N3,reduceCtorEq,N4,N5,N6,reduceIte,N7,I1,I2,I3]
 repeat (refine⟨by omega,?_⟩)
 have hNle:=rxN_le (w:=bwd b kd w) (n:=j) (i:=i)
 refine RL_count (fun m=>⟨tb 102 .any [(1,.int .i64 kd),(2,.int .i64 w),(4,.bool true),(5,.nil),(6,.ptr 0 none 0 0 0),(13,.ref 1 none 1 0 j),(15,.bool (rxI (bwd b kd w) j i m).2)],[(1,.slice 1 (ints ((rxI (bwd b kd w) j i m).1))),(0,.var (rulF b.r++mpF b.m))],2⟩) (fun _=>True) (rxN (bwd b kd w) j i) 0 (hdA [(1,1),(0,0)]) (by omega) trivial fun m hm' _ J hJ=>?_
 simp only[rulF,mpF,List.cons_append,List.nil_append]
 have inv:=rxI_inv hn hok hi m
 by_cases h1:m<rxN (bwd b kd w) j i
 rotate_left
 ·obtain rfl:m=rxN (bwd b kd w) j i:=by omega
  have hend:=rxN_end hn hok hi
  have hil:=inv.len
  simp only[hend,push_cast,↓J1,↓J2,N1,N2,N3,reduceCtorEq,N4,N5,N6,reduceIte,N7,I1,I2,I3]
  exact RetTo_ow rfl (by rw[ints_length,hil])
 have hfl:=rxN_lt h1
 have hJ1:=hJ h1 trivial
 clear hJ
 simp only[rxI] at hJ1
 generalize (rxI (bwd b kd w) j i m).1=o0 at *
 simp only[hfl,push_cast,↓J1,↓J2,N1,N2,N3,reduceCtorEq,N4,N5,N6,reduceIte,N7,I1,I2,I3]
 refine RL_count (fun k=>⟨tb 102 .any [(1,.int .i64 kd),(2,.int .i64 w),(4,.bool true),(5,.nil),(6,.ptr 0 none 0 0 0),(13,.ref 1 none 1 0 j),(15,.bool (rxP (bwd b kd w) (o0,false) k).2),(38,.int .i64 (j:Int)),(39,.int .i64 (k:Int))],[(1,.slice 1 (ints ((rxP (bwd b kd w) (o0,false) k).1))),(0,.var (rulF b.r++mpF b.m))],2⟩) (fun _=>True) j 0 (hdA [(1,1),(0,0)]) (by omega) trivial fun k hk _ JJ hJJ=>?_
 simp only[rulF,mpF,List.cons_append,List.nil_append]
 have inv2:=(rxP_inv (p:=(o0,false)) hn hok inv k hk).1
 by_cases h2:k<j
 rotate_left
 ·obtain rfl:k=j:=by omega
  have hlt:decide ((k:Int)<(k:Int))=false:=decide_eq_false (by omega)
  simp only[hlt,push_cast,↓J1,↓J2,N1,N2,N3,reduceCtorEq,N4,N5,N6,reduceIte,N7,I1,I2,I3]
  exact hJ1 _ (hdA [(1,1),(0,0)])
 have hJ2:=hJJ h2 trivial
 clear hJJ hJ1
 have hlt:=hlt0 k j h2
 rw[rxP_succ] at hJ2
 generalize rxP (bwd b kd w) (o0,false) k=p at *
 simp only[hlt,push_cast,↓J1,↓J2,N1,N2,N3,reduceCtorEq,N4,N5,N6,reduceIte,N7,I1,I2,I3]
 refine RL_count (fun d=>⟨tb 102 .any [(1,.int .i64 kd),(2,.int .i64 w),(4,.bool true),(5,.nil),(6,.ptr 0 none 0 0 0),(13,.ref 1 none 1 0 j),(15,.bool (rxT (bwd b kd w) k p d).2),(16,.int .i64 (k:Int)),(38,.int .i64 (j:Int)),(39,.int .i64 (k:Int)),(42,.int .i64 (d:Int))],[(1,.slice 1 (ints ((rxT (bwd b kd w) k p d).1))),(0,.var (rulF b.r++mpF b.m))],2⟩) (fun _=>True) 6 0 (hdA [(1,1),(0,0)]) (by omega) trivial fun d hd _ JK hJK=>?_
 simp only[rulF,mpF,List.cons_append,List.nil_append]
 have inv3:=(rxT_inv (p:=p) hn hok h2 inv2 d hd).1
 by_cases h3:d<6
 rotate_left
 ·have hd6:decide ((d:Int)<6)=false:=decide_eq_false (by omega)
  have e6:rxT (bwd b kd w) k p 6=rxT (bwd b kd w) k p d:=by rw[show d=6 by omega]
  rw[e6] at hJ2
  simp only[hd6,push_cast,↓J1,↓J2,N1,N2,N3,reduceCtorEq,N4,N5,N6,reduceIte,N7,I1,I2,I3]
  exact hJ2 _ (hdA [(1,1),(0,0)])
 have hd6:decide ((d:Int)<6)=true:=decide_eq_true (by omega)
 have hK:=hJK h3 trivial
 clear hJK hJ2
 rw[rxT_succ] at hK
 generalize rxT (bwd b kd w) k p d=q at *
 have er:rx (bwd b kd w) k q d=if(!decide (stepM b kd w k d=0)&&(decide (0≤q.1.getD ((nextM b.m k d).toNat) 0)&&(decide (q.1.getD (k) 0<0)||decide (q.1.getD ((nextM b.m k d).toNat) 0+stepM b kd w k d<q.1.getD (k) 0))))=true then(q.1.set (k) (q.1.getD ((nextM b.m k d).toNat) 0+stepM b kd w k d),true) else q:=rfl
 rw[er] at hK
 clear er
 have ccs:=ccs k (by omega) d h3
 have cnx:=cnx k (by omega) d h3
 have hsb:=step_bnd (i:=(k:Int)) (d:=d) h hw
 generalize stepM b kd w k d=cc at *
 generalize nextM b.m (k:Nat) (d:Nat)=nx at *
 obtain⟨o,f⟩:=q
 have hil:=inv3.len
 have hlo:=inv3.lo
 simp only at hil hlo hK⊢
 simp only[hd6,push_cast,↓J1,↓J2,N1,N2,N3,reduceCtorEq,N4,N5,N6,reduceIte,N7,I1,I2,I3]
 refine⟨_,ccs,?_⟩
 by_cases h4:cc=0
 ·have g4:decide (cc=0)=true:=decide_eq_true h4
  simp only[g4,Bool.not_true,Bool.false_and,Bool.false_eq_true,if_false] at hK
  simp only[g4,push_cast,↓J1,↓J2,N1,N2,N3,reduceCtorEq,N4,N5,N6,reduceIte,N7,I1,I2,I3]
  exact hK _ (hdA [(1,1),(0,0)])
 have g4:decide (cc=0)=false:=decide_eq_false h4
 have hnx:=hsb.2.2 h4
 obtain⟨y,rfl⟩: ∃y:Nat,nx=y:=⟨nx.toNat,by omega⟩
 have hy:y<j:=by omega
 have ek:(ints o)[k]?=some [.int .i64 (o.getD k 0)]:=cut_ints_get (by omega)
 have ey:(ints o)[y]?=some [.int .i64 (o.getD y 0)]:=cut_ints_get (by omega)
 have bk:=hlo _ (getD_mem (l:=o) (i:=k) (by omega) 0)
 have by_:=hlo _ (getD_mem (l:=o) (i:=y) (by omega) 0)
 simp only[g4,Bool.not_false,Bool.true_and,Int.toNat_natCast] at hK
 simp only[g4,push_cast,↓J1,↓J2,N1,N2,N3,reduceCtorEq,N4,N5,N6,reduceIte,N7,I1,I2,I3]
 refine⟨_,cnx,?_⟩
 simp only[push_cast,↓J1,↓J2,N1,N2,N3,reduceCtorEq,N4,N5,N6,reduceIte,N7,I1,I2,I3]
 refine⟨_,cnt _,?_⟩
 simp only[Int.toNat_natCast,ek,ey,ints_length,hil,push_cast,↓J1,↓J2,N1,N2,N3,reduceCtorEq,N4,N5,N6,reduceIte,N7,I1,I2,I3]
 repeat (refine⟨by omega,?_⟩)
 have w5:IntKind.i64.wrap (o.getD y 0+cc)=o.getD y 0+cc:=wrap64 (by omega) (by omega)
 cases g5:decide (0≤o.getD y 0)
 ·simp only[g5,Bool.false_and,Bool.false_eq_true,if_false] at hK
  simp only[g5,push_cast,↓J1,↓J2,N1,N2,N3,reduceCtorEq,N4,N5,N6,reduceIte,N7,I1,I2,I3]
  exact hK _ (hdA [(1,1),(0,0)])
 simp only[g5,Int.toNat_natCast,ek,ey,ints_length,hil,push_cast,↓J1,↓J2,N1,N2,N3,reduceCtorEq,N4,N5,N6,reduceIte,N7,I1,I2,I3]
 repeat (refine⟨by omega,?_⟩)
 cases g6:decide (o.getD k 0<0)
 rotate_left
 ·simp only[g5,g6,Bool.true_and,Bool.true_or,if_true] at hK
  simp only[g5,g6,Int.toNat_natCast,ek,ey,w5,ints_set,ints_length,hil,push_cast,↓J1,↓J2,N1,N2,N3,reduceCtorEq,N4,N5,N6,reduceIte,N7,I1,I2,I3]
  repeat (refine⟨by omega,?_⟩)
  exact hK _ (hdA [(1,1),(0,0)])
 simp only[g5,g6,Int.toNat_natCast,ek,ey,w5,ints_length,hil,push_cast,↓J1,↓J2,N1,N2,N3,reduceCtorEq,N4,N5,N6,reduceIte,N7,I1,I2,I3]
 repeat (refine⟨by omega,?_⟩)
 cases g7:decide (o.getD y 0+cc<o.getD k 0)
 ·simp only[g5,g6,g7,Bool.true_and,Bool.false_or,Bool.false_eq_true,if_false] at hK
  simp only[g7,push_cast,↓J1,↓J2,N1,N2,N3,reduceCtorEq,N4,N5,N6,reduceIte,N7,I1,I2,I3]
  exact hK _ (hdA [(1,1),(0,0)])
 ·simp only[g5,g6,g7,Bool.true_and,Bool.false_or,if_true] at hK
  simp only[g7,Int.toNat_natCast,ek,ey,w5,ints_set,ints_length,hil,push_cast,↓J1,↓J2,N1,N2,N3,reduceCtorEq,N4,N5,N6,reduceIte,N7,I1,I2,I3]
  repeat (refine⟨by omega,?_⟩)
  exact hK _ (hdA [(1,1),(0,0)])
theorem t127(b:Brd)(kd w:Int)(i:Nat)(h:kindAsk b kd=true)(hw:0≤w∧w≤2)(hi:i<b.m.t.length)(hb:BrdB (2^50) b):Ev C 127 [brdF b,.int .i64 kd,.int .i64 w,.int .i64 (i:Int)] (.ow 1 (ints (farB b kd w i))):=by
 have g:brdOk b=true:=by simp only[kindAsk,Bool.and_eq_true] at h;exact h.1
 have hm:=mp_wh (brd_mp g)
 have ht:=brd_t g
 have hn:=(brd_n g).1
 have hok:=bwd_ok h hw
 have c0:=t124 hC b.m hm.1 hm.2
 rw[←ht] at c0
 have ccs:=fun(k:Nat) (hk:(k:Int)<b.m.w*b.m.h) (d:Nat) (hd:d<6)=>t125 hC b kd w (k:Nat) d h hw ⟨by omega,hk⟩ hd hb
 have cnx:=fun(k:Nat) (hk:(k:Int)<b.m.w*b.m.h) (d:Nat) (hd:d<6)=>t62 hC b.m (k:Nat) (d:Nat) hm.1 hm.2 (by have:=wh_le hm.1 hm.2;omega) ⟨by omega,by omega⟩
 have hlt0:=fun(k n:Nat) (h:k<n)=>(decide_eq_true (show(k:Int)<(n:Int) by omega):decide ((k:Int)<(n:Int))=true)
 simp only[farB,rxF]
 generalize hN:b.m.t.length=n at *
 simp only[brdF,rulF,mpF,List.cons_append,List.nil_append] at *
 refine rT hC Q127 ?_ (own_ints _)
 simp only[c127,push_cast,↓J1,↓J2,N1,N2,N3,reduceCtorEq,N4,N5,N6,reduceIte,N7,I1,I2,I3]
 refine⟨_,c0,?_⟩
 simp only[Int.toNat_natCast,List.length_replicate,ints_rep0,push_cast,↓J1,↓J2,N1,N2,N3,reduceCtorEq,N4,N5,N6,reduceIte,N7,I1,I2,I3]
 repeat (refine⟨by omega,?_⟩)
 refine RL_count (fun j=>⟨tb 85 .any [(1,.int .i64 kd),(2,.int .i64 w),(3,.int .i64 (i:Int)),(4,.ptr 0 none 0 0 0),(9,.ref 1 none 1 0 n),(21,.int .i64 (n:Int)),(22,.int .i64 (j:Int))],[(1,.slice 1 (ints (repT j n))),(0,.var (rulF b.r++mpF b.m))],2⟩) (fun _=>True) n 0 (by rw[repT_0];exact(hdA [(1,1),(0,0)])) (by omega) trivial fun j hj _ J hJ=>?_
 simp only[rulF,mpF,List.cons_append,List.nil_append]
 by_cases h1:j<n
 ·have hJ1:=hJ h1 trivial
  clear hJ
  have hlt:=hlt0 j n h1
  have hrl:=repT_len hj
  have e1:(ints (repT j n))[j]?=some [.int .i64 ((repT j n).getD j 0)]:=cut_ints_get (by omega)
  rw[←repT_set h1] at hJ1
  simp only[hlt,Int.toNat_natCast,e1,ints_set,ints_length,hrl,push_cast,↓J1,↓J2,N1,N2,N3,reduceCtorEq,N4,N5,N6,reduceIte,N7,I1,I2,I3]
  repeat (refine⟨by omega,?_⟩)
  exact hJ1 _ (hdA [(1,1),(0,0)])
 obtain rfl:j=n:=by omega
 clear hJ h1
 have hlt:decide ((j:Int)<(j:Int))=false:=decide_eq_false (by omega)
 have e1:(ints (List.replicate j (-1)))[i]?=some [.int .i64 ((List.replicate j (-1:Int)).getD i 0)]:=cut_ints_get (by simpa using hi)
 rw[repT_n]
 simp only[hlt,Int.toNat_natCast,e1,rset_eq,ints_length,List.length_replicate,push_cast,↓J1,↓J2,N1,N2,N3,reduceCtorEq,N4,N5,N6,reduceIte,N7,I1,I2,I3]
 repeat (refine⟨by omega,?_⟩)
 have hNle:=rxN_le (w:=bwd b kd w) (n:=j) (i:=i)
 refine RL_count (fun m=>⟨tb 85 .any [(1,.int .i64 kd),(2,.int .i64 w),(4,.ptr 0 none 0 0 0),(9,.ref 1 none 1 0 j),(11,.bool (rxI (bwd b kd w) j i m).2)],[(1,.slice 1 (ints ((rxI (bwd b kd w) j i m).1))),(0,.var (rulF b.r++mpF b.m))],2⟩) (fun _=>True) (rxN (bwd b kd w) j i) 0 (hdA [(1,1),(0,0)]) (by omega) trivial fun m hm' _ J hJ=>?_
 simp only[rulF,mpF,List.cons_append,List.nil_append]
 have inv:=rxI_inv hn hok hi m
 by_cases h1:m<rxN (bwd b kd w) j i
 rotate_left
 ·obtain rfl:m=rxN (bwd b kd w) j i:=by omega
  have hend:=rxN_end hn hok hi
  have hil:=inv.len
  simp only[hend,push_cast,↓J1,↓J2,N1,N2,N3,reduceCtorEq,N4,N5,N6,reduceIte,N7,I1,I2,I3]
  exact RetTo_ow rfl (by rw[ints_length,hil])
 have hfl:=rxN_lt h1
 have hJ1:=hJ h1 trivial
 clear hJ
 simp only[rxI] at hJ1
 generalize (rxI (bwd b kd w) j i m).1=o0 at *
 simp only[hfl,push_cast,↓J1,↓J2,N1,N2,N3,reduceCtorEq,N4,N5,N6,reduceIte,N7,I1,I2,I3]
 refine RL_count (fun k=>⟨tb 85 .any [(1,.int .i64 kd),(2,.int .i64 w),(4,.ptr 0 none 0 0 0),(9,.ref 1 none 1 0 j),(11,.bool (rxP (bwd b kd w) (o0,false) k).2),(34,.int .i64 (j:Int)),(35,.int .i64 (k:Int))],[(1,.slice 1 (ints ((rxP (bwd b kd w) (o0,false) k).1))),(0,.var (rulF b.r++mpF b.m))],2⟩) (fun _=>True) j 0 (hdA [(1,1),(0,0)]) (by omega) trivial fun k hk _ JJ hJJ=>?_
 simp only[rulF,mpF,List.cons_append,List.nil_append]
 have inv2:=(rxP_inv (p:=(o0,false)) hn hok inv k hk).1
 by_cases h2:k<j
 rotate_left
 ·obtain rfl:k=j:=by omega
  have hlt:decide ((k:Int)<(k:Int))=false:=decide_eq_false (by omega)
  simp only[hlt,push_cast,↓J1,↓J2,N1,N2,N3,reduceCtorEq,N4,N5,N6,reduceIte,N7,I1,I2,I3]
  exact hJ1 _ (hdA [(1,1),(0,0)])
 have hJ2:=hJJ h2 trivial
 clear hJJ hJ1
 have hlt:=hlt0 k j h2
 rw[rxP_succ] at hJ2
 generalize rxP (bwd b kd w) (o0,false) k=p at *
 simp only[hlt,push_cast,↓J1,↓J2,N1,N2,N3,reduceCtorEq,N4,N5,N6,reduceIte,N7,I1,I2,I3]
 refine RL_count (fun d=>⟨tb 85 .any [(1,.int .i64 kd),(2,.int .i64 w),(4,.ptr 0 none 0 0 0),(9,.ref 1 none 1 0 j),(11,.bool (rxT (bwd b kd w) k p d).2),(12,.int .i64 (k:Int)),(34,.int .i64 (j:Int)),(35,.int .i64 (k:Int)),(13,.int .i64 (d:Int))],[(1,.slice 1 (ints ((rxT (bwd b kd w) k p d).1))),(0,.var (rulF b.r++mpF b.m))],2⟩) (fun _=>True) 6 0 (hdA [(1,1),(0,0)]) (by omega) trivial fun d hd _ JK hJK=>?_
 simp only[rulF,mpF,List.cons_append,List.nil_append]
 have inv3:=(rxT_inv (p:=p) hn hok h2 inv2 d hd).1
 by_cases h3:d<6
 rotate_left
 ·have hd6:decide ((d:Int)<6)=false:=decide_eq_false (by omega)
  have e6:rxT (bwd b kd w) k p 6=rxT (bwd b kd w) k p d:=by rw[show d=6 by omega]
  rw[e6] at hJ2
  simp only[hd6,push_cast,↓J1,↓J2,N1,N2,N3,reduceCtorEq,N4,N5,N6,reduceIte,N7,I1,I2,I3]
  exact hJ2 _ (hdA [(1,1),(0,0)])
 have hd6:decide ((d:Int)<6)=true:=decide_eq_true (by omega)
 have hK:=hJK h3 trivial
 clear hJK hJ2
 rw[rxT_succ] at hK
 generalize rxT (bwd b kd w) k p d=q at *
 have er:rx (bwd b kd w) k q d=if(!decide (stepM b kd w k d=0)&&(decide (0≤q.1.getD ((nextM b.m k d).toNat) 0)&&(decide (q.1.getD (k) 0<0)||decide (q.1.getD ((nextM b.m k d).toNat) 0+stepM b kd w k d<q.1.getD (k) 0))))=true then(q.1.set (k) (q.1.getD ((nextM b.m k d).toNat) 0+stepM b kd w k d),true) else q:=rfl
 rw[er] at hK
 clear er
 have ccs:=ccs k (by omega) d h3
 have cnx:=cnx k (by omega) d h3
 have hsb:=step_bnd (i:=(k:Int)) (d:=d) h hw
 generalize stepM b kd w k d=cc at *
 generalize nextM b.m (k:Nat) (d:Nat)=nx at *
 obtain⟨o,f⟩:=q
 have hil:=inv3.len
 have hlo:=inv3.lo
 simp only at hil hlo hK⊢
 simp only[hd6,push_cast,↓J1,↓J2,N1,N2,N3,reduceCtorEq,N4,N5,N6,reduceIte,N7,I1,I2,I3]
 refine⟨_,ccs,?_⟩
 by_cases h4:cc=0
 ·have g4:decide (cc=0)=true:=decide_eq_true h4
  simp only[g4,Bool.not_true,Bool.false_and,Bool.false_eq_true,if_false] at hK
  simp only[g4,push_cast,↓J1,↓J2,N1,N2,N3,reduceCtorEq,N4,N5,N6,reduceIte,N7,I1,I2,I3]
  exact hK _ (hdA [(1,1),(0,0)])
 have g4:decide (cc=0)=false:=decide_eq_false h4
 have hnx:=hsb.2.2 h4
 obtain⟨y,rfl⟩: ∃y:Nat,nx=y:=⟨nx.toNat,by omega⟩
 have hy:y<j:=by omega
 have ek:(ints o)[k]?=some [.int .i64 (o.getD k 0)]:=cut_ints_get (by omega)
 have ey:(ints o)[y]?=some [.int .i64 (o.getD y 0)]:=cut_ints_get (by omega)
 have bk:=hlo _ (getD_mem (l:=o) (i:=k) (by omega) 0)
 have by_:=hlo _ (getD_mem (l:=o) (i:=y) (by omega) 0)
 simp only[g4,Bool.not_false,Bool.true_and,Int.toNat_natCast] at hK
 simp only[g4,push_cast,↓J1,↓J2,N1,N2,N3,reduceCtorEq,N4,N5,N6,reduceIte,N7,I1,I2,I3]
 refine⟨_,cnx,?_⟩
 simp only[Int.toNat_natCast,ek,ey,ints_length,hil,push_cast,↓J1,↓J2,N1,N2,N3,reduceCtorEq,N4,N5,N6,reduceIte,N7,I1,I2,I3]
 repeat (refine⟨by omega,?_⟩)
 have w5:IntKind.i64.wrap (o.getD y 0+cc)=o.getD y 0+cc:=wrap64 (by omega) (by omega)
 cases g5:decide (0≤o.getD y 0)
 ·simp only[g5,Bool.false_and,Bool.false_eq_true,if_false] at hK
  simp only[g5,push_cast,↓J1,↓J2,N1,N2,N3,reduceCtorEq,N4,N5,N6,reduceIte,N7,I1,I2,I3]
  exact hK _ (hdA [(1,1),(0,0)])
 simp only[g5,Int.toNat_natCast,ek,ey,ints_length,hil,push_cast,↓J1,↓J2,N1,N2,N3,reduceCtorEq,N4,N5,N6,reduceIte,N7,I1,I2,I3]
 repeat (refine⟨by omega,?_⟩)
 cases g6:decide (o.getD k 0<0)
 rotate_left
 ·simp only[g5,g6,Bool.true_and,Bool.true_or,if_true] at hK
  simp only[g5,g6,Int.toNat_natCast,ek,ey,w5,ints_set,ints_length,hil,push_cast,↓J1,↓J2,N1,N2,N3,reduceCtorEq,N4,N5,N6,reduceIte,N7,I1,I2,I3]
  repeat (refine⟨by omega,?_⟩)
  exact hK _ (hdA [(1,1),(0,0)])
 simp only[g5,g6,Int.toNat_natCast,ek,ey,w5,ints_length,hil,push_cast,↓J1,↓J2,N1,N2,N3,reduceCtorEq,N4,N5,N6,reduceIte,N7,I1,I2,I3]
 repeat (refine⟨by omega,?_⟩)
 cases g7:decide (o.getD y 0+cc<o.getD k 0)
 ·simp only[g5,g6,g7,Bool.true_and,Bool.false_or,Bool.false_eq_true,if_false] at hK
  simp only[g7,push_cast,↓J1,↓J2,N1,N2,N3,reduceCtorEq,N4,N5,N6,reduceIte,N7,I1,I2,I3]
  exact hK _ (hdA [(1,1),(0,0)])
 ·simp only[g5,g6,g7,Bool.true_and,Bool.false_or,if_true] at hK
  simp only[g7,Int.toNat_natCast,ek,ey,w5,ints_set,ints_length,hil,push_cast,↓J1,↓J2,N1,N2,N3,reduceCtorEq,N4,N5,N6,reduceIte,N7,I1,I2,I3]
  repeat (refine⟨by omega,?_⟩)
  exact hK _ (hdA [(1,1),(0,0)])
end
end Go.Proofs.YthggfnefjbckeaaGreatDoor.X
