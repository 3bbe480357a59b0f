/- A part of the proof: lemmas on the machine or on the functions that the law reaches. No condition of its own. -/
import Derived.Test.YthggfnefjbckeaaGreatDoorXP8
import Derived.Test.YthggfnefjbckeaaGreatDoorXP6
import Derived.Test.YthggfnefjbckeaaGreatDoorXP7
import Derived.Test.YthggfnefjbckeaaGreatDoorXP4
import Derived.Test.YthggfnefjbckeaaGreatDoorXP3
import Derived.Test.YthggfnefjbckeaaGreatDoorXM4
set_option maxHeartbeats 1000000
set_option maxRecDepth 8000
set_option linter.unusedSimpArgs false
set_option linter.unusedVariables false
open Nat renaming reduceBEq→N1,reduceAdd→N2,reduceSub→N3,reduceMul→N4,reduceEqDiff→N5,reduceLeDiff→N6,reduceLT→N7
open Int renaming reduceLE→I1,reduceLT→I2,reduceToNat→I3
namespace Go.Proofs.YthggfnefjbckeaaGreatDoor.X
open Go
def goU(us:List Un)(k:Nat)(i:Int):List Un:=us.set k ⟨(us.getD k un0).sd,(us.getD k un0).k,i,(us.getD k un0).st⟩
def dirOn(m:Mp)(i k:Int):Int:=match first6 (fun d=>decide (nextM m i d=k)) with
 | some d=>(d:Int)
 | none=> -1
def dfs(s:Sta)(i:Int):List Int:=fil (inHex i) s.us s.us.length
structure Bt where
 at_:Int
 ak:List Int
 df:List Int
def dHH(b:Brd)(i k:Int):Int:=distI (i.tmod b.m.w) (i.tdiv b.m.w) (k.tmod b.m.w) (k.tdiv b.m.w)
def backB(b:Brd)(s:Sta)(u to:Int):Bool:=decide (0≤to)&&(!decide (costAt b (unOf s u).k to=0)&&(!decide (owner s to=1-(unOf s u).sd)&&((dfs s to).any (fun k=>!decide (k=u))||!inZon b s (1-(unOf s u).sd) to)))
def roomR(b:Brd)(s:Sta)(sd i:Int):Int:=if owner s i=1-sd then 0 else b.r.stack-(dfs s i).length
def retP(b:Brd)(s:Sta)(u:Int)(d:Nat):Bool:=backB b s u (nextM b.m (unOf s u).at_ d)&&(decide (dHH b (unOf s u).at_ (nextM b.m (unOf s u).at_ d)=dHH b (unOf s u).at_ (unOf s u).at_+1)&&decide (0<roomR b s (unOf s u).sd (nextM b.m (unOf s u).at_ d)))
def retL(b:Brd)(s:Sta)(u:Int)(n:Nat):List Int:=((List.range n).filter (retP b s u)).map fun d:Nat=>(d:Int)
def retU(b:Brd)(s:Sta)(u:Int):Sta:=match retL b s u 6 with
 | []=>⟨s.t,s.w,loseK s.us u.toNat 1⟩
 | d::_=>⟨s.t,s.w,goU s.us u.toNat (nextM b.m (unOf s u).at_ d)⟩
structure Fo where
 a:Int
 r:Int
 x:Int
 deriving DecidableEq
theorem cnt_set{us:List Un}{k:Nat}(h:k<us.length)(v:Un)(a sd:Int):cnt (us.set k v) a sd+(if isAt a sd us[k] then 1 else 0)=cnt us a sd+if isAt a sd v then 1 else 0:=by
 induction us generalizing k with
 | nil=>simp at h
 | cons u us ih=>
  cases k with
  | zero=>simp only[cnt,List.set_cons_zero,List.countP_cons,List.getElem_cons_zero];omega
  | succ k=>
   simp only[List.length_cons] at h
   have:=ih (k:=k) (by omega)
   simp only[cnt,List.set_cons_succ,List.countP_cons,List.getElem_cons_succ] at this⊢
   omega
theorem un_at{s:Sta}{k:Nat}(hk:k<s.us.length):unOf s k=s.us[k]:=by simp[unOf,List.getD,hk]
theorem goU_len(us:List Un)(k:Nat)(i:Int):(goU us k i).length=us.length:=by simp[goU]
theorem un_go{b:Brd}{u:Un}{i:Int}(h:unOk b u=true)(ha:0≤u.at_)(hi:inR 0 (b.m.w*b.m.h-1) i=true)(hc:0<costAt b u.k i):unOk b ⟨u.sd,u.k,i,u.st⟩=true:=by
 simp only[unOk,placed,Bool.and_eq_true,Bool.or_eq_true,decide_eq_true_eq] at h⊢
 refine⟨h.1,.inr ⟨⟨?_,hi⟩,hc⟩⟩
 rcases h.2 with h | h
 ·omega
 ·exact h.1.1
theorem go_ok{b:Brd}{s:Sta}{k:Nat}{i:Int}(h:staOk b s=true)(hk:k<s.us.length)(ha:0≤(unOf s k).at_)(hi:inR 0 (b.m.w*b.m.h-1) i=true)(hc:0<costAt b (unOf s k).k i)(ho:owner s i≠1-(unOf s k).sd)(hn:(cnt s.us i (unOf s k).sd:Int)<b.r.stack):staOk b ⟨s.t,s.w,goU s.us k i⟩=true:=by
 have hun:=sta_all h
 have hu:=List.all_eq_true.1 hun _ (List.getElem_mem hk)
 have hall:s.us.all (stackOk b s.us)=true:=by simp only[staOk,staOk0,Bool.and_eq_true] at h;exact h.2.2
 have eg:s.us.getD k un0=s.us[k]:=by simp[List.getD,hk]
 rw[un_at hk] at ha hc ho hn
 have hsd:=un_sd hu
 have hi0:0≤i:=by simp only[inR,Bool.and_eq_true,decide_eq_true_eq] at hi;omega
 have h0:=owner_cnt h hsd hi0 ho
 have hnew:=un_go hu ha hi hc
 have key:=fun a sd=>cnt_set hk ⟨s.us[k].sd,s.us[k].k,i,s.us[k].st⟩ a sd
 simp only[goU,eg]
 simp only[staOk,staOk0,Bool.and_eq_true,decide_eq_true_eq,List.length_set] at h⊢
 refine⟨h.1,⟨h.2.1.1,?_⟩,?_⟩
 ·refine List.all_eq_true.2 fun v hv=>?_
  rcases List.mem_or_eq_of_mem_set hv with hv | rfl
  ·exact List.all_eq_true.1 hun v hv
  ·exact hnew
 ·refine List.all_eq_true.2 fun v hv=>?_
  have hvi:v.at_=i→0≤v.at_→v.sd=s.us[k].sd→stackOk b (s.us.set k ⟨s.us[k].sd,s.us[k].k,i,s.us[k].st⟩) v=true:=by
   intro e1 _ e2
   have k1:=key i (1-s.us[k].sd)
   have k2:=key i s.us[k].sd
   simp only[isAt,decide_true,Bool.true_and,decide_eq_true_eq,if_true] at k1 k2
   rw[if_neg (show¬s.us[k].sd=1-s.us[k].sd by omega),h0] at k1
   simp only[stackOk,e1,e2,Bool.not_eq_true',Bool.and_eq_false_iff,Bool.or_eq_false_iff,decide_eq_false_iff_not]
   refine .inr ⟨by omega,by omega⟩
  rcases List.mem_or_eq_of_mem_set hv with hv | rfl
  ·have hv1:=List.all_eq_true.1 hall v hv
   have hv2:=un_sd (List.all_eq_true.1 hun v hv)
   by_cases h1:0≤v.at_
   ·by_cases h2:v.at_=i
    ·refine hvi h2 h1 ?_
     have hp:0<cnt s.us i v.sd:=List.countP_pos_iff.2 ⟨v,hv,by simp only[isAt,Bool.and_eq_true,decide_eq_true_eq];exact⟨h2,trivial⟩⟩
     by_cases h3:v.sd=s.us[k].sd
     ·exact h3
     ·rw[show v.sd=1-s.us[k].sd by omega] at hp;omega
    ·have k1:=key v.at_ (1-v.sd)
     have k2:=key v.at_ v.sd
     have hne: ∀sd,isAt v.at_ sd ⟨s.us[k].sd,s.us[k].k,i,s.us[k].st⟩=false:=by
      intro sd;simp only[isAt,Bool.and_eq_false_iff,decide_eq_false_iff_not];exact .inl fun e=>h2 e.symm
     simp only[hne,Bool.false_eq_true,if_false] at k1 k2
     simp only[stackOk,Bool.not_eq_true',Bool.and_eq_false_iff,Bool.or_eq_false_iff,decide_eq_false_iff_not] at hv1⊢
     rcases hv1 with hv1 | hv1
     ·exact .inl hv1
     ·exact .inr ⟨by omega,by omega⟩
   ·simp only[stackOk,Bool.not_eq_true',Bool.and_eq_false_iff,Bool.or_eq_false_iff,decide_eq_false_iff_not]
    exact .inl h1
  ·exact hvi rfl hi0 rfl
theorem redU_loseN{u v:Un}(n:Int)(hn:0≤n)(h:redU u v):redU u (lose1 v n):=by
 obtain⟨h1,h2,h3,h4,h5⟩:=h
 refine⟨h1,h2,?_,?_,?_⟩
 ·simp only[lose1];split<;>omega
 ·simp only[lose1];split<;>omega
 ·simp only[lose1]
  split
  ·exact .inl rfl
  ·rcases h5 with h5 | h5
   ·exact .inl h5
   ·exact .inr ⟨h5.1,by omega⟩
theorem red_loseN{us vs:List Un}(h:RedL us vs)(k:Nat)(n:Int)(hn:0≤n):RedL us (loseK vs k n):=by
 refine⟨by rw[loseK_len];exact h.1,fun j hj hj'=>?_⟩
 have hv:j<vs.length:=by rw[h.1];exact hj
 simp only[loseK,List.getElem_set]
 split
 ·rename_i e
  subst e
  have:=redU_loseN n hn (h.2 k hj hv)
  simpa only[List.getD,List.getElem?_eq_getElem hv,Option.getD_some] using this
 ·exact h.2 j hj hv
theorem red_self{b:Brd}{s:Sta}(h:staOk b s=true):RedL s.us s.us:=⟨rfl,fun j hj hj'=>redU_refl (List.all_eq_true.1 (sta_all h) _ (List.getElem_mem hj))⟩
theorem lose_ok{b:Brd}{s:Sta}(h:staOk b s=true)(k:Nat):staOk b ⟨s.t,s.w,loseK s.us k 1⟩=true:=red_ok h (red_loseN (red_self h) k 1 (by omega))
theorem dfs_cnt{b:Brd}{s:Sta}{sd i:Int}(h:staOk b s=true)(hs:sd=0∨sd=1)(hi:0≤i)(ho:owner s i≠1-sd):(dfs s i).length=cnt s.us i sd:=own_cnt h hs hi ho
theorem room_cnt{b:Brd}{s:Sta}{sd i:Int}(h:staOk b s=true)(hs:sd=0∨sd=1)(hi:0≤i)(hr:0<roomR b s sd i):owner s i≠1-sd∧(cnt s.us i sd:Int)<b.r.stack:=by
 simp only[roomR] at hr
 split at hr
 ·omega
 ·rename_i ho
  refine⟨ho,?_⟩
  rw[dfs_cnt h hs hi ho] at hr;omega
theorem retL_mem{b:Brd}{s:Sta}{u:Int}{n:Nat}{d:Int}(h:d∈retL b s u n): ∃e:Nat,d=e∧e<n∧retP b s u e=true:=by
 simp only[retL,List.mem_map,List.mem_filter,List.mem_range] at h
 obtain⟨e,⟨h1,h2⟩,rfl⟩:=h
 exact⟨e,rfl,h1,h2⟩
theorem retP_go{b:Brd}{s:Sta}{k d:Nat}(h:staOk b s=true)(hk:k<s.us.length)(ha:0≤(unOf s k).at_)(hp:retP b s k d=true):staOk b ⟨s.t,s.w,goU s.us k (nextM b.m (unOf s k).at_ d)⟩=true:=by
 have hu:=List.all_eq_true.1 (sta_all h) _ (List.getElem_mem hk)
 have hm:=mp_wh (brd_mp (sta_brd h))
 have hb:=nextM_bnd (m:=b.m) (i:=(unOf s k).at_) (d:=d) hm.1 hm.2
 simp only[retP,backB,Bool.and_eq_true,Bool.not_eq_true',decide_eq_true_eq,decide_eq_false_iff_not] at hp
 obtain⟨⟨h1,h2,h3,_⟩,_,h4⟩:=hp
 have hsd:(unOf s k).sd=0∨(unOf s k).sd=1:=by rw[un_at hk];exact un_sd hu
 have hr:=room_cnt h hsd h1 h4
 have hi:inR 0 (b.m.w*b.m.h-1) (nextM b.m (unOf s k).at_ d)=true:=by simp only[inR,Bool.and_eq_true,decide_eq_true_eq];omega
 have hkd:kindAsk b (unOf s k).k=true:=un_kind (sta_brd h) (by rw[un_at hk];simp only[unOk,Bool.and_eq_true] at hu;exact hu.1.1.2)
 have hc:=cost_bnd hkd (i:=nextM b.m (unOf s k).at_ d) ⟨h1,hb.2⟩
 exact go_ok h hk ha hi (by omega) hr.1 hr.2
theorem retU_ok{b:Brd}{s:Sta}{k:Nat}(h:staOk b s=true)(hk:k<s.us.length)(ha:0≤(unOf s k).at_):staOk b (retU b s k)=true∧(retU b s k).us.length=s.us.length∧ ∀j:Nat,j≠k→unOf (retU b s k) j=unOf s j:=by
 simp only[retU]
 split
 ·refine⟨lose_ok h _,loseK_len _ _ _,fun j hj=>?_⟩
  simp only[unOf,loseK,List.getD,Int.toNat_natCast,List.getElem?_set_ne (fun e=>hj (Eq.symm e))]
 ·rename_i d l e
  obtain⟨d',rfl,_,hp⟩:=retL_mem (d:=d) (by rw[e];simp)
  refine⟨retP_go h hk ha hp,goU_len _ _ _,fun j hj=>?_⟩
  simp only[unOf,goU,List.getD,Int.toNat_natCast,List.getElem?_set_ne (fun e=>hj (Eq.symm e))]
structure OnL(s:Sta)(l:List Int):Prop where
 inn: ∀k∈l,0≤k∧k<(s.us.length:Int)∧0≤(unOf s k).at_
 nd:l.Nodup
theorem OnL.next{b:Brd}{s:Sta}{k:Int}{l:List Int}(h:staOk b s=true)(ho:OnL s (k::l)):staOk b (retU b s k)=true∧(retU b s k).us.length=s.us.length∧OnL (retU b s k) l:=by
 have hk:=ho.inn k (by simp)
 obtain⟨k,rfl⟩: ∃m:Nat,k=m:=⟨k.toNat,by omega⟩
 have h1:=retU_ok h (k:=k) (by omega) hk.2.2
 refine⟨h1.1,h1.2.1,fun j hj=>?_,(List.nodup_cons.1 ho.nd).2⟩
 have h2:=ho.inn j (by simp[hj])
 obtain⟨j,rfl⟩: ∃m:Nat,j=m:=⟨j.toNat,by omega⟩
 have hne:j≠k:=by rintro rfl;exact(List.nodup_cons.1 ho.nd).1 hj
 rw[h1.2.1,h1.2.2 j hne];exact h2
end Go.Proofs.YthggfnefjbckeaaGreatDoor.X
set_option maxHeartbeats 1000000
set_option maxRecDepth 8000
set_option linter.unusedSimpArgs false
set_option linter.unusedVariables false
open Nat renaming reduceBEq→N1,reduceAdd→N2,reduceSub→N3,reduceMul→N4,reduceEqDiff→N5,reduceLeDiff→N6,reduceLT→N7
open Int renaming reduceLE→I1,reduceLT→I2,reduceToNat→I3
namespace Go.Proofs.YthggfnefjbckeaaGreatDoor.X
open Go
theorem rng_mem{p:Nat→Bool}{n:Nat}{x:Int}(h:x∈((List.range n).filter p).map fun k:Nat=>(k:Int)): ∃k:Nat,x=k∧k<n∧p k=true:=by
 simp only[List.mem_map,List.mem_filter,List.mem_range] at h
 obtain⟨e,⟨h1,h2⟩,rfl⟩:=h
 exact⟨e,rfl,h1,h2⟩
theorem rng_le(p:Nat→Bool)(n:Nat):(((List.range n).filter p).map fun k:Nat=>(k:Int)).length≤n:=by
 rw[List.length_map];exact Nat.le_trans (List.length_filter_le _ _) (by simp)
structure BtOk(b:Brd)(s:Sta)(y:Bt):Prop where
 at1:0≤y.at_∧y.at_<(b.m.t.length:Int)
 ak0:y.ak≠[]
 ak1: ∀k∈y.ak,0≤k∧k<(s.us.length:Int)∧0≤(unOf s k).at_∧0≤dirOn b.m y.at_ (unOf s k).at_∧(unOf s k).sd≠owner s y.at_
 ak2:y.ak.Pairwise (· < ·)
 ak3:y.ak.length≤s.us.length
 df0:y.df≠[]
 df1:y.df=dfs s y.at_
 df2: ∀k∈y.df,0≤k∧k<(s.us.length:Int)∧(unOf s k).at_=y.at_∧(unOf s k).sd=owner s y.at_
 df3:y.df.Pairwise (· < ·)
 df4:y.df.length≤s.us.length
 own:owner s y.at_=0∨owner s y.at_=1
end Go.Proofs.YthggfnefjbckeaaGreatDoor.X
set_option maxHeartbeats 4000000
set_option maxRecDepth 8000
set_option linter.unusedSimpArgs false
set_option linter.unusedVariables false
open Nat renaming reduceBEq→N1,reduceAdd→N2,reduceSub→N3,reduceMul→N4,reduceEqDiff→N5,reduceLeDiff→N6,reduceLT→N7
open Int renaming reduceLE→I1,reduceLT→I2,reduceToNat→I3
namespace Go.Proofs.YthggfnefjbckeaaGreatDoor.X
open Go
attribute [local irreducible] Ev
section
variable{C:CT}(hC:Closed Tryz.prog G1 md0 C)
include hC
end
end Go.Proofs.YthggfnefjbckeaaGreatDoor.X
set_option maxHeartbeats 4000000
set_option maxRecDepth 8000
set_option linter.unusedSimpArgs false
set_option linter.unusedVariables false
open Nat renaming reduceBEq→N1,reduceAdd→N2,reduceSub→N3,reduceMul→N4,reduceEqDiff→N5,reduceLeDiff→N6,reduceLT→N7
open Int renaming reduceLE→I1,reduceLT→I2,reduceToNat→I3
namespace Go.Proofs.YthggfnefjbckeaaGreatDoor.X
open Go
attribute [local irreducible] Ev
def hasL(b:Brd)(s:Sta)(i:Int)(l:List Int)(d:Nat):Bool:=l.any fun k=>decide (dirOn b.m i (unOf s k).at_=(d:Int))
def fr(b:Brd)(s:Sta)(i:Int)(l:List Int):List AV:=(List.range 6).map fun d=> .bool (hasL b s i l d)
section
variable{C:CT}(hC:Closed Tryz.prog G1 md0 C)
include hC
end
end Go.Proofs.YthggfnefjbckeaaGreatDoor.X
set_option maxHeartbeats 4000000
set_option maxRecDepth 8000
set_option linter.unusedSimpArgs false
set_option linter.unusedVariables false
open Nat renaming reduceBEq→N1,reduceAdd→N2,reduceSub→N3,reduceMul→N4,reduceEqDiff→N5,reduceLeDiff→N6,reduceLT→N7
open Int renaming reduceLE→I1,reduceLT→I2,reduceToNat→I3
namespace Go.Proofs.YthggfnefjbckeaaGreatDoor.X
open Go
attribute [local irreducible] Ev
theorem ints_app(l r:List Int):ints l++ints r=ints (l++r):=by simp[ints]
section
variable{C:CT}(hC:Closed Tryz.prog G1 md0 C)
include hC
end
end Go.Proofs.YthggfnefjbckeaaGreatDoor.X
set_option maxHeartbeats 4000000
set_option maxRecDepth 8000
set_option linter.unusedSimpArgs false
set_option linter.unusedVariables false
open Nat renaming reduceBEq→N1,reduceAdd→N2,reduceSub→N3,reduceMul→N4,reduceEqDiff→N5,reduceLeDiff→N6,reduceLT→N7
open Int renaming reduceLE→I1,reduceLT→I2,reduceToNat→I3
namespace Go.Proofs.YthggfnefjbckeaaGreatDoor.X
open Go
attribute [local irreducible] Ev
theorem ints_one(n:Int):[[AV.int .i64 n]]=ints [n]:=rfl
section
variable{C:CT}(hC:Closed Tryz.prog G1 md0 C)
include hC
end
end Go.Proofs.YthggfnefjbckeaaGreatDoor.X
set_option maxHeartbeats 4000000
set_option maxRecDepth 8000
set_option linter.unusedSimpArgs false
set_option linter.unusedVariables false
open Nat renaming reduceBEq→N1,reduceAdd→N2,reduceSub→N3,reduceMul→N4,reduceEqDiff→N5,reduceLeDiff→N6,reduceLT→N7
open Int renaming reduceLE→I1,reduceLT→I2,reduceToNat→I3
namespace Go.Proofs.YthggfnefjbckeaaGreatDoor.X
open Go
attribute [local irreducible] Ev
def FrH(ids:List Nat)(n:Nat)(h h':Heap):Prop:= ∀j,j<n→j∉ids→hget h' j=hget h j
structure MP(ids:List Nat)(h:Heap)(n c:Nat)(k W:Int)(v:AV)(h':Heap)(n':Nat):Prop where
 v: ∃m,v= .int .i64 m∧k≤m∧m≤k+W
 nn:n'=n+c
 f:FrH ids n h h'
 b:below n' h'
 s:solid h'
theorem FrH.set{n id:Nat}{h:Heap}{o:Ob}:FrH [id] n h (hset h id o):=by
 intro j _ hj
 rw[hget_set,if_neg (by simp at hj;omega)]
theorem FrH.trans{a b:List Nat}{n n':Nat}{h h' h2:Heap}(h1:FrH a n h h')(h3:FrH b n' h' h2)(hn:n≤n'):FrH (a++b) n h h2:=by
 intro j hj hm
 simp only[List.mem_append,not_or] at hm
 rw[h3 j (by omega) hm.2,h1 j hj hm.1]
theorem FrH.box{n:Nat}{h:Heap}{o:Ob}:FrH [] n h ((n,o)::h):=by
 intro j hj _
 simp only[hget,if_neg (show¬n=j by omega)]
def mkUns(k:Int)(n:Nat):List Un:=(List.range n).map fun i:Nat=>⟨k+4*(i:Int),k+4*(i:Int)+1,k+4*(i:Int)+2,k+4*(i:Int)+3⟩
section
variable{C:CT}(hC:Closed Tryz.prog G1 md0 C)
include hC
end
end Go.Proofs.YthggfnefjbckeaaGreatDoor.X
set_option maxHeartbeats 4000000
set_option maxRecDepth 8000
set_option linter.unusedSimpArgs false
set_option linter.unusedVariables false
open Nat renaming reduceBEq→N1,reduceAdd→N2,reduceSub→N3,reduceMul→N4,reduceEqDiff→N5,reduceLeDiff→N6,reduceLT→N7
open Int renaming reduceLE→I1,reduceLT→I2,reduceToNat→I3
namespace Go.Proofs.YthggfnefjbckeaaGreatDoor.X
open Go
attribute [local irreducible] Ev
theorem usl_get{us:List Un}{k:Nat}(h:k<us.length):(uns us)[k]?=some (unA (us.getD k un0)):=by
 simp[uns,List.getD,h]
section
variable{C:CT}(hC:Closed Tryz.prog G1 md0 C)
include hC
end
end Go.Proofs.YthggfnefjbckeaaGreatDoor.X
set_option maxHeartbeats 4000000
set_option maxRecDepth 8000
set_option linter.unusedSimpArgs false
set_option linter.unusedVariables false
open Nat renaming reduceBEq→N1,reduceAdd→N2,reduceSub→N3,reduceMul→N4,reduceEqDiff→N5,reduceLeDiff→N6,reduceLT→N7
open Int renaming reduceLE→I1,reduceLT→I2,reduceToNat→I3
namespace Go.Proofs.YthggfnefjbckeaaGreatDoor.X
open Go
attribute [local irreducible] Ev
section
variable{C:CT}(hC:Closed Tryz.prog G1 md0 C)
include hC
end
end Go.Proofs.YthggfnefjbckeaaGreatDoor.X
set_option maxHeartbeats 4000000
set_option maxRecDepth 8000
set_option linter.unusedSimpArgs false
set_option linter.unusedVariables false
open Nat renaming reduceBEq→N1,reduceAdd→N2,reduceSub→N3,reduceMul→N4,reduceEqDiff→N5,reduceLeDiff→N6,reduceLT→N7
open Int renaming reduceLE→I1,reduceLT→I2,reduceToNat→I3
namespace Go.Proofs.YthggfnefjbckeaaGreatDoor.X
open Go
attribute [local irreducible] Ev
section
variable{C:CT}(hC:Closed Tryz.prog G1 md0 C)
include hC
end
end Go.Proofs.YthggfnefjbckeaaGreatDoor.X
set_option maxHeartbeats 4000000
set_option maxRecDepth 8000
set_option linter.unusedSimpArgs false
set_option linter.unusedVariables false
open Nat renaming reduceBEq→N1,reduceAdd→N2,reduceSub→N3,reduceMul→N4,reduceEqDiff→N5,reduceLeDiff→N6,reduceLT→N7
open Int renaming reduceLE→I1,reduceLT→I2,reduceToNat→I3
namespace Go.Proofs.YthggfnefjbckeaaGreatDoor.X
open Go
attribute [local irreducible] Ev
section
variable{C:CT}(hC:Closed Tryz.prog G1 md0 C)
include hC
end
end Go.Proofs.YthggfnefjbckeaaGreatDoor.X
set_option maxHeartbeats 4000000
set_option maxRecDepth 8000
set_option linter.unusedSimpArgs false
set_option linter.unusedVariables false
open Nat renaming reduceBEq→N1,reduceAdd→N2,reduceSub→N3,reduceMul→N4,reduceEqDiff→N5,reduceLeDiff→N6,reduceLT→N7
open Int renaming reduceLE→I1,reduceLT→I2,reduceToNat→I3
namespace Go.Proofs.YthggfnefjbckeaaGreatDoor.X
open Go
attribute [local irreducible] Ev
section
variable{C:CT}(hC:Closed Tryz.prog G1 md0 C)
include hC
end
end Go.Proofs.YthggfnefjbckeaaGreatDoor.X
set_option maxHeartbeats 4000000
set_option maxRecDepth 8000
set_option linter.unusedSimpArgs false
set_option linter.unusedVariables false
open Nat renaming reduceBEq→N1,reduceAdd→N2,reduceSub→N3,reduceMul→N4,reduceEqDiff→N5,reduceLeDiff→N6,reduceLT→N7
open Int renaming reduceLE→I1,reduceLT→I2,reduceToNat→I3
namespace Go.Proofs.YthggfnefjbckeaaGreatDoor.X
open Go
attribute [local irreducible] Ev
section
variable{C:CT}(hC:Closed Tryz.prog G1 md0 C)
include hC
end
end Go.Proofs.YthggfnefjbckeaaGreatDoor.X
set_option maxHeartbeats 1000000
set_option maxRecDepth 8000
set_option linter.unusedSimpArgs false
set_option linter.unusedVariables false
open Nat renaming reduceBEq→N1,reduceAdd→N2,reduceSub→N3,reduceMul→N4,reduceEqDiff→N5,reduceLeDiff→N6,reduceLT→N7
open Int renaming reduceLE→I1,reduceLT→I2,reduceToNat→I3
namespace Go.Proofs.YthggfnefjbckeaaGreatDoor.X
open Go
end Go.Proofs.YthggfnefjbckeaaGreatDoor.X
set_option maxHeartbeats 400000
set_option maxRecDepth 8000
set_option linter.unusedSimpArgs false
set_option linter.unusedVariables false
open Nat renaming reduceBEq→N1,reduceAdd→N2,reduceSub→N3,reduceMul→N4,reduceEqDiff→N5,reduceLeDiff→N6,reduceLT→N7
open Int renaming reduceLE→I1,reduceLT→I2,reduceToNat→I3
namespace Go.Proofs.YthggfnefjbckeaaGreatDoor.X
open Go
attribute [local irreducible] Ev
theorem FrH.get{ids:List Nat}{n j:Nat}{h h':Heap}{o:Ob}(hf:FrH ids n h h')(hb:below n h)(hj:j∉ids)(hg:hget h j=some o):hget h' j=some o:=by
 rw[hf j (below_lt hb hg) hj,hg]
structure MS(id:Nat)(h:Heap)(n c:Nat)(k:Int)(len:Nat)(v:AV)(h':Heap)(n':Nat):Prop where
 v:v= .int .i64 (k+4*(len:Int))
 nn:n'=n+c
 g:hget h' id=some (.slice 4 (uns (mkUns k len)))
 f:FrH [id] n h h'
 b:below n' h'
 s:solid h'
structure MW(id:Nat)(h:Heap)(n c:Nat)(k:Int)(len:Nat)(v:AV)(h':Heap)(n':Nat):Prop where
 v:v= .int .i64 (k+(len:Int))
 nn:n'=n+c
 g:hget h' id=some (.slice 1 (ints (run k len)))
 f:FrH [id] n h h'
 b:below n' h'
 s:solid h'
section
variable{C:CT}(hC:Closed Tryz.prog G1 md0 C)
include hC
end
end Go.Proofs.YthggfnefjbckeaaGreatDoor.X
set_option maxHeartbeats 4000000
set_option maxRecDepth 8000
set_option linter.unusedSimpArgs false
set_option linter.unusedVariables false
open Nat renaming reduceBEq→N1,reduceAdd→N2,reduceSub→N3,reduceMul→N4,reduceEqDiff→N5,reduceLeDiff→N6,reduceLT→N7
open Int renaming reduceLE→I1,reduceLT→I2,reduceToNat→I3
namespace Go.Proofs.YthggfnefjbckeaaGreatDoor.X
open Go
attribute [local irreducible] Ev
section
variable{C:CT}(hC:Closed Tryz.prog G1 md0 C)
include hC
end
end Go.Proofs.YthggfnefjbckeaaGreatDoor.X
set_option maxHeartbeats 4000000
set_option maxRecDepth 8000
set_option linter.unusedSimpArgs false
set_option linter.unusedVariables false
open Nat renaming reduceBEq→N1,reduceAdd→N2,reduceSub→N3,reduceMul→N4,reduceEqDiff→N5,reduceLeDiff→N6,reduceLT→N7
open Int renaming reduceLE→I1,reduceLT→I2,reduceToNat→I3
namespace Go.Proofs.YthggfnefjbckeaaGreatDoor.X
open Go
attribute [local irreducible] Ev
section
variable{C:CT}(hC:Closed Tryz.prog G1 md0 C)
include hC
theorem t63(l:List Int)(x:Int)(hl:l.length<2^20)(hx:hasI l x=false):Ev C 63 [.sl (ints l),.int .i64 x] (.ow 1 (ints (putI x l))):=by
 have hne: ∀k (h:k<l.length),decide (l[k]=x)=false:=fun k h=>decide_eq_false fun e=>by
  have:=hasI_mem.2 (List.getElem_mem h)
  rw[e] at this
  rw[this] at hx;cases hx
 refine rT hC Q63 ?_ (own_ints _)
 simp only[c63,ints_length,push_cast,↓J1,↓J2,N1,N2,N3,reduceCtorEq,N4,N5,N6,reduceIte,N7,I1,I2,I3]
 refine RL_count (fun k=>⟨tb 48 .any [(0,.sl (ints l)),(1,.int .i64 x),(5,.int .i64 (k:Int))],[],0⟩) (fun k=> ∀j (h:j<l.length),j<k→l[j]<x) l.length 0 (hdA []) (by omega) (fun j h hj=>by omega) fun k hk hI J hJ=>?_
 have hfin:(∀h:k<l.length,¬l[k]<x)→l.take k++x::l.drop k=putI x l:=fun h2=>by
  rw[putI_at x l k hk hI h2]
  split
  ·rename_i h
   rw[if_neg (of_decide_eq_false (hne k h))]
  ·have:k=l.length:=by omega
   subst this;simp
 have tk1:List.take k (List.drop 0 (ints l))=ints (l.take k):=by simp[ints,List.map_take]
 have tk1':List.take k (ints l)=ints (l.take k):=by simp[ints,List.map_take]
 have tk2:List.drop k (ints l)=ints (l.drop k):=by simp[ints,List.map_drop]
 have tkl:(l.take k).length=k:=by simp;omega
 have tz:((k:Int)-0).toNat=k:=by omega
 have el1: ∀el,el∈ints l→el.length=1:=fun el h=>by obtain⟨n,_,rfl⟩:=List.mem_map.1 h;rfl
 have ints_app: ∀a c:List Int,ints a++ints c=ints (a++c):=fun a c=>by simp[ints]
 have eall: ∀l:List Int,((ints l).all fun e=>e.length==1)=true:=fun l=>by simp[ints]
 have tkk:List.take k (ints (l.take k))=ints (l.take k):=List.take_of_length_le (by rw[ints_length];omega)
 have tk3:List.take (k+1) (ints (l.take k++[x]))=ints (l.take k++[x]):=List.take_of_length_le (by rw[ints_length];simp;omega)
 have tzz:((l.length:Int)-(k:Int)).toNat=l.length-k:=by omega
 have tk4:List.take (l.length-k) (ints (l.drop k))=ints (l.drop k):=List.take_of_length_le (by rw[ints_length];simp)
 have tl3:(l.take k++[x]).length=k+1:=by simp;omega
 have tl4:(l.drop k).length=l.length-k:=by simp
 have tka: ∀l:List Int,List.take l.length (ints l)=ints l:=fun l=>List.take_of_length_le (by rw[ints_length];omega)
 by_cases h1:k<l.length
 ·have hlt:decide ((k:Int)<(l.length:Int))=true:=decide_eq_true (by omega)
  have e1:(ints l)[k]?=some [.int .i64 l[k]]:=by simp[ints,h1]
  simp only[hlt,Int.toNat_natCast,e1,ints_length,push_cast,↓J1,↓J2,N1,N2,N3,reduceCtorEq,N4,N5,N6,reduceIte,N7,I1,I2,I3]
  repeat (refine⟨by omega,?_⟩)
  cases g1:decide (l[k]<x)
  ·have e2:=hne k h1
   have e3:=hfin fun _=>of_decide_eq_false g1
   simp only[g1,hlt,e2,Int.toNat_natCast,e1,ints_length,push_cast,↓J1,↓J2,N1,N2,N3,reduceCtorEq,N4,N5,N6,reduceIte,N7,I1,I2,I3]
   repeat' (first | refine⟨el1,?_⟩ | refine⟨by omega,?_⟩ | simp only[tz,tzz,tkk,tk3,tk4,tl3,tl4,eall,tk1',tk2,tka,tkl,List.nil_append,List.length_nil,List.append_nil,ints_length,ints_sn,ints_app,allScs,apYR_sc,Int.toNat_natCast,push_cast,↓J1,↓J2,N1,N2,N3,reduceCtorEq,N4,N5,N6,reduceIte,N7,I1,I2,I3])
   rw[←e3,show l.take k++x::l.drop k=l.take k++[x]++l.drop k by simp]
   exact RetTo_ow rfl (by rw[ints_length];simp;omega)
  ·simp only[g1,push_cast,↓J1,↓J2,N1,N2,N3,reduceCtorEq,N4,N5,N6,reduceIte,N7,I1,I2,I3]
   refine hJ h1 ?_ _ (hdA [])
   intro j hj hjk
   by_cases e:j=k
   ·subst e;exact of_decide_eq_true g1
   ·exact hI j hj (by omega)
 ·have hlt:decide ((k:Int)<(l.length:Int))=false:=decide_eq_false (by omega)
  have e3:=hfin fun h=>absurd h h1
  simp only[hlt,ints_length,push_cast,↓J1,↓J2,N1,N2,N3,reduceCtorEq,N4,N5,N6,reduceIte,N7,I1,I2,I3]
  repeat' (first | refine⟨el1,?_⟩ | refine⟨by omega,?_⟩ | simp only[tz,tzz,tkk,tk3,tk4,tl3,tl4,eall,tk1',tk2,tka,tkl,List.nil_append,List.length_nil,List.append_nil,ints_length,ints_sn,ints_app,allScs,apYR_sc,Int.toNat_natCast,push_cast,↓J1,↓J2,N1,N2,N3,reduceCtorEq,N4,N5,N6,reduceIte,N7,I1,I2,I3])
  rw[←e3,show l.take k++x::l.drop k=l.take k++[x]++l.drop k by simp]
  exact RetTo_ow rfl (by rw[ints_length];simp;omega)
end
end Go.Proofs.YthggfnefjbckeaaGreatDoor.X
set_option maxHeartbeats 4000000
set_option maxRecDepth 8000
set_option linter.unusedSimpArgs false
set_option linter.unusedVariables false
open Nat renaming reduceBEq→N1,reduceAdd→N2,reduceSub→N3,reduceMul→N4,reduceEqDiff→N5,reduceLeDiff→N6,reduceLT→N7
open Int renaming reduceLE→I1,reduceLT→I2,reduceToNat→I3
namespace Go.Proofs.YthggfnefjbckeaaGreatDoor.X
open Go
attribute [local irreducible] Ev
section
variable{C:CT}(hC:Closed Tryz.prog G1 md0 C)
include hC
end
end Go.Proofs.YthggfnefjbckeaaGreatDoor.X
set_option maxHeartbeats 4000000
set_option maxRecDepth 8000
set_option linter.unusedSimpArgs false
set_option linter.unusedVariables false
open Nat renaming reduceBEq→N1,reduceAdd→N2,reduceSub→N3,reduceMul→N4,reduceEqDiff→N5,reduceLeDiff→N6,reduceLT→N7
open Int renaming reduceLE→I1,reduceLT→I2,reduceToNat→I3
namespace Go.Proofs.YthggfnefjbckeaaGreatDoor.X
open Go
attribute [local irreducible] Ev
def orX(o:Od_):List AV:=[.int .i64 o.u,if o.a<0 then .sl (ints o.p) else .ow 1 (ints o.p),.int .i64 o.a]
def orXs(l:List Od_):List (List AV):=l.map orX
def orF(o:Od_):List AV:=[.int .i64 o.u,.sl (ints o.p),.int .i64 o.a]
def orFs(l:List Od_):List (List AV):=l.map orF
theorem orXs_length(l:List Od_):(orXs l).length=l.length:=by simp[orXs]
theorem orFs_length(l:List Od_):(orFs l).length=l.length:=by simp[orFs]
theorem orXs_take(l:List Od_)(n:Nat):(orXs l).take n=orXs (l.take n):=by simp[orXs,List.map_take]
theorem frz_orXs(l:List Od_):frzLL (orXs l)=orFs l:=by
 induction l with
 | nil=>rfl
 | cons o l ih=>
  simp only[orXs,orFs,List.map_cons,frzLL] at ih⊢
  rw[ih]
  congr 1
  simp only[orX,orF,frzL,frzT]
  split<;>simp[frzT,frzLL_ints]
theorem orXs_path(l:List Od_)(u:Int)(p:List Int):orXs l++[[.int .i64 u,.sl (ints p),.int .i64 (-1)]]=orXs (l++[⟨u,p,-1⟩]):=by simp[orXs,orX]
theorem orXs_own(l:List Od_)(u:Int)(p:List Int){a:Int}(ha:0≤a):orXs l++[[.int .i64 u,.ow 1 (ints p),.int .i64 a]]=orXs (l++[⟨u,p,a⟩]):=by
 have: ¬a<0:=by omega
 simp[orXs,orX,this]
theorem nbs_nodup{m:Mp}{i:Int}(hw:1≤m.w):(nbs m i).Nodup:=by
 simp only[nbs,nbT,List.Nodup,List.pairwise_filter,List.pairwise_map]
 refine List.pairwise_lt_range.imp_of_mem fun{a b} ha hb h h1 h2 e=>?_
 have:=nextM_inj hw (List.mem_range.1 ha) (List.mem_range.1 hb) (by simpa using h1) e
 omega
def clT(b:Brd)(s:Sta)(sd i:Int)(u:Int)(p:List Int)(n:Nat):List Od_:=((List.range n).filter fun k=>hasI (nbs b.m i) (k:Nat)&&decide (owner s (k:Nat)=1-sd)).map fun k:Nat=>⟨u,p,(k:Int)⟩
theorem clT_succ(b:Brd)(s:Sta)(sd i:Int)(u:Int)(p:List Int)(n:Nat):clT b s sd i u p (n+1)=if hasI (nbs b.m i) (n:Nat)&&decide (owner s (n:Nat)=1-sd) then clT b s sd i u p n++[⟨u,p,(n:Int)⟩] else clT b s sd i u p n:=by
 simp only[clT,List.range_succ,List.filter_append,List.map_append]
 cases h:(hasI (nbs b.m i) (n:Nat)&&decide (owner s (n:Nat)=1-sd))<;>simp[List.filter,h]
theorem clT_le(b:Brd)(s:Sta)(sd i:Int)(u:Int)(p:List Int)(n:Nat):(clT b s sd i u p n).length≤n:=by
 simp only[clT,List.length_map]
 exact Nat.le_trans (List.length_filter_le _ _) (by simp)
theorem ordsAt_cl(b:Brd)(s:Sta)(u:Int)(x:Un)(i:Int):ordsAt b s u x i=[⟨u,pthM b x.k s.w x.at_.toNat i.toNat,-1⟩]++clT b s x.sd i u (pthM b x.k s.w x.at_.toNat i.toNat) b.m.t.length:=by
 simp only[ordsAt,nearM,clT,List.map_map,List.singleton_append];rfl
def addO(l:List Od_)(o:Od_)(c:Bool):List Od_:=if c then l++[o] else l
theorem hasI_snoc{l:List Int}{j:Nat}(h:j<l.length)(n:Int):hasI (l.take (j+1)) n=(hasI (l.take j) n||decide (l[j]=n)):=by
 simp only[hasI,List.take_succ_eq_append_getElem h,List.any_append,List.any_cons,List.any_nil,Bool.or_false]
theorem hasI_nodup{l:List Int}(hn:l.Nodup){j:Nat}(h:j<l.length):hasI (l.take j) l[j]=false:=by
 cases g:hasI (l.take j) l[j]
 ·rfl
 ·exfalso
  obtain⟨m,hm,e⟩:=List.getElem_of_mem (hasI_mem.1 g)
  rw[List.getElem_take] at e
  have hm':m<j:=by simp at hm;omega
  exact absurd ((List.getElem_inj hn).1 e) (by omega)
section
variable{C:CT}(hC:Closed Tryz.prog G1 md0 C)
include hC
theorem t104(u a:Int)(p:List Int)(hp:p.length<2^30):Ev C 104 [.agg [.int .i64 u,.sl (ints p),.int .i64 a]] (.agg [.int .i64 u,.ow 1 (ints p),.int .i64 a]):=by
 have c1:=t139 hC p (by omega)
 have tkp:List.take p.length (ints p)=ints p:=List.take_of_length_le (by rw[ints_length];omega)
 refine rT hC Q104 ?_ (by simp only[ownR,ownRL,own_ints1,Bool.and_true])
 simp only[c104,push_cast,↓J1,↓J2,N1,N2,N3,reduceCtorEq,N4,N5,N6,reduceIte,N7,I1,I2,I3]
 repeat' (first
  | simp only[ints_length,tkp,frzLL_ints,push_cast,↓J1,↓J2,N1,N2,N3,reduceCtorEq,N4,N5,N6,reduceIte,N7,I1,I2,I3]
  | refine⟨_,c1,?_⟩
  | refine ifB_intro (fun h=>?_) (fun h=>?_))
 exact RetTo_of (by simp only[conR,conRL,isF,hget,hdel,List.drop_zero,List.take_length,if_true,if_false,reduceIte,N5,reduceCtorEq,tkp,ints_length];rfl)
end
end Go.Proofs.YthggfnefjbckeaaGreatDoor.X
set_option maxHeartbeats 4000000
set_option maxRecDepth 8000
set_option linter.unusedSimpArgs false
set_option linter.unusedVariables false
open Nat renaming reduceBEq→N1,reduceAdd→N2,reduceSub→N3,reduceMul→N4,reduceEqDiff→N5,reduceLeDiff→N6,reduceLT→N7
open Int renaming reduceLE→I1,reduceLT→I2,reduceToNat→I3
namespace Go.Proofs.YthggfnefjbckeaaGreatDoor.X
open Go
attribute [local irreducible] Ev
theorem pth_len{b:Brd}{kd w:Int}{i k:Nat}(h:kindAsk b kd=true)(hw:0≤w∧w≤2)(hi:i<b.m.t.length)(hk:k<b.m.t.length)(h0:0≤(farB b kd w k).getD i 0):(pthM b kd w i k).length≤2002:=by
 have h1:=(pI_ok h hw hi hk h0 (pN b kd w (farB b kd w k) i k) fun m hm=>pN_lt hm).2.2.2.1
 simp only[pthM,h1];exact pN_le
theorem nbs_len(m:Mp)(i:Int):(nbs m i).length≤6:=by
 simp only[nbs,nbT];exact Nat.le_trans (List.length_filter_le _ _) (by simp)
section
variable{C:CT}(hC:Closed Tryz.prog G1 md0 C)(hF:FrzC C)
include hC hF
theorem t74n(b:Brd)(s:Sta)(k i:Nat)(h:Heap)(hs:staOk b s=true)(hk:k<s.us.length)(ha:0≤(unOf s k).at_)(hi:i<b.m.t.length)(h0:0≤(farF b (unOf s k).k s.w (unOf s k).at_.toNat).getD i 0)(hb:BrdB (2^50) b)(hkk:killH h=h)(hc: ∀ρ,canB 3 ρ h=h)(hd: ∀m,3≤m→hdel h m=h):
  C 74 [brdF b,.agg (staF s),.int .i64 (k:Int),.int .i64 (i:Int),.nil] h 3 fun v h' n'=>v= .ref 5 none 3 0 ([]++ordsAt b s k (unOf s k) i).length∧h'=(6,.slice 1 (ints (nbs b.m i)))::(5,.slice 3 (orXs ([]++ordsAt b s k (unOf s k) i)))::(4,.var (unA (unOf s k)))::(3,.var [.int .i64 s.t,.int .i64 s.w,.sl (uns s.us)])::h∧n'=7:=by
 have hwh:=brd_wh (sta_brd hs)
 have hlen:=sta_len hs
 have gb:=sta_brd hs
 have hmw:=mp_wh (brd_mp gb)
 have hx:=List.all_eq_true.1 (sta_all hs) _ (List.getElem_mem hk)
 rw[←un_at hk] at hx
 have e1:=usl_get hk
 rw[show s.us.getD k un0=unOf s k from rfl] at e1
 have eo:ordsAt b s k (unOf s k) i=[⟨k,pthM b (unOf s k).k s.w (unOf s k).at_.toNat i,-1⟩]++clT b s (unOf s k).sd i k (pthM b (unOf s k).k s.w (unOf s k).at_.toNat i) b.m.t.length:=ordsAt_cl b s k (unOf s k) i
 rw[eo]
 have hka:=un_kind gb (show inR 0 (b.r.ks.length-1) (unOf s k).k=true by simp only[unOk,Bool.and_eq_true] at hx;exact hx.1.1.2)
 have hw:0≤s.w∧s.w≤2:=by simp only[staOk,staOk0,inR,Bool.and_eq_true,decide_eq_true_eq] at hs;omega
 have hat:=unOk_at hx (by omega)
 have hsd:=un_sd hx
 obtain⟨a,ea⟩: ∃a:Nat,(unOf s k).at_=a:=⟨(unOf s k).at_.toNat,by omega⟩
 have eat:(unOf s k).at_.toNat=a:=by omega
 rw[eat] at h0⊢
 have c1:=t102 hC b (unOf s k).k s.w a i hka hw (by omega) hi (reach_back hka hw (by omega) hi h0) hb
 have hpl:(pthM b (unOf s k).k s.w a i).length≤2002:=pth_len hka hw (by omega) hi (reach_back hka hw (by omega) hi h0)
 have c2:=t103 hC b.m i hmw.1 hmw.2 (by omega)
 have c3:=fun m=>t76 hC s m (by omega)
 have c4:=fun m=>t104 hC k m (pthM b (unOf s k).k s.w a i) (by omega)
 have hnl:(nbs b.m i).length≤6:=nbs_len _ _
 have hnd:=nbs_nodup (m:=b.m) (i:=(i:Int)) hmw.1.1
 have hcs:=fun m=>clT_succ b s (unOf s k).sd i k (pthM b (unOf s k).k s.w a i) m
 have hcl:=fun m=>clT_le b s (unOf s k).sd i k (pthM b (unOf s k).k s.w a i) m
 generalize pthM b (unOf s k).k s.w a i=pth at *
 rw[←ea] at c1
 generalize unOf s k=x at *
 have w1:IntKind.i64.wrap (1-x.sd)=1-x.sd:=wrap64 (by omega) (by omega)
 have isNs: ∀(n a:Int) (l:List (List AV)),allScs [[AV.int .i64 n,AV.ow 1 l,AV.int .i64 a]]=false:=fun _ _ _=>rfl
 have isNf: ∀(n a:Int) (l:List (List AV)),allScs [[AV.int .i64 n,AV.sl l,AV.int .i64 a]]=false:=fun _ _ _=>rfl
 have tkr: ∀l:List Od_,List.take l.length (orXs l)=orXs l:=fun l=>List.take_of_length_le (by rw[orXs_length];omega)
 have tkn:List.take (nbs b.m i).length (ints (nbs b.m i))=ints (nbs b.m i):=List.take_of_length_le (by rw[ints_length];omega)
 have tkp:List.take pth.length (ints pth)=ints pth:=List.take_of_length_le (by rw[ints_length];omega)
 have hdd:=hd
 refine Closed.rT hC Q74 ?_
 simp only[brdF,rulF,mpF,List.cons_append,List.nil_append,staF,unA] at *
 simp only[c74,push_cast,↓J1,↓J2,N1,N2,N3,reduceCtorEq,N4,N5,N6,reduceIte,N7,I1,I2,I3]
 repeat' (first
  | simp only[e1,uns_length,ints_length,Int.toNat_natCast,push_cast,↓J1,↓J2,N1,N2,N3,reduceCtorEq,N4,N5,N6,reduceIte,N7,I1,I2,I3]
  | (refine⟨by omega,?_⟩)
  | refine ifB_intro (fun h=>?_) (fun h=>?_))
 refine open_frz hF c1 (by simp only[push_cast,↓J1,↓J2,N1,N2,N3,reduceCtorEq,N4,N5,N6,reduceIte,N7,I1,I2,I3]) ?_
 rw[show frzT (.tup [.ow 1 (ints pth),.bool true])= .tup [.sl (ints pth),.bool true] by simp only[frzT,frzL,frzLL_ints]]
 have hq:=orXs_path [] k pth
 repeat' (first
  | simp only[uns_length,ints_length,orXs_length,hkk,hd,isNf,apYR_ns,tkr,Int.toNat_natCast,push_cast,↓J1,↓J2,N1,N2,N3,reduceCtorEq,N4,N5,N6,reduceIte,N7,I1,I2,I3]
  | refine⟨_,c2,?_⟩
  | (refine⟨by omega,?_⟩)
  | refine ifB_intro (fun h=>?_) (fun h=>?_))
 refine RL_count (fun m=>⟨tb 81 .any [(2,.int .i64 (k:Int)),(4,.ref 5 none 3 0 (([⟨(k:Int),pth,-1⟩]:List Od_)++clT b s x.sd i k pth m).length),(6,.ptr 3 none 0 0 0),(11,.ptr 4 none 0 0 0),(12,.sl (ints pth)),(14,.ref 6 none 1 0 (nbs b.m i).length),(48,.int .i64 (b.m.t.length:Int)),(49,.int .i64 (m:Int))],(6,.slice 1 (ints (nbs b.m i)))::(5,.slice 3 (orXs (([⟨(k:Int),pth,-1⟩]:List Od_)++clT b s x.sd i k pth m)))::(4,.var [.int .i64 x.sd,.int .i64 x.k,.int .i64 x.at_,.int .i64 x.st])::(3,.var [.int .i64 s.t,.int .i64 s.w,.sl (uns s.us)])::h,7⟩) (fun _=>True) b.m.t.length 0 (by
  rw[show clT b s x.sd i k pth 0=[] from rfl,List.append_nil]
  refine(hdA [(8,6),(7,5),(5,4),(4,3)] (hh:=?_))
  simp only[canR,canB,renO,renL,ren,lkp,hget,N7,N5,Nat.not_lt_zero,if_false,if_true,reduceIte,List.append_nil,List.nil_append,hc]
  all_goals rfl) (by omega) trivial fun m hm _ J hJ=>?_
 have hcl:=hcl m
 by_cases h1:m<b.m.t.length
 ·have hlt:decide ((m:Int)<(b.m.t.length:Int))=true:=decide_eq_true (by omega)
  have hJ1:=hJ h1 trivial
  clear hJ
  have c3:=c3 m
  have c4:=c4 m
  have hn:([⟨(k:Int),pth,-1⟩]:List Od_)++clT b s x.sd i k pth (m+1)=addO (([⟨(k:Int),pth,-1⟩]:List Od_)++clT b s x.sd i k pth m) ⟨(k:Int),pth,(m:Int)⟩ (decide (owner s m=1-x.sd)&&hasI (nbs b.m i) m):=by
   rw[hcs,Bool.and_comm]
   cases (decide (owner s m=1-x.sd)&&hasI (nbs b.m i) m)<;>simp[addO]
  rw[hn] at hJ1
  have hAl:(([⟨(k:Int),pth,-1⟩]:List Od_)++clT b s x.sd i k pth m).length≤2^21:=by simp;omega
  clear hn hcs
  generalize ([⟨(k:Int),pth,-1⟩]:List Od_)++clT b s x.sd i k pth m=A at *
  generalize nbs b.m i=nb at *
  generalize hov:owner s m=ov at *
  have ha0:addO A ⟨(k:Int),pth,(m:Int)⟩ (decide (ov=1-x.sd)&&hasI (nb.take 0) m)=A:=by simp[hasI,addO]
  repeat' (first
  | simp only[hlt,ints_length,push_cast,↓J1,↓J2,N1,N2,N3,reduceCtorEq,N4,N5,N6,reduceIte,N7,I1,I2,I3]
  | (refine⟨by omega,?_⟩)
  | refine ifB_intro (fun h=>?_) (fun h=>?_))
  refine RL_count (fun j=>⟨tb 81 .any [(2,.int .i64 (k:Int)),(4,.ref 5 none 3 0 (addO A ⟨(k:Int),pth,(m:Int)⟩ (decide (ov=1-x.sd)&&hasI (nb.take j) m)).length),(6,.ptr 3 none 0 0 0),(11,.ptr 4 none 0 0 0),(12,.sl (ints pth)),(14,.ref 6 none 1 0 nb.length),(48,.int .i64 (b.m.t.length:Int)),(49,.int .i64 (m:Int)),(15,.int .i64 (m:Int)),(52,.ref 6 none 1 0 nb.length),(53,.int .i64 (nb.length:Int)),(54,.int .i64 (j:Int))],(6,.slice 1 (ints nb))::(5,.slice 3 (orXs (addO A ⟨(k:Int),pth,(m:Int)⟩ (decide (ov=1-x.sd)&&hasI (nb.take j) m))))::(4,.var [.int .i64 x.sd,.int .i64 x.k,.int .i64 x.at_,.int .i64 x.st])::(3,.var [.int .i64 s.t,.int .i64 s.w,.sl (uns s.us)])::h,7⟩) (fun _=>True) nb.length 0 (by
   rw[ha0]
   refine(hdA [(6,6),(5,5),(4,4),(3,3)] (hh:=?_))
   simp only[canR,canB,renO,renL,ren,lkp,hget,N7,N5,Nat.not_lt_zero,if_false,if_true,reduceIte,List.append_nil,List.nil_append,hc]
   all_goals rfl) (by omega) trivial fun j hj _ JJ hJJ=>?_
  by_cases h2:j<nb.length
  ·have hlt2:decide ((j:Int)<(nb.length:Int))=true:=decide_eq_true (by omega)
   have hJ2:=hJJ h2 trivial
   clear hJJ hJ1 ha0
   have e2:(ints nb)[j]?=some [.int .i64 nb[j]]:=by simp[ints,h2]
   rw[hasI_snoc h2 m] at hJ2
   have hdj:=hasI_nodup hnd h2
   cases p1:decide (nb[j]=(m:Int))
   ·rw[p1,Bool.or_false] at hJ2
    generalize addO A ⟨(k:Int),pth,(m:Int)⟩ (decide (ov=1-x.sd)&&hasI (nb.take j) m)=X at *
    generalize nb[j]=y at *
    repeat' (first
  | simp only[hlt2,e2,p1,ints_length,Int.toNat_natCast,push_cast,↓J1,↓J2,N1,N2,N3,reduceCtorEq,N4,N5,N6,reduceIte,N7,I1,I2,I3]
  | (refine⟨by omega,?_⟩)
  | refine ifB_intro (fun h=>?_) (fun h=>?_))
    refine hJ2 _ (hdA [(6,6),(5,5),(4,4),(3,3)] (hh:=?_))
    simp only[canR,canB,renO,renL,ren,lkp,hget,N7,N5,Nat.not_lt_zero,if_false,if_true,reduceIte,List.append_nil,List.nil_append,hc]
    all_goals rfl
   ·rw[of_decide_eq_true p1] at hdj
    rw[p1,hdj,Bool.or_true,Bool.and_true] at hJ2
    rw[hdj,Bool.and_false]
    generalize nb[j]=y at *
    cases p2:decide (ov=1-x.sd)
    ·rw[p2] at hJ2
     simp only[addO,Bool.false_eq_true,if_false] at hJ2⊢
     repeat' (first
  | simp only[hlt2,e2,p1,p2,w1,e1,uns_length,ints_length,Int.toNat_natCast,push_cast,↓J1,↓J2,N1,N2,N3,reduceCtorEq,N4,N5,N6,reduceIte,N7,I1,I2,I3]
  | refine⟨_,c3,?_⟩
  | (refine⟨by omega,?_⟩)
  | refine ifB_intro (fun h=>?_) (fun h=>?_))
     refine hJ2 _ (hdA [(6,6),(5,5),(4,4),(3,3)] (hh:=?_))
     simp only[canR,canB,renO,renL,ren,lkp,hget,N7,N5,Nat.not_lt_zero,if_false,if_true,reduceIte,List.append_nil,List.nil_append,hc]
     all_goals rfl
    ·rw[p2] at hJ2
     simp only[addO,Bool.false_eq_true,if_false,if_true] at hJ2⊢
     have ho:=orXs_own A k pth (a:=(m:Int)) (by omega)
     have hla:(A++([⟨(k:Int),pth,(m:Int)⟩]:List Od_)).length=A.length+1:=by simp
     rw[hla] at hJ2
     repeat' (first
  | simp only[hlt2,e2,p1,p2,w1,e1,uns_length,ints_length,orXs_length,tkp,tkr,isNs,apYR_ns,hkk,hd,ho,Int.toNat_natCast,push_cast,↓J1,↓J2,N1,N2,N3,reduceCtorEq,N4,N5,N6,reduceIte,N7,I1,I2,I3]
  | refine⟨_,c3,?_⟩
  | refine⟨_,c4,?_⟩
  | (refine⟨by omega,?_⟩)
  | refine ifB_intro (fun h=>?_) (fun h=>?_))
     refine hJ2 _ (hdA [(6,6),(9,5),(4,4),(3,3)] (hh:=?_))
     simp only[canR,canB,renO,renL,ren,lkp,hget,N7,N5,Nat.not_lt_zero,if_false,if_true,reduceIte,List.append_nil,List.nil_append,hc]
     all_goals rfl
  ·have hlt2:decide ((j:Int)<(nb.length:Int))=false:=decide_eq_false (by omega)
   obtain rfl:j=nb.length:=by omega
   clear hJJ ha0
   rw[List.take_length]
   generalize addO A ⟨(k:Int),pth,(m:Int)⟩ (decide (ov=1-x.sd)&&hasI nb m)=X at *
   repeat' (first
  | simp only[hlt2,push_cast,↓J1,↓J2,N1,N2,N3,reduceCtorEq,N4,N5,N6,reduceIte,N7,I1,I2,I3]
  | (refine⟨by omega,?_⟩)
  | refine ifB_intro (fun h=>?_) (fun h=>?_))
   refine hJ1 _ (hdA [(6,6),(5,5),(4,4),(3,3)] (hh:=?_))
   simp only[canR,canB,renO,renL,ren,lkp,hget,N7,N5,Nat.not_lt_zero,if_false,if_true,reduceIte,List.append_nil,List.nil_append,hc]
   all_goals rfl
 ·have hlt:decide ((m:Int)<(b.m.t.length:Int))=false:=decide_eq_false (by omega)
  obtain rfl:m=b.m.t.length:=by omega
  clear hJ
  simp only[hlt,push_cast,↓J1,↓J2,N1,N2,N3,reduceCtorEq,N4,N5,N6,reduceIte,N7,I1,I2,I3]
  all_goals first
   | rfl
   | (simp;done)
   | (simp only[List.append_assoc];rfl)
theorem t74r(b:Brd)(s:Sta)(k i:Nat)(h:Heap)(L:List Od_)(hL:L.length≤2^20)(g0:Heap)(hg:hget h 3=some (.slice 3 (orXs L)))(hkh:killH h=h)(hg0:hdel h 3=g0)(hs:staOk b s=true)(hk:k<s.us.length)(ha:0≤(unOf s k).at_)(hi:i<b.m.t.length)(h0:0≤(farF b (unOf s k).k s.w (unOf s k).at_.toNat).getD i 0)(hb:BrdB (2^50) b)(hkk:killH g0=g0)(hc: ∀ρ,canB 5 ρ g0=g0)(hd: ∀m,5≤m→hdel g0 m=g0):
  C 74 [brdF b,.agg (staF s),.int .i64 (k:Int),.int .i64 (i:Int),.ref 3 none 3 0 L.length] h 5 fun v h' n'=>v= .ref 7 none 3 0 (L++ordsAt b s k (unOf s k) i).length∧h'=(8,.slice 1 (ints (nbs b.m i)))::(7,.slice 3 (orXs (L++ordsAt b s k (unOf s k) i)))::(6,.var (unA (unOf s k)))::(5,.var [.int .i64 s.t,.int .i64 s.w,.sl (uns s.us)])::g0∧n'=9:=by
 have hwh:=brd_wh (sta_brd hs)
 have hlen:=sta_len hs
 have gb:=sta_brd hs
 have hmw:=mp_wh (brd_mp gb)
 have hx:=List.all_eq_true.1 (sta_all hs) _ (List.getElem_mem hk)
 rw[←un_at hk] at hx
 have e1:=usl_get hk
 rw[show s.us.getD k un0=unOf s k from rfl] at e1
 have eo:ordsAt b s k (unOf s k) i=[⟨k,pthM b (unOf s k).k s.w (unOf s k).at_.toNat i,-1⟩]++clT b s (unOf s k).sd i k (pthM b (unOf s k).k s.w (unOf s k).at_.toNat i) b.m.t.length:=ordsAt_cl b s k (unOf s k) i
 rw[eo]
 have hka:=un_kind gb (show inR 0 (b.r.ks.length-1) (unOf s k).k=true by simp only[unOk,Bool.and_eq_true] at hx;exact hx.1.1.2)
 have hw:0≤s.w∧s.w≤2:=by simp only[staOk,staOk0,inR,Bool.and_eq_true,decide_eq_true_eq] at hs;omega
 have hat:=unOk_at hx (by omega)
 have hsd:=un_sd hx
 obtain⟨a,ea⟩: ∃a:Nat,(unOf s k).at_=a:=⟨(unOf s k).at_.toNat,by omega⟩
 have eat:(unOf s k).at_.toNat=a:=by omega
 rw[eat] at h0⊢
 have c1:=t102 hC b (unOf s k).k s.w a i hka hw (by omega) hi (reach_back hka hw (by omega) hi h0) hb
 have hpl:(pthM b (unOf s k).k s.w a i).length≤2002:=pth_len hka hw (by omega) hi (reach_back hka hw (by omega) hi h0)
 have c2:=t103 hC b.m i hmw.1 hmw.2 (by omega)
 have c3:=fun m=>t76 hC s m (by omega)
 have c4:=fun m=>t104 hC k m (pthM b (unOf s k).k s.w a i) (by omega)
 have hnl:(nbs b.m i).length≤6:=nbs_len _ _
 have hnd:=nbs_nodup (m:=b.m) (i:=(i:Int)) hmw.1.1
 have hcs:=fun m=>clT_succ b s (unOf s k).sd i k (pthM b (unOf s k).k s.w a i) m
 have hcl:=fun m=>clT_le b s (unOf s k).sd i k (pthM b (unOf s k).k s.w a i) m
 generalize pthM b (unOf s k).k s.w a i=pth at *
 rw[←ea] at c1
 generalize unOf s k=x at *
 have w1:IntKind.i64.wrap (1-x.sd)=1-x.sd:=wrap64 (by omega) (by omega)
 have isNs: ∀(n a:Int) (l:List (List AV)),allScs [[AV.int .i64 n,AV.ow 1 l,AV.int .i64 a]]=false:=fun _ _ _=>rfl
 have isNf: ∀(n a:Int) (l:List (List AV)),allScs [[AV.int .i64 n,AV.sl l,AV.int .i64 a]]=false:=fun _ _ _=>rfl
 have tkr: ∀l:List Od_,List.take l.length (orXs l)=orXs l:=fun l=>List.take_of_length_le (by rw[orXs_length];omega)
 have tkn:List.take (nbs b.m i).length (ints (nbs b.m i))=ints (nbs b.m i):=List.take_of_length_le (by rw[ints_length];omega)
 have tkp:List.take pth.length (ints pth)=ints pth:=List.take_of_length_le (by rw[ints_length];omega)
 have hdd:=hd
 refine Closed.rT hC Q74 ?_
 simp only[brdF,rulF,mpF,List.cons_append,List.nil_append,staF,unA] at *
 simp only[c74,push_cast,↓J1,↓J2,N1,N2,N3,reduceCtorEq,N4,N5,N6,reduceIte,N7,I1,I2,I3]
 repeat' (first
  | simp only[e1,uns_length,ints_length,Int.toNat_natCast,push_cast,↓J1,↓J2,N1,N2,N3,reduceCtorEq,N4,N5,N6,reduceIte,N7,I1,I2,I3]
  | (refine⟨by omega,?_⟩)
  | refine ifB_intro (fun h=>?_) (fun h=>?_))
 refine open_frz hF c1 (by simp only[push_cast,↓J1,↓J2,N1,N2,N3,reduceCtorEq,N4,N5,N6,reduceIte,N7,I1,I2,I3]) ?_
 rw[show frzT (.tup [.ow 1 (ints pth),.bool true])= .tup [.sl (ints pth),.bool true] by simp only[frzT,frzL,frzLL_ints]]
 have hq:=orXs_path L k pth
 repeat' (first
  | simp only[uns_length,ints_length,orXs_length,hkk,hd,hg,hg0,hkh,hq,isNf,apYR_ns,tkr,Int.toNat_natCast,push_cast,↓J1,↓J2,N1,N2,N3,reduceCtorEq,N4,N5,N6,reduceIte,N7,I1,I2,I3]
  | refine⟨_,c2,?_⟩
  | (refine⟨by omega,?_⟩)
  | refine ifB_intro (fun h=>?_) (fun h=>?_))
 refine RL_count (fun m=>⟨tb 81 .any [(2,.int .i64 (k:Int)),(4,.ref 7 none 3 0 ((L++([⟨(k:Int),pth,-1⟩]:List Od_))++clT b s x.sd i k pth m).length),(6,.ptr 5 none 0 0 0),(11,.ptr 6 none 0 0 0),(12,.sl (ints pth)),(14,.ref 8 none 1 0 (nbs b.m i).length),(48,.int .i64 (b.m.t.length:Int)),(49,.int .i64 (m:Int))],(8,.slice 1 (ints (nbs b.m i)))::(7,.slice 3 (orXs ((L++([⟨(k:Int),pth,-1⟩]:List Od_))++clT b s x.sd i k pth m)))::(6,.var [.int .i64 x.sd,.int .i64 x.k,.int .i64 x.at_,.int .i64 x.st])::(5,.var [.int .i64 s.t,.int .i64 s.w,.sl (uns s.us)])::g0,9⟩) (fun _=>True) b.m.t.length 0 (by
  rw[show clT b s x.sd i k pth 0=[] from rfl,List.append_nil]
  refine(hdA [(10,8),(9,7),(7,6),(6,5)] (hh:=?_))
  simp only[canR,canB,renO,renL,ren,lkp,hget,N7,N5,Nat.not_lt_zero,if_false,if_true,reduceIte,List.append_nil,List.nil_append,hc]
  all_goals rfl) (by omega) trivial fun m hm _ J hJ=>?_
 have hcl:=hcl m
 by_cases h1:m<b.m.t.length
 ·have hlt:decide ((m:Int)<(b.m.t.length:Int))=true:=decide_eq_true (by omega)
  have hJ1:=hJ h1 trivial
  clear hJ
  have c3:=c3 m
  have c4:=c4 m
  have hn:(L++([⟨(k:Int),pth,-1⟩]:List Od_))++clT b s x.sd i k pth (m+1)=addO ((L++([⟨(k:Int),pth,-1⟩]:List Od_))++clT b s x.sd i k pth m) ⟨(k:Int),pth,(m:Int)⟩ (decide (owner s m=1-x.sd)&&hasI (nbs b.m i) m):=by
   rw[hcs,Bool.and_comm]
   cases (decide (owner s m=1-x.sd)&&hasI (nbs b.m i) m)<;>simp[addO]
  rw[hn] at hJ1
  have hAl:((L++([⟨(k:Int),pth,-1⟩]:List Od_))++clT b s x.sd i k pth m).length≤2^21:=by simp;omega
  clear hn hcs
  generalize (L++([⟨(k:Int),pth,-1⟩]:List Od_))++clT b s x.sd i k pth m=A at *
  generalize nbs b.m i=nb at *
  generalize hov:owner s m=ov at *
  have ha0:addO A ⟨(k:Int),pth,(m:Int)⟩ (decide (ov=1-x.sd)&&hasI (nb.take 0) m)=A:=by simp[hasI,addO]
  repeat' (first
  | simp only[hlt,ints_length,push_cast,↓J1,↓J2,N1,N2,N3,reduceCtorEq,N4,N5,N6,reduceIte,N7,I1,I2,I3]
  | (refine⟨by omega,?_⟩)
  | refine ifB_intro (fun h=>?_) (fun h=>?_))
  refine RL_count (fun j=>⟨tb 81 .any [(2,.int .i64 (k:Int)),(4,.ref 7 none 3 0 (addO A ⟨(k:Int),pth,(m:Int)⟩ (decide (ov=1-x.sd)&&hasI (nb.take j) m)).length),(6,.ptr 5 none 0 0 0),(11,.ptr 6 none 0 0 0),(12,.sl (ints pth)),(14,.ref 8 none 1 0 nb.length),(48,.int .i64 (b.m.t.length:Int)),(49,.int .i64 (m:Int)),(15,.int .i64 (m:Int)),(52,.ref 8 none 1 0 nb.length),(53,.int .i64 (nb.length:Int)),(54,.int .i64 (j:Int))],(8,.slice 1 (ints nb))::(7,.slice 3 (orXs (addO A ⟨(k:Int),pth,(m:Int)⟩ (decide (ov=1-x.sd)&&hasI (nb.take j) m))))::(6,.var [.int .i64 x.sd,.int .i64 x.k,.int .i64 x.at_,.int .i64 x.st])::(5,.var [.int .i64 s.t,.int .i64 s.w,.sl (uns s.us)])::g0,9⟩) (fun _=>True) nb.length 0 (by
   rw[ha0]
   refine(hdA [(8,8),(7,7),(6,6),(5,5)] (hh:=?_))
   simp only[canR,canB,renO,renL,ren,lkp,hget,N7,N5,Nat.not_lt_zero,if_false,if_true,reduceIte,List.append_nil,List.nil_append,hc]
   all_goals rfl) (by omega) trivial fun j hj _ JJ hJJ=>?_
  by_cases h2:j<nb.length
  ·have hlt2:decide ((j:Int)<(nb.length:Int))=true:=decide_eq_true (by omega)
   have hJ2:=hJJ h2 trivial
   clear hJJ hJ1 ha0
   have e2:(ints nb)[j]?=some [.int .i64 nb[j]]:=by simp[ints,h2]
   rw[hasI_snoc h2 m] at hJ2
   have hdj:=hasI_nodup hnd h2
   cases p1:decide (nb[j]=(m:Int))
   ·rw[p1,Bool.or_false] at hJ2
    generalize addO A ⟨(k:Int),pth,(m:Int)⟩ (decide (ov=1-x.sd)&&hasI (nb.take j) m)=X at *
    generalize nb[j]=y at *
    repeat' (first
  | simp only[hlt2,e2,p1,ints_length,Int.toNat_natCast,push_cast,↓J1,↓J2,N1,N2,N3,reduceCtorEq,N4,N5,N6,reduceIte,N7,I1,I2,I3]
  | (refine⟨by omega,?_⟩)
  | refine ifB_intro (fun h=>?_) (fun h=>?_))
    refine hJ2 _ (hdA [(8,8),(7,7),(6,6),(5,5)] (hh:=?_))
    simp only[canR,canB,renO,renL,ren,lkp,hget,N7,N5,Nat.not_lt_zero,if_false,if_true,reduceIte,List.append_nil,List.nil_append,hc]
    all_goals rfl
   ·rw[of_decide_eq_true p1] at hdj
    rw[p1,hdj,Bool.or_true,Bool.and_true] at hJ2
    rw[hdj,Bool.and_false]
    generalize nb[j]=y at *
    cases p2:decide (ov=1-x.sd)
    ·rw[p2] at hJ2
     simp only[addO,Bool.false_eq_true,if_false] at hJ2⊢
     repeat' (first
  | simp only[hlt2,e2,p1,p2,w1,e1,uns_length,ints_length,Int.toNat_natCast,push_cast,↓J1,↓J2,N1,N2,N3,reduceCtorEq,N4,N5,N6,reduceIte,N7,I1,I2,I3]
  | refine⟨_,c3,?_⟩
  | (refine⟨by omega,?_⟩)
  | refine ifB_intro (fun h=>?_) (fun h=>?_))
     refine hJ2 _ (hdA [(8,8),(7,7),(6,6),(5,5)] (hh:=?_))
     simp only[canR,canB,renO,renL,ren,lkp,hget,N7,N5,Nat.not_lt_zero,if_false,if_true,reduceIte,List.append_nil,List.nil_append,hc]
     all_goals rfl
    ·rw[p2] at hJ2
     simp only[addO,Bool.false_eq_true,if_false,if_true] at hJ2⊢
     have ho:=orXs_own A k pth (a:=(m:Int)) (by omega)
     have hla:(A++([⟨(k:Int),pth,(m:Int)⟩]:List Od_)).length=A.length+1:=by simp
     rw[hla] at hJ2
     repeat' (first
  | simp only[hlt2,e2,p1,p2,w1,e1,uns_length,ints_length,orXs_length,tkp,tkr,isNs,apYR_ns,hkk,hd,ho,Int.toNat_natCast,push_cast,↓J1,↓J2,N1,N2,N3,reduceCtorEq,N4,N5,N6,reduceIte,N7,I1,I2,I3]
  | refine⟨_,c3,?_⟩
  | refine⟨_,c4,?_⟩
  | (refine⟨by omega,?_⟩)
  | refine ifB_intro (fun h=>?_) (fun h=>?_))
     refine hJ2 _ (hdA [(8,8),(11,7),(6,6),(5,5)] (hh:=?_))
     simp only[canR,canB,renO,renL,ren,lkp,hget,N7,N5,Nat.not_lt_zero,if_false,if_true,reduceIte,List.append_nil,List.nil_append,hc]
     all_goals rfl
  ·have hlt2:decide ((j:Int)<(nb.length:Int))=false:=decide_eq_false (by omega)
   obtain rfl:j=nb.length:=by omega
   clear hJJ ha0
   rw[List.take_length]
   generalize addO A ⟨(k:Int),pth,(m:Int)⟩ (decide (ov=1-x.sd)&&hasI nb m)=X at *
   repeat' (first
  | simp only[hlt2,push_cast,↓J1,↓J2,N1,N2,N3,reduceCtorEq,N4,N5,N6,reduceIte,N7,I1,I2,I3]
  | (refine⟨by omega,?_⟩)
  | refine ifB_intro (fun h=>?_) (fun h=>?_))
   refine hJ1 _ (hdA [(8,8),(7,7),(6,6),(5,5)] (hh:=?_))
   simp only[canR,canB,renO,renL,ren,lkp,hget,N7,N5,Nat.not_lt_zero,if_false,if_true,reduceIte,List.append_nil,List.nil_append,hc]
   all_goals rfl
 ·have hlt:decide ((m:Int)<(b.m.t.length:Int))=false:=decide_eq_false (by omega)
  obtain rfl:m=b.m.t.length:=by omega
  clear hJ
  simp only[hlt,push_cast,↓J1,↓J2,N1,N2,N3,reduceCtorEq,N4,N5,N6,reduceIte,N7,I1,I2,I3]
  all_goals first
   | rfl
   | (simp;done)
   | (simp only[List.append_assoc];rfl)
end
end Go.Proofs.YthggfnefjbckeaaGreatDoor.X
