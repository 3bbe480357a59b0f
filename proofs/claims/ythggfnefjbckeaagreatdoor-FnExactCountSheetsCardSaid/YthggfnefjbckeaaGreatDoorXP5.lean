/- A part of the proof: lemmas on the machine or on the functions that the law reaches. No condition of its own. -/
import Derived.Test.YthggfnefjbckeaaGreatDoorXP4
import Derived.Test.YthggfnefjbckeaaGreatDoorXP2
set_option maxHeartbeats 4000000
set_option maxRecDepth 8000
set_option linter.unusedSimpArgs false
set_option linter.unusedVariables false
open Nat renaming reduceBEq→N1,reduceAdd→N2,reduceSub→N3,reduceMul→N4,reduceEqDiff→N5,reduceLeDiff→N6,reduceLT→N7
open Int renaming reduceLE→I1,reduceLT→I2,reduceToNat→I3
namespace Go.Proofs.YthggfnefjbckeaaGreatDoor.X
open Go
attribute [local irreducible] Ev
def inHex(i:Int)(u:Un):Bool:=decide (u.at_=i)
def owner(s:Sta)(i:Int):Int:=match s.us.find? (inHex i) with
 | some u=>u.sd
 | none=> -1
theorem find_drop{α:Type}{p:α→Bool}: ∀{l:List α} {k:Nat},(∀j (h:j<l.length),j<k→p l[j]=false)→l.find? p=(l.drop k).find? p
 | [],k,_=>by simp
 | x::l,0,_=>by simp
 | x::l,k+1,h=>by
  have h0:=h 0 (by simp) (by omega)
  simp only[List.getElem_cons_zero] at h0
  rw[List.find?_cons_of_neg (by simp[h0]),List.drop_succ_cons]
  exact find_drop fun j hj hk=>by
   have:=h (j+1) (by simp;omega) (by omega)
   rwa [List.getElem_cons_succ] at this
theorem owner_at{s:Sta}{i:Int}{k:Nat}(h:k<s.us.length)(hp:inHex i s.us[k]=true)(hn: ∀j (h:j<s.us.length),j<k→inHex i s.us[j]=false):owner s i=s.us[k].sd:=by
 simp only[owner,find_drop hn,List.drop_eq_getElem_cons h,List.find?_cons_of_pos hp]
theorem owner_no{s:Sta}{i:Int}(hn: ∀j (h:j<s.us.length),inHex i s.us[j]=false):owner s i= -1:=by
 simp only[owner,find_drop (k:=s.us.length) (fun j hj _=>hn j hj),List.drop_length,List.find?_nil]
theorem sta_all{b:Brd}{s:Sta}(h:staOk b s=true):s.us.all (unOk b)=true:=by
 simp only[staOk,staOk0,Bool.and_eq_true] at h;exact h.2.1.2
theorem own_cnt{b:Brd}{s:Sta}{sd i:Int}(h:staOk b s=true)(hs:sd=0∨sd=1)(hi:0≤i)(ho:owner s i≠1-sd):(fil (inHex i) s.us s.us.length).length=cnt s.us i sd:=by
 rw[fil_len (Nat.le_refl _),List.take_length]
 refine List.countP_congr fun u hu=>?_
 have hst:s.us.all (stackOk b s.us)=true:=by simp only[staOk,staOk0,Bool.and_eq_true] at h;exact h.2.2
 have hun:=sta_all h
 have key: ∀u∈s.us,u.at_=i→u.sd=1-sd→False:=by
  intro u hu ha hsd
  simp only[owner] at ho
  split at ho
  ·rename_i v hv
   have hv1:=List.mem_of_find?_eq_some hv
   have hv2:=List.find?_some hv
   simp only[inHex,decide_eq_true_eq] at hv2
   have hvs:=un_sd (List.all_eq_true.1 hun _ hv1)
   have:=List.all_eq_true.1 hst _ hv1
   simp only[stackOk,Bool.not_eq_true',Bool.and_eq_false_iff,Bool.or_eq_false_iff,decide_eq_false_iff_not,hv2] at this
   rcases this with this | ⟨this,_⟩
   ·omega
   ·apply this
    exact List.countP_pos_iff.2 ⟨u,hu,by simp only[isAt,Bool.and_eq_true,decide_eq_true_eq];omega⟩
  ·rename_i hv
   have:=List.find?_eq_none.1 hv u hu
   simp[inHex,ha] at this
 have hus:=un_sd (List.all_eq_true.1 hun _ hu)
 simp only[inHex,isAt,Bool.and_eq_true,decide_eq_true_eq]
 constructor
 ·intro ha
  refine⟨ha,?_⟩
  have:=key u hu ha
  rcases hus with e | e<;>rcases hs with e2 | e2<;>first | omega | (exfalso;exact this (by omega))
 ·exact fun h=>h.1
section
variable{C:CT}(hC:Closed Tryz.prog G1 md0 C)
include hC
theorem t76(s:Sta)(i:Int)(hl:s.us.length<2^40):Ev C 76 [.agg (staF s),.int .i64 i] (.int .i64 (owner s i)):=by
 simp only[staF]
 refine rT hC Q76 ?_
 simp only[c76,uns_length,push_cast,↓J1,↓J2,N1,N2,N3,reduceCtorEq,N4,N5,N6,reduceIte,N7,I1,I2,I3]
 refine RL_count (fun k=>⟨tb 21 .any [(1,.int .i64 i),(8,.sl (uns s.us)),(9,.int .i64 (s.us.length:Int)),(10,.int .i64 (k:Int))],[],0⟩) (fun k=> ∀j (h:j<s.us.length),j<k→inHex i s.us[j]=false) s.us.length 0 (hdA []) (by omega) (by intro j h h';omega) fun k hk ht J hJ=>?_
 by_cases h1:k<s.us.length
 ·have e1:=uns_get h1
  have hh:=fun hp=>owner_at h1 hp ht
  have hJ':inHex i s.us[k]=false→_:=fun hp=>hJ h1 (fun j hj hji=>by
   by_cases hij:j=k
   ·subst hij;exact hp
   ·exact ht j hj (by omega))
  clear hJ ht
  simp only[inHex] at hJ' hh
  generalize s.us[k]=u at *
  simp only[Int.toNat_natCast,e1,unA,push_cast,↓J1,↓J2,N1,N2,N3,reduceCtorEq,N4,N5,N6,reduceIte,N7,I1,I2,I3]
  refine ifB_intro (fun _=>?_) (fun h=>by simp at h;omega)
  repeat (refine⟨by omega,?_⟩)
  cases g1:decide (u.at_=i)
  ·simp only[g1,push_cast,↓J1,↓J2,N1,N2,N3,reduceCtorEq,N4,N5,N6,reduceIte,N7,I1,I2,I3]
   exact hJ' g1 _ (hdA [])
  ·rw[hh g1]
   simp only[g1,push_cast,↓J1,↓J2,N1,N2,N3,reduceCtorEq,N4,N5,N6,reduceIte,N7,I1,I2,I3]
 ·simp only[uns_length,push_cast,↓J1,↓J2,N1,N2,N3,reduceCtorEq,N4,N5,N6,reduceIte,N7,I1,I2,I3]
  refine ifB_intro (fun h=>by simp at h;omega) (fun h=>?_)
  rw[owner_no fun j hj=>ht j hj (by omega)]
theorem t60(s:Sta)(i:Int)(hl:s.us.length<2^40):Ev C 60 [.agg (staF s),.int .i64 i] (.int .i64 (owner s i)):=by
 simp only[staF]
 refine rT hC Q60 ?_
 simp only[c60,uns_length,push_cast,↓J1,↓J2,N1,N2,N3,reduceCtorEq,N4,N5,N6,reduceIte,N7,I1,I2,I3]
 refine RL_count (fun k=>⟨tb 21 .any [(1,.int .i64 i),(8,.sl (uns s.us)),(9,.int .i64 (s.us.length:Int)),(10,.int .i64 (k:Int))],[],0⟩) (fun k=> ∀j (h:j<s.us.length),j<k→inHex i s.us[j]=false) s.us.length 0 (hdA []) (by omega) (by intro j h h';omega) fun k hk ht J hJ=>?_
 by_cases h1:k<s.us.length
 ·have e1:=uns_get h1
  have hh:=fun hp=>owner_at h1 hp ht
  have hJ':inHex i s.us[k]=false→_:=fun hp=>hJ h1 (fun j hj hji=>by
   by_cases hij:j=k
   ·subst hij;exact hp
   ·exact ht j hj (by omega))
  clear hJ ht
  simp only[inHex] at hJ' hh
  generalize s.us[k]=u at *
  simp only[Int.toNat_natCast,e1,unA,push_cast,↓J1,↓J2,N1,N2,N3,reduceCtorEq,N4,N5,N6,reduceIte,N7,I1,I2,I3]
  refine ifB_intro (fun _=>?_) (fun h=>by simp at h;omega)
  repeat (refine⟨by omega,?_⟩)
  cases g1:decide (u.at_=i)
  ·simp only[g1,push_cast,↓J1,↓J2,N1,N2,N3,reduceCtorEq,N4,N5,N6,reduceIte,N7,I1,I2,I3]
   exact hJ' g1 _ (hdA [])
  ·rw[hh g1]
   simp only[g1,push_cast,↓J1,↓J2,N1,N2,N3,reduceCtorEq,N4,N5,N6,reduceIte,N7,I1,I2,I3]
 ·simp only[uns_length,push_cast,↓J1,↓J2,N1,N2,N3,reduceCtorEq,N4,N5,N6,reduceIte,N7,I1,I2,I3]
  refine ifB_intro (fun h=>by simp at h;omega) (fun h=>?_)
  rw[owner_no fun j hj=>ht j hj (by omega)]
end
end Go.Proofs.YthggfnefjbckeaaGreatDoor.X
set_option maxRecDepth 8000
set_option linter.unusedSimpArgs false
set_option linter.unusedVariables false
open Nat renaming reduceBEq→N1,reduceAdd→N2,reduceSub→N3,reduceMul→N4,reduceEqDiff→N5,reduceLeDiff→N6,reduceLT→N7
open Int renaming reduceLE→I1,reduceLT→I2,reduceToNat→I3
namespace Go.Proofs.YthggfnefjbckeaaGreatDoor.X
def negs(l:List Int):Nat:=l.countP fun v=>decide (v<0)
structure BInv(n M:Nat)(p:List Int×List Int):Prop where
 len:p.1.length=n
 q: ∀k∈p.2,0≤k∧k<n∧0≤p.1.getD k.toNat 0
 bnd: ∀v∈p.1,-1≤v∧v≤p.2.length
 cn:p.2.length+negs p.1≤M
theorem getD_set(l:List Int)(i j:Nat)(v d:Int)(h:i<l.length):(l.set i v).getD j d=if i=j then v else l.getD j d:=by
 simp only[List.getD,List.getElem?_set]
 split
 ·simp only[h,if_true,Option.getD_some]
 ·rfl
theorem getD_mem{l:List Int}{i:Nat}(h:i<l.length)(d:Int):l.getD i d∈l:=by
 simp only[List.getD,List.getElem?_eq_getElem h,Option.getD_some];exact List.getElem_mem h
end Go.Proofs.YthggfnefjbckeaaGreatDoor.X
set_option maxRecDepth 8000
set_option linter.unusedSimpArgs false
set_option linter.unusedVariables false
open Nat renaming reduceBEq→N1,reduceAdd→N2,reduceSub→N3,reduceMul→N4,reduceEqDiff→N5,reduceLeDiff→N6,reduceLT→N7
open Int renaming reduceLE→I1,reduceLT→I2,reduceToNat→I3
namespace Go.Proofs.YthggfnefjbckeaaGreatDoor.X
structure Way where
 cs:Nat→Nat→Int
 sr:Nat→Nat→Nat
 ds:Nat→Nat→Nat
structure WayOk(n:Nat)(w:Way):Prop where
 ok: ∀k d,k<n→d<6→w.cs k d≠0→(1≤w.cs k d∧w.cs k d≤20)∧w.sr k d<n∧w.ds k d<n
structure IsFar(n:Nat)(w:Way)(i:Nat)(o:List Int):Prop where
 len:o.length=n
 at_:o.getD i 0=0
 lo: ∀v∈o,-1≤v
 rel: ∀k d,k<n→d<6→w.cs k d≠0→0≤o.getD (w.sr k d) 0→0≤o.getD (w.ds k d) 0∧o.getD (w.ds k d) 0≤o.getD (w.sr k d) 0+w.cs k d
 tig: ∀y,y<n→0≤o.getD y 0→y≠i→ ∃k d,k<n∧d<6∧w.cs k d≠0∧w.ds k d=y∧0≤o.getD (w.sr k d) 0∧o.getD (w.sr k d) 0+w.cs k d≤o.getD y 0
theorem far_le{n:Nat}{w:Way}{i:Nat}{o p:List Int}(hw:WayOk n w)(ho:IsFar n w i o)(hp:IsFar n w i p): ∀(m:Nat) (y:Nat),y<n→0≤o.getD y 0→o.getD y 0≤m→0≤p.getD y 0∧p.getD y 0≤o.getD y 0:=by
 intro m
 induction m with
 | zero=>
  intro y hy h0 hm
  by_cases hi:y=i
  ·subst hi;rw[ho.at_,hp.at_];omega
  ·obtain⟨k,d,hk,hd,hc,e,h1,h2⟩:=ho.tig y hy h0 hi
   have:=hw.ok k d hk hd hc
   omega
 | succ m ih=>
  intro y hy h0 hm
  by_cases hi:y=i
  ·subst hi;rw[ho.at_,hp.at_];omega
  ·obtain⟨k,d,hk,hd,hc,e,h1,h2⟩:=ho.tig y hy h0 hi
   have hwk:=hw.ok k d hk hd hc
   have h3:=ih (w.sr k d) hwk.2.1 h1 (by omega)
   have h4:=hp.rel k d hk hd hc h3.1
   rw[e] at h4
   omega
theorem far_eq{n:Nat}{w:Way}{i:Nat}{o p:List Int}(hw:WayOk n w)(ho:IsFar n w i o)(hp:IsFar n w i p):o=p:=by
 refine List.ext_getElem (by rw[ho.len,hp.len]) fun y h1 h2=>?_
 have hy:y<n:=by rw[←ho.len];exact h1
 have e1:o[y]=o.getD y 0:=by simp only[List.getD,List.getElem?_eq_getElem h1,Option.getD_some]
 have e2:p[y]=p.getD y 0:=by simp only[List.getD,List.getElem?_eq_getElem h2,Option.getD_some]
 rw[e1,e2]
 have l1:=ho.lo _ (getD_mem h1 0)
 have l2:=hp.lo _ (getD_mem h2 0)
 by_cases a:0≤o.getD y 0
 ·have r1:=far_le hw ho hp (o.getD y 0).toNat y hy a (by omega)
  have r2:=far_le hw hp ho (p.getD y 0).toNat y hy r1.1 (by omega)
  omega
 ·by_cases b:0≤p.getD y 0
  ·have r2:=far_le hw hp ho (p.getD y 0).toNat y hy b (by omega)
   omega
  ·omega
def rx(w:Way)(k:Nat)(p:List Int×Bool)(d:Nat):List Int×Bool:=
 if !decide (w.cs k d=0)&&(decide (0≤p.1.getD (w.sr k d) 0)&&(decide (p.1.getD (w.ds k d) 0<0)||decide (p.1.getD (w.sr k d) 0+w.cs k d<p.1.getD (w.ds k d) 0))) then(p.1.set (w.ds k d) (p.1.getD (w.sr k d) 0+w.cs k d),true) else p
def rxT(w:Way)(k:Nat)(p:List Int×Bool)(j:Nat):List Int×Bool:=(List.range j).foldl (rx w k) p
def rxP(w:Way)(p:List Int×Bool)(j:Nat):List Int×Bool:=(List.range j).foldl (fun p k=>rxT w k p 6) p
theorem rxT_succ(w:Way)(k:Nat)(p:List Int×Bool)(j:Nat):rxT w k p (j+1)=rx w k (rxT w k p j) j:=by simp[rxT,List.range_succ,List.foldl_append]
theorem rxP_succ(w:Way)(p:List Int×Bool)(j:Nat):rxP w p (j+1)=rxT w j (rxP w p j) 6:=by simp[rxP,List.range_succ,List.foldl_append]
def rxI(w:Way)(n i:Nat):Nat→List Int×Bool
 | 0=>((List.replicate n (-1)).set i 0,true)
 | m+1=>rxP w ((rxI w n i m).1,false) n
structure RInv(n:Nat)(w:Way)(i:Nat)(o:List Int):Prop where
 len:o.length=n
 at_:o.getD i 0=0
 lo: ∀v∈o,-1≤v∧v≤20*((n:Int)-negs o)
 tig: ∀y,y<n→0≤o.getD y 0→y≠i→ ∃k d,k<n∧d<6∧w.cs k d≠0∧w.ds k d=y∧0≤o.getD (w.sr k d) 0∧o.getD (w.sr k d) 0+w.cs k d≤o.getD y 0
def pot(o:List Int):Nat:=(o.map fun v=>if v<0 then 3000 else v.toNat).sum
theorem pot_set: ∀{o:List Int} {t:Nat} {v:Int} (h:t<o.length),0≤v→(o[t]<0∧v<3000∨v<o[t])→pot (o.set t v)<pot o
 | x::o,0,v,h,h0,h1=>by
  simp only[pot,List.set_cons_zero,List.map_cons,List.sum_cons,List.getElem_cons_zero] at h1⊢
  rw[if_neg (show¬v<0 by omega)]
  split<;>omega
 | x::o,t+1,v,h,h0,h1=>by
  have:=pot_set (o:=o) (t:=t) (v:=v) (by simpa using h) h0 (by simpa using h1)
  simp only[pot,List.set_cons_succ,List.map_cons,List.sum_cons] at this⊢
  omega
theorem negs_le(o:List Int):negs o≤o.length:=List.countP_le_length
theorem negs_set{o:List Int}{t:Nat}{v:Int}(h:t<o.length)(h0:0≤v):(o.getD t 0<0→negs (o.set t v)+1=negs o)∧(¬o.getD t 0<0→negs (o.set t v)=negs o):=by
 have e:o.getD t 0=o[t]:=by simp only[List.getD,List.getElem?_eq_getElem h,Option.getD_some]
 rw[e]
 simp only[negs]
 rw[List.countP_set h,if_neg (show¬(decide (v<0)=true) by simp only[decide_eq_true_eq];omega)]
 constructor
 ·intro h1
  have hp:0<o.countP fun v=>decide (v<0):=List.countP_pos_iff.2 ⟨_,List.getElem_mem h,by simpa using h1⟩
  rw[if_pos (by simpa using h1)]
  omega
 ·intro h1
  rw[if_neg (by simpa using h1)]
  omega
theorem rx_inv{n:Nat}{w:Way}{i k d:Nat}{p:List Int×Bool}(hn:n≤100)(hw:WayOk n w)(hk:k<n)(hd:d<6)(h:RInv n w i p.1):RInv n w i (rx w k p d).1∧(rx w k p d=p∨pot (rx w k p d).1<pot p.1∧(rx w k p d).2=true)∧(rx w k p d=p→w.cs k d≠0→0≤p.1.getD (w.sr k d) 0→0≤p.1.getD (w.ds k d) 0∧p.1.getD (w.ds k d) 0≤p.1.getD (w.sr k d) 0+w.cs k d):=by
 simp only[rx]
 by_cases g:(!decide (w.cs k d=0)&&(decide (0≤p.1.getD (w.sr k d) 0)&&(decide (p.1.getD (w.ds k d) 0<0)||decide (p.1.getD (w.sr k d) 0+w.cs k d<p.1.getD (w.ds k d) 0))))=true
 rotate_left
 ·rw[if_neg g]
  refine⟨h,.inl rfl,fun _ hc hs=>?_⟩
  simp only[Bool.and_eq_true,Bool.or_eq_true,Bool.not_eq_true',decide_eq_true_eq,decide_eq_false_iff_not] at g
  omega
 rw[if_pos g]
 simp only[Bool.and_eq_true,Bool.or_eq_true,Bool.not_eq_true',decide_eq_true_eq,decide_eq_false_iff_not] at g
 obtain⟨hc,hs,hlow⟩:=g
 have hwk:=hw.ok k d hk hd hc
 have ht:w.ds k d<p.1.length:=by rw[h.len];exact hwk.2.2
 have hs1:w.sr k d<p.1.length:=by rw[h.len];exact hwk.2.1
 have hsb:=h.lo _ (getD_mem hs1 0)
 have htb:=h.lo _ (getD_mem ht 0)
 have hng:=negs_set (o:=p.1) (t:=w.ds k d) (v:=p.1.getD (w.sr k d) 0+w.cs k d) ht (by omega)
 have hnl:=negs_le (p.1.set (w.ds k d) (p.1.getD (w.sr k d) 0+w.cs k d))
 have e:p.1.getD (w.ds k d) 0=p.1[w.ds k d]:=by simp only[List.getD,List.getElem?_eq_getElem ht,Option.getD_some]
 rw[List.length_set,h.len] at hnl
 have hpot:pot (p.1.set (w.ds k d) (p.1.getD (w.sr k d) 0+w.cs k d))<pot p.1:=pot_set ht (by omega) (by rw[←e];omega)
 refine⟨⟨by simp only[List.length_set];exact h.len,?_,?_,?_⟩,.inr ⟨hpot,rfl⟩,fun e1=>?_⟩
 ·simp only[getD_set _ _ _ _ _ ht]
  split
  ·rename_i e2
   rw[e2] at hlow
   have:=h.at_
   omega
  ·exact h.at_
 ·intro v hv
  simp only at hv⊢
  rcases List.mem_or_eq_of_mem_set hv with hv | hv
  ·have:=h.lo v hv
   by_cases hneg:p.1.getD (w.ds k d) 0<0
   ·have:=hng.1 hneg;omega
   ·have:=hng.2 hneg;omega
  ·by_cases hneg:p.1.getD (w.ds k d) 0<0
   ·have:=hng.1 hneg;omega
   ·have:=hng.2 hneg;omega
 ·intro y hy h0 hyi
  simp only[getD_set _ _ _ _ _ ht] at h0⊢
  by_cases e2:w.ds k d=y
  ·subst e2
   refine⟨k,d,hk,hd,hc,rfl,?_,?_⟩
   ·split
    ·omega
    ·exact hs
   ·split
    ·rename_i e3
     rw[←e3] at hs hlow
     omega
    ·simp
  ·rw[if_neg e2] at h0⊢
   obtain⟨k',d',h1,h2,h3,h4,h5,h6⟩:=h.tig y hy h0 hyi
   refine⟨k',d',h1,h2,h3,h4,?_,?_⟩
   ·split
    ·omega
    ·exact h5
   ·split
    ·rename_i e3
     rw[←e3] at h5 h6
     omega
    ·exact h6
 ·exfalso
  have:=congrArg (fun q=>pot q.1) e1
  simp only at this
  omega
theorem rxT_inv{n:Nat}{w:Way}{i k:Nat}{p:List Int×Bool}(hn:n≤100)(hw:WayOk n w)(hk:k<n)(h:RInv n w i p.1)(j:Nat)(hj:j≤6):RInv n w i (rxT w k p j).1∧(rxT w k p j=p∨pot (rxT w k p j).1<pot p.1∧(rxT w k p j).2=true)∧(rxT w k p j=p→ ∀d,d<j→w.cs k d≠0→0≤p.1.getD (w.sr k d) 0→0≤p.1.getD (w.ds k d) 0∧p.1.getD (w.ds k d) 0≤p.1.getD (w.sr k d) 0+w.cs k d):=by
 induction j with
 | zero=>exact⟨h,.inl rfl,fun _ d hd=>by omega⟩
 | succ j ih=>
  obtain⟨i1,i2,i3⟩:=ih (by omega)
  rw[rxT_succ]
  obtain⟨r1,r2,r3⟩:=rx_inv (k:=k) (d:=j) (p:=rxT w k p j) hn hw hk (by omega) i1
  refine⟨r1,?_,?_⟩
  ·rcases i2 with i2 | i2
   ·rw[i2] at r2⊢;exact r2
   ·rcases r2 with r2 | r2
    ·rw[r2];exact .inr i2
    ·exact .inr ⟨by omega,r2.2⟩
  ·intro e d hd hc hs
   have e2:rxT w k p j=p:=by
    rcases i2 with i2 | i2
    ·exact i2
    ·exfalso
     have:=congrArg (fun q=>pot q.1) e
     rcases r2 with r2 | r2
     ·rw[r2] at this;omega
     ·omega
   rw[e2] at e r3
   by_cases hdj:d=j
   ·subst hdj;exact r3 e hc hs
   ·exact i3 e2 d (by omega) hc hs
theorem rxP_inv{n:Nat}{w:Way}{i:Nat}{p:List Int×Bool}(hn:n≤100)(hw:WayOk n w)(h:RInv n w i p.1)(j:Nat)(hj:j≤n):RInv n w i (rxP w p j).1∧(rxP w p j=p∨pot (rxP w p j).1<pot p.1∧(rxP w p j).2=true)∧(rxP w p j=p→ ∀k,k<j→ ∀d,d<6→w.cs k d≠0→0≤p.1.getD (w.sr k d) 0→0≤p.1.getD (w.ds k d) 0∧p.1.getD (w.ds k d) 0≤p.1.getD (w.sr k d) 0+w.cs k d):=by
 induction j with
 | zero=>exact⟨h,.inl rfl,fun _ d hd=>by omega⟩
 | succ j ih=>
  obtain⟨i1,i2,i3⟩:=ih (by omega)
  rw[rxP_succ]
  obtain⟨r1,r2,r3⟩:=rxT_inv (k:=j) (p:=rxP w p j) hn hw (by omega) i1 6 (Nat.le_refl _)
  refine⟨r1,?_,?_⟩
  ·rcases i2 with i2 | i2
   ·rw[i2] at r2⊢;exact r2
   ·rcases r2 with r2 | r2
    ·rw[r2];exact .inr i2
    ·exact .inr ⟨by omega,r2.2⟩
  ·intro e k hk
   have e2:rxP w p j=p:=by
    rcases i2 with i2 | i2
    ·exact i2
    ·exfalso
     have:=congrArg (fun q=>pot q.1) e
     rcases r2 with r2 | r2
     ·rw[r2] at this;omega
     ·omega
   rw[e2] at e r3
   by_cases hkj:k=j
   ·subst hkj;exact r3 e
   ·exact i3 e2 k (by omega)
theorem getD_rep{n y:Nat}{v:Int}(h:y<n):(List.replicate n v).getD y 0=v:=by
 simp[List.getD,List.getElem?_replicate,h]
theorem rx0_inv{n:Nat}{w:Way}{i:Nat}(hi:i<n):RInv n w i ((List.replicate n (-1)).set i 0):=by
 have hl:i<(List.replicate n (-1:Int)).length:=by simpa using hi
 refine⟨by simp,?_,?_,?_⟩
 ·rw[getD_set _ _ _ _ _ hl,if_pos rfl]
 ·intro v hv
  have:=negs_le ((List.replicate n (-1:Int)).set i 0)
  rw[List.length_set,List.length_replicate] at this
  rcases List.mem_or_eq_of_mem_set hv with hv | hv
  ·rw[List.eq_of_mem_replicate hv];omega
  ·omega
 ·intro y hy h0 hyi
  rw[getD_set _ _ _ _ _ hl,if_neg (by omega),getD_rep hy] at h0
  omega
theorem rxI_inv{n:Nat}{w:Way}{i:Nat}(hn:n≤100)(hw:WayOk n w)(hi:i<n)(m:Nat):RInv n w i (rxI w n i m).1:=by
 induction m with
 | zero=>exact rx0_inv hi
 | succ m ih=>exact(rxP_inv (p:=((rxI w n i m).1,false)) hn hw ih n (Nat.le_refl _)).1
theorem pot_rep(n:Nat):pot (List.replicate n (-1))=3000*n:=by
 induction n with
 | zero=>rfl
 | succ n ih=>simp only[pot,List.replicate_succ,List.map_cons,List.sum_cons] at ih⊢;rw[ih];simp;omega
theorem pot0{n i:Nat}(hi:i<n):pot ((List.replicate n (-1)).set i 0)≤3000*n:=by
 have hl:i<(List.replicate n (-1:Int)).length:=by simpa using hi
 have:=pot_set (o:=List.replicate n (-1)) (t:=i) (v:=0) hl (by omega) (.inl ⟨by simp,by omega⟩)
 rw[pot_rep] at this
 omega
theorem rxI_pot{n:Nat}{w:Way}{i:Nat}(hn:n≤100)(hw:WayOk n w)(hi:i<n): ∀m,(∀j,1≤j→j≤m→(rxI w n i j).2=true)→pot (rxI w n i m).1+m≤3000*n:=by
 intro m
 induction m with
 | zero=>intro _;exact pot0 hi
 | succ m ih=>
  intro h
  have h1:=ih fun j hj hm=>h j hj (by omega)
  have h2:=h (m+1) (by omega) (Nat.le_refl _)
  have h3:=(rxP_inv (p:=((rxI w n i m).1,false)) hn hw (rxI_inv hn hw hi m) n (Nat.le_refl _)).2.1
  simp only[rxI] at h2⊢
  rcases h3 with h3 | h3
  ·rw[h3] at h2;cases h2
  ·have:=h3.1
   simp only at this
   omega
def rxN(w:Way)(n i:Nat):Nat:=(List.range (3000*n+2)).findIdx fun m=>!(rxI w n i m).2
def rxF(w:Way)(n i:Nat):List Int:=(rxI w n i (rxN w n i)).1
theorem rxN_lt{w:Way}{n i m:Nat}(h:m<rxN w n i):(rxI w n i m).2=true:=by
 have hle:rxN w n i≤3000*n+2:=by simp only[rxN];exact Nat.le_trans List.findIdx_le_length (by simp)
 have:=List.not_of_lt_findIdx (xs:=List.range (3000*n+2)) (p:=fun m=>!(rxI w n i m).2) (i:=m) h
 simpa only[List.getElem_range,Bool.not_eq_false'] using this
theorem rxN_end{w:Way}{n i:Nat}(hn:n≤100)(hw:WayOk n w)(hi:i<n):(rxI w n i (rxN w n i)).2=false:=by
 have hlt:rxN w n i<(List.range (3000*n+2)).length:=by
  simp only[rxN]
  refine List.findIdx_lt_length_of_exists ?_
  by_cases hex: ∃j,1≤j∧j≤3000*n+1∧(rxI w n i j).2=false
  ·obtain⟨j,h1,h2,h3⟩:=hex
   exact⟨j,by simp;omega,by simp only[h3,Bool.not_false]⟩
  ·exfalso
   have:=rxI_pot hn hw hi (3000*n+1) fun j h1 h2=>by
    cases h:(rxI w n i j).2
    ·exact absurd ⟨j,h1,h2,h⟩ hex
    ·rfl
   omega
 have h1:(!(rxI w n i ((List.range (3000*n+2))[rxN w n i]'hlt)).2)=true:=List.findIdx_getElem (w:=hlt)
 rw[List.getElem_range hlt] at h1
 simpa using h1
theorem rxN_le{w:Way}{n i:Nat}:rxN w n i≤3000*n+2:=by
 simp only[rxN];exact Nat.le_trans List.findIdx_le_length (by simp)
theorem rxF_far{w:Way}{n i:Nat}(hn:n≤100)(hw:WayOk n w)(hi:i<n):IsFar n w i (rxF w n i):=by
 have h0:=rxN_end hn hw hi
 have h1:=rxI_inv hn hw hi (rxN w n i)
 simp only[rxF]
 obtain⟨m,hm⟩: ∃m,rxN w n i=m+1:=by
  rcases Nat.eq_zero_or_pos (rxN w n i) with h | h
  ·rw[h] at h0;cases h0
  ·exact⟨rxN w n i-1,by omega⟩
 rw[hm] at h0 h1⊢
 obtain⟨_,h3,h4⟩:=rxP_inv (p:=((rxI w n i m).1,false)) hn hw (rxI_inv hn hw hi m) n (Nat.le_refl _)
 simp only[rxI] at h0 h1⊢
 rcases h3 with h3 | h3
 ·have h5:=h4 h3
  rw[h3]
  rw[h3] at h1
  exact⟨h1.len,h1.at_,fun v hv=>(h1.lo v hv).1,fun k d hk hd hc hs=>h5 k hk d hd hc hs,h1.tig⟩
 ·rw[h3.2] at h0;cases h0
theorem rxF_bnd{w:Way}{n i:Nat}(hn:n≤100)(hw:WayOk n w)(hi:i<n): ∀v∈rxF w n i,-1≤v∧v≤2000:=by
 intro v hv
 have:=(rxI_inv hn hw hi (rxN w n i)).lo v hv
 omega
def pk1(o:List Int)(dn:List Bool)(b:Int)(k:Nat):Int:=if decide (0≤o.getD k 0)&&(!dn.getD k false&&(decide (b<0)||decide (o.getD k 0<o.getD b.toNat 0))) then(k:Int) else b
def pkT(o:List Int)(dn:List Bool)(j:Nat):Int:=(List.range j).foldl (pk1 o dn) (-1)
theorem pkT_succ(o:List Int)(dn:List Bool)(j:Nat):pkT o dn (j+1)=pk1 o dn (pkT o dn j) j:=by simp[pkT,List.range_succ,List.foldl_append]
theorem pkT_ok(o:List Int)(dn:List Bool)(j:Nat):(pkT o dn j= -1∧ ∀k,k<j→0≤o.getD k 0→dn.getD k false=true)∨(0≤pkT o dn j∧pkT o dn j<j∧0≤o.getD (pkT o dn j).toNat 0∧dn.getD (pkT o dn j).toNat false=false∧ ∀k,k<j→0≤o.getD k 0→dn.getD k false=false→o.getD (pkT o dn j).toNat 0≤o.getD k 0):=by
 induction j with
 | zero=>exact .inl ⟨rfl,fun k hk=>by omega⟩
 | succ j ih=>
  rw[pkT_succ]
  generalize pkT o dn j=b at ih
  simp only[pk1]
  by_cases g:(decide (0≤o.getD j 0)&&(!dn.getD j false&&(decide (b<0)||decide (o.getD j 0<o.getD b.toNat 0))))=true
  ·rw[if_pos g]
   simp only[Bool.and_eq_true,Bool.or_eq_true,Bool.not_eq_true',decide_eq_true_eq] at g
   obtain⟨g1,g2,g3⟩:=g
   refine .inr ⟨by omega,by omega,by simpa using g1,by simpa using g2,fun k hk hk0 hkd=>?_⟩
   rw[Int.toNat_natCast]
   by_cases hkj:k=j
   ·subst hkj;exact Int.le_refl _
   ·rcases ih with ih | ih
    ·have:=ih.2 k (by omega) hk0;rw[this] at hkd;cases hkd
    ·have:=ih.2.2.2.2 k (by omega) hk0 hkd
     omega
  ·rw[if_neg g]
   simp only[Bool.and_eq_true,Bool.or_eq_true,Bool.not_eq_true',decide_eq_true_eq] at g
   rcases ih with ih | ih
   ·refine .inl ⟨ih.1,fun k hk hk0=>?_⟩
    by_cases hkj:k=j
    ·subst hkj
     cases hd:dn.getD k false
     ·exact absurd ⟨hk0,hd,.inl (by omega)⟩ g
     ·rfl
    ·exact ih.2 k (by omega) hk0
   ·refine .inr ⟨ih.1,by omega,ih.2.2.1,ih.2.2.2.1,fun k hk hk0 hkd=>?_⟩
    by_cases hkj:k=j
    ·subst hkj
     by_cases hlt:o.getD k 0<o.getD b.toNat 0
     ·exact absurd ⟨hk0,hkd,.inr hlt⟩ g
     ·omega
    ·exact ih.2.2.2.2 k (by omega) hk0 hkd
def dI(w:Way)(n i:Nat):Nat→List Int×List Bool
 | 0=>((List.replicate n (-1)).set i 0,List.replicate n false)
 | m+1=>if pkT (dI w n i m).1 (dI w n i m).2 n<0 then dI w n i m else((rxT w (pkT (dI w n i m).1 (dI w n i m).2 n).toNat ((dI w n i m).1,false) 6).1,(dI w n i m).2.set (pkT (dI w n i m).1 (dI w n i m).2 n).toNat true)
structure DInv(n:Nat)(w:Way)(i:Nat)(o:List Int)(dn:List Bool):Prop where
 r:RInv n w i o
 len:dn.length=n
 d1: ∀x y,x<n→y<n→dn.getD x false=true→dn.getD y false=false→0≤o.getD y 0→o.getD x 0≤o.getD y 0
 d0: ∀x,x<n→dn.getD x false=true→0≤o.getD x 0
 d2: ∀x d,x<n→d<6→dn.getD x false=true→w.cs x d≠0→0≤o.getD (w.ds x d) 0∧o.getD (w.ds x d) 0≤o.getD x 0+w.cs x d
theorem getDb_set(l:List Bool)(i j:Nat)(v:Bool)(h:i<l.length):(l.set i v).getD j false=if i=j then v else l.getD j false:=by
 simp only[List.getD,List.getElem?_set]
 split
 ·simp only[h,if_true,Option.getD_some]
 ·rfl
theorem dT_inv{n:Nat}{w:Way}{i b:Nat}{o:List Int}{dn:List Bool}(hn:n≤100)(hw:WayOk n w)(hs: ∀k d,w.sr k d=k)(h:DInv n w i o dn)(hb:b<n)(hb0:0≤o.getD b 0)(hbd:dn.getD b false=false)(hmin: ∀k,k<n→0≤o.getD k 0→dn.getD k false=false→o.getD b 0≤o.getD k 0)(j:Nat)(hj:j≤6):RInv n w i (rxT w b (o,false) j).1∧(∀x,x<n→(x=b∨dn.getD x false=true)→(rxT w b (o,false) j).1.getD x 0=o.getD x 0)∧(∀y,y<n→0≤(rxT w b (o,false) j).1.getD y 0→dn.getD y false=false→o.getD b 0≤(rxT w b (o,false) j).1.getD y 0)∧(∀y,y<n→0≤o.getD y 0→0≤(rxT w b (o,false) j).1.getD y 0∧(rxT w b (o,false) j).1.getD y 0≤o.getD y 0)∧(∀d,d<j→w.cs b d≠0→0≤(rxT w b (o,false) j).1.getD (w.ds b d) 0∧(rxT w b (o,false) j).1.getD (w.ds b d) 0≤o.getD b 0+w.cs b d):=by
 induction j with
 | zero=>exact⟨h.r,fun _ _ _=>rfl,fun y hy h0 hd=>hmin y hy h0 hd,fun y hy h0=>⟨h0,Int.le_refl _⟩,fun d hd=>by omega⟩
 | succ j ih=>
  obtain⟨i1,i2,i3,i4,i5⟩:=ih (by omega)
  have r1:=(rx_inv (k:=b) (d:=j) (p:=rxT w b (o,false) j) hn hw hb (by omega) i1).1
  rw[rxT_succ]
  refine⟨r1,?_⟩
  have hob:=i2 b hb (.inl rfl)
  generalize rxT w b (o,false) j=p at *
  simp only[rx,hs]
  by_cases g:(!decide (w.cs b j=0)&&(decide (0≤p.1.getD b 0)&&(decide (p.1.getD (w.ds b j) 0<0)||decide (p.1.getD b 0+w.cs b j<p.1.getD (w.ds b j) 0))))=true
  rotate_left
  ·rw[if_neg g]
   refine⟨i2,i3,i4,fun d hd hc=>?_⟩
   by_cases hdj:d=j
   ·subst hdj
    simp only[Bool.and_eq_true,Bool.or_eq_true,Bool.not_eq_true',decide_eq_true_eq,decide_eq_false_iff_not] at g
    rw[hob] at g
    omega
   ·exact i5 d (by omega) hc
  rw[if_pos g]
  simp only[Bool.and_eq_true,Bool.or_eq_true,Bool.not_eq_true',decide_eq_true_eq,decide_eq_false_iff_not] at g
  obtain⟨hc,hs0,hlow⟩:=g
  rw[hob] at hs0 hlow⊢
  have hwk:=hw.ok b j hb (by omega) hc
  have ht:w.ds b j<p.1.length:=by rw[i1.len];exact hwk.2.2
  have hnd: ∀x,x<n→(x=b∨dn.getD x false=true)→w.ds b j≠x:=by
   intro x hx hx2 e
   have h1:=i2 x hx hx2
   rw[e,h1] at hlow
   rcases hx2 with hx2 | hx2
   ·subst hx2;omega
   ·have h2:=h.d1 x b hx hb hx2 hbd hb0
    have h3:=h.d0 x hx hx2
    omega
  simp only[getD_set _ _ _ _ _ ht]
  refine⟨fun x hx hx2=>?_,fun y hy h0 hd=>?_,fun y hy h0=>?_,fun d hd hcd=>?_⟩
  ·rw[if_neg (hnd x hx hx2)];exact i2 x hx hx2
  ·split
   ·omega
   ·rename_i e;rw[if_neg e] at h0;exact i3 y hy h0 hd
  ·have h1:=i4 y hy h0
   split
   ·rename_i e;rw[e] at hlow;omega
   ·exact h1
  ·by_cases hdj:d=j
   ·subst hdj;rw[if_pos rfl];omega
   ·have h1:=i5 d (by omega) hcd
    split
    ·rename_i e;rw[e] at hlow;omega
    ·exact h1
theorem dI_inv{n:Nat}{w:Way}{i:Nat}(hn:n≤100)(hw:WayOk n w)(hs: ∀k d,w.sr k d=k)(hi:i<n)(m:Nat):DInv n w i (dI w n i m).1 (dI w n i m).2:=by
 induction m with
 | zero=>
  have hf: ∀x,¬(dI w n i 0).2.getD x false=true:=fun x=>by
   simp only[dI,List.getD,List.getElem?_replicate];split<;>simp
  exact⟨rx0_inv hi,by simp[dI],fun x y _ _ h=>absurd h (hf x),fun x _ h=>absurd h (hf x),fun x d _ _ h=>absurd h (hf x)⟩
 | succ m ih=>
  simp only[dI]
  split
  ·exact ih
  rename_i hp
  have hpk:=pkT_ok (dI w n i m).1 (dI w n i m).2 n
  generalize hb:pkT (dI w n i m).1 (dI w n i m).2 n=b at *
  obtain⟨q,rfl⟩: ∃q:Nat,b=q:=⟨b.toNat,by omega⟩
  simp only[Int.toNat_natCast] at hpk⊢
  rcases hpk with hpk | ⟨_,hq,hq0,hqd,hqm⟩
  ·omega
  have hq':q<n:=by omega
  obtain⟨t1,t2,t3,t4,t5⟩:=dT_inv hn hw hs ih hq' hq0 hqd hqm 6 (Nat.le_refl _)
  have hl:q<(dI w n i m).2.length:=by rw[ih.len];exact hq'
  refine⟨t1,by simp only[List.length_set];exact ih.len,fun x y hx hy hdx hdy h0=>?_,fun x hx hdx=>?_,fun x d hx hd hdx hc=>?_⟩
  ·rw[getDb_set _ _ _ _ hl] at hdx hdy
   have hdy':(dI w n i m).2.getD y false=false:=by
    split at hdy
    ·cases hdy
    ·exact hdy
   have h3:=t3 y hy h0 hdy'
   split at hdx
   ·rename_i e;subst e;rw[t2 q hq' (.inl rfl)];exact h3
   ·rw[t2 x hx (.inr hdx)]
    have:=ih.d1 x q hx hq' hdx hqd hq0
    omega
  ·rw[getDb_set _ _ _ _ hl] at hdx
   split at hdx
   ·rename_i e;subst e;rw[t2 q hq' (.inl rfl)];exact hq0
   ·rw[t2 x hx (.inr hdx)];exact ih.d0 x hx hdx
  ·rw[getDb_set _ _ _ _ hl] at hdx
   split at hdx
   ·rename_i e;subst e
    rw[t2 q hq' (.inl rfl)]
    exact t5 d hd hc
   ·rw[t2 x hx (.inr hdx)]
    have h1:=ih.d2 x d hx hd hdx hc
    have hwk:=hw.ok x d hx hd hc
    have h2:=t4 _ hwk.2.2 h1.1
    omega
def dN(w:Way)(n i:Nat):Nat:=(List.range (n+1)).findIdx fun m=>decide (pkT (dI w n i m).1 (dI w n i m).2 n<0)
theorem dN_lt{w:Way}{n i m:Nat}(h:m<dN w n i): ¬pkT (dI w n i m).1 (dI w n i m).2 n<0:=by
 have:=List.not_of_lt_findIdx (xs:=List.range (n+1)) (p:=fun m=>decide (pkT (dI w n i m).1 (dI w n i m).2 n<0)) (i:=m) h
 simpa only[List.getElem_range,decide_eq_false_iff_not] using this
theorem cnt_setb{l:List Bool}{i:Nat}(h:i<l.length)(hf:l.getD i false=false):(l.set i true).countP id=l.countP id+1:=by
 rw[List.countP_set h]
 have:l[i]=false:=by simpa [List.getD,List.getElem?_eq_getElem h] using hf
 simp[this]
theorem dI_cnt{n:Nat}{w:Way}{i:Nat}(hn:n≤100)(hw:WayOk n w)(hs: ∀k d,w.sr k d=k)(hi:i<n)(m:Nat)(h: ∀j,j<m→ ¬pkT (dI w n i j).1 (dI w n i j).2 n<0):(dI w n i m).2.countP id=m:=by
 induction m with
 | zero=>simp[dI]
 | succ m ih=>
  have h1:=ih fun j hj=>h j (by omega)
  have h2:=h m (by omega)
  simp only[dI]
  rw[if_neg h2]
  have hpk:=pkT_ok (dI w n i m).1 (dI w n i m).2 n
  have hl:=(dI_inv hn hw hs hi m).len
  rcases hpk with hpk | ⟨_,hq,hq0,hqd,hqm⟩
  ·omega
  ·simp only
   rw[cnt_setb (by omega) hqd,h1]
theorem dN_end{n:Nat}{w:Way}{i:Nat}(hn:n≤100)(hw:WayOk n w)(hs: ∀k d,w.sr k d=k)(hi:i<n):pkT (dI w n i (dN w n i)).1 (dI w n i (dN w n i)).2 n<0:=by
 have hlt:dN w n i<(List.range (n+1)).length:=by
  simp only[dN]
  refine List.findIdx_lt_length_of_exists ?_
  by_cases hex: ∃j,j<n+1∧pkT (dI w n i j).1 (dI w n i j).2 n<0
  ·obtain⟨j,h1,h2⟩:=hex
   exact⟨j,by simpa using h1,by simpa using h2⟩
  ·exfalso
   have h1:=dI_cnt hn hw hs hi (n+1) fun j hj hp=>hex ⟨j,hj,hp⟩
   have h2:=(dI_inv hn hw hs hi (n+1)).len
   have h3:(dI w n i (n+1)).2.countP id≤(dI w n i (n+1)).2.length:=List.countP_le_length
   omega
 have h1:decide (pkT (dI w n i ((List.range (n+1))[dN w n i]'hlt)).1 (dI w n i ((List.range (n+1))[dN w n i]'hlt)).2 n<0)=true:=List.findIdx_getElem (w:=hlt)
 rw[List.getElem_range hlt] at h1
 exact of_decide_eq_true h1
theorem dN_le{w:Way}{n i:Nat}:dN w n i≤n+1:=by
 simp only[dN];exact Nat.le_trans List.findIdx_le_length (by simp)
theorem dF_far{n:Nat}{w:Way}{i:Nat}(hn:n≤100)(hw:WayOk n w)(hs: ∀k d,w.sr k d=k)(hi:i<n):IsFar n w i (dI w n i (dN w n i)).1:=by
 have h0:=dN_end hn hw hs hi
 have h1:=dI_inv hn hw hs hi (dN w n i)
 have hpk:=pkT_ok (dI w n i (dN w n i)).1 (dI w n i (dN w n i)).2 n
 rcases hpk with hpk | ⟨hpk,_⟩
 ·refine⟨h1.r.len,h1.r.at_,fun v hv=>(h1.r.lo v hv).1,fun k d hk hd hc h2=>?_,h1.r.tig⟩
  rw[hs] at h2⊢
  exact h1.d2 k d hk hd (hpk.2 k hk h2) hc
 ·omega
theorem dF_eq{n:Nat}{w:Way}{i:Nat}(hn:n≤100)(hw:WayOk n w)(hs: ∀k d,w.sr k d=k)(hi:i<n):(dI w n i (dN w n i)).1=rxF w n i:=
 far_eq hw (dF_far hn hw hs hi) (rxF_far hn hw hi)
end Go.Proofs.YthggfnefjbckeaaGreatDoor.X
set_option maxHeartbeats 1000000
set_option maxRecDepth 8000
set_option linter.unusedSimpArgs false
set_option linter.unusedSectionVars false
set_option linter.unusedVariables false
open Nat renaming reduceBEq→N1,reduceAdd→N2,reduceSub→N3,reduceMul→N4,reduceEqDiff→N5,reduceLeDiff→N6,reduceLT→N7
open Int renaming reduceLE→I1,reduceLT→I2,reduceToNat→I3
namespace Go.Proofs.YthggfnefjbckeaaGreatDoor.X
open Go
def intss(W:List (List Int)):List (List AV):=W.map fun r=>[.sl (ints r)]
def owss(W:List (List Int)):List (List AV):=W.map fun r=>[.ow 1 (ints r)]
theorem intss_length(W:List (List Int)):(intss W).length=W.length:=by simp[intss]
theorem frzLL_owss(W:List (List Int)):frzLL (owss W)=intss W:=by
 unfold owss intss
 induction W with
 | nil=>rfl
 | cons x l ih=>simp only[List.map_cons,frzLL,frzL,frzT,frzLL_ints,ih]
theorem own_intss(W:List (List Int)):ownR (.ow 1 (owss W))=true:=by
 simp only[ownR]
 unfold owss
 induction W with
 | nil=>rfl
 | cons x l ih=>
  have e2:=own_ints x
  simp only[ownR] at e2
  simp only[List.map_cons,ownRLL,ownRL,ownR,e2,Bool.and_true,Bool.true_and];exact ih
def lens(W:List (List Int)):Nat:=(W.map List.length).sum
def szRows:List (List Int)→Int→Int
 | [],v=>v
 | r::W,v=>if v<r.length then -1 else szRows W (v-r.length)
def szSS(W:List (List Int))(v:Int):Int:=if v<W.length then -1 else szRows W (v-W.length)
theorem szRows_le{B:Int}: ∀(W:List (List Int)) (v:Int),0≤v→v≤B→0≤szRows W v→ ∀r∈W,(r.length:Int)≤B
 | [],v,_,_,_,r,hr=>by simp at hr
 | s::W,v,h0,hB,h,r,hr=>by
  simp only[szRows] at h
  split at h
  ·omega
  ·rename_i hs
   rcases List.mem_cons.1 hr with rfl | hr
   ·omega
   ·exact szRows_le W (v-s.length) (by omega) (by omega) h r hr
theorem szSS_le{W:List (List Int)}{v:Int}(h0:0≤v)(h:0≤szSS W v):(W.length:Int)≤v∧ ∀r∈W,(r.length:Int)≤v:=by
 simp only[szSS] at h
 split at h
 ·omega
 ·rename_i hs
  exact⟨by omega,szRows_le W _ (by omega) (by omega) h⟩
theorem lens_succ{W:List (List Int)}{i:Nat}(h:i<W.length):lens (W.take (i+1))=lens (W.take i)+W[i].length:=by
 rw[lens,List.take_succ_eq_append_getElem h,List.map_append,List.sum_append];simp only[lens,List.map_cons,List.map_nil,List.sum_cons,List.sum_nil,Nat.add_zero]
def sumW(r:List Int):Int:=r.foldl (fun a x=>IntKind.i64.wrap (a+x)) 0
theorem sumW_succ{r:List Int}{i:Nat}(h:i<r.length):sumW (r.take (i+1))=IntKind.i64.wrap (sumW (r.take i)+r[i]):=by
 rw[sumW,List.take_succ_eq_append_getElem h,List.foldl_append];rfl
def rowOk(r:List Int):Bool:=decide (r.length=3)&&r.all (inR 0 36)&&decide (sumW r=36)
def goodW(W:List (List Int)):Bool:=decide (W.length=3)&&W.all rowOk
def clA(W:List (List Int)):AV:= .agg [.sl (intss W)]
def clO(W:List (List Int)):AV:= .agg [.ow 1 (owss W)]
theorem own_cl(W:List (List Int)):ownR (clO W)=true:=by
 have e1:=own_intss W
 simp only[ownR] at e1
 simp only[clO,ownR,ownRL,e1,Bool.and_true]
section
variable{C:CT}(hC:Closed Tryz.prog G1 md0 C)
include hC
theorem t23(W:List (List Int))(v:Int)(hv:0≤v∧v<2^50)(hW:W.length<2^50)(hr: ∀r∈W,r.length<2^50):Ev C 23 [.sl (intss W),.int .i64 v] (.int .i64 (szSS W v)):=by
 refine rT hC Q23 ?_
 simp only[c23,intss,List.length_map,push_cast,↓J1,↓J2,N1,N2,N3,reduceCtorEq,N4,N5,N6,reduceIte,N7,I1,I2,I3]
 rw[wrap64 (by omega) (by omega)]
 refine ifB_intro (fun h=>?_) (fun h=>?_)
 ·simp only[szSS];simp at h;rw[if_pos (by omega)]
 ·simp only[decide_eq_false_iff_not,Int.not_lt] at h
  refine RL_count (fun i=>⟨tb 27 .any [(0,.sl (W.map fun r=>[.sl (ints r)])),(1,.int .i64 (v-W.length-lens (W.take i))),(5,.int .i64 (i:Int))],[],0⟩) (fun i=>0≤v-W.length-lens (W.take i)∧szSS W v=szRows (W.drop i) (v-W.length-lens (W.take i))) W.length 0 (head_tb [] rfl (by simp only[keptV_cons,keptV_nil,tb_get,lk_same,lk_ne,lk_nil,ren,renL,lkp,N7,N1,N5,reduceIte,and_true,true_and,Nat.not_lt_zero,if_false,if_true,Nat.add_zero,Nat.zero_add];simp[lens]) rfl) (by omega) (by simp[lens,szSS];omega) fun i hi ⟨ht0,ht⟩ J hJ=>?_
  by_cases h1:i<W.length
  ·have hri:=hr _ (List.getElem_mem h1)
   simp only[List.length_map,Int.toNat_natCast,List.getElem?_map,List.getElem?_eq_getElem h1,push_cast,↓J1,↓J2,N1,N2,N3,reduceCtorEq,N4,N5,N6,reduceIte,N7,I1,I2,I3]
   refine ifB_intro (fun _=>⟨by omega,_,t56 hC _ _ (by omega) (by rw[ints_length];exact hri),?_⟩) (fun h=>by simp at h;omega)
   rw[List.drop_eq_getElem_cons h1,szRows] at ht
   simp only[ints_length,push_cast,↓J1,↓J2,N1,N2,N3,reduceCtorEq,N4,N5,N6,reduceIte,N7,I1,I2,I3]
   refine ifB_intro (fun h=>?_) (fun h=>?_)
   ·rw[ht]
    simp only[decide_eq_true_eq] at h
    split at h<;>rename_i hh
    ·rw[if_pos hh]
    ·omega
   ·simp only[decide_eq_false_iff_not] at h
    have hh: ¬(v-W.length-lens (W.take i)<W[i].length):=fun hh=>h (by rw[if_pos hh];omega)
    rw[if_neg hh] at ht
    have el:v-(W.length:Int)-lens (W.take (i+1))=v-W.length-lens (W.take i)-W[i].length:=by
     rw[lens_succ h1];omega
    refine hJ h1 ⟨by omega,by rw[el];exact ht⟩ _ (hdA [] (hV:=?_))
    simp only[keptV_cons,keptV_nil,tb_get,lk_same,lk_ne,lk_nil,ren,renL,lkp,N7,N1,N5,reduceIte,and_true,true_and,Nat.not_lt_zero,if_false,if_true,Nat.add_zero,Nat.zero_add]
    rw[wrap64 (by omega) (by omega),if_neg hh,el]
    exact⟨rfl,rfl⟩
  ·simp only[List.length_map,Int.toNat_natCast,List.getElem?_map,push_cast,↓J1,↓J2,N1,N2,N3,reduceCtorEq,N4,N5,N6,reduceIte,N7,I1,I2,I3]
   refine ifB_intro (fun h=>by simp at h;omega) (fun h=>?_)
   rw[ht,List.drop_eq_nil_of_le (by omega)]
   rfl
theorem t32(W:List (List Int))(hW:W.length<2^30)(hr: ∀r∈W,r.length<2^30):Ev C 32 [.sl (intss W)] (.ow 1 (owss W)):=by
 refine rT hC Q32 ?_ (own_intss W)
 simp only[c32,intss,List.length_map,push_cast,↓J1,↓J2,N1,N2,N3,reduceCtorEq,N4,N5,N6,reduceIte,N7,I1,I2,I3]
 refine⟨by omega,by omega,by omega,by omega,?_⟩
 refine RL_count (fun i=>⟨tb 23 .any [(0,.sl (W.map fun r=>[.sl (ints r)])),(3,.ref 0 none 1 0 W.length),(4,.int .i64 (i:Int))],[(0,.slice 1 ((W.take i).map (fun r=>[.ow 1 (ints r)])++List.replicate (W.length-i) [.nil]))],1⟩) (fun _=>True) W.length 0 (hdA [(0,0)]) (by omega) trivial fun i hi _ J hJ=>?_
 by_cases h1:i<W.length
 ·rw[show W.length-i=(W.length-(i+1))+1 by omega,List.replicate_succ]
  simp only[List.length_map,Int.toNat_natCast,List.getElem?_map,List.getElem?_eq_getElem h1,push_cast,↓J1,↓J2,N1,N2,N3,reduceCtorEq,N4,N5,N6,reduceIte,N7,I1,I2,I3]
  refine ifB_intro (fun _=>⟨by omega,_,t69 hC _ (hr _ (List.getElem_mem h1)),?_⟩) (fun h=>by simp at h;omega)
  simp only[Int.toNat_natCast,mid_get (show((W.take i).map fun r=>[AV.ow 1 (ints r)]).length=i by simp;omega),mid_set (show((W.take i).map fun r=>[AV.ow 1 (ints r)]).length=i by simp;omega),push_cast,↓J1,↓J2,N1,N2,N3,reduceCtorEq,N4,N5,N6,reduceIte,N7,I1,I2,I3]
  refine⟨by omega,by omega,?_⟩
  refine hJ h1 trivial _ (hdA [(0,0)] (hh:=?_))
  rw[List.take_succ_eq_append_getElem h1,List.map_append,List.append_assoc]
  simp only[hdel,canR,canB,renO,renL,ren,lkp,hget,N7,N5,Nat.not_lt_zero,if_false,if_true,reduceIte,List.append_nil,List.nil_append]
  rfl
 ·simp only[List.length_map,Int.toNat_natCast,List.getElem?_map,push_cast,↓J1,↓J2,N1,N2,N3,reduceCtorEq,N4,N5,N6,reduceIte,N7,I1,I2,I3]
  refine ifB_intro (fun h=>by simp at h;omega) (fun h=>?_)
  rw[List.take_of_length_le (by omega),show W.length-i=0 by omega]
  exact RetTo_ow (by simp[hget,owss]) (by simp[owss])
theorem t41(W V:List (List Int))(hW:W.length<2^50)(hV:V.length<2^50)(hr: ∀r∈W,r.length<2^50)(hs: ∀r∈V,r.length<2^50):Ev C 41 [.sl (intss W),.sl (intss V)] (.bool (decide (W=V))):=by
 refine rT hC Q41 ?_
 simp only[c41,intss,List.length_map,push_cast,↓J1,↓J2,N1,N2,N3,reduceCtorEq,N4,N5,N6,reduceIte,N7,I1,I2,I3]
 refine ifB_intro (fun h=>?_) (fun h=>?_)
 ·have hlm:W.length=V.length:=by simp at h;omega
  refine RL_count (fun i=>⟨tb 27 .any [(0,.sl (W.map fun r=>[.sl (ints r)])),(1,.sl (V.map fun r=>[.sl (ints r)])),(5,.int .i64 (i:Int))],[],0⟩) (fun i=>W.take i=V.take i) W.length 0 (hdA []) (by omega) rfl fun i hi ht J hJ=>?_
  by_cases h1:i<W.length
  ·have h2:i<V.length:=by omega
   simp only[List.length_map,Int.toNat_natCast,List.getElem?_map,List.getElem?_eq_getElem h1,List.getElem?_eq_getElem h2,push_cast,↓J1,↓J2,N1,N2,N3,reduceCtorEq,N4,N5,N6,reduceIte,N7,I1,I2,I3]
   refine ifB_intro (fun _=>⟨by omega,by omega,_,t80 hC _ _ (hr _ (List.getElem_mem h1)) (hs _ (List.getElem_mem h2)),?_⟩) (fun h=>by simp at h;omega)
   simp only[push_cast,↓J1,↓J2,N1,N2,N3,reduceCtorEq,N4,N5,N6,reduceIte,N7,I1,I2,I3]
   refine ifB_intro (fun h=>?_) (fun h=>?_)
   ·refine hJ h1 ?_ _ (hdA [])
    rw[List.take_succ_eq_append_getElem h1,List.take_succ_eq_append_getElem h2,ht]
    have h':W[i]=V[i]:=by simpa using h
    rw[h']
   ·have: ¬W=V:=by rintro rfl;simp at h
    simp[this]
  ·simp only[List.length_map,Int.toNat_natCast,List.getElem?_map,push_cast,↓J1,↓J2,N1,N2,N3,reduceCtorEq,N4,N5,N6,reduceIte,N7,I1,I2,I3]
   refine ifB_intro (fun h=>by simp at h;omega) (fun h=>?_)
   rw[List.take_of_length_le (by omega),List.take_of_length_le (by omega)] at ht
   simp[ht]
 ·have: ¬W=V:=by rintro rfl;simp at h
  simp[this]
theorem t22(W:List (List Int))(v:Int)(hv:0≤v∧v<2^50)(hW:W.length<2^50)(hr: ∀r∈W,r.length<2^50):Ev C 22 [clA W,.int .i64 v] (.int .i64 (if szSS W v<0 then -1 else szSS W v)):=by
 simp only[clA]
 refine rT hC Q22 ?_
 simp only[c22,push_cast,↓J1,↓J2,N1,N2,N3,reduceCtorEq,N4,N5,N6,reduceIte,N7,I1,I2,I3]
 repeat' (first
  | simp only[push_cast,↓J1,↓J2,N1,N2,N3,reduceCtorEq,N4,N5,N6,reduceIte,N7,I1,I2,I3]
  | refine⟨_,t23 hC W v hv hW hr,?_⟩
  | refine ifB_intro (fun h=>?_) (fun h=>?_))
 all_goals simp_all
 all_goals omega
theorem t31(W:List (List Int))(hW:W.length<2^30)(hr: ∀r∈W,r.length<2^30):Ev C 31 [clA W] (clO W):=by
 simp only[clA]
 refine rT hC Q31 ?_ (own_cl W)
 simp only[c31,push_cast,↓J1,↓J2,N1,N2,N3,reduceCtorEq,N4,N5,N6,reduceIte,N7,I1,I2,I3]
 refine⟨_,t32 hC _ hW hr,?_⟩
 simp only[push_cast,↓J1,↓J2,N1,N2,N3,reduceCtorEq,N4,N5,N6,reduceIte,N7,I1,I2,I3]
 simp only[clO]
 exact rtA
theorem t40(W V:List (List Int))(hW:W.length<2^50)(hV:V.length<2^50)(hr: ∀r∈W,r.length<2^50)(hs: ∀r∈V,r.length<2^50):Ev C 40 [clA W,clA V] (.bool (decide (W=V))):=by
 simp only[clA]
 refine rT hC Q40 ?_
 simp only[c40,push_cast,↓J1,↓J2,N1,N2,N3,reduceCtorEq,N4,N5,N6,reduceIte,N7,I1,I2,I3]
 repeat' (first
  | simp only[push_cast,↓J1,↓J2,N1,N2,N3,reduceCtorEq,N4,N5,N6,reduceIte,N7,I1,I2,I3]
  | refine⟨_,t41 hC W V hW hV hr hs,?_⟩
  | refine ifB_intro (fun h=>?_) (fun h=>?_))
 all_goals simp_all
end
end Go.Proofs.YthggfnefjbckeaaGreatDoor.X
set_option maxHeartbeats 1000000
set_option maxRecDepth 8000
set_option linter.unusedSimpArgs false
set_option linter.unusedVariables false
open Nat renaming reduceBEq→N1,reduceAdd→N2,reduceSub→N3,reduceMul→N4,reduceEqDiff→N5,reduceLeDiff→N6,reduceLT→N7
open Int renaming reduceLE→I1,reduceLT→I2,reduceToNat→I3
namespace Go.Proofs.YthggfnefjbckeaaGreatDoor.X
open Go
theorem sum3{a b c:Int}(ha:inR 0 36 a=true)(hb:inR 0 36 b=true)(hc:inR 0 36 c=true):sumW [a,b,c]=a+b+c:=by
 simp only[inR,Bool.and_eq_true,decide_eq_true_eq] at ha hb hc
 simp only[sumW,List.foldl]
 rw[Int.zero_add,wrap64 (n:=a) (by omega) (by omega),wrap64 (n:=a+b) (by omega) (by omega),wrap64 (by omega) (by omega)]
section
variable{C:CT}(hC:Closed Tryz.prog G1 md0 C)
include hC
theorem t159(r:List Int)(hr:r.length<2^50):Ev C 159 [.sl (ints r)] (.int .i64 (sumW r)):=by
 refine rT hC Q159 ?_
 simp only[c159,ints,List.length_map,push_cast,↓J1,↓J2,N1,N2,N3,reduceCtorEq,N4,N5,N6,reduceIte,N7,I1,I2,I3]
 refine RL_count (fun i=>⟨tb 17 .any [(3,.int .i64 (sumW (r.take i))),(6,.sl (r.map fun n=>[.int .i64 n])),(7,.int .i64 (r.length:Int)),(8,.int .i64 (i:Int))],[],0⟩) (fun _=>True) r.length 0 (head_tb [] rfl (by simp only[keptV_cons,keptV_nil,tb_get,lk_same,lk_ne,lk_nil,ren,renL,lkp,N7,N1,N5,reduceIte,and_true,true_and,Nat.not_lt_zero,if_false,if_true,Nat.add_zero,Nat.zero_add];simp[sumW]) rfl) (by omega) trivial fun i hi _ J hJ=>?_
 by_cases h1:i<r.length
 ·simp only[List.length_map,Int.toNat_natCast,List.getElem?_map,List.getElem?_eq_getElem h1,push_cast,↓J1,↓J2,N1,N2,N3,reduceCtorEq,N4,N5,N6,reduceIte,N7,I1,I2,I3]
  refine ifB_intro (fun _=>⟨by omega,?_⟩) (fun h=>by simp at h;omega)
  refine hJ h1 trivial _ (hdA [] (hV:=?_))
  simp only[keptV_cons,keptV_nil,tb_get,lk_same,lk_ne,lk_nil,ren,renL,lkp,N7,N1,N5,reduceIte,and_true,true_and,Nat.not_lt_zero,if_false,if_true,Nat.add_zero,Nat.zero_add]
  rw[wrap64 (n:=(i:Int)+1) (by omega) (by omega),sumW_succ h1]
  simp
 ·simp only[List.length_map,Int.toNat_natCast,List.getElem?_map,push_cast,↓J1,↓J2,N1,N2,N3,reduceCtorEq,N4,N5,N6,reduceIte,N7,I1,I2,I3]
  refine ifB_intro (fun h=>by simp at h;omega) (fun h=>?_)
  rw[List.take_of_length_le (by omega)]
theorem t121(W:List (List Int))(hW:W.length<2^50)(hr: ∀r∈W,r.length<2^50):Ev C 121 [clA W] (.bool (goodW W)):=by
 simp only[clA,goodW]
 refine rT hC Q121 ?_
 simp only[c121,intss,List.length_map,push_cast,↓J1,↓J2,N1,N2,N3,reduceCtorEq,N4,N5,N6,reduceIte,N7,I1,I2,I3]
 refine ifB_intro (fun h=>?_) (fun h=>?_)
 ·have h3:W.length=3:=by simp at h;omega
  rw[show(decide (W.length=3)&&W.all rowOk)=W.all rowOk by simp[h3]]
  refine RL_count (fun i=>⟨tb 39 .any [(10,.sl (W.map fun r=>[.sl (ints r)])),(11,.int .i64 (W.length:Int)),(12,.int .i64 (i:Int))],[],0⟩) (fun i=>W.all rowOk=(W.drop i).all rowOk) W.length 0 (hdA []) (by omega) rfl fun i hi ht J hJ=>?_
  by_cases h1:i<W.length
  ·have hri:=hr _ (List.getElem_mem h1)
   rw[List.drop_eq_getElem_cons h1,List.all_cons] at ht
   simp only[List.length_map,Int.toNat_natCast,List.getElem?_map,List.getElem?_eq_getElem h1,push_cast,↓J1,↓J2,N1,N2,N3,reduceCtorEq,N4,N5,N6,reduceIte,N7,I1,I2,I3]
   generalize W[i]=r at *
   refine ifB_intro (fun _=>⟨by omega,?_⟩) (fun h=>by simp at h;omega)
   rw[ints_length]
   refine ifB_intro (fun h=>?_) (fun h=>?_)
   ·refine⟨_,t145 hC r _ _ hri,?_⟩
    simp only[push_cast,↓J1,↓J2,N1,N2,N3,reduceCtorEq,N4,N5,N6,reduceIte,N7,I1,I2,I3]
    have h5:r.length=3:=by simp at h;omega
    refine ifB_intro (fun h=>?_) (fun h=>?_)
    ·obtain⟨a,b,c,rfl⟩: ∃a b c,r=[a,b,c]:=by
      match r,h5 with
      | [a,b,c],_=>exact⟨a,b,c,rfl⟩
     simp only[ints,push_cast,↓J1,↓J2,N1,N2,N3,reduceCtorEq,N4,N5,N6,reduceIte,N7,I1,I2,I3]
     simp only[List.all_cons,List.all_nil,Bool.and_true,Bool.and_eq_true] at h
     have e3:=sum3 h.1 h.2.1 h.2.2
     have e4:rowOk [a,b,c]=decide (a+b+c=36):=by
      simp[rowOk,e3,h.1,h.2.1,h.2.2]
     have b1:=h.1;have b2:=h.2.1;have b3:=h.2.2
     simp only[inR,Bool.and_eq_true,decide_eq_true_eq] at b1 b2 b3
     rw[wrap64 (n:=a+b) (by omega) (by omega),wrap64 (n:=a+b+c) (by omega) (by omega)]
     refine ifB_intro (fun hh=>?_) (fun hh=>?_)
     ·refine hJ h1 ?_ _ (hdA [])
      rw[ht,e4,hh];rfl
     ·rw[ht,e4,hh];rfl
    ·rw[ht];simp only[rowOk,h,Bool.and_false,Bool.false_and]
   ·have h5: ¬r.length=3:=by simp at h;omega
    rw[ht];simp[rowOk,h5]
  ·simp only[List.length_map,Int.toNat_natCast,List.getElem?_map,push_cast,↓J1,↓J2,N1,N2,N3,reduceCtorEq,N4,N5,N6,reduceIte,N7,I1,I2,I3]
   refine ifB_intro (fun h=>by simp at h;omega) (fun h=>?_)
   rw[ht,List.drop_eq_nil_of_le (by omega)]
   rfl
 ·have h3: ¬W.length=3:=by simp at h;omega
  simp[h3]
theorem t132(W:List (List Int))(hW:W.length<2^50)(hr: ∀r∈W,r.length<2^50):Ev C 132 [clA W] (.bool (goodW W)):=by
 simp only[clA,goodW]
 refine rT hC Q132 ?_
 simp only[c132,intss,List.length_map,push_cast,↓J1,↓J2,N1,N2,N3,reduceCtorEq,N4,N5,N6,reduceIte,N7,I1,I2,I3]
 refine ifB_intro (fun h=>?_) (fun h=>?_)
 ·have h3:W.length=3:=by simp at h;omega
  rw[show(decide (W.length=3)&&W.all rowOk)=W.all rowOk by simp[h3]]
  refine RL_count (fun i=>⟨tb 37 .any [(12,.sl (W.map fun r=>[.sl (ints r)])),(13,.int .i64 (W.length:Int)),(14,.int .i64 (i:Int))],[],0⟩) (fun i=>W.all rowOk=(W.drop i).all rowOk) W.length 0 (hdA []) (by omega) rfl fun i hi ht J hJ=>?_
  by_cases h1:i<W.length
  ·have hri:=hr _ (List.getElem_mem h1)
   rw[List.drop_eq_getElem_cons h1,List.all_cons] at ht
   simp only[List.length_map,Int.toNat_natCast,List.getElem?_map,List.getElem?_eq_getElem h1,push_cast,↓J1,↓J2,N1,N2,N3,reduceCtorEq,N4,N5,N6,reduceIte,N7,I1,I2,I3]
   generalize W[i]=r at *
   refine ifB_intro (fun _=>⟨by omega,?_⟩) (fun h=>by simp at h;omega)
   rw[ints_length]
   refine ifB_intro (fun h=>?_) (fun h=>?_)
   ·refine⟨_,t159 hC r hri,?_⟩
    simp only[push_cast,↓J1,↓J2,N1,N2,N3,reduceCtorEq,N4,N5,N6,reduceIte,N7,I1,I2,I3]
    have h5:r.length=3:=by simp at h;omega
    refine ifB_intro (fun h=>?_) (fun h=>?_)
    ·have e4:rowOk r=r.all (inR 0 36):=by
      simp only[rowOk,h5,h,decide_true,Bool.true_and,Bool.and_true]
     refine RL_count (fun k=>⟨tb 37 .any [(12,.sl (W.map fun r=>[.sl (ints r)])),(13,.int .i64 (W.length:Int)),(14,.int .i64 (i:Int)),(26,.sl (r.map fun n=>[.int .i64 n])),(27,.int .i64 (r.length:Int)),(28,.int .i64 (k:Int))],[],0⟩) (fun k=>r.all (inR 0 36)=(r.drop k).all (inR 0 36)) r.length 0 (head_tb [] rfl (by simp only[ints,List.length_map,keptV_cons,keptV_nil,tb_get,lk_same,lk_ne,lk_nil,ren,renL,lkp,N7,N1,N5,reduceIte,and_true,true_and,Nat.not_lt_zero,if_false,if_true,Nat.add_zero,Nat.zero_add];simp) rfl) (by omega) rfl fun k hk hkt J' hJ'=>?_
     by_cases h6:k<r.length
     ·rw[List.drop_eq_getElem_cons h6,List.all_cons] at hkt
      simp only[List.length_map,Int.toNat_natCast,List.getElem?_map,List.getElem?_eq_getElem h6,push_cast,↓J1,↓J2,N1,N2,N3,reduceCtorEq,N4,N5,N6,reduceIte,N7,I1,I2,I3]
      refine ifB_intro (fun _=>⟨by omega,_,t73 hC _ _ _,?_⟩) (fun h=>by simp at h;omega)
      simp only[push_cast,↓J1,↓J2,N1,N2,N3,reduceCtorEq,N4,N5,N6,reduceIte,N7,I1,I2,I3]
      refine ifB_intro (fun hh=>?_) (fun hh=>?_)
      ·refine hJ' h6 ?_ _ (hdA [])
       rw[hkt];simp only[inR] at hh⊢;rw[hh];rfl
      ·rw[ht,e4,hkt];simp only[inR] at hh⊢;rw[hh];rfl
     ·simp only[List.length_map,Int.toNat_natCast,List.getElem?_map,push_cast,↓J1,↓J2,N1,N2,N3,reduceCtorEq,N4,N5,N6,reduceIte,N7,I1,I2,I3]
      refine ifB_intro (fun h=>by simp at h;omega) (fun h=>?_)
      rw[List.drop_eq_nil_of_le (by omega)] at hkt
      refine hJ h1 ?_ _ (hdA [])
      rw[ht,e4,hkt];rfl
    ·rw[ht];simp only[rowOk,h,Bool.and_false,Bool.false_and]
   ·have h5: ¬r.length=3:=by simp at h;omega
    rw[ht];simp[rowOk,h5]
  ·simp only[List.length_map,Int.toNat_natCast,List.getElem?_map,push_cast,↓J1,↓J2,N1,N2,N3,reduceCtorEq,N4,N5,N6,reduceIte,N7,I1,I2,I3]
   refine ifB_intro (fun h=>by simp at h;omega) (fun h=>?_)
   rw[ht,List.drop_eq_nil_of_le (by omega)]
   rfl
 ·have h3: ¬W.length=3:=by simp at h;omega
  simp[h3]
theorem t184(n:Int):Ev C 184 [.int .i64 n] (.bool (inR 0 2 n)):=by
 refine rT hC Q184 ?_
 simp only[c184,push_cast,↓J1,↓J2,N1,N2,N3,reduceCtorEq,N4,N5,N6,reduceIte,N7,I1,I2,I3]
 refine⟨_,t73 hC _ _ _,?_⟩
 simp only[push_cast,↓J1,↓J2,N1,N2,N3,reduceCtorEq,N4,N5,N6,reduceIte,N7,I1,I2,I3]
 rfl
end
end Go.Proofs.YthggfnefjbckeaaGreatDoor.X
