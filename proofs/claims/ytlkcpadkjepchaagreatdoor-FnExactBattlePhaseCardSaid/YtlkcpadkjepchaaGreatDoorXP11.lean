/- A part of the proof: lemmas on the machine or on the functions that the law reaches. No condition of its own. -/
import Derived.Test.YtlkcpadkjepchaaGreatDoorXP10
import Derived.Test.YtlkcpadkjepchaaGreatDoorXP9
set_option maxHeartbeats 4000000
set_option maxRecDepth 8000
set_option linter.unusedSimpArgs false
set_option linter.unusedVariables false
open Nat renaming reduceBEq→N1,reduceAdd→N2,reduceSub→N3,reduceMul→N4,reduceEqDiff→N5,reduceLeDiff→N6,reduceLT→N7
open Int renaming reduceLE→I1,reduceLT→I2,reduceToNat→I3
namespace Go.Proofs.YtlkcpadkjepchaaGreatDoor.X
open Go
attribute [local irreducible] Ev
attribute [-push_cast] R_fork
theorem solid_sl{i z:Nat}{es:List (List AV)}{h:Heap}(hs:solid h):solid ((i,.slice z es)::h):=by
 unfold solid at*;simp only[killH,hs]
theorem below_sl{i z n:Nat}{es:List (List AV)}{h:Heap}(hi:i<n)(hb:below n h):below n ((i,.slice z es)::h):=by
 unfold below at*;simp only[canB,hi,if_true,renO,hb]
theorem solid_hdel{o:Nat}: ∀{h:Heap},solid h→solid (hdel h o)
 | [],_=>rfl
 | (i,ob)::h,hs=>by
  unfold solid at hs
  have h1:solid h:=by cases ob<;>simp only[killH,List.cons.injEq] at hs<;>exact hs.2
  simp only[hdel]
  split
  ·exact solid_hdel h1
  ·have h2:=solid_hdel (o:=o) h1
   unfold solid at h2⊢
   cases ob<;>simp only[killH,List.cons.injEq] at hs⊢ <;>exact⟨hs.1,h2⟩
section
variable{C:CT}(hC:Closed Tryz.prog G1 md0 C)
include hC
theorem rF1(b:Brd)(s:Sta)(u:Int)(h:staOk b s=true)(hu:0≤u∧u<(s.us.length:Int))(ha:0≤(unOf s u).at_)(hb:BrdB (2^50) b):C 235 [brdF b,.agg (staF s),.int .i64 u,.int .i64 (unOf s u).at_,.int .i64 1,.ref 2 none 1 0 0,.nil] [(2,.slice 1 []),(1,.var (staF s)),(0,.var (rulF b.r++mpF b.m))] 3 (fun v h' n'=>v= .ref 6 none 1 0 (retL b s u 6).length∧hget h' 6=some (.slice 1 (owss (retW (retL b s u 6))))):=by
 have hm:=mp_wh (brd_mp (sta_brd h))
 have hwh:=brd_wh (sta_brd h)
 have hlen:=sta_len h
 have e0:=uns_int hu
 have hx:=un_int h hu
 have hsd:=un_sd hx
 have hr:=brd_ru (sta_brd h)
 simp only[rulOk,tailOk,inR,Bool.and_eq_true,decide_eq_true_eq] at hr
 have hat:(unOf s u).at_<b.m.w*b.m.h:=zon_at hwh.2.1 hx
 have c1:=t233 hC b.m (unOf s u).at_ hm.1 hm.2 (by omega)
 have c2:=fun(d:Nat) (hd:d<6)=>t210 hC b.m (unOf s u).at_ d hm.1 hm.2 (by omega) (by omega)
 have hnb:=fun(d:Nat)=>nextM_bnd (m:=b.m) (i:=(unOf s u).at_) (d:=d) hm.1 hm.2
 have c3:=fun to ht=>t242 hC b s u to h hu ht hb
 have c4:=fun to h0=>t233 hC b.m to hm.1 hm.2 h0
 have c5:=fun(i k:Int) h1 h2=>t243 hC (i.tmod b.m.w) (i.tdiv b.m.w) (k.tmod b.m.w) (k.tdiv b.m.w) h1 h2
 have c6:Ev C 241 [.sl []] (.ow 1 []):=t241 hC [] (by simp)
 have r1:=fun i d hp0 n p hpn hp hs hbl o L ho hop hon hs2 hg hL=>rFr1 hC b s u i d hp0 n p h hu ha hb hpn hp hs hbl o L ho hop hon hs2 hg hL
 have r0:=fun i d hp0 n p hpn hp hs hbl o L ho hop hon hs2 hg hL=>rFr0 hC b s u i d hp0 n p h hu ha hb hpn hp hs hbl o L ho hop hon hs2 hg hL
 have hsu:=retL_succ b s u
 have hle:=retL_le b s u
 have p1:=fun j=>retP_back (b:=b) (s:=s) (u:=u) (j:=j)
 have p2:=fun j=>retP_dist (b:=b) (s:=s) (u:=u) (j:=j)
 have p3:=fun j=>retP_room (b:=b) (s:=s) (u:=u) (j:=j)
 have p4: ∀j:Nat,backB b s u (nextM b.m (unOf s u).at_ j)=true→dHH b (unOf s u).at_ (nextM b.m (unOf s u).at_ j)=dHH b (unOf s u).at_ (unOf s u).at_+1→decide (0<roomR b s (unOf s u).sd (nextM b.m (unOf s u).at_ j))=true→retP b s u j=true:=fun j h1 h2 h3=>by simp only[retP,h1,decide_eq_true h2,h3,Bool.and_self]
 have hR0:retL b s u 0=[]:=rfl
 generalize retL b s u=RL at *
 generalize retP b s u=RP at *
 generalize hX:unOf s u=x at *
 simp only[brdF,rulF,mpF,List.cons_append,List.nil_append,staF,unA] at *
 refine Closed.rT hC Q235 ?_
 simp only[c235,e0,uns_length,push_cast,↓J1,↓J2,N1,N2,N3,reduceCtorEq,N4,N5,N6,reduceIte,N7,I1,I2,I3]
 refine⟨by omega,?_⟩
 refine cutF (fun s'=> ∃l,s'=⟨tb 90 (.con undef) l,[(5,.var [.int .i64 (x.at_.tmod b.m.w),.int .i64 (x.at_.tdiv b.m.w)]),(4,.var [.int .i64 s.t,.int .i64 s.w,.sl (uns s.us)]),(3,.var [.sl (tersF b.r.ts),.sl (kins b.r.ks),.int .i64 b.r.stack,.int .i64 b.r.river,.int .i64 b.r.road,.int .i64 b.r.supply,.int .i64 b.r.turns,.int .i64 b.m.w,.int .i64 b.m.h,.sl (ints b.m.t),.sl (ints b.m.ri),.sl (ints b.m.ro)]),(2,.slice 1 []),(1,.var [.int .i64 s.t,.int .i64 s.w,.sl (uns s.us)]),(0,.var [.sl (tersF b.r.ts),.sl (kins b.r.ks),.int .i64 b.r.stack,.int .i64 b.r.river,.int .i64 b.r.road,.int .i64 b.r.supply,.int .i64 b.r.turns,.int .i64 b.m.w,.int .i64 b.m.h,.sl (ints b.m.t),.sl (ints b.m.ri),.sl (ints b.m.ro)])],6⟩∧lk (.con undef) l 2= .int .i64 u∧lk (.con undef) l 3= .int .i64 x.at_∧lk (.con undef) l 4= .int .i64 1∧lk (.con undef) l 5= .ref 2 none 1 0 0∧lk (.con undef) l 7= .ptr 3 none 0 0 0∧lk (.con undef) l 8= .ptr 4 none 0 0 0∧lk (.con undef) l 15= .ptr 5 none 0 0 0∧lk (.con undef) l 6= .nil) (fun K F hK=>?_) ?_
 ·repeat' (first
  | simp only[R_fork,push_cast,↓J1,↓J2,N1,N2,N3,reduceCtorEq,N4,N5,N6,reduceIte,N7,I1,I2,I3]
  | refine⟨_,c1,?_⟩
  | refine ifB_intro (fun h=>?_) (fun h=>?_)
  | refine And.intro ?_ ?_)
  all_goals exact hK _ ⟨_,rfl,rfl,rfl,rfl,rfl,rfl,rfl,rfl,rfl⟩
 rintro _ ⟨l,rfl,L2,L3,L4,L5,L7,L8,L15,L6⟩
 simp only[L4,Int.reduceEq,decide_false,push_cast,↓J1,↓J2,N1,N2,N3,reduceCtorEq,N4,N5,N6,reduceIte,N7,I1,I2,I3]
 refine RL_count (fun j=>⟨tb 90 .any [(6,.ref 6 none 1 0 (RL j).length),(2,.int .i64 u),(3,.int .i64 x.at_),(4,.int .i64 1),(5,.ref 2 none 1 0 0),(7,.ptr 3 none 0 0 0),(8,.ptr 4 none 0 0 0),(15,.ptr 5 none 0 0 0),(46,.int .i64 (j:Int))],(6,.slice 1 (owss (retW (RL j))))::[(5,.var [.int .i64 (x.at_.tmod b.m.w),.int .i64 (x.at_.tdiv b.m.w)]),(4,.var [.int .i64 s.t,.int .i64 s.w,.sl (uns s.us)]),(3,.var [.sl (tersF b.r.ts),.sl (kins b.r.ks),.int .i64 b.r.stack,.int .i64 b.r.river,.int .i64 b.r.road,.int .i64 b.r.supply,.int .i64 b.r.turns,.int .i64 b.m.w,.int .i64 b.m.h,.sl (ints b.m.t),.sl (ints b.m.ri),.sl (ints b.m.ro)]),(2,.slice 1 []),(1,.var [.int .i64 s.t,.int .i64 s.w,.sl (uns s.us)]),(0,.var [.sl (tersF b.r.ts),.sl (kins b.r.ks),.int .i64 b.r.stack,.int .i64 b.r.river,.int .i64 b.r.road,.int .i64 b.r.supply,.int .i64 b.r.turns,.int .i64 b.m.w,.int .i64 b.m.h,.sl (ints b.m.t),.sl (ints b.m.ri),.sl (ints b.m.ro)])],7⟩) (fun _=>True) 6 0 (by rw[hR0];exact(hdO 6 6 1 [(5,5),(4,4),(3,3)] (hk:=by simp only[keptV_cons,keptV_nil,tb_get,lk_same,lk_ne,lk_nil,ren,renL,lkp,N7,N1,N5,reduceIte,and_true,true_and,Nat.not_lt_zero,if_false,if_true,Nat.add_zero,Nat.zero_add,L6]) (hV:=by simp only[keptV_cons,keptV_nil,tb_get,lk_same,lk_ne,lk_nil,ren,renL,lkp,N7,N1,N5,reduceIte,and_true,true_and,Nat.not_lt_zero,if_false,if_true,Nat.add_zero,Nat.zero_add,L2,L3,L4,L5,L7,L8,L15];and_intros<;>rfl))) (by omega) trivial fun j hj _ J hJ=>?_
 have hsu:=hsu j
 have hlj:=hle j
 by_cases h1:j<6
 ·have hJ1:=hJ h1 trivial
  clear hJ
  have wz:IntKind.i64.wrap (1-1)=0:=rfl
  have hlt:decide ((j:Int)<6)=true:=decide_eq_true (by omega)
  have c2:=c2 j h1
  have hnb:=hnb j
  have c3:=c3 _ hnb
  have p1:=p1 j
  have p2:=p2 j
  have p3:=p3 j
  have p4:=p4 j
  clear c1
  have c1:=c4 x.at_ (by omega)
  have c4:=c4 (nextM b.m x.at_ j)
  have b0:=hex_bnd (i:=x.at_) hm.1 (by omega)
  have c51:=c5 x.at_ x.at_ b0 b0
  have c52:=c5 x.at_ (nextM b.m x.at_ j) b0
  have b1:=hex_bnd (i:=nextM b.m x.at_ j) hm.1
  have w5:IntKind.i64.wrap (dHH b x.at_ x.at_+1)=dHH b x.at_ x.at_+1:=by
   have:dHH b x.at_ x.at_=0:=by simp[dHH,distI,absI]
   rw[this];exact wrap64 (by omega) (by omega)
  simp only[dHH] at *
  generalize nextM b.m x.at_ j=to at *
  cases g1:backB b s u to
  ·rw[p1 g1,if_neg Bool.false_ne_true] at hsu
   rw[hsu] at hJ1
   rw[g1] at c3
   repeat' (first
  | simp only[hlt,push_cast,↓J1,↓J2,N1,N2,N3,reduceCtorEq,N4,N5,N6,reduceIte,N7,I1,I2,I3]
  | refine⟨_,c2,?_⟩
  | refine⟨_,c3,?_⟩
  | refine ifB_intro (fun h=>?_) (fun h=>?_)
  | refine And.intro ?_ ?_)
   exact hJ1 _ (hdA [(6,6),(5,5),(4,4),(3,3)])
  have h0:0≤to:=by
   simp only[backB,Bool.and_eq_true,decide_eq_true_eq] at g1
   exact g1.1
  rw[g1] at c3
  have c4:=c4 (by omega)
  have c52:=c52 (b1 (by omega))
  cases g2:decide (distI (x.at_.tmod b.m.w) (x.at_.tdiv b.m.w) (to.tmod b.m.w) (to.tdiv b.m.w)=distI (x.at_.tmod b.m.w) (x.at_.tdiv b.m.w) (x.at_.tmod b.m.w) (x.at_.tdiv b.m.w)+1)
  ·rw[p2 g2,if_neg Bool.false_ne_true] at hsu
   rw[hsu] at hJ1
   repeat' (first
  | simp only[hlt,g2,w5,push_cast,↓J1,↓J2,N1,N2,N3,reduceCtorEq,N4,N5,N6,reduceIte,N7,I1,I2,I3]
  | refine⟨_,c2,?_⟩
  | refine⟨_,c3,?_⟩
  | refine⟨_,c4,?_⟩
  | refine⟨_,c51,?_⟩
  | refine⟨_,c52,?_⟩
  | refine⟨_,c1,?_⟩
  | refine ifB_intro (fun h=>?_) (fun h=>?_)
  | refine And.intro ?_ ?_)
   exact hJ1 _ (hdA [(6,6),(5,5),(4,4),(3,3)])
  have hL:(retW (RL j)).length=(RL j).length:=retW_len _
  have r1:=fun i d hp0 n p hpn hp hs hbl o ho hop hon hs2 hg=>r1 i d hp0 n p hpn hp hs hbl o (retW (RL j)) ho hop hon hs2 hg (by omega)
  have r0:=fun i d hp0 n p hpn hp hs hbl o ho hop hon hs2 hg=>r0 i d hp0 n p hpn hp hs hbl o (retW (RL j)) ho hop hon hs2 hg (by omega)
  simp only[hL] at r1 r0
  have hsH:solid ((6,.slice 1 (owss (retW (RL j))))::[(5,.var [.int .i64 (x.at_.tmod b.m.w),.int .i64 (x.at_.tdiv b.m.w)]),(4,.var [.int .i64 s.t,.int .i64 s.w,.sl (uns s.us)]),(3,.var [.sl (tersF b.r.ts),.sl (kins b.r.ks),.int .i64 b.r.stack,.int .i64 b.r.river,.int .i64 b.r.road,.int .i64 b.r.supply,.int .i64 b.r.turns,.int .i64 b.m.w,.int .i64 b.m.h,.sl (ints b.m.t),.sl (ints b.m.ri),.sl (ints b.m.ro)]),(2,.slice 1 []),(1,.var [.int .i64 s.t,.int .i64 s.w,.sl (uns s.us)]),(0,.var [.sl (tersF b.r.ts),.sl (kins b.r.ks),.int .i64 b.r.stack,.int .i64 b.r.river,.int .i64 b.r.road,.int .i64 b.r.supply,.int .i64 b.r.turns,.int .i64 b.m.w,.int .i64 b.m.h,.sl (ints b.m.t),.sl (ints b.m.ri),.sl (ints b.m.ro)])]):=by simp[solid,killH,killL,killS]
  have hbH:below 7 ((6,.slice 1 (owss (retW (RL j))))::[(5,.var [.int .i64 (x.at_.tmod b.m.w),.int .i64 (x.at_.tdiv b.m.w)]),(4,.var [.int .i64 s.t,.int .i64 s.w,.sl (uns s.us)]),(3,.var [.sl (tersF b.r.ts),.sl (kins b.r.ks),.int .i64 b.r.stack,.int .i64 b.r.river,.int .i64 b.r.road,.int .i64 b.r.supply,.int .i64 b.r.turns,.int .i64 b.m.w,.int .i64 b.m.h,.sl (ints b.m.t),.sl (ints b.m.ri),.sl (ints b.m.ro)]),(2,.slice 1 []),(1,.var [.int .i64 s.t,.int .i64 s.w,.sl (uns s.us)]),(0,.var [.sl (tersF b.r.ts),.sl (kins b.r.ks),.int .i64 b.r.stack,.int .i64 b.r.river,.int .i64 b.r.road,.int .i64 b.r.supply,.int .i64 b.r.turns,.int .i64 b.m.w,.int .i64 b.m.h,.sl (ints b.m.t),.sl (ints b.m.ri),.sl (ints b.m.ro)])]):=by simp[below,canB,renO,ren,renL,lkp]
  cases g3:decide (0<roomR b s x.sd to)
  ·rw[p3 g3,if_neg Bool.false_ne_true] at hsu
   rw[hsu] at hJ1
   repeat' (first
  | simp only[hlt,g2,w5,wz,push_cast,↓J1,↓J2,N1,N2,N3,reduceCtorEq,N4,N5,N6,reduceIte,N7,I1,I2,I3]
  | refine⟨_,c2,?_⟩
  | refine⟨_,c3,?_⟩
  | refine⟨_,c4,?_⟩
  | refine⟨_,c51,?_⟩
  | refine⟨_,c52,?_⟩
  | refine⟨_,c1,?_⟩
  | refine ifB_intro (fun h=>?_) (fun h=>?_))
   refine cutF (fun s'=> ∃l h m ρ,s'=⟨tb 90 .any l,h,m⟩∧rhoOk 3 ρ [] 7=true∧lk .any l 46= .int .i64 (j:Int)∧keptV 3 ρ (tb 90 .any l) [(6,.ref 6 none 1 0 (RL j).length),(2,.int .i64 u),(3,.int .i64 x.at_),(4,.int .i64 1),(5,.ref 2 none 1 0 0),(7,.ptr 3 none 0 0 0),(8,.ptr 4 none 0 0 0),(15,.ptr 5 none 0 0 0)]∧canR 3 ρ h ρ++canB 3 ρ h=(6,.slice 1 (owss (retW (RL j))))::[(5,.var [.int .i64 (x.at_.tmod b.m.w),.int .i64 (x.at_.tdiv b.m.w)]),(4,.var [.int .i64 s.t,.int .i64 s.w,.sl (uns s.us)]),(3,.var [.sl (tersF b.r.ts),.sl (kins b.r.ks),.int .i64 b.r.stack,.int .i64 b.r.river,.int .i64 b.r.road,.int .i64 b.r.supply,.int .i64 b.r.turns,.int .i64 b.m.w,.int .i64 b.m.h,.sl (ints b.m.t),.sl (ints b.m.ri),.sl (ints b.m.ro)]),(2,.slice 1 []),(1,.var [.int .i64 s.t,.int .i64 s.w,.sl (uns s.us)]),(0,.var [.sl (tersF b.r.ts),.sl (kins b.r.ks),.int .i64 b.r.stack,.int .i64 b.r.river,.int .i64 b.r.road,.int .i64 b.r.supply,.int .i64 b.r.turns,.int .i64 b.m.w,.int .i64 b.m.h,.sl (ints b.m.t),.sl (ints b.m.ri),.sl (ints b.m.ro)])]) (fun K F hK=>?_) ?_
   ·clear hJ1
    repeat' (first
  | simp only[R_fork,push_cast,↓J1,↓J2,N1,N2,N3,reduceCtorEq,N4,N5,N6,reduceIte,N7,I1,I2,I3]
  | refine⟨_,c6,?_⟩
  | (refine⟨_,r0 _ _ _ _ 9 (by omega) rfl (solid_sl (solid_sl hsH)) (below_sl (by omega) (below_sl (by omega) (below_le hbH (by omega)))) 6 rfl (by omega) (by omega) (solid_hdel (solid_sl (solid_sl hsH))) g3,?_⟩;rintro v a m ⟨rfl,rfl,rfl⟩ _)
  | refine ifB_intro (fun h=>?_) (fun h=>?_)
  | refine And.intro ?_ ?_)
    all_goals
     refine hK _ ⟨_,_,_,[(6,6),(5,5),(4,4),(3,3)],rfl,rfl,rfl,?_,?_⟩
     ·simp only[keptV_cons,keptV_nil,tb_get,lk_same,lk_ne,lk_nil,ren,renL,lkp,N7,N1,N5,reduceIte,and_true,true_and,Nat.not_lt_zero,if_false,if_true,Nat.add_zero,Nat.zero_add]
     ·simp only[canR,canB,renO,renL,ren,lkp,hget,N7,N5,Nat.not_lt_zero,if_false,if_true,reduceIte,List.append_nil,List.nil_append,hget]
      rfl
   rintro _ ⟨l,h,m,ρ,rfl,hρ,L46,hV,hH⟩
   simp only[L46,push_cast,↓J1,↓J2,N1,N2,N3,reduceCtorEq,N4,N5,N6,reduceIte,N7,I1,I2,I3]
   refine hJ1 _ (head_tb ρ hρ ?_ hH)
   simp only[keptV_cons,keptV_nil,tb_get,lk_same,lk_ne,ren,N7,N1,and_true] at hV⊢
   rw[wrap64 (by omega) (by omega)]
   simp only[hV,true_and]
   rfl
  rw[p4 g1 (of_decide_eq_true g2) g3,if_pos rfl] at hsu
  rw[hsu] at hJ1
  have eW:retW (RL j++[(j:Int)])=retW (RL j)++[[(j:Int)]]:=by simp[retW]
  rw[eW,List.length_append,List.length_singleton] at hJ1
  repeat' (first
  | simp only[hlt,g2,w5,wz,push_cast,↓J1,↓J2,N1,N2,N3,reduceCtorEq,N4,N5,N6,reduceIte,N7,I1,I2,I3]
  | refine⟨_,c2,?_⟩
  | refine⟨_,c3,?_⟩
  | refine⟨_,c4,?_⟩
  | refine⟨_,c51,?_⟩
  | refine⟨_,c52,?_⟩
  | refine⟨_,c1,?_⟩
  | refine ifB_intro (fun h=>?_) (fun h=>?_))
  refine cutF (fun s'=> ∃l h m ρ,s'=⟨tb 90 .any l,h,m⟩∧rhoOk 3 ρ [] 7=true∧lk .any l 46= .int .i64 (j:Int)∧keptV 3 ρ (tb 90 .any l) [(6,.ref 6 none 1 0 ((RL j).length+1)),(2,.int .i64 u),(3,.int .i64 x.at_),(4,.int .i64 1),(5,.ref 2 none 1 0 0),(7,.ptr 3 none 0 0 0),(8,.ptr 4 none 0 0 0),(15,.ptr 5 none 0 0 0)]∧canR 3 ρ h ρ++canB 3 ρ h=(6,.slice 1 (owss (retW (RL j)++[[(j:Int)]])))::[(5,.var [.int .i64 (x.at_.tmod b.m.w),.int .i64 (x.at_.tdiv b.m.w)]),(4,.var [.int .i64 s.t,.int .i64 s.w,.sl (uns s.us)]),(3,.var [.sl (tersF b.r.ts),.sl (kins b.r.ks),.int .i64 b.r.stack,.int .i64 b.r.river,.int .i64 b.r.road,.int .i64 b.r.supply,.int .i64 b.r.turns,.int .i64 b.m.w,.int .i64 b.m.h,.sl (ints b.m.t),.sl (ints b.m.ri),.sl (ints b.m.ro)]),(2,.slice 1 []),(1,.var [.int .i64 s.t,.int .i64 s.w,.sl (uns s.us)]),(0,.var [.sl (tersF b.r.ts),.sl (kins b.r.ks),.int .i64 b.r.stack,.int .i64 b.r.river,.int .i64 b.r.road,.int .i64 b.r.supply,.int .i64 b.r.turns,.int .i64 b.m.w,.int .i64 b.m.h,.sl (ints b.m.t),.sl (ints b.m.ri),.sl (ints b.m.ro)])]) (fun K F hK=>?_) ?_
  ·clear hJ1
   repeat' (first
  | simp only[R_fork,push_cast,↓J1,↓J2,N1,N2,N3,reduceCtorEq,N4,N5,N6,reduceIte,N7,I1,I2,I3]
  | refine⟨_,c6,?_⟩
  | (refine⟨_,r1 _ _ _ _ 9 (by omega) rfl (solid_sl (solid_sl hsH)) (below_sl (by omega) (below_sl (by omega) (below_le hbH (by omega)))) 6 rfl (by omega) (by omega) (solid_hdel (solid_sl (solid_sl hsH))) g3,?_⟩;rintro v a m ⟨rfl,rfl,rfl⟩ _)
  | refine ifB_intro (fun h=>?_) (fun h=>?_)
  | refine And.intro ?_ ?_)
   all_goals
    refine hK _ ⟨_,_,_,[(15,6),(5,5),(4,4),(3,3)],rfl,rfl,rfl,?_,?_⟩
    ·simp only[keptV_cons,keptV_nil,tb_get,lk_same,lk_ne,lk_nil,ren,renL,lkp,N7,N1,N5,reduceIte,and_true,true_and,Nat.not_lt_zero,if_false,if_true,Nat.add_zero,Nat.zero_add]
    ·simp only[canR,canB,renO,renL,ren,lkp,hget,N7,N5,Nat.not_lt_zero,if_false,if_true,reduceIte,List.append_nil,List.nil_append,hget]
     rfl
  rintro _ ⟨l,h,m,ρ,rfl,hρ,L46,hV,hH⟩
  simp only[L46,push_cast,↓J1,↓J2,N1,N2,N3,reduceCtorEq,N4,N5,N6,reduceIte,N7,I1,I2,I3]
  refine hJ1 _ (head_tb ρ hρ ?_ hH)
  simp only[keptV_cons,keptV_nil,tb_get,lk_same,lk_ne,ren,N7,N1,and_true] at hV⊢
  rw[wrap64 (by omega) (by omega)]
  simp only[hV,true_and]
  rfl
 ·have hlt:decide ((j:Int)<6)=false:=decide_eq_false (by omega)
  have hj6:j=6:=by omega
  simp only[hlt,push_cast,↓J1,↓J2,N1,N2,N3,reduceCtorEq,N4,N5,N6,reduceIte,N7,I1,I2,I3]
  rw[hj6]
  exact⟨rfl,rfl⟩
end
end Go.Proofs.YtlkcpadkjepchaaGreatDoor.X
set_option maxHeartbeats 4000000
set_option maxRecDepth 8000
set_option linter.unusedSimpArgs false
set_option linter.unusedVariables false
open Nat renaming reduceBEq→N1,reduceAdd→N2,reduceSub→N3,reduceMul→N4,reduceEqDiff→N5,reduceLeDiff→N6,reduceLT→N7
open Int renaming reduceLE→I1,reduceLT→I2,reduceToNat→I3
namespace Go.Proofs.YtlkcpadkjepchaaGreatDoor.X
open Go
attribute [local irreducible] Ev
attribute [-push_cast] R_fork
section
variable{C:CT}(hC:Closed Tryz.prog G1 md0 C)
include hC
theorem t238n:Ev C 238 [.nil] (.ow 1 []):=by
 refine rT hC Q238 ?_
 simp only[c238,push_cast,↓J1,↓J2,N1,N2,N3,reduceCtorEq,N4,N5,N6,reduceIte,N7,I1,I2,I3]
 exact⟨_,_,by simp only[conR,conRL,isF,hget,hdel,List.drop_zero,List.take_zero,List.take_nil,if_true,if_false,reduceIte,N5];rfl,by simp[NilTo,NilToLL]⟩
theorem gP0(b:Brd)(s:Sta)(u i d:Int)(h:staOk b s=true)(hu:0≤u∧u<(s.us.length:Int))(hi:0≤i):Ev C 223 [brdF b,.agg (staF s),.int .i64 u,.int .i64 i,.int .i64 0,.sl [[.int .i64 d]]] (.ow 1 (if decide (0<roomR b s (unOf s u).sd i) then[[.ow 1 [[.int .i64 d]]]] else[])):=by
 have hm:=mp_wh (brd_mp (sta_brd h))
 have hwh:=brd_wh (sta_brd h)
 have hlen:=sta_len h
 have e0:=uns_int hu
 have hx:=un_int h hu
 have hsd:=un_sd hx
 have hr:=brd_ru (sta_brd h)
 simp only[rulOk,tailOk,inR,Bool.and_eq_true,decide_eq_true_eq] at hr
 have c1:=t203 hC b s (unOf s u).sd i h hsd hi
 have c2:Ev C 238 [.sl [[.int .i64 d]]] (.ow 1 [[.int .i64 d]]):=t238o hC [d] (by simp)
 generalize decide (0<roomR b s (unOf s u).sd i)=R at *
 generalize unOf s u=x at *
 simp only[brdF,rulF,mpF,List.cons_append,List.nil_append,staF,unA] at *
 have ho:ownR (.ow 1 (if R then[[.ow 1 [[.int .i64 d]]]] else[]))=true:=by cases R<;>rfl
 refine rT hC Q223 ?_ (ho)
 simp only[c223,e0,uns_length,push_cast,↓J1,↓J2,N1,N2,N3,reduceCtorEq,N4,N5,N6,reduceIte,N7,I1,I2,I3]
 repeat (refine⟨by omega,?_⟩)
 refine⟨_,c1,?_⟩
 cases R
 ·simp only[push_cast,↓J1,↓J2,N1,N2,N3,reduceCtorEq,N4,N5,N6,reduceIte,N7,I1,I2,I3]
  exact⟨.nil,_,by simp only[conR,isF];rfl,by simp[NilTo]⟩
 ·simp only[push_cast,↓J1,↓J2,N1,N2,N3,reduceCtorEq,N4,N5,N6,reduceIte,N7,I1,I2,I3]
  refine⟨_,c2,?_⟩
  simp only[push_cast,↓J1,↓J2,N1,N2,N3,reduceCtorEq,N4,N5,N6,reduceIte,N7,I1,I2,I3]
  exact RetTo_of (by simp only[conR,conRL,conL,conC,isF,hget,hdel,List.drop_zero,List.take_length,List.take_succ_cons,List.take_zero,if_true,if_false,reduceIte,N5,reduceCtorEq];rfl)
theorem gP1(b:Brd)(s:Sta)(u:Int)(h:staOk b s=true)(hu:0≤u∧u<(s.us.length:Int))(ha:0≤(unOf s u).at_)(hb:BrdB (2^50) b):Ev C 223 [brdF b,.agg (staF s),.int .i64 u,.int .i64 (unOf s u).at_,.int .i64 1,.nil] (.ow 1 (owss (retW (retL b s u 6)))):=by
 have hm:=mp_wh (brd_mp (sta_brd h))
 have hwh:=brd_wh (sta_brd h)
 have hlen:=sta_len h
 have e0:=uns_int hu
 have hx:=un_int h hu
 have hsd:=un_sd hx
 have hr:=brd_ru (sta_brd h)
 simp only[rulOk,tailOk,inR,Bool.and_eq_true,decide_eq_true_eq] at hr
 have hat:(unOf s u).at_<b.m.w*b.m.h:=zon_at hwh.2.1 hx
 have c2:=fun(d:Nat) (hd:d<6)=>t142 hC b.m (unOf s u).at_ d hm.1 hm.2 (by omega) (by omega)
 have hnb:=fun(d:Nat)=>nextM_bnd (m:=b.m) (i:=(unOf s u).at_) (d:=d) hm.1 hm.2
 have c3:=fun(d:Nat) (hd:d<6)=>t239 hC b s u (unOf s u).at_ d h hu (by omega) hd hb
 have c4:=fun to h0=>t191 hC b.m to hm.1 hm.2 h0
 have c5:=fun(i k:Int) h1 h2=>t240 hC (i.tmod b.m.w) (i.tdiv b.m.w) (k.tmod b.m.w) (k.tdiv b.m.w) h1 h2
 have c6:=t238n hC
 have g0:=fun i d hi=>gP0 hC b s u i d h hu hi
 have hsu:=retL_succ b s u
 have hle:=retL_le b s u
 have p1:=fun j=>retP_back (b:=b) (s:=s) (u:=u) (j:=j)
 have p2:=fun j=>retP_dist (b:=b) (s:=s) (u:=u) (j:=j)
 have p3:=fun j=>retP_room (b:=b) (s:=s) (u:=u) (j:=j)
 have p4: ∀j:Nat,backB b s u (nextM b.m (unOf s u).at_ j)=true→dHH b (unOf s u).at_ (nextM b.m (unOf s u).at_ j)=dHH b (unOf s u).at_ (unOf s u).at_+1→decide (0<roomR b s (unOf s u).sd (nextM b.m (unOf s u).at_ j))=true→retP b s u j=true:=fun j h1 h2 h3=>by simp only[retP,h1,decide_eq_true h2,h3,Bool.and_self]
 have hR0:retL b s u 0=[]:=rfl
 have ho:=own_owss (retW (retL b s u 6))
 generalize retL b s u=RL at *
 generalize retP b s u=RP at *
 generalize hX:unOf s u=x at *
 simp only[brdF,rulF,mpF,List.cons_append,List.nil_append,staF,unA] at *
 refine rT hC Q223 ?_ (by simpa only[ownR] using ho)
 simp only[c223,e0,uns_length,push_cast,↓J1,↓J2,N1,N2,N3,reduceCtorEq,N4,N5,N6,reduceIte,N7,I1,I2,I3]
 repeat (refine⟨by omega,?_⟩)
 simp only[Int.reduceEq,decide_false,push_cast,↓J1,↓J2,N1,N2,N3,reduceCtorEq,N4,N5,N6,reduceIte,N7,I1,I2,I3]
 refine RL_count (fun j=>⟨tb 84 .any [(14,.ref 3 none 1 0 (RL j).length),(2,.int .i64 u),(3,.int .i64 x.at_),(4,.int .i64 1),(5,.nil),(6,.ptr 0 none 0 0 0),(7,.ptr 1 none 0 0 0),(13,.ptr 2 none 0 0 0),(15,.int .i64 (j:Int))],(3,.slice 1 (owss (retW (RL j))))::[(2,.var [.int .i64 x.sd,.int .i64 x.k,.int .i64 x.at_,.int .i64 x.st]),(1,.var [.int .i64 s.t,.int .i64 s.w,.sl (uns s.us)]),(0,.var [.sl (tersF b.r.ts),.sl (kins b.r.ks),.int .i64 b.r.stack,.int .i64 b.r.river,.int .i64 b.r.road,.int .i64 b.r.supply,.int .i64 b.r.turns,.int .i64 b.m.w,.int .i64 b.m.h,.sl (ints b.m.t),.sl (ints b.m.ri),.sl (ints b.m.ro)])],4⟩) (fun _=>True) 6 0 (by rw[hR0];exact(hdO 14 3 1 [(2,2),(1,1),(0,0)])) (by omega) trivial fun j hj _ J hJ=>?_
 have hsu:=hsu j
 have hlj:=hle j
 have hL:(retW (RL j)).length=(RL j).length:=retW_len _
 have tko:List.take (RL j).length (owss (retW (RL j)))=owss (retW (RL j)):=List.take_of_length_le (by rw[owss_length];omega)
 by_cases h1:j<6
 ·have hJ1:=hJ h1 trivial
  clear hJ
  have wz:IntKind.i64.wrap (1-1)=0:=rfl
  have hlt:decide ((j:Int)<6)=true:=decide_eq_true (by omega)
  have c2:=c2 j h1
  have hnb:=hnb j
  have c3:=c3 j h1
  have p1:=p1 j
  have p2:=p2 j
  have p3:=p3 j
  have p4:=p4 j
  have c1:=c4 x.at_ (by omega)
  have c4:=c4 (nextM b.m x.at_ j)
  have b0:=hex_bnd (i:=x.at_) hm.1 (by omega)
  have c51:=c5 x.at_ x.at_ b0 b0
  have c52:=c5 x.at_ (nextM b.m x.at_ j) b0
  have b1:=hex_bnd (i:=nextM b.m x.at_ j) hm.1
  have w5:IntKind.i64.wrap (dHH b x.at_ x.at_+1)=dHH b x.at_ x.at_+1:=by
   have:dHH b x.at_ x.at_=0:=by simp[dHH,distI,absI]
   rw[this];exact wrap64 (by omega) (by omega)
  simp only[dHH] at *
  generalize nextM b.m x.at_ j=to at *
  cases g1:backB b s u to
  ·rw[p1 g1,if_neg Bool.false_ne_true] at hsu
   rw[hsu] at hJ1
   rw[g1] at c3
   repeat' (first
  | simp only[hlt,push_cast,↓J1,↓J2,N1,N2,N3,reduceCtorEq,N4,N5,N6,reduceIte,N7,I1,I2,I3]
  | refine⟨_,c3,?_⟩
  | refine ifB_intro (fun h=>?_) (fun h=>?_)
  | refine And.intro ?_ ?_)
   exact hJ1 _ (hdA [(3,3),(2,2),(1,1),(0,0)])
  have h0:0≤to:=by
   simp only[backB,Bool.and_eq_true,decide_eq_true_eq] at g1
   exact g1.1
  rw[g1] at c3
  have c4:=c4 (by omega)
  have c52:=c52 (b1 (by omega))
  cases g2:decide (distI (x.at_.tmod b.m.w) (x.at_.tdiv b.m.w) (to.tmod b.m.w) (to.tdiv b.m.w)=distI (x.at_.tmod b.m.w) (x.at_.tdiv b.m.w) (x.at_.tmod b.m.w) (x.at_.tdiv b.m.w)+1)
  ·rw[p2 g2,if_neg Bool.false_ne_true] at hsu
   rw[hsu] at hJ1
   repeat' (first
  | simp only[hlt,g2,w5,push_cast,↓J1,↓J2,N1,N2,N3,reduceCtorEq,N4,N5,N6,reduceIte,N7,I1,I2,I3]
  | refine⟨_,c2,?_⟩
  | refine⟨_,c3,?_⟩
  | refine⟨_,c4,?_⟩
  | refine⟨_,c51,?_⟩
  | refine⟨_,c52,?_⟩
  | refine⟨_,c1,?_⟩
  | refine ifB_intro (fun h=>?_) (fun h=>?_)
  | refine And.intro ?_ ?_)
   exact hJ1 _ (hdA [(3,3),(2,2),(1,1),(0,0)])
  have isNs: ∀l:List (List AV),allScs [[AV.ow 1 l]]=false:=fun _=>rfl
  have hsc:allScs []=true:=rfl
  have g0:=g0 to (j:Int) h0
  cases g3:decide (0<roomR b s x.sd to)
  ·rw[p3 g3,if_neg Bool.false_ne_true] at hsu
   rw[hsu] at hJ1
   rw[g3] at g0
   simp only[Bool.false_eq_true,if_false] at g0
   repeat' (first
  | simp only[hlt,g2,w5,wz,push_cast,↓J1,↓J2,N1,N2,N3,reduceCtorEq,N4,N5,N6,reduceIte,N7,I1,I2,I3]
  | refine⟨_,c2,?_⟩
  | refine⟨_,c3,?_⟩
  | refine⟨_,c4,?_⟩
  | refine⟨_,c51,?_⟩
  | refine⟨_,c52,?_⟩
  | refine⟨_,c1,?_⟩
  | refine ifB_intro (fun h=>?_) (fun h=>?_))
   refine cutF (fun s'=> ∃l h m ρ,s'=⟨tb 84 .any l,h,m⟩∧rhoOk 0 ρ [] 4=true∧lk .any l 15= .int .i64 (j:Int)∧keptV 0 ρ (tb 84 .any l) [(14,.ref 3 none 1 0 (RL j).length),(2,.int .i64 u),(3,.int .i64 x.at_),(4,.int .i64 1),(5,.nil),(6,.ptr 0 none 0 0 0),(7,.ptr 1 none 0 0 0),(13,.ptr 2 none 0 0 0)]∧canR 0 ρ h ρ++canB 0 ρ h=(3,.slice 1 (owss (retW (RL j))))::[(2,.var [.int .i64 x.sd,.int .i64 x.k,.int .i64 x.at_,.int .i64 x.st]),(1,.var [.int .i64 s.t,.int .i64 s.w,.sl (uns s.us)]),(0,.var [.sl (tersF b.r.ts),.sl (kins b.r.ks),.int .i64 b.r.stack,.int .i64 b.r.river,.int .i64 b.r.road,.int .i64 b.r.supply,.int .i64 b.r.turns,.int .i64 b.m.w,.int .i64 b.m.h,.sl (ints b.m.t),.sl (ints b.m.ri),.sl (ints b.m.ro)])]) (fun K F hK=>?_) ?_
   ·clear hJ1
    repeat' (first
  | simp only[R_fork,tko,owss_length,apYR_sc,apYR_ns,isNs,hL,hsc,push_cast,↓J1,↓J2,N1,N2,N3,reduceCtorEq,N4,N5,N6,reduceIte,N7,I1,I2,I3]
  | refine⟨_,c6,?_⟩
  | refine⟨_,g0,?_⟩
  | refine ifB_intro (fun h=>?_) (fun h=>?_)
  | refine And.intro ?_ ?_)
    all_goals first
     | omega
     | skip
    all_goals
     refine hK _ ⟨_,_,_,[(9,3),(2,2),(1,1),(0,0)],rfl,rfl,rfl,?_,?_⟩
     ·simp only[keptV_cons,keptV_nil,tb_get,lk_same,lk_ne,lk_nil,ren,renL,lkp,N7,N1,N5,reduceIte,and_true,true_and,Nat.not_lt_zero,if_false,if_true,Nat.add_zero,Nat.zero_add]
     ·simp only[canR,canB,renO,renL,ren,lkp,hget,N7,N5,Nat.not_lt_zero,if_false,if_true,reduceIte,List.append_nil,List.nil_append,hget]
   rintro _ ⟨l,h,m,ρ,rfl,hρ,L15,hV,hH⟩
   simp only[L15,push_cast,↓J1,↓J2,N1,N2,N3,reduceCtorEq,N4,N5,N6,reduceIte,N7,I1,I2,I3]
   refine hJ1 _ (head_tb ρ hρ ?_ hH)
   simp only[keptV_cons,keptV_nil,tb_get,lk_same,lk_ne,ren,N7,N1,and_true] at hV⊢
   rw[wrap64 (by omega) (by omega)]
   simp only[hV,true_and]
   rfl
  rw[p4 g1 (of_decide_eq_true g2) g3,if_pos rfl] at hsu
  rw[hsu] at hJ1
  rw[g3] at g0
  simp only[if_true] at g0
  have eW:retW (RL j++[(j:Int)])=retW (RL j)++[[(j:Int)]]:=by simp[retW]
  rw[eW,List.length_append,List.length_singleton] at hJ1
  repeat' (first
  | simp only[hlt,g2,w5,wz,push_cast,↓J1,↓J2,N1,N2,N3,reduceCtorEq,N4,N5,N6,reduceIte,N7,I1,I2,I3]
  | refine⟨_,c2,?_⟩
  | refine⟨_,c3,?_⟩
  | refine⟨_,c4,?_⟩
  | refine⟨_,c51,?_⟩
  | refine⟨_,c52,?_⟩
  | refine⟨_,c1,?_⟩
  | refine ifB_intro (fun h=>?_) (fun h=>?_))
  refine cutF (fun s'=> ∃l h m ρ,s'=⟨tb 84 .any l,h,m⟩∧rhoOk 0 ρ [] 4=true∧lk .any l 15= .int .i64 (j:Int)∧keptV 0 ρ (tb 84 .any l) [(14,.ref 3 none 1 0 ((RL j).length+1)),(2,.int .i64 u),(3,.int .i64 x.at_),(4,.int .i64 1),(5,.nil),(6,.ptr 0 none 0 0 0),(7,.ptr 1 none 0 0 0),(13,.ptr 2 none 0 0 0)]∧canR 0 ρ h ρ++canB 0 ρ h=(3,.slice 1 (owss (retW (RL j)++[[(j:Int)]])))::[(2,.var [.int .i64 x.sd,.int .i64 x.k,.int .i64 x.at_,.int .i64 x.st]),(1,.var [.int .i64 s.t,.int .i64 s.w,.sl (uns s.us)]),(0,.var [.sl (tersF b.r.ts),.sl (kins b.r.ks),.int .i64 b.r.stack,.int .i64 b.r.river,.int .i64 b.r.road,.int .i64 b.r.supply,.int .i64 b.r.turns,.int .i64 b.m.w,.int .i64 b.m.h,.sl (ints b.m.t),.sl (ints b.m.ri),.sl (ints b.m.ro)])]) (fun K F hK=>?_) ?_
  ·clear hJ1
   repeat' (first
  | simp only[R_fork,tko,owss_length,apYR_sc,apYR_ns,isNs,hL,hsc,push_cast,↓J1,↓J2,N1,N2,N3,reduceCtorEq,N4,N5,N6,reduceIte,N7,I1,I2,I3]
  | refine⟨_,c6,?_⟩
  | refine⟨_,g0,?_⟩
  | refine ifB_intro (fun h=>?_) (fun h=>?_)
  | refine And.intro ?_ ?_)
   all_goals first
    | omega
    | skip
   all_goals
    refine hK _ ⟨_,_,_,[(9,3),(2,2),(1,1),(0,0)],rfl,rfl,rfl,?_,?_⟩
    ·simp only[keptV_cons,keptV_nil,tb_get,lk_same,lk_ne,lk_nil,ren,renL,lkp,N7,N1,N5,reduceIte,and_true,true_and,Nat.not_lt_zero,if_false,if_true,Nat.add_zero,Nat.zero_add]
    ·simp only[canR,canB,renO,renL,ren,lkp,hget,N7,N5,Nat.not_lt_zero,if_false,if_true,reduceIte,List.append_nil,List.nil_append,hget]
     rw[←owss_app]
     rfl
  rintro _ ⟨l,h,m,ρ,rfl,hρ,L15,hV,hH⟩
  simp only[L15,push_cast,↓J1,↓J2,N1,N2,N3,reduceCtorEq,N4,N5,N6,reduceIte,N7,I1,I2,I3]
  refine hJ1 _ (head_tb ρ hρ ?_ hH)
  simp only[keptV_cons,keptV_nil,tb_get,lk_same,lk_ne,ren,N7,N1,and_true] at hV⊢
  rw[wrap64 (by omega) (by omega)]
  simp only[hV,true_and]
  rfl
 ·have hlt:decide ((j:Int)<6)=false:=decide_eq_false (by omega)
  have hj6:j=6:=by omega
  simp only[hlt,push_cast,↓J1,↓J2,N1,N2,N3,reduceCtorEq,N4,N5,N6,reduceIte,N7,I1,I2,I3]
  rw[hj6]
  exact RetTo_ow rfl (by rw[owss_length,retW_len])
end
end Go.Proofs.YtlkcpadkjepchaaGreatDoor.X
set_option maxHeartbeats 4000000
set_option maxRecDepth 8000
set_option linter.unusedSimpArgs false
set_option linter.unusedVariables false
open Nat renaming reduceBEq→N1,reduceAdd→N2,reduceSub→N3,reduceMul→N4,reduceEqDiff→N5,reduceLeDiff→N6,reduceLT→N7
open Int renaming reduceLE→I1,reduceLT→I2,reduceToNat→I3
namespace Go.Proofs.YtlkcpadkjepchaaGreatDoor.X
open Go
attribute [local irreducible] Ev
theorem okP_one{b:Brd}{s:Sta}{u:Int}{d:Nat}(h:retP b s u d=true):okP b.m (unOf s u).at_ [(d:Int)]=true∧hxs b.m (unOf s u).at_ [(d:Int)]=[nextM b.m (unOf s u).at_ d]:=by
 have e:hxs b.m (unOf s u).at_ [(d:Int)]=[nextM b.m (unOf s u).at_ d]:=by simp[hxs,hx]
 refine⟨?_,e⟩
 simp only[retP,backB,Bool.and_eq_true,decide_eq_true_eq] at h
 simp only[okP,e,List.all_cons,List.all_nil,Bool.and_true,decide_eq_true_eq]
 exact h.1.1
section
variable{C:CT}(hC:Closed Tryz.prog G1 md0 C)
include hC
theorem t214(b:Brd)(s:Sta)(u:Int)(h:staOk b s=true)(hu:0≤u∧u<(s.us.length:Int))(ha:0≤(unOf s u).at_)(hb:BrdB (2^50) b):Ev C 214 [brdF b,.agg (staF s),.int .i64 u,.int .i64 1] (.ow 1 (owss (retW (retL b s u 6)))):=by
 have e0:=uns_int hu
 have c1:=rF1 hC b s u h hu ha hb
 have ho:=own_owss (retW (retL b s u 6))
 have tk:List.take (retL b s u 6).length (owss (retW (retL b s u 6)))=owss (retW (retL b s u 6)):=List.take_of_length_le (by rw[owss_length,retW_len];omega)
 generalize retL b s u 6=L at *
 generalize unOf s u=x at *
 simp only[brdF,rulF,mpF,List.cons_append,List.nil_append,staF,unA] at *
 refine rT hC Q214 ?_ (by simpa only[ownR] using ho)
 simp only[c214,e0,uns_length,push_cast,↓J1,↓J2,N1,N2,N3,reduceCtorEq,N4,N5,N6,reduceIte,N7,I1,I2,I3]
 repeat (refine⟨by omega,?_⟩)
 refine⟨_,c1,?_⟩
 rintro v h' n' ⟨rfl,hg⟩ _
 have hgk:hget (killH h') 6=some (.slice 1 (owss (retW L))):=by rw[hget_kill,hg];rfl
 simp only[push_cast,↓J1,↓J2,N1,N2,N3,reduceCtorEq,N4,N5,N6,reduceIte,N7,I1,I2,I3]
 exact RetTo_of (by simp only[conR,conRL,hgk,List.drop_zero,tk,isF,if_true,if_false,reduceIte,N5,reduceCtorEq,owss_length,retW_len];rfl)
theorem t201(b:Brd)(s:Sta)(u:Int)(h:staOk b s=true)(hu:0≤u∧u<(s.us.length:Int))(ha:0≤(unOf s u).at_)(hb:BrdB (2^50) b):Ev C 201 [brdF b,.agg (staF s),.int .i64 u,.int .i64 1] (.ow 1 (owss (retW (retL b s u 6)))):=by
 have e0:=uns_int hu
 have c1:=gP1 hC b s u h hu ha hb
 have ho:=own_owss (retW (retL b s u 6))
 have tk:List.take (retL b s u 6).length (owss (retW (retL b s u 6)))=owss (retW (retL b s u 6)):=List.take_of_length_le (by rw[owss_length,retW_len];omega)
 generalize hL:retL b s u 6=L at *
 generalize unOf s u=x at *
 simp only[brdF,rulF,mpF,List.cons_append,List.nil_append,staF,unA] at *
 refine rT hC Q201 ?_ (by simpa only[ownR] using ho)
 simp only[c201,e0,uns_length,push_cast,↓J1,↓J2,N1,N2,N3,reduceCtorEq,N4,N5,N6,reduceIte,N7,I1,I2,I3]
 repeat (refine⟨by omega,?_⟩)
 refine⟨_,c1,?_⟩
 simp only[push_cast,↓J1,↓J2,N1,N2,N3,reduceCtorEq,N4,N5,N6,reduceIte,N7,I1,I2,I3]
 exact RetTo_of (by simp only[conR,conRL,hget,hdel,List.drop_zero,owss_length,retW_len,tk,isF,if_true,if_false,reduceIte,N5,reduceCtorEq];rfl)
theorem t179n(b:Brd)(s:Sta)(k:Nat)(h:staOk b s=true)(hk:k<s.us.length)(ha:0≤(unOf s k).at_)(hb:BrdB (2^50) b)(hL:retL b s k 6=[]):Ev C 179 [brdF b,.agg (staF s),.int .i64 (k:Int),.int .i64 1] (.tup [.agg (staO (retU b s k)),.bool (retB b s k)]):=by
 have hlen:=sta_len h
 have hm:=mp_wh (brd_mp (sta_brd h))
 have hwh:=brd_wh (sta_brd h)
 have hx:=un_int h (k:=(k:Int)) (by omega)
 have hat:(unOf s k).at_<b.m.w*b.m.h:=zon_at hwh.2.1 hx
 have e1:=usl_get hk
 have eu:s.us.getD k un0=unOf s k:=rfl
 have c1:=t69 hC s (by omega)
 have c2:=t214 hC b s k h (by omega) ha hb
 have h0:=red_un h (red_self h) hk
 have c3:=fun hp id n hg hb hs=>t177 hC s.t s.w s.us k hp id n hk (by omega) hg hb hs h0 1 (by omega)
 have tku: ∀us:List Un,us.length=s.us.length→List.take s.us.length (uns us)=uns us:=fun us h=>List.take_of_length_le (by rw[uns_length];omega)
 have ho:=own_uns (retU b s k).us
 have eU:retU b s k=⟨s.t,s.w,loseK s.us k 1⟩:=by simp only[retU,hL,Int.toNat_natCast]
 have eB:retB b s k=false:=by simp[retB,hL]
 rw[eU,eB]
 rw[hL] at c2
 have tk1:=tku (loseK s.us k 1) (loseK_len _ _ _)
 simp only[brdF,rulF,mpF,List.cons_append,List.nil_append,staF,staO,retW,owss,List.map_nil] at *
 refine rT hC Q179 ?_ (by simp only[ownR,ownRL,own_uns,Bool.and_true])
 simp only[c179,push_cast,↓J1,↓J2,N1,N2,N3,reduceCtorEq,N4,N5,N6,reduceIte,N7,I1,I2,I3]
 repeat' (first
  | simp only[uns_length,List.length_nil,push_cast,↓J1,↓J2,N1,N2,N3,reduceCtorEq,N4,N5,N6,reduceIte,N7,I1,I2,I3]
  | refine⟨_,c1,?_⟩
  | refine⟨_,c2,?_⟩
  | (refine⟨_,c3 _ _ _ rfl rfl rfl,?_⟩;rintro v a m ⟨rfl,rfl,rfl⟩ _)
  | refine ifB_intro (fun h=>?_) (fun h=>?_)
  | refine And.intro ?_ ?_)
 all_goals first
  | omega
  | skip
 exact RetTo_of (by simp only[conR,conRL,isF,hget,hdel,List.drop_zero,List.take_length,if_true,if_false,reduceIte,N5,reduceCtorEq,tk1,uns_length,loseK_len];rfl)
theorem t179c(b:Brd)(s:Sta)(k:Nat)(h:staOk b s=true)(hk:k<s.us.length)(ha:0≤(unOf s k).at_)(hb:BrdB (2^50) b)(d:Nat)(r:List Int)(hL:retL b s k 6=(d:Int)::r)(hd6:d<6)(hd:retP b s k d=true):Ev C 179 [brdF b,.agg (staF s),.int .i64 (k:Int),.int .i64 1] (.tup [.agg (staO (retU b s k)),.bool (retB b s k)]):=by
 have hlen:=sta_len h
 have hm:=mp_wh (brd_mp (sta_brd h))
 have hwh:=brd_wh (sta_brd h)
 have hx:=un_int h (k:=(k:Int)) (by omega)
 have hat:(unOf s k).at_<b.m.w*b.m.h:=zon_at hwh.2.1 hx
 have e1:=usl_get hk
 have eu:s.us.getD k un0=unOf s k:=rfl
 have c1:=t69 hC s (by omega)
 have c2:=t214 hC b s k h (by omega) ha hb
 have h0:=red_un h (red_self h) hk
 have c3:=fun hp id n hg hb hs=>t177 hC s.t s.w s.us k hp id n hk (by omega) hg hb hs h0 1 (by omega)
 have tku: ∀us:List Un,us.length=s.us.length→List.take s.us.length (uns us)=uns us:=fun us h=>List.take_of_length_le (by rw[uns_length];omega)
 have ho:=own_uns (retU b s k).us
 have hp:=okP_one hd
 have eU:retU b s k=⟨s.t,s.w,goU s.us k (nextM b.m (unOf s k).at_ d)⟩:=by simp only[retU,hL,Int.toNat_natCast]
 have eB:retB b s k=true:=by simp[retB,hL]
 rw[eU,eB]
 rw[hL] at c2
 have c4:=t215 hC b.m (unOf s k).at_ [(d:Int)] hm.1 hm.2 (by omega) (by simp;omega) (by simp)
 rw[hp.1,hp.2,if_pos rfl] at c4
 have tk1:=tku (goU s.us k (nextM b.m (unOf s k).at_ d)) (goU_len _ _ _)
 have eg:goU s.us k (nextM b.m (unOf s k).at_ d)=s.us.set k ⟨(unOf s k).sd,(unOf s k).k,nextM b.m (unOf s k).at_ d,(unOf s k).st⟩:=rfl
 rw[eg] at tk1
 rw[eg]
 rw[eu] at e1
 generalize nextM b.m (unOf s k).at_ d=to at *
 generalize unOf s k=x at *
 have tk2:List.take (1+r.length) (owss (retW ((d:Int)::r)))=owss (retW ((d:Int)::r)):=List.take_of_length_le (by rw[owss_length,retW_len,List.length_cons];omega)
 have er:owss (retW ((d:Int)::r))=[.ow 1 [[.int .i64 (d:Int)]]]::owss (retW r):=rfl
 have i1: ∀n,ints [n]=[[AV.int .i64 n]]:=fun _=>rfl
 have wz:IntKind.i64.wrap (0+1-1)=0:=rfl
 have hne:decide ((r.length:Int)+1=0)=false:=decide_eq_false (by omega)
 rw[er] at c2 tk2
 simp only[brdF,rulF,mpF,List.cons_append,List.nil_append,staF,staO,i1] at *
 refine rT hC Q179 ?_ (by simp only[ownR,ownRL,own_uns,Bool.and_true])
 simp only[c179,push_cast,↓J1,↓J2,N1,N2,N3,reduceCtorEq,N4,N5,N6,reduceIte,N7,I1,I2,I3]
 repeat' (first
  | simp only[uns_length,e1,unA,Int.toNat_natCast,wz,List.length_cons,owss_length,retW_len,hne,push_cast,↓J1,↓J2,N1,N2,N3,reduceCtorEq,N4,N5,N6,reduceIte,N7,I1,I2,I3]
  | refine⟨_,c1,?_⟩
  | refine⟨_,c2,?_⟩
  | refine⟨_,c4,?_⟩
  | refine ifB_intro (fun h=>?_) (fun h=>?_)
  | refine And.intro ?_ ?_)
 all_goals first
  | omega
  | skip
 exact RetTo_of (by simp only[conR,conRL,isF,hget,hdel,List.drop_zero,List.take_length,if_true,if_false,reduceIte,N5,reduceCtorEq,tk1,uns_length,usl_set];rfl)
theorem t179(b:Brd)(s:Sta)(k:Nat)(h:staOk b s=true)(hk:k<s.us.length)(ha:0≤(unOf s k).at_)(hb:BrdB (2^50) b):Ev C 179 [brdF b,.agg (staF s),.int .i64 (k:Int),.int .i64 1] (.tup [.agg (staO (retU b s k)),.bool (retB b s k)]):=by
 cases hL:retL b s k 6 with
 | nil=>exact t179n hC b s k h hk ha hb hL
 | cons d r=>
  obtain⟨d,rfl,hd6,hd⟩:=retL_mem (d:=d) (by rw[hL];simp)
  exact t179c hC b s k h hk ha hb d r hL hd6 hd
theorem t152n(b:Brd)(s:Sta)(k:Nat)(h:staOk b s=true)(hk:k<s.us.length)(ha:0≤(unOf s k).at_)(hb:BrdB (2^50) b)(hL:retL b s k 6=[]):Ev C 152 [brdF b,.agg (staF s),.int .i64 (k:Int),.int .i64 1] (.tup [.agg (staO (retU b s k)),.bool (retB b s k)]):=by
 have hlen:=sta_len h
 have hm:=mp_wh (brd_mp (sta_brd h))
 have hwh:=brd_wh (sta_brd h)
 have hx:=un_int h (k:=(k:Int)) (by omega)
 have hat:(unOf s k).at_<b.m.w*b.m.h:=zon_at hwh.2.1 hx
 have e1:=usl_get hk
 have eu:s.us.getD k un0=unOf s k:=rfl
 have c1:=t58n hC s (by omega)
 have c2:=t201 hC b s k h (by omega) ha hb
 have h0:=red_un h (red_self h) hk
 have c3:=fun hp id n hg hb hs=>t150 hC s.t s.w s.us k hp id n hk (by omega) hg hb hs h0 1 (by omega)
 have tku: ∀us:List Un,us.length=s.us.length→List.take s.us.length (uns us)=uns us:=fun us h=>List.take_of_length_le (by rw[uns_length];omega)
 have ho:=own_uns (retU b s k).us
 have eU:retU b s k=⟨s.t,s.w,loseK s.us k 1⟩:=by simp only[retU,hL,Int.toNat_natCast]
 have eB:retB b s k=false:=by simp[retB,hL]
 rw[eU,eB]
 rw[hL] at c2
 have tk1:=tku (loseK s.us k 1) (loseK_len _ _ _)
 simp only[brdF,rulF,mpF,List.cons_append,List.nil_append,staF,staO,retW,owss,List.map_nil] at *
 refine rT hC Q152 ?_ (by simp only[ownR,ownRL,own_uns,Bool.and_true])
 simp only[c152,push_cast,↓J1,↓J2,N1,N2,N3,reduceCtorEq,N4,N5,N6,reduceIte,N7,I1,I2,I3]
 repeat' (first
  | simp only[uns_length,List.length_nil,push_cast,↓J1,↓J2,N1,N2,N3,reduceCtorEq,N4,N5,N6,reduceIte,N7,I1,I2,I3]
  | refine⟨_,c1,?_⟩
  | refine⟨_,c2,?_⟩
  | (refine⟨_,c3 _ _ _ rfl rfl rfl,?_⟩;rintro v a m ⟨rfl,rfl,rfl⟩ _)
  | refine ifB_intro (fun h=>?_) (fun h=>?_)
  | refine And.intro ?_ ?_)
 all_goals first
  | omega
  | skip
 exact RetTo_of (by simp only[conR,conRL,isF,hget,hdel,List.drop_zero,List.take_length,if_true,if_false,reduceIte,N5,reduceCtorEq,tk1,uns_length,loseK_len];rfl)
theorem t152c(b:Brd)(s:Sta)(k:Nat)(h:staOk b s=true)(hk:k<s.us.length)(ha:0≤(unOf s k).at_)(hb:BrdB (2^50) b)(d:Nat)(r:List Int)(hL:retL b s k 6=(d:Int)::r)(hd6:d<6)(hd:retP b s k d=true):Ev C 152 [brdF b,.agg (staF s),.int .i64 (k:Int),.int .i64 1] (.tup [.agg (staO (retU b s k)),.bool (retB b s k)]):=by
 have hlen:=sta_len h
 have hm:=mp_wh (brd_mp (sta_brd h))
 have hwh:=brd_wh (sta_brd h)
 have hx:=un_int h (k:=(k:Int)) (by omega)
 have hat:(unOf s k).at_<b.m.w*b.m.h:=zon_at hwh.2.1 hx
 have e1:=usl_get hk
 have eu:s.us.getD k un0=unOf s k:=rfl
 have c1:=t58n hC s (by omega)
 have c2:=t201 hC b s k h (by omega) ha hb
 have h0:=red_un h (red_self h) hk
 have c3:=fun hp id n hg hb hs=>t150 hC s.t s.w s.us k hp id n hk (by omega) hg hb hs h0 1 (by omega)
 have tku: ∀us:List Un,us.length=s.us.length→List.take s.us.length (uns us)=uns us:=fun us h=>List.take_of_length_le (by rw[uns_length];omega)
 have ho:=own_uns (retU b s k).us
 have hp:=okP_one hd
 have eU:retU b s k=⟨s.t,s.w,goU s.us k (nextM b.m (unOf s k).at_ d)⟩:=by simp only[retU,hL,Int.toNat_natCast]
 have eB:retB b s k=true:=by simp[retB,hL]
 rw[eU,eB]
 rw[hL] at c2
 have c4:=t142 hC b.m (unOf s k).at_ d hm.1 hm.2 (by omega) (by omega)
 have tk1:=tku (goU s.us k (nextM b.m (unOf s k).at_ d)) (goU_len _ _ _)
 have eg:goU s.us k (nextM b.m (unOf s k).at_ d)=s.us.set k ⟨(unOf s k).sd,(unOf s k).k,nextM b.m (unOf s k).at_ d,(unOf s k).st⟩:=rfl
 rw[eg] at tk1
 rw[eg]
 rw[eu] at e1
 generalize nextM b.m (unOf s k).at_ d=to at *
 generalize unOf s k=x at *
 have tk2:List.take (1+r.length) (owss (retW ((d:Int)::r)))=owss (retW ((d:Int)::r)):=List.take_of_length_le (by rw[owss_length,retW_len,List.length_cons];omega)
 have er:owss (retW ((d:Int)::r))=[.ow 1 [[.int .i64 (d:Int)]]]::owss (retW r):=rfl
 have i1: ∀n,ints [n]=[[AV.int .i64 n]]:=fun _=>rfl
 have wz:IntKind.i64.wrap (0+1-1)=0:=rfl
 have hne:decide ((r.length:Int)+1=0)=false:=decide_eq_false (by omega)
 rw[er] at c2 tk2
 simp only[brdF,rulF,mpF,List.cons_append,List.nil_append,staF,staO,i1] at *
 refine rT hC Q152 ?_ (by simp only[ownR,ownRL,own_uns,Bool.and_true])
 simp only[c152,push_cast,↓J1,↓J2,N1,N2,N3,reduceCtorEq,N4,N5,N6,reduceIte,N7,I1,I2,I3]
 repeat' (first
  | simp only[uns_length,e1,unA,Int.toNat_natCast,wz,List.length_cons,owss_length,retW_len,hne,push_cast,↓J1,↓J2,N1,N2,N3,reduceCtorEq,N4,N5,N6,reduceIte,N7,I1,I2,I3]
  | refine⟨_,c1,?_⟩
  | refine⟨_,c2,?_⟩
  | refine⟨_,c4,?_⟩
  | refine ifB_intro (fun h=>?_) (fun h=>?_)
  | refine And.intro ?_ ?_)
 all_goals first
  | omega
  | skip
 refine RL_count (fun i=>⟨tb 53 .any [(8,.ptr 2 none 0 0 0),(10,.ptr 4 none 0 0 0),(30,.ref 5 (some (1,0,0)) 1 0 1),(31,.int .i64 (0+1)),(2,.int .i64 (k:Int)),(4,.ptr 0 none 0 0 0),(32,.int .i64 (i:Int))],[(5,.slice 1 ([.ow 1 [[.int .i64 (d:Int)]]]::owss (retW r))),(4,.var [.int .i64 s.t,.int .i64 s.w,.ref 3 none 4 0 s.us.length]),(3,.slice 4 (uns (match i with | 0=>s.us | _+1=>s.us.set k ⟨x.sd,x.k,to,x.st⟩))),(2,.var [.int .i64 0,.int .i64 0,.nil]),(0,.var [.sl (tersF b.r.ts),.sl (kins b.r.ks),.int .i64 b.r.stack,.int .i64 b.r.river,.int .i64 b.r.road,.int .i64 b.r.supply,.int .i64 b.r.turns,.int .i64 b.m.w,.int .i64 b.m.h,.sl (ints b.m.t),.sl (ints b.m.ri),.sl (ints b.m.ro)])],6⟩) (fun _=>True) 1 0 (hdA [(5,5),(4,4),(3,3),(2,2),(0,0)]) (by omega) trivial fun i hi _ J hJ=>?_
 rcases i with _ | i
 ·have hJ1:=hJ (by omega) trivial
  clear hJ
  dsimp only at hJ1
  have hlt:decide (((0:Nat):Int)<0+1)=true:=rfl
  have hlt2:decide ((0:Int)<0+1)=true:=rfl
  repeat' (first
  | simp only[uns_length,e1,unA,Int.toNat_natCast,wz,hlt,hlt2,push_cast,↓J1,↓J2,N1,N2,N3,reduceCtorEq,N4,N5,N6,reduceIte,N7,I1,I2,I3]
  | refine⟨_,c4,?_⟩
  | refine ifB_intro (fun h=>?_) (fun h=>?_)
  | refine And.intro ?_ ?_)
  all_goals first
   | omega
   | skip
  rw[usl_set]
  exact hJ1 _ (hdA [(5,5),(4,4),(3,3),(2,2),(0,0)])
 ·obtain rfl:i=0:=by omega
  have hlt:decide ((0:Int)+1<0+1)=false:=rfl
  simp only[hlt,push_cast,↓J1,↓J2,N1,N2,N3,reduceCtorEq,N4,N5,N6,reduceIte,N7,I1,I2,I3]
  exact RetTo_of (by simp only[conR,conRL,isF,hget,hdel,List.drop_zero,List.take_length,if_true,if_false,reduceIte,N5,reduceCtorEq,tk1,uns_length,usl_set];rfl)
theorem t152(b:Brd)(s:Sta)(k:Nat)(h:staOk b s=true)(hk:k<s.us.length)(ha:0≤(unOf s k).at_)(hb:BrdB (2^50) b):Ev C 152 [brdF b,.agg (staF s),.int .i64 (k:Int),.int .i64 1] (.tup [.agg (staO (retU b s k)),.bool (retB b s k)]):=by
 cases hL:retL b s k 6 with
 | nil=>exact t152n hC b s k h hk ha hb hL
 | cons d r=>
  obtain⟨d,rfl,hd6,hd⟩:=retL_mem (d:=d) (by rw[hL];simp)
  exact t152c hC b s k h hk ha hb d r hL hd6 hd
end
end Go.Proofs.YtlkcpadkjepchaaGreatDoor.X
set_option maxHeartbeats 4000000
set_option maxRecDepth 8000
set_option linter.unusedSimpArgs false
set_option linter.unusedVariables false
open Nat renaming reduceBEq→N1,reduceAdd→N2,reduceSub→N3,reduceMul→N4,reduceEqDiff→N5,reduceLeDiff→N6,reduceLT→N7
open Int renaming reduceLE→I1,reduceLT→I2,reduceToNat→I3
namespace Go.Proofs.YtlkcpadkjepchaaGreatDoor.X
open Go
attribute [local irreducible] Ev
theorem retA_snoc(b:Brd)(u:Int): ∀(l:List Int) (p:Sta×Int),retA b (l++[u]) p=(retU b (retA b l p).1 u,if retB b (retA b l p).1 u then(retA b l p).2+1 else(retA b l p).2)
 | [],p=>rfl
 | k::l,p=>by simp only[List.cons_append,retA];exact retA_snoc b u l _
theorem retA_on{b:Brd}: ∀{l:List Int} {p:Sta×Int},staOk b p.1=true→OnL p.1 l→ ∀i,i≤l.length→staOk b (retA b (l.take i) p).1=true∧OnL (retA b (l.take i) p).1 (l.drop i)∧(retA b (l.take i) p).1.us.length=p.1.us.length∧p.2≤(retA b (l.take i) p).2∧(retA b (l.take i) p).2≤p.2+i
 | [],p,h,ho,i,hi=>by simp[retA];exact⟨h,ho,by omega⟩
 | u::l,p,h,ho,0,hi=>by simp[retA];exact⟨h,ho⟩
 | u::l,p,h,ho,i+1,hi=>by
  have h1:=OnL.next h ho
  have h2:=retA_on (l:=l) (p:=(retU b p.1 u,if retB b p.1 u then p.2+1 else p.2)) h1.1 h1.2.2 i (by simpa using hi)
  simp only[List.take_succ_cons,List.drop_succ_cons,retA]
  refine⟨h2.1,h2.2.1,h2.2.2.1.trans h1.2.1,?_⟩
  have h3:=h2.2.2.2
  dsimp only at h3
  split at h3<;>omega
section
variable{C:CT}(hC:Closed Tryz.prog G1 md0 C)
include hC
theorem t127(b:Brd)(s:Sta)(l:List Int)(h:staOk b s=true)(hl:OnL s l)(hll:l.length<2^40)(hb:BrdB (2^50) b):Ev C 127 [brdF b,.agg (staF s),.sl (ints l),.int .i64 1] (.tup [.agg (staO (retA b l (s,0)).1),.int .i64 (retA b l (s,0)).2]):=by
 have hlen:=sta_len h
 have c1:=t69 hC s (by omega)
 have c2:=fun q k h0 hk ha=>t179 hC b q k h0 hk ha hb
 have hon:=retA_on (b:=b) (p:=(s,0)) h hl
 have hsn:=fun i (hi:i<l.length)=>(congrArg (fun z=>retA b z (s,0)) (take_snoc hi)).trans (retA_snoc b (l.getD i 0) (l.take i) (s,0))
 have ha0:retA b (l.take 0) (s,0)=(s,0):=rfl
 have hfin:retA b l (s,0)=retA b (l.take l.length) (s,0):=by rw[List.take_length]
 have tku: ∀us:List Un,us.length=s.us.length→List.take s.us.length (uns us)=uns us:=fun us h=>List.take_of_length_le (by rw[uns_length];omega)
 rw[hfin]
 generalize hRA:(fun i=>retA b (l.take i) (s,0))=RA at *
 have hRA': ∀i,retA b (l.take i) (s,0)=RA i:=fun i=>by rw[←hRA]
 clear hRA hfin
 simp only[hRA'] at *
 simp only[brdF,rulF,mpF,List.cons_append,List.nil_append,staF,staO] at *
 refine rT hC Q127 ?_ (by simp only[ownR,ownRL,own_uns,Bool.and_true])
 simp only[c127,push_cast,↓J1,↓J2,N1,N2,N3,reduceCtorEq,N4,N5,N6,reduceIte,N7,I1,I2,I3]
 refine⟨_,c1,?_⟩
 simp only[uns_length,ints_length,push_cast,↓J1,↓J2,N1,N2,N3,reduceCtorEq,N4,N5,N6,reduceIte,N7,I1,I2,I3]
 refine RL_count (fun i=>⟨tb 39 .any [(4,.ptr 0 none 0 0 0),(10,.ptr 4 none 0 0 0),(8,.ptr 2 none 0 0 0),(3,.int .i64 1),(18,.sl (ints l)),(19,.int .i64 (l.length:Int)),(11,.int .i64 (RA i).2),(20,.int .i64 (i:Int))],[(4,.var [.int .i64 (RA i).1.t,.int .i64 (RA i).1.w,.ref 3 none 4 0 s.us.length]),(3,.slice 4 (uns (RA i).1.us)),(2,.var [.int .i64 0,.int .i64 0,.nil]),(0,.var [.sl (tersF b.r.ts),.sl (kins b.r.ks),.int .i64 b.r.stack,.int .i64 b.r.river,.int .i64 b.r.road,.int .i64 b.r.supply,.int .i64 b.r.turns,.int .i64 b.m.w,.int .i64 b.m.h,.sl (ints b.m.t),.sl (ints b.m.ri),.sl (ints b.m.ro)])],5⟩) (fun _=>True) l.length 0 (by rw[ha0];exact(hdA [(4,4),(3,3),(2,2),(0,0)])) (by omega) trivial fun i hi _ J hJ=>?_
 have hx:=hon i hi
 by_cases h1:i<l.length
 ·have e1:=cut_ints_get h1
  have hlt:decide ((i:Int)<(l.length:Int))=true:=decide_eq_true (by omega)
  have hJ1:=hJ h1 trivial
  clear hJ
  rw[hsn i h1] at hJ1
  have hk:=hx.2.1.inn (l.getD i 0) (by rw[List.drop_eq_getElem_cons h1,show l.getD i 0=l[i] by simp[List.getD,h1]];exact List.mem_cons_self)
  generalize l.getD i 0=k at *
  obtain⟨k,rfl⟩: ∃m:Nat,k=m:=⟨k.toNat,by omega⟩
  generalize RA i=q at *
  obtain⟨q,cn⟩:=q
  dsimp only at *
  have c2:=c2 q k hx.1 (by omega) hk.2.2
  have tk:=tku q.us hx.2.2.1
  have wc:IntKind.i64.wrap (cn+1)=cn+1:=wrap64 (by omega) (by omega)
  have hz:(retU b q k).us.length=s.us.length:=(retU_ok hx.1 (by omega) hk.2.2).2.1.trans hx.2.2.1
  generalize retU b q k=q' at *
  cases hB:retB b q k
  all_goals
   rw[hB] at c2 hJ1
   simp only[Bool.false_eq_true,if_false,if_true] at hJ1
   repeat' (first
  | simp only[hlt,e1,Int.toNat_natCast,wc,uns_length,hz,tk,frzLL_uns,ints_length,push_cast,↓J1,↓J2,N1,N2,N3,reduceCtorEq,N4,N5,N6,reduceIte,N7,I1,I2,I3]
  | refine⟨_,c2,?_⟩
  | refine ifB_intro (fun h=>?_) (fun h=>?_)
  | refine And.intro ?_ ?_)
   all_goals first
    | omega
    | skip
   exact hJ1 _ (hdA [(4,4),(5,3),(2,2),(0,0)])
 ·have hlt:decide ((i:Int)<(l.length:Int))=false:=decide_eq_false (by omega)
  obtain rfl:i=l.length:=by omega
  have tk:=tku _ hx.2.2.1
  simp only[hlt,push_cast,↓J1,↓J2,N1,N2,N3,reduceCtorEq,N4,N5,N6,reduceIte,N7,I1,I2,I3]
  exact RetTo_of (by simp only[conR,conRL,isF,hget,hdel,List.drop_zero,List.take_length,if_true,if_false,reduceIte,N5,reduceCtorEq,tk,uns_length];rfl)
theorem t102(b:Brd)(s:Sta)(l:List Int)(h:staOk b s=true)(hl:OnL s l)(hll:l.length<2^40)(hb:BrdB (2^50) b):Ev C 102 [brdF b,.agg (staF s),.sl (ints l),.int .i64 1] (.tup [.agg (staO (retA b l (s,0)).1),.int .i64 (retA b l (s,0)).2]):=by
 have hlen:=sta_len h
 have c1:=t58n hC s (by omega)
 have c2:=fun q k h0 hk ha=>t152 hC b q k h0 hk ha hb
 have hon:=retA_on (b:=b) (p:=(s,0)) h hl
 have hsn:=fun i (hi:i<l.length)=>(congrArg (fun z=>retA b z (s,0)) (take_snoc hi)).trans (retA_snoc b (l.getD i 0) (l.take i) (s,0))
 have ha0:retA b (l.take 0) (s,0)=(s,0):=rfl
 have hfin:retA b l (s,0)=retA b (l.take l.length) (s,0):=by rw[List.take_length]
 have tku: ∀us:List Un,us.length=s.us.length→List.take s.us.length (uns us)=uns us:=fun us h=>List.take_of_length_le (by rw[uns_length];omega)
 rw[hfin]
 generalize hRA:(fun i=>retA b (l.take i) (s,0))=RA at *
 have hRA': ∀i,retA b (l.take i) (s,0)=RA i:=fun i=>by rw[←hRA]
 clear hRA hfin
 simp only[hRA'] at *
 simp only[brdF,rulF,mpF,List.cons_append,List.nil_append,staF,staO] at *
 refine rT hC Q102 ?_ (by simp only[ownR,ownRL,own_uns,Bool.and_true])
 simp only[c102,push_cast,↓J1,↓J2,N1,N2,N3,reduceCtorEq,N4,N5,N6,reduceIte,N7,I1,I2,I3]
 refine⟨_,c1,?_⟩
 simp only[uns_length,ints_length,push_cast,↓J1,↓J2,N1,N2,N3,reduceCtorEq,N4,N5,N6,reduceIte,N7,I1,I2,I3]
 refine RL_count (fun i=>⟨tb 38 .any [(4,.ptr 0 none 0 0 0),(5,.ptr 1 none 0 0 0),(8,.ptr 2 none 0 0 0),(3,.int .i64 1),(17,.sl (ints l)),(18,.int .i64 (l.length:Int)),(10,.int .i64 (RA i).2),(19,.int .i64 (i:Int))],[(3,.slice 4 (uns (RA i).1.us)),(2,.var [.int .i64 0,.int .i64 0,.nil]),(1,.var [.int .i64 (RA i).1.t,.int .i64 (RA i).1.w,.ref 3 none 4 0 s.us.length]),(0,.var [.sl (tersF b.r.ts),.sl (kins b.r.ks),.int .i64 b.r.stack,.int .i64 b.r.river,.int .i64 b.r.road,.int .i64 b.r.supply,.int .i64 b.r.turns,.int .i64 b.m.w,.int .i64 b.m.h,.sl (ints b.m.t),.sl (ints b.m.ri),.sl (ints b.m.ro)])],4⟩) (fun _=>True) l.length 0 (by rw[ha0];exact(hdA [(3,3),(2,2),(1,1),(0,0)])) (by omega) trivial fun i hi _ J hJ=>?_
 have hx:=hon i hi
 by_cases h1:i<l.length
 ·have e1:=cut_ints_get h1
  have hlt:decide ((i:Int)<(l.length:Int))=true:=decide_eq_true (by omega)
  have hJ1:=hJ h1 trivial
  clear hJ
  rw[hsn i h1] at hJ1
  have hk:=hx.2.1.inn (l.getD i 0) (by rw[List.drop_eq_getElem_cons h1,show l.getD i 0=l[i] by simp[List.getD,h1]];exact List.mem_cons_self)
  generalize l.getD i 0=k at *
  obtain⟨k,rfl⟩: ∃m:Nat,k=m:=⟨k.toNat,by omega⟩
  generalize RA i=q at *
  obtain⟨q,cn⟩:=q
  dsimp only at *
  have c2:=c2 q k hx.1 (by omega) hk.2.2
  have tk:=tku q.us hx.2.2.1
  have wc:IntKind.i64.wrap (cn+1)=cn+1:=wrap64 (by omega) (by omega)
  have hz:(retU b q k).us.length=s.us.length:=(retU_ok hx.1 (by omega) hk.2.2).2.1.trans hx.2.2.1
  generalize retU b q k=q' at *
  cases hB:retB b q k
  all_goals
   rw[hB] at c2 hJ1
   simp only[Bool.false_eq_true,if_false,if_true] at hJ1
   repeat' (first
  | simp only[hlt,e1,Int.toNat_natCast,wc,uns_length,hz,tk,frzLL_uns,ints_length,push_cast,↓J1,↓J2,N1,N2,N3,reduceCtorEq,N4,N5,N6,reduceIte,N7,I1,I2,I3]
  | refine⟨_,c2,?_⟩
  | refine ifB_intro (fun h=>?_) (fun h=>?_)
  | refine And.intro ?_ ?_)
   all_goals first
    | omega
    | skip
   exact hJ1 _ (hdA [(4,3),(2,2),(1,1),(0,0)])
 ·have hlt:decide ((i:Int)<(l.length:Int))=false:=decide_eq_false (by omega)
  obtain rfl:i=l.length:=by omega
  have tk:=tku _ hx.2.2.1
  simp only[hlt,push_cast,↓J1,↓J2,N1,N2,N3,reduceCtorEq,N4,N5,N6,reduceIte,N7,I1,I2,I3]
  exact RetTo_of (by simp only[conR,conRL,isF,hget,hdel,List.drop_zero,List.take_length,if_true,if_false,reduceIte,N5,reduceCtorEq,tk,uns_length];rfl)
end
end Go.Proofs.YtlkcpadkjepchaaGreatDoor.X
