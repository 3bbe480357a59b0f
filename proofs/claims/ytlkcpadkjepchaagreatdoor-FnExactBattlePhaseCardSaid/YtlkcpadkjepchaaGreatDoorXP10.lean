/- A part of the proof: lemmas on the machine or on the functions that the law reaches. No condition of its own. -/
import Derived.Test.YtlkcpadkjepchaaGreatDoorXP9
import Derived.Test.YtlkcpadkjepchaaGreatDoorXP6
set_option maxHeartbeats 4000000
set_option maxRecDepth 8000
set_option linter.unusedSimpArgs false
set_option linter.unusedVariables false
open Nat renaming reduceBEq→N1,reduceAdd→N2,reduceSub→N3,reduceMul→N4,reduceEqDiff→N5,reduceLeDiff→N6,reduceLT→N7
open Int renaming reduceLE→I1,reduceLT→I2,reduceToNat→I3
namespace Go.Proofs.YtlkcpadkjepchaaGreatDoor.X
open Go
attribute [local irreducible] Ev
theorem gone_snoc(k:Int): ∀(l:List Int) (us:List Un),goneT (l++[k]) us=loseK (goneT l us) k.toNat ((goneT l us).getD k.toNat un0).st
 | [],us=>rfl
 | j::l,us=>by simp only[List.cons_append,goneT];exact gone_snoc k l _
def apl1(s:Sta)(y:Bt)(r:Int):List Un:=if r=2∨r=7 then loseK s.us (mostU s y.df).toNat 1 else s.us
def apl2(s:Sta)(y:Bt)(r:Int):List Un:=if r=5∨r=7 then loseK (apl1 s y r) (mostU s y.ak).toNat 1 else apl1 s y r
def goneL(y:Bt)(r:Int):List Int:=if r=3 then y.df else if r=6 then y.ak else[]
theorem apl_eq(s:Sta)(y:Bt)(r:Int):aplR s y r=⟨s.t,s.w,goneT (goneL y r) (apl2 s y r)⟩:=rfl
theorem apl2_red{b:Brd}{s:Sta}(h:staOk b s=true)(y:Bt)(r:Int):RedL s.us (apl2 s y r):=by
 simp only[apl2,apl1]
 split<;>split<;>first
  | exact red_self h
  | exact red_loseN (red_self h) _ 1 (by omega)
  | exact red_loseN (red_loseN (red_self h) _ 1 (by omega)) _ 1 (by omega)
theorem red_un{b:Brd}{s:Sta}{vs:List Un}(h:staOk b s=true)(r:RedL s.us vs){k:Nat}(hk:k<s.us.length):0≤(vs.getD k un0).st∧(vs.getD k un0).st≤4:=by
 have hkv:k<vs.length:=by rw[r.1];exact hk
 have r:=r.2 k hk hkv
 have hu:=sta_un h hk
 have hka:=kin_bnd (sta_kind h hk)
 have ev:vs.getD k un0=vs[k]:=by simp[List.getD,hkv]
 simp only[unOk,inR,Bool.and_eq_true,decide_eq_true_eq] at hu
 rw[un_at hk] at hu hka
 rw[ev]
 obtain⟨r1,r2,r3,r4,r5⟩:=r
 omega
section
variable{C:CT}(hC:Closed Tryz.prog G1 md0 C)
include hC
theorem t126(b:Brd)(s:Sta)(y:Bt)(r:Int)(h:staOk b s=true)(hy:BtOk b s y)(hr:0≤r∧r≤7):Ev C 126 [.agg (staF s),.agg (btF y),.int .i64 r] (.agg (staO (aplR s y r))):=by
 have hlen:=sta_len h
 have o1:=t69 hC s (by omega)
 have hl3:=hy.ak3
 have hl4:=hy.df4
 have m1:=t178 hC s y.df hy.df0 (fun k hk=>by have:=hy.df2 k hk;omega) (by omega) (by omega)
 have m2:=t178 hC s y.ak hy.ak0 (fun k hk=>by have:=hy.ak1 k hk;omega) (by omega) (by omega)
 have i1:=hy.df2 _ (most_in (s:=s) hy.df0)
 have i2:=hy.ak1 _ (most_in (s:=s) hy.ak0)
 have r2:=apl2_red h y r
 have g3:goneL y r=[]∨goneL y r=y.df∨goneL y r=y.ak:=by
  simp only[goneL]
  repeat' split
  all_goals simp
 have hgl: ∀k∈goneL y r,0≤k∧k<(s.us.length:Int):=by
  intro k hk
  rcases g3 with e | e | e<;>rw[e] at hk
  ·simp at hk
  ·have:=hy.df2 k hk;omega
  ·have:=hy.ak1 k hk;omega
 have hgn:(goneL y r).length≤12:=by rcases g3 with e | e | e<;>rw[e]<;>first | omega | simp
 have z1:=red_un h (red_self h) (k:=(mostU s y.df).toNat) (by omega)
 have z2:=fun vs (hv:RedL s.us vs)=>red_un h hv (k:=(mostU s y.ak).toNat) (by omega)
 have x1:=red_loseN (red_self h) (mostU s y.df).toNat 1 (by omega)
 have l3:=fun t w us k h id n hk hu hg hb hs h0 m hm=>t177 hC t w us k h id n hk hu hg hb hs h0 m hm
 rw[apl_eq]
 have z2a:=z2 _ (red_self h)
 have z2b:=z2 _ x1
 simp only[apl2,apl1]
 obtain⟨kd,hkd⟩: ∃k:Nat,mostU s y.df=k:=⟨(mostU s y.df).toNat,by omega⟩
 obtain⟨ka,hka⟩: ∃k:Nat,mostU s y.ak=k:=⟨(mostU s y.ak).toNat,by omega⟩
 rw[hkd] at m1 i1 z1 x1 z2b
 rw[hka] at m2 i2 z2a z2b
 rw[hkd,hka]
 simp only[Int.toNat_natCast] at z1 z2a z2b x1
 simp only[staF,btF,staO] at *
 refine rT hC Q126 ?_ (by simp only[ownR,ownRL,own_uns,Bool.and_true])
 simp only[c126,push_cast,↓J1,↓J2,N1,N2,N3,reduceCtorEq,N4,N5,N6,reduceIte,N7,I1,I2,I3]
 refine⟨_,o1,?_⟩
 simp only[uns_length,push_cast,↓J1,↓J2,N1,N2,N3,reduceCtorEq,N4,N5,N6,reduceIte,N7,I1,I2,I3]
 have la:=fun h id n hg hb hs=>l3 s.t s.w s.us kd h id n (by omega) (by omega) hg hb hs z1 1 (by omega)
 have lb:=fun h id n hg hb hs=>l3 s.t s.w s.us ka h id n (by omega) (by omega) hg hb hs z2a 1 (by omega)
 have lc:=fun h id n hg hb hs=>l3 s.t s.w (loseK s.us kd 1) ka h id n (by rw[loseK_len];omega) (by rw[loseK_len];omega) hg hb hs z2b 1 (by omega)
 simp only[loseK_len] at lc
 have tku: ∀us:List Un,us.length=s.us.length→List.take s.us.length (uns us)=uns us:=fun us h=>List.take_of_length_le (by rw[uns_length];omega)
 clear hy
 obtain rfl | rfl | rfl | rfl | rfl | rfl | rfl | rfl:r=0∨r=1∨r=2∨r=3∨r=4∨r=5∨r=6∨r=7:=by omega
 all_goals simp only[Int.reduceEq,or_self,or_false,false_or,or_true,true_or,if_true,if_false,goneL,goneT,apl1,apl2] at *
 all_goals
  repeat' (first
  | simp only[Int.reduceEq,uns_length,ints_length,frzLL_ints,decide_false,loseK_len,push_cast,↓J1,↓J2,N1,N2,N3,reduceCtorEq,N4,N5,N6,reduceIte,N7,I1,I2,I3]
  | refine⟨_,m1,?_⟩
  | refine⟨_,m2,?_⟩
  | ((first | refine⟨_,la _ _ _ rfl rfl rfl,?_⟩ | refine⟨_,lb _ _ _ rfl rfl rfl,?_⟩ | refine⟨_,lc _ _ _ rfl rfl rfl,?_⟩);rintro v a m ⟨rfl,rfl,rfl⟩ _)
  | refine ifB_intro (fun h=>?_) (fun h=>?_))
 ·refine RL_count (fun _=>⟨tb 64 .any [(6,.ptr 2 none 0 0 0),(7,.ptr 4 none 0 0 0),(48,.int .i64 0),(49,.int .i64 0)],[(4,.var [.int .i64 s.t,.int .i64 s.w,.ref 3 none 4 0 s.us.length]),(3,.slice 4 (uns s.us)),(2,.var [.int .i64 0,.int .i64 0,.nil])],5⟩) (fun _=>True) 0 0 (hdA [(4,4),(3,3),(2,2)]) (by omega) trivial fun i hi _ J hJ=>?_
  have tk:=tku s.us (rfl)
  simp only[decide_false,push_cast,↓J1,↓J2,N1,N2,N3,reduceCtorEq,N4,N5,N6,reduceIte,N7,I1,I2,I3]
  exact RetTo_of (by simp only[conR,conRL,isF,hget,hdel,List.drop_zero,List.take_length,if_true,if_false,reduceIte,N5,reduceCtorEq,tk,uns_length];rfl)
 ·refine RL_count (fun _=>⟨tb 64 .any [(6,.ptr 2 none 0 0 0),(7,.ptr 4 none 0 0 0),(48,.int .i64 0),(49,.int .i64 0)],[(4,.var [.int .i64 s.t,.int .i64 s.w,.ref 3 none 4 0 s.us.length]),(3,.slice 4 (uns s.us)),(2,.var [.int .i64 0,.int .i64 0,.nil])],5⟩) (fun _=>True) 0 0 (hdA [(4,4),(3,3),(2,2)]) (by omega) trivial fun i hi _ J hJ=>?_
  have tk:=tku s.us (rfl)
  simp only[decide_false,push_cast,↓J1,↓J2,N1,N2,N3,reduceCtorEq,N4,N5,N6,reduceIte,N7,I1,I2,I3]
  exact RetTo_of (by simp only[conR,conRL,isF,hget,hdel,List.drop_zero,List.take_length,if_true,if_false,reduceIte,N5,reduceCtorEq,tk,uns_length];rfl)
 ·refine RL_count (fun _=>⟨tb 64 .any [(6,.ptr 2 none 0 0 0),(7,.ptr 4 none 0 0 0),(48,.int .i64 0),(49,.int .i64 0)],[(4,.var [.int .i64 s.t,.int .i64 s.w,.ref 3 none 4 0 s.us.length]),(3,.slice 4 (uns (loseK s.us kd 1))),(2,.var [.int .i64 0,.int .i64 0,.nil])],5⟩) (fun _=>True) 0 0 (hdA [(4,4),(3,3),(2,2)]) (by omega) trivial fun i hi _ J hJ=>?_
  have tk:=tku (loseK s.us kd 1) (loseK_len _ _ _)
  simp only[decide_false,push_cast,↓J1,↓J2,N1,N2,N3,reduceCtorEq,N4,N5,N6,reduceIte,N7,I1,I2,I3]
  exact RetTo_of (by simp only[conR,conRL,isF,hget,hdel,List.drop_zero,List.take_length,if_true,if_false,reduceIte,N5,reduceCtorEq,tk,uns_length];rfl)
 ·refine RL_count (fun i=>⟨tb 64 .any [(6,.ptr 2 none 0 0 0),(7,.ptr 4 none 0 0 0),(47,.sl (ints y.df)),(48,.int .i64 (y.df.length:Int)),(49,.int .i64 (i:Int))],[(4,.var [.int .i64 s.t,.int .i64 s.w,.ref 3 none 4 0 s.us.length]),(3,.slice 4 (uns (goneT (y.df.take i) s.us))),(2,.var [.int .i64 0,.int .i64 0,.nil])],5⟩) (fun _=>True) y.df.length 0 (hdA [(4,4),(3,3),(2,2)]) (by omega) trivial fun i hi _ J hJ=>?_
  have rd:=red_gone (l:=y.df.take i) (red_self h)
  by_cases h1:i<y.df.length
  ·have e1:=cut_ints_get h1
   have hlt:decide ((i:Int)<(y.df.length:Int))=true:=decide_eq_true (by omega)
   have hJ1:=hJ h1 trivial
   have hx:=hgl _ (getD_in h1)
   rw[take_snoc h1,gone_snoc] at hJ1
   generalize y.df.getD i 0=k at *
   obtain⟨k,rfl⟩: ∃m:Nat,k=m:=⟨k.toNat,by omega⟩
   generalize goneT (y.df.take i) s.us=vs at *
   have hvl:vs.length=s.us.length:=rd.1
   have hst:=red_un h rd (k:=k) (by omega)
   have e2:=usl_get (us:=vs) (k:=k) (by omega)
   have ld:=fun h id n hg hb hs=>l3 s.t s.w vs k h id n (by omega) (by omega) hg hb hs hst (vs.getD k un0).st hst
   rw[hvl] at ld
   rw[Int.toNat_natCast] at hJ1
   simp only[hlt,e1,Int.toNat_natCast,ints_length,push_cast,↓J1,↓J2,N1,N2,N3,reduceCtorEq,N4,N5,N6,reduceIte,N7,I1,I2,I3]
   repeat (refine⟨by omega,?_⟩)
   simp only[e2,unA,Int.toNat_natCast,uns_length,hvl,push_cast,↓J1,↓J2,N1,N2,N3,reduceCtorEq,N4,N5,N6,reduceIte,N7,I1,I2,I3]
   repeat (refine⟨by omega,?_⟩)
   refine⟨_,ld _ _ _ rfl rfl rfl,?_⟩
   rintro v a m ⟨rfl,rfl,rfl⟩ _
   simp only[hset,N5,N7,if_true,if_false,reduceIte,push_cast,↓J1,↓J2,N1,N2,N3,reduceCtorEq,N4,N5,N6,reduceIte,N7,I1,I2,I3]
   exact hJ1 _ (hdA [(4,4),(3,3),(2,2)])
  ·have hlt:decide ((i:Int)<(y.df.length:Int))=false:=decide_eq_false (by omega)
   obtain rfl:i=y.df.length:=by omega
   rw[List.take_length] at rd⊢
   have tk:=tku _ rd.1
   simp only[hlt,push_cast,↓J1,↓J2,N1,N2,N3,reduceCtorEq,N4,N5,N6,reduceIte,N7,I1,I2,I3]
   exact RetTo_of (by simp only[conR,conRL,isF,hget,hdel,List.drop_zero,List.take_length,if_true,if_false,reduceIte,N5,reduceCtorEq,tk,uns_length];rfl)
 ·refine RL_count (fun _=>⟨tb 64 .any [(6,.ptr 2 none 0 0 0),(7,.ptr 4 none 0 0 0),(48,.int .i64 0),(49,.int .i64 0)],[(4,.var [.int .i64 s.t,.int .i64 s.w,.ref 3 none 4 0 s.us.length]),(3,.slice 4 (uns s.us)),(2,.var [.int .i64 0,.int .i64 0,.nil])],5⟩) (fun _=>True) 0 0 (hdA [(4,4),(3,3),(2,2)]) (by omega) trivial fun i hi _ J hJ=>?_
  have tk:=tku s.us (rfl)
  simp only[decide_false,push_cast,↓J1,↓J2,N1,N2,N3,reduceCtorEq,N4,N5,N6,reduceIte,N7,I1,I2,I3]
  exact RetTo_of (by simp only[conR,conRL,isF,hget,hdel,List.drop_zero,List.take_length,if_true,if_false,reduceIte,N5,reduceCtorEq,tk,uns_length];rfl)
 ·refine RL_count (fun _=>⟨tb 64 .any [(6,.ptr 2 none 0 0 0),(7,.ptr 4 none 0 0 0),(48,.int .i64 0),(49,.int .i64 0)],[(4,.var [.int .i64 s.t,.int .i64 s.w,.ref 3 none 4 0 s.us.length]),(3,.slice 4 (uns (loseK s.us ka 1))),(2,.var [.int .i64 0,.int .i64 0,.nil])],5⟩) (fun _=>True) 0 0 (hdA [(4,4),(3,3),(2,2)]) (by omega) trivial fun i hi _ J hJ=>?_
  have tk:=tku (loseK s.us ka 1) (loseK_len _ _ _)
  simp only[decide_false,push_cast,↓J1,↓J2,N1,N2,N3,reduceCtorEq,N4,N5,N6,reduceIte,N7,I1,I2,I3]
  exact RetTo_of (by simp only[conR,conRL,isF,hget,hdel,List.drop_zero,List.take_length,if_true,if_false,reduceIte,N5,reduceCtorEq,tk,uns_length];rfl)
 ·refine RL_count (fun i=>⟨tb 64 .any [(6,.ptr 2 none 0 0 0),(7,.ptr 4 none 0 0 0),(47,.sl (ints y.ak)),(48,.int .i64 (y.ak.length:Int)),(49,.int .i64 (i:Int))],[(4,.var [.int .i64 s.t,.int .i64 s.w,.ref 3 none 4 0 s.us.length]),(3,.slice 4 (uns (goneT (y.ak.take i) s.us))),(2,.var [.int .i64 0,.int .i64 0,.nil])],5⟩) (fun _=>True) y.ak.length 0 (hdA [(4,4),(3,3),(2,2)]) (by omega) trivial fun i hi _ J hJ=>?_
  have rd:=red_gone (l:=y.ak.take i) (red_self h)
  by_cases h1:i<y.ak.length
  ·have e1:=cut_ints_get h1
   have hlt:decide ((i:Int)<(y.ak.length:Int))=true:=decide_eq_true (by omega)
   have hJ1:=hJ h1 trivial
   have hx:=hgl _ (getD_in h1)
   rw[take_snoc h1,gone_snoc] at hJ1
   generalize y.ak.getD i 0=k at *
   obtain⟨k,rfl⟩: ∃m:Nat,k=m:=⟨k.toNat,by omega⟩
   generalize goneT (y.ak.take i) s.us=vs at *
   have hvl:vs.length=s.us.length:=rd.1
   have hst:=red_un h rd (k:=k) (by omega)
   have e2:=usl_get (us:=vs) (k:=k) (by omega)
   have ld:=fun h id n hg hb hs=>l3 s.t s.w vs k h id n (by omega) (by omega) hg hb hs hst (vs.getD k un0).st hst
   rw[hvl] at ld
   rw[Int.toNat_natCast] at hJ1
   simp only[hlt,e1,Int.toNat_natCast,ints_length,push_cast,↓J1,↓J2,N1,N2,N3,reduceCtorEq,N4,N5,N6,reduceIte,N7,I1,I2,I3]
   repeat (refine⟨by omega,?_⟩)
   simp only[e2,unA,Int.toNat_natCast,uns_length,hvl,push_cast,↓J1,↓J2,N1,N2,N3,reduceCtorEq,N4,N5,N6,reduceIte,N7,I1,I2,I3]
   repeat (refine⟨by omega,?_⟩)
   refine⟨_,ld _ _ _ rfl rfl rfl,?_⟩
   rintro v a m ⟨rfl,rfl,rfl⟩ _
   simp only[hset,N5,N7,if_true,if_false,reduceIte,push_cast,↓J1,↓J2,N1,N2,N3,reduceCtorEq,N4,N5,N6,reduceIte,N7,I1,I2,I3]
   exact hJ1 _ (hdA [(4,4),(3,3),(2,2)])
  ·have hlt:decide ((i:Int)<(y.ak.length:Int))=false:=decide_eq_false (by omega)
   obtain rfl:i=y.ak.length:=by omega
   rw[List.take_length] at rd⊢
   have tk:=tku _ rd.1
   simp only[hlt,push_cast,↓J1,↓J2,N1,N2,N3,reduceCtorEq,N4,N5,N6,reduceIte,N7,I1,I2,I3]
   exact RetTo_of (by simp only[conR,conRL,isF,hget,hdel,List.drop_zero,List.take_length,if_true,if_false,reduceIte,N5,reduceCtorEq,tk,uns_length];rfl)
 ·refine RL_count (fun _=>⟨tb 64 .any [(6,.ptr 2 none 0 0 0),(7,.ptr 4 none 0 0 0),(48,.int .i64 0),(49,.int .i64 0)],[(4,.var [.int .i64 s.t,.int .i64 s.w,.ref 3 none 4 0 s.us.length]),(3,.slice 4 (uns (loseK (loseK s.us kd 1) ka 1))),(2,.var [.int .i64 0,.int .i64 0,.nil])],5⟩) (fun _=>True) 0 0 (hdA [(4,4),(3,3),(2,2)]) (by omega) trivial fun i hi _ J hJ=>?_
  have tk:=tku (loseK (loseK s.us kd 1) ka 1) ((loseK_len _ _ _).trans (loseK_len _ _ _))
  simp only[decide_false,push_cast,↓J1,↓J2,N1,N2,N3,reduceCtorEq,N4,N5,N6,reduceIte,N7,I1,I2,I3]
  exact RetTo_of (by simp only[conR,conRL,isF,hget,hdel,List.drop_zero,List.take_length,if_true,if_false,reduceIte,N5,reduceCtorEq,tk,uns_length];rfl)
theorem t101(b:Brd)(s:Sta)(y:Bt)(r:Int)(h:staOk b s=true)(hy:BtOk b s y)(hr:0≤r∧r≤7):Ev C 101 [.agg (staF s),.agg (btF y),.int .i64 r] (.agg (staO (aplR s y r))):=by
 have hlen:=sta_len h
 have o1:=t149 hC s (by omega)
 have hl3:=hy.ak3
 have hl4:=hy.df4
 have m1:=t151 hC s y.df hy.df0 (fun k hk=>by have:=hy.df2 k hk;omega) (by omega) (by omega)
 have m2:=t151 hC s y.ak hy.ak0 (fun k hk=>by have:=hy.ak1 k hk;omega) (by omega) (by omega)
 have i1:=hy.df2 _ (most_in (s:=s) hy.df0)
 have i2:=hy.ak1 _ (most_in (s:=s) hy.ak0)
 have r2:=apl2_red h y r
 have g3:goneL y r=[]∨goneL y r=y.df∨goneL y r=y.ak:=by
  simp only[goneL]
  repeat' split
  all_goals simp
 have hgl: ∀k∈goneL y r,0≤k∧k<(s.us.length:Int):=by
  intro k hk
  rcases g3 with e | e | e<;>rw[e] at hk
  ·simp at hk
  ·have:=hy.df2 k hk;omega
  ·have:=hy.ak1 k hk;omega
 have hgn:(goneL y r).length≤12:=by rcases g3 with e | e | e<;>rw[e]<;>first | omega | simp
 have z1:=red_un h (red_self h) (k:=(mostU s y.df).toNat) (by omega)
 have z2:=fun vs (hv:RedL s.us vs)=>red_un h hv (k:=(mostU s y.ak).toNat) (by omega)
 have x1:=red_loseN (red_self h) (mostU s y.df).toNat 1 (by omega)
 have l3:=fun t w us k h id n hk hu hg hb hs h0 m hm=>t150 hC t w us k h id n hk hu hg hb hs h0 m hm
 rw[apl_eq]
 have z2a:=z2 _ (red_self h)
 have z2b:=z2 _ x1
 simp only[apl2,apl1]
 obtain⟨kd,hkd⟩: ∃k:Nat,mostU s y.df=k:=⟨(mostU s y.df).toNat,by omega⟩
 obtain⟨ka,hka⟩: ∃k:Nat,mostU s y.ak=k:=⟨(mostU s y.ak).toNat,by omega⟩
 rw[hkd] at m1 i1 z1 x1 z2b
 rw[hka] at m2 i2 z2a z2b
 rw[hkd,hka]
 simp only[Int.toNat_natCast] at z1 z2a z2b x1
 simp only[staF,btF,staO] at *
 refine rT hC Q101 ?_ (by simp only[ownR,ownRL,own_uns,Bool.and_true])
 simp only[c101,push_cast,↓J1,↓J2,N1,N2,N3,reduceCtorEq,N4,N5,N6,reduceIte,N7,I1,I2,I3]
 refine⟨_,o1,?_⟩
 simp only[uns_length,push_cast,↓J1,↓J2,N1,N2,N3,reduceCtorEq,N4,N5,N6,reduceIte,N7,I1,I2,I3]
 have la:=fun h id n hg hb hs=>l3 s.t s.w s.us kd h id n (by omega) (by omega) hg hb hs z1 1 (by omega)
 have lb:=fun h id n hg hb hs=>l3 s.t s.w s.us ka h id n (by omega) (by omega) hg hb hs z2a 1 (by omega)
 have lc:=fun h id n hg hb hs=>l3 s.t s.w (loseK s.us kd 1) ka h id n (by rw[loseK_len];omega) (by rw[loseK_len];omega) hg hb hs z2b 1 (by omega)
 simp only[loseK_len] at lc
 have tku: ∀us:List Un,us.length=s.us.length→List.take s.us.length (uns us)=uns us:=fun us h=>List.take_of_length_le (by rw[uns_length];omega)
 clear hy
 obtain rfl | rfl | rfl | rfl | rfl | rfl | rfl | rfl:r=0∨r=1∨r=2∨r=3∨r=4∨r=5∨r=6∨r=7:=by omega
 all_goals simp only[Int.reduceEq,or_self,or_false,false_or,or_true,true_or,if_true,if_false,goneL,goneT,apl1,apl2] at *
 all_goals
  repeat' (first
  | simp only[Int.reduceEq,uns_length,ints_length,frzLL_ints,decide_false,loseK_len,push_cast,↓J1,↓J2,N1,N2,N3,reduceCtorEq,N4,N5,N6,reduceIte,N7,I1,I2,I3]
  | refine⟨_,m1,?_⟩
  | refine⟨_,m2,?_⟩
  | ((first | refine⟨_,la _ _ _ rfl rfl rfl,?_⟩ | refine⟨_,lb _ _ _ rfl rfl rfl,?_⟩ | refine⟨_,lc _ _ _ rfl rfl rfl,?_⟩);rintro v a m ⟨rfl,rfl,rfl⟩ _)
  | refine ifB_intro (fun h=>?_) (fun h=>?_))
 ·refine RL_count (fun _=>⟨tb 63 .any [(6,.ptr 2 none 0 0 0),(7,.ptr 4 none 0 0 0),(47,.int .i64 0),(48,.int .i64 0)],[(4,.var [.int .i64 s.t,.int .i64 s.w,.ref 3 none 4 0 s.us.length]),(3,.slice 4 (uns s.us)),(2,.var [.int .i64 0,.int .i64 0,.nil])],5⟩) (fun _=>True) 0 0 (hdA [(4,4),(3,3),(2,2)]) (by omega) trivial fun i hi _ J hJ=>?_
  have tk:=tku s.us (rfl)
  simp only[decide_false,push_cast,↓J1,↓J2,N1,N2,N3,reduceCtorEq,N4,N5,N6,reduceIte,N7,I1,I2,I3]
  exact RetTo_of (by simp only[conR,conRL,isF,hget,hdel,List.drop_zero,List.take_length,if_true,if_false,reduceIte,N5,reduceCtorEq,tk,uns_length];rfl)
 ·refine RL_count (fun _=>⟨tb 63 .any [(6,.ptr 2 none 0 0 0),(7,.ptr 4 none 0 0 0),(47,.int .i64 0),(48,.int .i64 0)],[(4,.var [.int .i64 s.t,.int .i64 s.w,.ref 3 none 4 0 s.us.length]),(3,.slice 4 (uns s.us)),(2,.var [.int .i64 0,.int .i64 0,.nil])],5⟩) (fun _=>True) 0 0 (hdA [(4,4),(3,3),(2,2)]) (by omega) trivial fun i hi _ J hJ=>?_
  have tk:=tku s.us (rfl)
  simp only[decide_false,push_cast,↓J1,↓J2,N1,N2,N3,reduceCtorEq,N4,N5,N6,reduceIte,N7,I1,I2,I3]
  exact RetTo_of (by simp only[conR,conRL,isF,hget,hdel,List.drop_zero,List.take_length,if_true,if_false,reduceIte,N5,reduceCtorEq,tk,uns_length];rfl)
 ·refine RL_count (fun _=>⟨tb 63 .any [(6,.ptr 2 none 0 0 0),(7,.ptr 4 none 0 0 0),(47,.int .i64 0),(48,.int .i64 0)],[(4,.var [.int .i64 s.t,.int .i64 s.w,.ref 3 none 4 0 s.us.length]),(3,.slice 4 (uns (loseK s.us kd 1))),(2,.var [.int .i64 0,.int .i64 0,.nil])],5⟩) (fun _=>True) 0 0 (hdA [(4,4),(3,3),(2,2)]) (by omega) trivial fun i hi _ J hJ=>?_
  have tk:=tku (loseK s.us kd 1) (loseK_len _ _ _)
  simp only[decide_false,push_cast,↓J1,↓J2,N1,N2,N3,reduceCtorEq,N4,N5,N6,reduceIte,N7,I1,I2,I3]
  exact RetTo_of (by simp only[conR,conRL,isF,hget,hdel,List.drop_zero,List.take_length,if_true,if_false,reduceIte,N5,reduceCtorEq,tk,uns_length];rfl)
 ·refine RL_count (fun i=>⟨tb 63 .any [(6,.ptr 2 none 0 0 0),(7,.ptr 4 none 0 0 0),(46,.sl (ints y.df)),(47,.int .i64 (y.df.length:Int)),(48,.int .i64 (i:Int))],[(4,.var [.int .i64 s.t,.int .i64 s.w,.ref 3 none 4 0 s.us.length]),(3,.slice 4 (uns (goneT (y.df.take i) s.us))),(2,.var [.int .i64 0,.int .i64 0,.nil])],5⟩) (fun _=>True) y.df.length 0 (hdA [(4,4),(3,3),(2,2)]) (by omega) trivial fun i hi _ J hJ=>?_
  have rd:=red_gone (l:=y.df.take i) (red_self h)
  by_cases h1:i<y.df.length
  ·have e1:=cut_ints_get h1
   have hlt:decide ((i:Int)<(y.df.length:Int))=true:=decide_eq_true (by omega)
   have hJ1:=hJ h1 trivial
   have hx:=hgl _ (getD_in h1)
   rw[take_snoc h1,gone_snoc] at hJ1
   generalize y.df.getD i 0=k at *
   obtain⟨k,rfl⟩: ∃m:Nat,k=m:=⟨k.toNat,by omega⟩
   generalize goneT (y.df.take i) s.us=vs at *
   have hvl:vs.length=s.us.length:=rd.1
   have hst:=red_un h rd (k:=k) (by omega)
   have e2:=usl_get (us:=vs) (k:=k) (by omega)
   have ld:=fun h id n hg hb hs=>l3 s.t s.w vs k h id n (by omega) (by omega) hg hb hs hst (vs.getD k un0).st hst
   rw[hvl] at ld
   rw[Int.toNat_natCast] at hJ1
   simp only[hlt,e1,Int.toNat_natCast,ints_length,push_cast,↓J1,↓J2,N1,N2,N3,reduceCtorEq,N4,N5,N6,reduceIte,N7,I1,I2,I3]
   repeat (refine⟨by omega,?_⟩)
   simp only[e2,unA,Int.toNat_natCast,uns_length,hvl,push_cast,↓J1,↓J2,N1,N2,N3,reduceCtorEq,N4,N5,N6,reduceIte,N7,I1,I2,I3]
   repeat (refine⟨by omega,?_⟩)
   refine⟨_,ld _ _ _ rfl rfl rfl,?_⟩
   rintro v a m ⟨rfl,rfl,rfl⟩ _
   simp only[hset,N5,N7,if_true,if_false,reduceIte,push_cast,↓J1,↓J2,N1,N2,N3,reduceCtorEq,N4,N5,N6,reduceIte,N7,I1,I2,I3]
   exact hJ1 _ (hdA [(4,4),(3,3),(2,2)])
  ·have hlt:decide ((i:Int)<(y.df.length:Int))=false:=decide_eq_false (by omega)
   obtain rfl:i=y.df.length:=by omega
   rw[List.take_length] at rd⊢
   have tk:=tku _ rd.1
   simp only[hlt,push_cast,↓J1,↓J2,N1,N2,N3,reduceCtorEq,N4,N5,N6,reduceIte,N7,I1,I2,I3]
   exact RetTo_of (by simp only[conR,conRL,isF,hget,hdel,List.drop_zero,List.take_length,if_true,if_false,reduceIte,N5,reduceCtorEq,tk,uns_length];rfl)
 ·refine RL_count (fun _=>⟨tb 63 .any [(6,.ptr 2 none 0 0 0),(7,.ptr 4 none 0 0 0),(47,.int .i64 0),(48,.int .i64 0)],[(4,.var [.int .i64 s.t,.int .i64 s.w,.ref 3 none 4 0 s.us.length]),(3,.slice 4 (uns s.us)),(2,.var [.int .i64 0,.int .i64 0,.nil])],5⟩) (fun _=>True) 0 0 (hdA [(4,4),(3,3),(2,2)]) (by omega) trivial fun i hi _ J hJ=>?_
  have tk:=tku s.us (rfl)
  simp only[decide_false,push_cast,↓J1,↓J2,N1,N2,N3,reduceCtorEq,N4,N5,N6,reduceIte,N7,I1,I2,I3]
  exact RetTo_of (by simp only[conR,conRL,isF,hget,hdel,List.drop_zero,List.take_length,if_true,if_false,reduceIte,N5,reduceCtorEq,tk,uns_length];rfl)
 ·refine RL_count (fun _=>⟨tb 63 .any [(6,.ptr 2 none 0 0 0),(7,.ptr 4 none 0 0 0),(47,.int .i64 0),(48,.int .i64 0)],[(4,.var [.int .i64 s.t,.int .i64 s.w,.ref 3 none 4 0 s.us.length]),(3,.slice 4 (uns (loseK s.us ka 1))),(2,.var [.int .i64 0,.int .i64 0,.nil])],5⟩) (fun _=>True) 0 0 (hdA [(4,4),(3,3),(2,2)]) (by omega) trivial fun i hi _ J hJ=>?_
  have tk:=tku (loseK s.us ka 1) (loseK_len _ _ _)
  simp only[decide_false,push_cast,↓J1,↓J2,N1,N2,N3,reduceCtorEq,N4,N5,N6,reduceIte,N7,I1,I2,I3]
  exact RetTo_of (by simp only[conR,conRL,isF,hget,hdel,List.drop_zero,List.take_length,if_true,if_false,reduceIte,N5,reduceCtorEq,tk,uns_length];rfl)
 ·refine RL_count (fun i=>⟨tb 63 .any [(6,.ptr 2 none 0 0 0),(7,.ptr 4 none 0 0 0),(46,.sl (ints y.ak)),(47,.int .i64 (y.ak.length:Int)),(48,.int .i64 (i:Int))],[(4,.var [.int .i64 s.t,.int .i64 s.w,.ref 3 none 4 0 s.us.length]),(3,.slice 4 (uns (goneT (y.ak.take i) s.us))),(2,.var [.int .i64 0,.int .i64 0,.nil])],5⟩) (fun _=>True) y.ak.length 0 (hdA [(4,4),(3,3),(2,2)]) (by omega) trivial fun i hi _ J hJ=>?_
  have rd:=red_gone (l:=y.ak.take i) (red_self h)
  by_cases h1:i<y.ak.length
  ·have e1:=cut_ints_get h1
   have hlt:decide ((i:Int)<(y.ak.length:Int))=true:=decide_eq_true (by omega)
   have hJ1:=hJ h1 trivial
   have hx:=hgl _ (getD_in h1)
   rw[take_snoc h1,gone_snoc] at hJ1
   generalize y.ak.getD i 0=k at *
   obtain⟨k,rfl⟩: ∃m:Nat,k=m:=⟨k.toNat,by omega⟩
   generalize goneT (y.ak.take i) s.us=vs at *
   have hvl:vs.length=s.us.length:=rd.1
   have hst:=red_un h rd (k:=k) (by omega)
   have e2:=usl_get (us:=vs) (k:=k) (by omega)
   have ld:=fun h id n hg hb hs=>l3 s.t s.w vs k h id n (by omega) (by omega) hg hb hs hst (vs.getD k un0).st hst
   rw[hvl] at ld
   rw[Int.toNat_natCast] at hJ1
   simp only[hlt,e1,Int.toNat_natCast,ints_length,push_cast,↓J1,↓J2,N1,N2,N3,reduceCtorEq,N4,N5,N6,reduceIte,N7,I1,I2,I3]
   repeat (refine⟨by omega,?_⟩)
   simp only[e2,unA,Int.toNat_natCast,uns_length,hvl,push_cast,↓J1,↓J2,N1,N2,N3,reduceCtorEq,N4,N5,N6,reduceIte,N7,I1,I2,I3]
   repeat (refine⟨by omega,?_⟩)
   refine⟨_,ld _ _ _ rfl rfl rfl,?_⟩
   rintro v a m ⟨rfl,rfl,rfl⟩ _
   simp only[hset,N5,N7,if_true,if_false,reduceIte,push_cast,↓J1,↓J2,N1,N2,N3,reduceCtorEq,N4,N5,N6,reduceIte,N7,I1,I2,I3]
   exact hJ1 _ (hdA [(4,4),(3,3),(2,2)])
  ·have hlt:decide ((i:Int)<(y.ak.length:Int))=false:=decide_eq_false (by omega)
   obtain rfl:i=y.ak.length:=by omega
   rw[List.take_length] at rd⊢
   have tk:=tku _ rd.1
   simp only[hlt,push_cast,↓J1,↓J2,N1,N2,N3,reduceCtorEq,N4,N5,N6,reduceIte,N7,I1,I2,I3]
   exact RetTo_of (by simp only[conR,conRL,isF,hget,hdel,List.drop_zero,List.take_length,if_true,if_false,reduceIte,N5,reduceCtorEq,tk,uns_length];rfl)
 ·refine RL_count (fun _=>⟨tb 63 .any [(6,.ptr 2 none 0 0 0),(7,.ptr 4 none 0 0 0),(47,.int .i64 0),(48,.int .i64 0)],[(4,.var [.int .i64 s.t,.int .i64 s.w,.ref 3 none 4 0 s.us.length]),(3,.slice 4 (uns (loseK (loseK s.us kd 1) ka 1))),(2,.var [.int .i64 0,.int .i64 0,.nil])],5⟩) (fun _=>True) 0 0 (hdA [(4,4),(3,3),(2,2)]) (by omega) trivial fun i hi _ J hJ=>?_
  have tk:=tku (loseK (loseK s.us kd 1) ka 1) ((loseK_len _ _ _).trans (loseK_len _ _ _))
  simp only[decide_false,push_cast,↓J1,↓J2,N1,N2,N3,reduceCtorEq,N4,N5,N6,reduceIte,N7,I1,I2,I3]
  exact RetTo_of (by simp only[conR,conRL,isF,hget,hdel,List.drop_zero,List.take_length,if_true,if_false,reduceIte,N5,reduceCtorEq,tk,uns_length];rfl)
end
end Go.Proofs.YtlkcpadkjepchaaGreatDoor.X
set_option maxHeartbeats 4000000
set_option maxRecDepth 8000
set_option linter.unusedSimpArgs false
set_option linter.unusedVariables false
open Nat renaming reduceBEq→N1,reduceAdd→N2,reduceSub→N3,reduceMul→N4,reduceEqDiff→N5,reduceLeDiff→N6,reduceLT→N7
open Int renaming reduceLE→I1,reduceLT→I2,reduceToNat→I3
namespace Go.Proofs.YtlkcpadkjepchaaGreatDoor.X
open Go
attribute [local irreducible] Ev
theorem dfs_nil{s:Sta}{i:Int}(h:dfs s i=[]):owner s i= -1:=by
 simp only[owner]
 split
 ·rename_i u hu
  exfalso
  have h1:=List.mem_of_find?_eq_some hu
  have h2:=List.find?_some hu
  obtain⟨j,hj,rfl⟩:=List.getElem_of_mem h1
  have:(j:Int)∈dfs s i:=by
   simp only[dfs,fil,List.mem_map,List.mem_filter,List.mem_range]
   exact⟨j,⟨hj,by rw[List.getElem?_eq_getElem hj];exact h2⟩,rfl⟩
  rw[h] at this;cases this
 ·rfl
theorem own_is{b:Brd}{s:Sta}{sd i:Int}(h:staOk b s=true)(hs:sd=0∨sd=1)(hi:0≤i)(ho:owner s i≠1-sd):fil (isAt i sd) s.us s.us.length=dfs s i:=by
 rcases owner_sd (sta_all h) i with e | e | e
 ·have h0:=owner_cnt0 h hs hi
  rw[e,decide_eq_false (show¬(-1:Int)=sd by omega)] at h0
  have h1:cnt s.us i sd=0:=by simpa using h0
  have h2:fil (isAt i sd) s.us s.us.length=[]:=List.length_eq_zero_iff.1 (by rw[fil_len (Nat.le_refl _),List.take_length];exact h1)
  have h3:dfs s i=[]:=List.length_eq_zero_iff.1 (by rw[dfs_cnt h hs hi ho];exact h1)
  rw[h2,h3]
 ·have:sd=owner s i:=by omega
  rw[this];exact dfs_is h hi
 ·have:sd=owner s i:=by omega
  rw[this];exact dfs_is h hi
theorem at_len{b:Brd}{s:Sta}{sd i:Int}(h:staOk b s=true)(hs:sd=0∨sd=1)(hi:0≤i):decide (0<((fil (isAt i sd) s.us s.us.length).length:Int))=decide (owner s i=sd):=by
 have h0:=owner_cnt0 h hs hi
 rw[fil_len (Nat.le_refl _),List.take_length]
 show decide ((0:Int)<(cnt s.us i sd:Int))=_
 by_cases e:owner s i=sd
 ·rw[decide_eq_true e] at h0⊢
  simp at h0
  exact decide_eq_true (by omega)
 ·rw[decide_eq_false e] at h0⊢
  simp at h0
  exact decide_eq_false (by omega)
def othU(s:Sta)(u:Int)(l:List Int):Bool:=l.any fun k=>!decide (k=u)
section
variable{C:CT}(hC:Closed Tryz.prog G1 md0 C)
include hC
theorem t242(b:Brd)(s:Sta)(u to:Int)(h:staOk b s=true)(hu:0≤u∧u<(s.us.length:Int))(ht: -1≤to∧to<b.m.w*b.m.h)(hb:BrdB (2^50) b):Ev C 242 [brdF b,.agg (staF s),.int .i64 u,.int .i64 to] (.bool (backB b s u to)):=by
 have hwh:=brd_wh (sta_brd h)
 have hlen:=sta_len h
 have e0:=uns_int hu
 have hx:=un_int h hu
 have hsd:=un_sd hx
 have hkx:inR 0 (b.r.ks.length-1) (unOf s u).k=true:=by simp only[unOk,Bool.and_eq_true] at hx;exact hx.1.1.2
 have hto: ∀h0:0≤to,inR 0 (b.m.w*b.m.h-1) to=true:=fun h0=>by simp only[inR,Bool.and_eq_true,decide_eq_true_eq];omega
 have c1:=fun h0:0≤to=>t167 hC b (unOf s u).k to (sta_brd h) hkx (hto h0) hb
 have c2:=t115 hC s to (by omega)
 have c3:=fun h0:0≤to=>t246 hC b s (1-(unOf s u).sd) to (sta_brd h) (sta_all h) (hto h0) hb (by omega)
 have hdm: ∀k∈dfs s to,0≤to→0≤k∧k<(s.us.length:Int)∧(unOf s k).sd=owner s to:=by
  intro k hk h0
  obtain⟨j,rfl,hj,ha⟩:=dfs_mem hk
  exact⟨by omega,by omega,dfs_own h h0 hj ha⟩
 have hdl:(dfs s to).length≤s.us.length:=fil_le (Nat.le_refl _)
 have how:=owner_sd (sta_all h) to
 have hnil:=dfs_nil (s:=s) (i:=to)
 simp only[backB]
 rw[show fil (inHex to) s.us s.us.length=dfs s to from rfl] at c2
 generalize dfs s to=D at *
 generalize hX:unOf s u=x at *
 simp only[brdF,rulF,mpF,List.cons_append,List.nil_append,staF,unA] at *
 have w1:IntKind.i64.wrap (1-x.sd)=1-x.sd:=wrap64 (by omega) (by omega)
 refine rT hC Q242 ?_
 simp only[c242,e0,uns_length,push_cast,↓J1,↓J2,N1,N2,N3,reduceCtorEq,N4,N5,N6,reduceIte,N7,I1,I2,I3]
 repeat (refine⟨by omega,?_⟩)
 have z0:decide (to<0)=!decide (0≤to):=by rw[Bool.eq_iff_iff];simp
 simp only[z0,push_cast,↓J1,↓J2,N1,N2,N3,reduceCtorEq,N4,N5,N6,reduceIte,N7,I1,I2,I3]
 cases g1:decide (0≤to)
 ·simp only[push_cast,↓J1,↓J2,N1,N2,N3,reduceCtorEq,N4,N5,N6,reduceIte,N7,I1,I2,I3]
 have h0:=of_decide_eq_true g1
 simp only[push_cast,↓J1,↓J2,N1,N2,N3,reduceCtorEq,N4,N5,N6,reduceIte,N7,I1,I2,I3]
 refine⟨_,c1 h0,?_⟩
 simp only[push_cast,↓J1,↓J2,N1,N2,N3,reduceCtorEq,N4,N5,N6,reduceIte,N7,I1,I2,I3]
 cases g2:decide (costAt b x.k to=0)
 rotate_left
 ·simp only[push_cast,↓J1,↓J2,N1,N2,N3,reduceCtorEq,N4,N5,N6,reduceIte,N7,I1,I2,I3]
 simp only[push_cast,↓J1,↓J2,N1,N2,N3,reduceCtorEq,N4,N5,N6,reduceIte,N7,I1,I2,I3]
 refine⟨_,c2,?_⟩
 simp only[ints_length,push_cast,↓J1,↓J2,N1,N2,N3,reduceCtorEq,N4,N5,N6,reduceIte,N7,I1,I2,I3]
 refine RL_count (fun i=>⟨tb 63 .any [(2,.int .i64 u),(3,.int .i64 to),(4,.ptr 0 none 0 0 0),(5,.ptr 1 none 0 0 0),(9,.ptr 2 none 0 0 0),(10,.bool (othU s u (D.take i))),(30,.ref 3 none 1 0 D.length),(31,.int .i64 (D.length:Int)),(32,.int .i64 (i:Int))],[(3,.slice 1 (ints D)),(2,.var (unA x)),(1,.var (staF s)),(0,.var (rulF b.r++mpF b.m))],4⟩) (fun i=>0<i→owner s to=x.sd) D.length 0 (hdA [(3,3),(2,2),(1,1),(0,0)]) (by omega) (by intro h;omega) fun i hi hI J hJ=>?_
 simp only[brdF,rulF,mpF,List.cons_append,List.nil_append,staF,unA]
 by_cases h1:i<D.length
 ·have e1:=cut_ints_get h1
  have hlt:decide ((i:Int)<(D.length:Int))=true:=decide_eq_true (by omega)
  have hk:=hdm _ (getD_in h1) h0
  have eo:othU s u (D.take (i+1))=(othU s u (D.take i)||!decide (D.getD i 0=u)):=by rw[take_snoc h1];simp[othU]
  rw[eo] at hJ
  generalize D.getD i 0=k at *
  have e2:=uns_int (s:=s) (k:=k) (by omega)
  simp only[hlt,e1,Int.toNat_natCast,ints_length,push_cast,↓J1,↓J2,N1,N2,N3,reduceCtorEq,N4,N5,N6,reduceIte,N7,I1,I2,I3]
  repeat (refine⟨by omega,?_⟩)
  simp only[e2,unA,uns_length,push_cast,↓J1,↓J2,N1,N2,N3,reduceCtorEq,N4,N5,N6,reduceIte,N7,I1,I2,I3]
  repeat (refine⟨by omega,?_⟩)
  rw[hk.2.2]
  cases g3:decide (owner s to=x.sd)
  ·have g4:decide (owner s to=1-x.sd)=true:=by
    have:=of_decide_eq_false g3
    have h2:=un_int h (k:=k) (by omega)
    have h3:=un_sd h2
    exact decide_eq_true (by omega)
   simp only[g3,g4,Bool.not_true,Bool.false_and,push_cast,↓J1,↓J2,N1,N2,N3,reduceCtorEq,N4,N5,N6,reduceIte,N7,I1,I2,I3]
  have hJ1:=hJ h1 (fun _=>of_decide_eq_true g3)
  simp only[g3,push_cast,↓J1,↓J2,N1,N2,N3,reduceCtorEq,N4,N5,N6,reduceIte,N7,I1,I2,I3]
  cases g5:othU s u (D.take i)<;>rw[g5] at hJ1<;>simp only[g5,push_cast,↓J1,↓J2,N1,N2,N3,reduceCtorEq,N4,N5,N6,reduceIte,N7,I1,I2,I3]
  ·exact hJ1 _ (hdA [(3,3),(2,2),(1,1),(0,0)])
  ·exact hJ1 _ (hdA [(3,3),(2,2),(1,1),(0,0)])
 ·have hlt:decide ((i:Int)<(D.length:Int))=false:=decide_eq_false (by omega)
  obtain rfl:i=D.length:=by omega
  have g4:decide (owner s to=1-x.sd)=false:=by
   refine decide_eq_false ?_
   rcases Nat.eq_zero_or_pos D.length with h2 | h2
   ·rw[hnil (List.length_eq_zero_iff.1 h2)];omega
   ·rw[hI h2];omega
  rw[List.take_length]
  rw[show D.any (fun k=>!decide (k=u))=othU s u D from rfl]
  cases g5:othU s u D
  ·simp only[hlt,g4,w1,push_cast,↓J1,↓J2,N1,N2,N3,reduceCtorEq,N4,N5,N6,reduceIte,N7,I1,I2,I3]
   refine⟨_,c3 h0,?_⟩
   simp only[push_cast,↓J1,↓J2,N1,N2,N3,reduceCtorEq,N4,N5,N6,reduceIte,N7,I1,I2,I3]
  ·simp only[hlt,g4,push_cast,↓J1,↓J2,N1,N2,N3,reduceCtorEq,N4,N5,N6,reduceIte,N7,I1,I2,I3]
theorem t239(b:Brd)(s:Sta)(u i:Int)(d:Nat)(h:staOk b s=true)(hu:0≤u∧u<(s.us.length:Int))(hi:0≤i∧i<100)(hd:d<6)(hb:BrdB (2^50) b):Ev C 239 [brdF b,.agg (staF s),.int .i64 u,.int .i64 i,.int .i64 (d:Int)] (.bool (backB b s u (nextM b.m i d))):=by
 have hm:=mp_wh (brd_mp (sta_brd h))
 have hwh:=brd_wh (sta_brd h)
 have hlen:=sta_len h
 have ht:=nextM_bnd (m:=b.m) (i:=i) (d:=d) hm.1 hm.2
 have e0:=uns_int hu
 have hx:=un_int h hu
 have hsd:=un_sd hx
 have hkx:inR 0 (b.r.ks.length-1) (unOf s u).k=true:=by simp only[unOk,Bool.and_eq_true] at hx;exact hx.1.1.2
 have c0:=t142 hC b.m i d hm.1 hm.2 (by omega) (by omega)
 generalize nextM b.m i d=to at *
 have hto: ∀h0:0≤to,inR 0 (b.m.w*b.m.h-1) to=true:=fun h0=>by simp only[inR,Bool.and_eq_true,decide_eq_true_eq];omega
 have c1:=fun h0:0≤to=>t141 hC b (unOf s u).k to (sta_brd h) hkx (hto h0) hb
 have c2:=fun sd=>t93 hC s to sd (by omega)
 have c3:=fun h0:0≤to=>t244 hC b s (1-(unOf s u).sd) to (sta_brd h) (sta_all h) (hto h0) hb (by omega)
 have a1:=fun h0:0≤to=>at_len (sd:=1-(unOf s u).sd) h (by omega) h0
 have a2:=fun(h0:0≤to) ho=>own_is (sd:=(unOf s u).sd) h hsd h0 ho
 have hfl:=fil_le (p:=isAt to (1-(unOf s u).sd)) (l:=s.us) (Nat.le_refl _)
 have hdl:(dfs s to).length≤s.us.length:=fil_le (Nat.le_refl _)
 simp only[backB]
 generalize hX:unOf s u=x at *
 have c21:=c2 (1-x.sd)
 have c22:=c2 x.sd
 generalize fil (isAt to (1-x.sd)) s.us s.us.length=E at *
 simp only[brdF,rulF,mpF,List.cons_append,List.nil_append,staF,unA] at *
 have w1:IntKind.i64.wrap (1-x.sd)=1-x.sd:=wrap64 (by omega) (by omega)
 refine rT hC Q239 ?_
 simp only[c239,e0,uns_length,push_cast,↓J1,↓J2,N1,N2,N3,reduceCtorEq,N4,N5,N6,reduceIte,N7,I1,I2,I3]
 repeat (refine⟨by omega,?_⟩)
 refine⟨_,c0,?_⟩
 have z0:decide (to<0)=!decide (0≤to):=by rw[Bool.eq_iff_iff];simp
 simp only[z0,push_cast,↓J1,↓J2,N1,N2,N3,reduceCtorEq,N4,N5,N6,reduceIte,N7,I1,I2,I3]
 cases g1:decide (0≤to)
 ·simp only[push_cast,↓J1,↓J2,N1,N2,N3,reduceCtorEq,N4,N5,N6,reduceIte,N7,I1,I2,I3]
 have h0:=of_decide_eq_true g1
 simp only[push_cast,↓J1,↓J2,N1,N2,N3,reduceCtorEq,N4,N5,N6,reduceIte,N7,I1,I2,I3]
 refine⟨_,c1 h0,?_⟩
 simp only[push_cast,↓J1,↓J2,N1,N2,N3,reduceCtorEq,N4,N5,N6,reduceIte,N7,I1,I2,I3]
 cases g2:decide (costAt b x.k to=0)
 rotate_left
 ·simp only[push_cast,↓J1,↓J2,N1,N2,N3,reduceCtorEq,N4,N5,N6,reduceIte,N7,I1,I2,I3]
 simp only[w1,push_cast,↓J1,↓J2,N1,N2,N3,reduceCtorEq,N4,N5,N6,reduceIte,N7,I1,I2,I3]
 refine⟨_,c21,?_⟩
 simp only[ints_length,a1 h0,push_cast,↓J1,↓J2,N1,N2,N3,reduceCtorEq,N4,N5,N6,reduceIte,N7,I1,I2,I3]
 cases g3:decide (owner s to=1-x.sd)
 rotate_left
 ·simp only[push_cast,↓J1,↓J2,N1,N2,N3,reduceCtorEq,N4,N5,N6,reduceIte,N7,I1,I2,I3]
 simp only[w1,push_cast,↓J1,↓J2,N1,N2,N3,reduceCtorEq,N4,N5,N6,reduceIte,N7,I1,I2,I3]
 refine⟨_,c3 h0,?_⟩
 simp only[push_cast,↓J1,↓J2,N1,N2,N3,reduceCtorEq,N4,N5,N6,reduceIte,N7,I1,I2,I3]
 cases g4:inZon b s (1-x.sd) to
 ·simp only[push_cast,↓J1,↓J2,N1,N2,N3,reduceCtorEq,N4,N5,N6,reduceIte,N7,I1,I2,I3]
 simp only[push_cast,↓J1,↓J2,N1,N2,N3,reduceCtorEq,N4,N5,N6,reduceIte,N7,I1,I2,I3]
 rw[a2 h0 (of_decide_eq_false g3)] at c22
 rw[show(dfs s to).any (fun k=>!decide (k=u))=othU s u (dfs s to) from rfl]
 generalize dfs s to=D at *
 refine⟨_,c22,?_⟩
 simp only[ints_length,push_cast,↓J1,↓J2,N1,N2,N3,reduceCtorEq,N4,N5,N6,reduceIte,N7,I1,I2,I3]
 refine RL_count (fun i=>⟨tb 67 .any [(2,.int .i64 u),(57,.ref 0 none 1 0 D.length),(58,.int .i64 (D.length:Int)),(59,.int .i64 (i:Int))],[(0,.slice 1 (ints D))],1⟩) (fun i=>othU s u (D.take i)=false) D.length 0 (hdA [(4,0)]) (by omega) rfl fun i hi hI J hJ=>?_
 by_cases h1:i<D.length
 ·have e1:=cut_ints_get h1
  have hlt:decide ((i:Int)<(D.length:Int))=true:=decide_eq_true (by omega)
  have eo:othU s u (D.take (i+1))=(othU s u (D.take i)||!decide (D.getD i 0=u)):=by rw[take_snoc h1];simp[othU]
  have ey:(!decide (D.getD i 0=u))=true→othU s u D=true:=fun h=>List.any_eq_true.2 ⟨_,getD_in h1,h⟩
  rw[eo,hI] at hJ
  generalize D.getD i 0=k at *
  simp only[hlt,e1,Int.toNat_natCast,ints_length,push_cast,↓J1,↓J2,N1,N2,N3,reduceCtorEq,N4,N5,N6,reduceIte,N7,I1,I2,I3]
  repeat (refine⟨by omega,?_⟩)
  cases g5:decide (k=u)
  ·simp only[ey (by rw[g5];rfl),push_cast,↓J1,↓J2,N1,N2,N3,reduceCtorEq,N4,N5,N6,reduceIte,N7,I1,I2,I3]
  ·have hJ1:=hJ h1 (by rw[g5];rfl)
   simp only[push_cast,↓J1,↓J2,N1,N2,N3,reduceCtorEq,N4,N5,N6,reduceIte,N7,I1,I2,I3]
   exact hJ1 _ (hdA [(0,0)])
 ·have hlt:decide ((i:Int)<(D.length:Int))=false:=decide_eq_false (by omega)
  obtain rfl:i=D.length:=by omega
  rw[List.take_length] at hI
  simp only[hlt,hI,push_cast,↓J1,↓J2,N1,N2,N3,reduceCtorEq,N4,N5,N6,reduceIte,N7,I1,I2,I3]
theorem t203(b:Brd)(s:Sta)(sd i:Int)(h:staOk b s=true)(hs:sd=0∨sd=1)(hi:0≤i):Ev C 203 [brdF b,.agg (staF s),.int .i64 sd,.int .i64 i] (.bool (decide (0<roomR b s sd i))):=by
 have hlen:=sta_len h
 have c2:=fun sd=>t93 hC s i sd (by omega)
 have a1:=at_len (sd:=1-sd) h (by omega) hi
 have a2:=fun ho=>own_is (sd:=sd) h hs hi ho
 have c21:=c2 (1-sd)
 have c22:=c2 sd
 have w1:IntKind.i64.wrap (1-sd)=1-sd:=wrap64 (by omega) (by omega)
 have g0:decide (((fil (isAt i (1-sd)) s.us s.us.length).length:Int)=0)=!decide (owner s i=1-sd):=by
  rw[←a1,Bool.eq_iff_iff];simp
 generalize fil (isAt i (1-sd)) s.us s.us.length=E at *
 simp only[roomR]
 simp only[brdF,rulF,mpF,List.cons_append,List.nil_append,staF] at *
 refine rT hC Q203 ?_
 simp only[c203,w1,push_cast,↓J1,↓J2,N1,N2,N3,reduceCtorEq,N4,N5,N6,reduceIte,N7,I1,I2,I3]
 refine⟨_,c21,?_⟩
 simp only[ints_length,g0,push_cast,↓J1,↓J2,N1,N2,N3,reduceCtorEq,N4,N5,N6,reduceIte,N7,I1,I2,I3]
 by_cases g3:owner s i=1-sd
 ·have g4:decide (owner s i=1-sd)=true:=decide_eq_true g3
  simp only[g4,if_pos g3,decide_false,Int.lt_irrefl,push_cast,↓J1,↓J2,N1,N2,N3,reduceCtorEq,N4,N5,N6,reduceIte,N7,I1,I2,I3]
 ·have g4:decide (owner s i=1-sd)=false:=decide_eq_false g3
  rw[a2 g3] at c22
  simp only[g4,if_neg g3,push_cast,↓J1,↓J2,N1,N2,N3,reduceCtorEq,N4,N5,N6,reduceIte,N7,I1,I2,I3]
  refine⟨_,c22,?_⟩
  simp only[ints_length,push_cast,↓J1,↓J2,N1,N2,N3,reduceCtorEq,N4,N5,N6,reduceIte,N7,I1,I2,I3]
  rw[Bool.eq_iff_iff,decide_eq_true_eq,decide_eq_true_eq]
  omega
theorem t103(s:Sta)(l:List Int)(hk: ∀k∈l,0≤k∧k<(s.us.length:Int))(hl:l.length<2^40)(hs:s.us.length<2^40):Ev C 103 [.agg (staF s),.sl (ints l)] (.ow 1 (ints (onL s l))):=by
 simp only[staF] at *
 refine rT hC Q103 ?_ (own_ints _)
 simp only[c103,ints_length,push_cast,↓J1,↓J2,N1,N2,N3,reduceCtorEq,N4,N5,N6,reduceIte,N7,I1,I2,I3]
 refine RL_count (fun i=>⟨tb 27 .any [(5,.ref 0 none 1 0 (onL s (l.take i)).length),(2,.ptr 1 none 0 0 0),(8,.sl (ints l)),(9,.int .i64 (l.length:Int)),(10,.int .i64 (i:Int))],[(0,.slice 1 (ints (onL s (l.take i)))),(1,.var (staF s))],2⟩) (fun _=>True) l.length 0 (hdO 5 0 1 [(0,1)]) (by omega) trivial fun i hi _ J hJ=>?_
 simp only[staF]
 have hol:(onL s (l.take i)).length≤l.length:=by
  have:=List.length_filter_le (fun k=>decide (0≤(unOf s k).at_)) (l.take i)
  simp only[onL];simp at this;omega
 by_cases h1:i<l.length
 ·have e1:=cut_ints_get h1
  have hlt:decide ((i:Int)<(l.length:Int))=true:=decide_eq_true (by omega)
  have hx:=hk _ (getD_in h1)
  have es:onL s (l.take (i+1))=if decide (0≤(unOf s (l.getD i 0)).at_) then onL s (l.take i)++[l.getD i 0] else onL s (l.take i):=by
   rw[take_snoc h1];simp only[onL,List.filter_append,List.filter_cons,List.filter_nil];split<;>simp
  have tk:List.take (onL s (l.take i)).length (ints (onL s (l.take i)))=ints (onL s (l.take i)):=List.take_of_length_le (by rw[ints_length];omega)
  have hJ1:=hJ h1 trivial
  rw[es] at hJ1
  generalize l.getD i 0=k at *
  generalize onL s (l.take i)=L at *
  have e2:=uns_int hx
  simp only[hlt,e1,Int.toNat_natCast,ints_length,push_cast,↓J1,↓J2,N1,N2,N3,reduceCtorEq,N4,N5,N6,reduceIte,N7,I1,I2,I3]
  repeat (refine⟨by omega,?_⟩)
  simp only[e2,unA,uns_length,push_cast,↓J1,↓J2,N1,N2,N3,reduceCtorEq,N4,N5,N6,reduceIte,N7,I1,I2,I3]
  repeat (refine⟨by omega,?_⟩)
  cases g:decide (0≤(unOf s k).at_)
  ·rw[g,if_neg Bool.false_ne_true] at hJ1
   simp only[push_cast,↓J1,↓J2,N1,N2,N3,reduceCtorEq,N4,N5,N6,reduceIte,N7,I1,I2,I3]
   exact hJ1 _ (hdA [(0,0),(1,1)])
  ·rw[g,if_pos rfl] at hJ1
   simp only[tk,ints_length,allScs,apYR_sc,push_cast,↓J1,↓J2,N1,N2,N3,reduceCtorEq,N4,N5,N6,reduceIte,N7,I1,I2,I3]
   repeat (refine⟨by omega,?_⟩)
   refine hJ1 _ (hdA [(3,0),(1,1)] (hh:=?_))
   simp only[canR,canB,renO,renL,ren,lkp,hget,N7,N5,Nat.not_lt_zero,if_false,if_true,reduceIte,List.append_nil,List.nil_append,ints_sn]
   all_goals rfl
 ·have hlt:decide ((i:Int)<(l.length:Int))=false:=decide_eq_false (by omega)
  obtain rfl:i=l.length:=by omega
  rw[List.take_length]
  simp only[hlt,push_cast,↓J1,↓J2,N1,N2,N3,reduceCtorEq,N4,N5,N6,reduceIte,N7,I1,I2,I3]
  exact RetTo_ow rfl (by rw[ints_length])
end
end Go.Proofs.YtlkcpadkjepchaaGreatDoor.X
set_option maxHeartbeats 4000000
set_option maxRecDepth 8000
set_option linter.unusedSimpArgs false
set_option linter.unusedVariables false
open Nat renaming reduceBEq→N1,reduceAdd→N2,reduceSub→N3,reduceMul→N4,reduceEqDiff→N5,reduceLeDiff→N6,reduceLT→N7
open Int renaming reduceLE→I1,reduceLT→I2,reduceToNat→I3
namespace Go.Proofs.YtlkcpadkjepchaaGreatDoor.X
open Go
attribute [local irreducible] Ev
theorem retL_succ(b:Brd)(s:Sta)(u:Int)(n:Nat):retL b s u (n+1)=if retP b s u n then retL b s u n++[(n:Int)] else retL b s u n:=by
 simp only[retL,List.range_succ,List.filter_append]
 cases h:retP b s u n<;>simp[h]
def retW(l:List Int):List (List Int):=l.map fun d=>[d]
theorem retW_len(l:List Int):(retW l).length=l.length:=by simp[retW]
theorem owss_app(V W:List (List Int)):owss V++owss W=owss (V++W):=by simp[owss]
theorem retL_le(b:Brd)(s:Sta)(u:Int)(n:Nat):(retL b s u n).length≤n:=rng_le _ _
def hx(m:Mp)(i:Int)(l:List Int):Int:=l.foldl (fun i d=>nextM m i d) i
def hxs(m:Mp)(i:Int)(l:List Int):List Int:=(List.range l.length).map fun j=>hx m i (l.take (j+1))
def okP(m:Mp)(i:Int)(l:List Int):Bool:=(hxs m i l).all fun k=>decide (0≤k)
theorem hx_snoc(m:Mp)(i:Int)(l:List Int)(d:Int):hx m i (l++[d])=nextM m (hx m i l) d:=by simp[hx,List.foldl_append]
theorem hxs_snoc(m:Mp)(i:Int)(l:List Int)(d:Int):hxs m i (l++[d])=hxs m i l++[nextM m (hx m i l) d]:=by
 simp only[hxs,List.length_append,List.length_singleton,List.range_succ,List.map_append,List.map_cons,List.map_nil]
 congr 1
 ·refine List.map_congr_left fun j hj=>?_
  rw[List.take_append_of_le_length (by simp at hj;omega)]
 ·rw[List.take_of_length_le (by simp),hx_snoc]
theorem hxs_len(m:Mp)(i:Int)(l:List Int):(hxs m i l).length=l.length:=by simp[hxs]
theorem hx_bnd{m:Mp}{i:Int}(hw:1≤m.w∧m.w≤10)(hh:1≤m.h∧m.h≤10)(hi:0≤i∧i<100): ∀{l:List Int},okP m i l=true→0≤hx m i l∧hx m i l<100:=by
 intro l h
 rcases List.eq_nil_or_concat l with rfl | ⟨l',d,rfl⟩
 ·exact hi
 ·simp only[List.concat_eq_append] at h⊢
  have:=nextM_bnd (m:=m) (i:=hx m i l') (d:=d) hw hh
  have hwh:=wh_le hw hh
  simp only[okP,hxs_snoc,List.all_append,List.all_cons,List.all_nil,Bool.and_true,Bool.and_eq_true,decide_eq_true_eq] at h
  rw[hx_snoc];omega
theorem retP_back{b:Brd}{s:Sta}{u:Int}{j:Nat}(h:backB b s u (nextM b.m (unOf s u).at_ j)=false):retP b s u j=false:=by simp only[retP,h,Bool.false_and]
theorem retP_dist{b:Brd}{s:Sta}{u:Int}{j:Nat}(h:decide (dHH b (unOf s u).at_ (nextM b.m (unOf s u).at_ j)=dHH b (unOf s u).at_ (unOf s u).at_+1)=false):retP b s u j=false:=by simp only[retP,h,Bool.false_and,Bool.and_false]
theorem retP_room{b:Brd}{s:Sta}{u:Int}{j:Nat}(h:decide (0<roomR b s (unOf s u).sd (nextM b.m (unOf s u).at_ j))=false):retP b s u j=false:=by simp only[retP,h,Bool.and_false]
theorem hdel_none{id:Nat}: ∀{h:Heap},hget h id=none→hdel h id=h
 | [],_=>rfl
 | (i,o)::h,e=>by
  simp only[hget] at e
  split at e
  ·cases e
  ·rename_i hne
   simp only[hdel,if_neg hne,hdel_none e]
theorem del_below{n j:Nat}{h:Heap}(hb:below n h)(hj:n≤j):hdel h j=h:=by
 refine hdel_none ?_
 cases e:hget h j with
 | none=>rfl
 | some o=>have:=below_lt hb e;omega
theorem del_below2{n j o:Nat}{h:Heap}(hb:below n h)(hj:n≤j):hdel (hdel h o) j=hdel h o:=by
 refine hdel_none ?_
 rw[hget_del]
 split
 ·rfl
 ·cases e:hget h j with
  | none=>rfl
  | some o=>have:=below_lt hb e;omega
section
variable{C:CT}(hC:Closed Tryz.prog G1 md0 C)
include hC
theorem t215(m:Mp)(i:Int)(l:List Int)(hw:1≤m.w∧m.w≤10)(hh:1≤m.h∧m.h≤10)(hi:0≤i∧i<100)(hd: ∀d∈l,0≤d∧d<6)(hl:l.length<2^40):Ev C 215 [.agg (mpF m),.int .i64 i,.sl (ints l)] (.tup [.ow 1 (ints (if okP m i l then hxs m i l else[])),.bool (okP m i l)]):=by
 have c1:=fun a (h:0≤a∧a<300) d (hd:0≤d∧d<6)=>t210 hC m a d hw hh h hd
 have hown:=own_ints (if okP m i l then hxs m i l else[])
 simp only[ownR] at hown
 simp only[mpF] at *
 refine rT hC Q215 ?_ (by simp only[ownR,ownRL,hown,Bool.and_true])
 simp only[c215,ints_length,push_cast,↓J1,↓J2,N1,N2,N3,reduceCtorEq,N4,N5,N6,reduceIte,N7,I1,I2,I3]
 refine RL_count (fun j=>⟨tb 30 .any [(1,.int .i64 (hx m i (l.take j))),(3,.ptr 1 none 0 0 0),(8,.ref 0 none 1 0 j),(12,.sl (ints l)),(13,.int .i64 (l.length:Int)),(14,.int .i64 (j:Int))],[(0,.slice 1 (ints (hxs m i (l.take j)))),(1,.var (mpF m))],2⟩) (fun j=>okP m i (l.take j)=true) l.length 0 (hdA [(1,0),(0,1)]) (by omega) rfl fun j hj hI J hJ=>?_
 simp only[mpF]
 have htl:(hxs m i (l.take j)).length=j:=by rw[hxs_len];simp;omega
 have tk:List.take j (ints (hxs m i (l.take j)))=ints (hxs m i (l.take j)):=List.take_of_length_le (by rw[ints_length];omega)
 by_cases h1:j<l.length
 ·have e1:=cut_ints_get h1
  have hlt:decide ((j:Int)<(l.length:Int))=true:=decide_eq_true (by omega)
  have hx0:=hx_bnd hw hh hi hI
  have hdk:=hd _ (getD_in h1)
  have c1:=c1 (hx m i (l.take j)) (by omega) (l.getD j 0) hdk
  have eo:okP m i (l.take (j+1))=(okP m i (l.take j)&&decide (0≤nextM m (hx m i (l.take j)) (l.getD j 0))):=by rw[take_snoc h1];simp[okP,hxs_snoc]
  have en:decide (0≤nextM m (hx m i (l.take j)) (l.getD j 0))=false→okP m i l=false:=by
   intro h
   simp only[okP,List.all_eq_false]
   refine⟨_,List.mem_map.2 ⟨j,List.mem_range.2 h1,rfl⟩,?_⟩
   rw[take_snoc h1,hx_snoc]
   simpa using h
  rw[take_snoc h1,hx_snoc,hxs_snoc,←take_snoc h1,eo,hI] at hJ
  generalize nextM m (hx m i (l.take j)) (l.getD j 0)=a at *
  generalize l.getD j 0=d at *
  simp only[hlt,e1,Int.toNat_natCast,ints_length,push_cast,↓J1,↓J2,N1,N2,N3,reduceCtorEq,N4,N5,N6,reduceIte,N7,I1,I2,I3]
  repeat (refine⟨by omega,?_⟩)
  refine⟨_,c1,?_⟩
  have z0:decide (a<0)=!decide (0≤a):=by rw[Bool.eq_iff_iff];simp
  simp only[z0,push_cast,↓J1,↓J2,N1,N2,N3,reduceCtorEq,N4,N5,N6,reduceIte,N7,I1,I2,I3]
  cases g:decide (0≤a)
  ·simp only[en g,Bool.false_eq_true,if_false,push_cast,↓J1,↓J2,N1,N2,N3,reduceCtorEq,N4,N5,N6,reduceIte,N7,I1,I2,I3]
   exact⟨.tup [.nil,.bool false],_,by simp only[conR,conRL,isF];rfl,by simp[NilTo,NilToL,ints]⟩
  ·have hJ1:=hJ h1 (by rw[g];rfl)
   simp only[tk,htl,ints_length,allScs,apYR_sc,push_cast,↓J1,↓J2,N1,N2,N3,reduceCtorEq,N4,N5,N6,reduceIte,N7,I1,I2,I3]
   repeat (refine⟨by omega,?_⟩)
   refine hJ1 _ (hdA [(3,0),(1,1)] (hh:=?_))
   simp only[canR,canB,renO,renL,ren,lkp,hget,N7,N5,Nat.not_lt_zero,if_false,if_true,reduceIte,List.append_nil,List.nil_append,ints_sn]
   all_goals rfl
 ·have hlt:decide ((j:Int)<(l.length:Int))=false:=decide_eq_false (by omega)
  obtain rfl:j=l.length:=by omega
  rw[List.take_length] at *
  simp only[hlt,hI,if_true,push_cast,↓J1,↓J2,N1,N2,N3,reduceCtorEq,N4,N5,N6,reduceIte,N7,I1,I2,I3]
  exact RetTo_of (by simp only[conR,conRL,isF,hget,hdel,List.drop_zero,List.take_length,if_true,if_false,reduceIte,N5,reduceCtorEq,tk];rfl)
theorem rFr1(b:Brd)(s:Sta)(u i d:Int)(hp0:Heap)(n p:Nat)(h:staOk b s=true)(hu:0≤u∧u<(s.us.length:Int))(ha:0≤(unOf s u).at_)(hb:BrdB (2^50) b)(hpn:p<n)(hp:hget hp0 p=some (.slice 1 [[.int .i64 d]]))(hs:solid hp0)(hbl:below n hp0)(o:Nat)(L:List (List Int))(ho:hget hp0 o=some (.slice 1 (owss L)))(hop:o≠p)(hon:o<n)(hs2:solid (hdel hp0 o))(hg:decide (0<roomR b s (unOf s u).sd i)=true)(hL:L.length<100):C 235 [brdF b,.agg (staF s),.int .i64 u,.int .i64 i,.int .i64 0,.ref p none 1 0 1,.ref o none 1 0 L.length] hp0 n (fun v h' n'=>v= .ref (n+5) none 1 0 (L.length+1)∧h'=(n+5,.slice 1 (owss (L++[[d]])))::(n+2,.var [.int .i64 ((unOf s u).at_.tmod b.m.w),.int .i64 ((unOf s u).at_.tdiv b.m.w)])::(n+1,.var (staF s))::(n,.var (rulF b.r++mpF b.m))::hdel hp0 o∧n'=n+6):=by
 have hm:=mp_wh (brd_mp (sta_brd h))
 have hwh:=brd_wh (sta_brd h)
 have hlen:=sta_len h
 have e0:=uns_int hu
 have hx:=un_int h hu
 have hsd:=un_sd hx
 have hr:=brd_ru (sta_brd h)
 simp only[rulOk,tailOk,inR,Bool.and_eq_true,decide_eq_true_eq] at hr
 have hat:(unOf s u).at_<b.m.w*b.m.h:=zon_at hwh.2.1 hx
 have c1:=t233 hC b.m (unOf s u).at_ hm.1 hm.2 (by omega)
 have c2:=t217 hC b s (unOf s u).sd i hsd (by omega) (by omega)
 have c3:=t241 hC [d] (by simp)
 rw[show(if owner s i=1-(unOf s u).sd then 0 else b.r.stack-(fil (inHex i) s.us s.us.length).length)=roomR b s (unOf s u).sd i from rfl] at c2
 generalize roomR b s (unOf s u).sd i=R at *
 generalize unOf s u=x at *
 have hk:killH hp0=hp0:=hs
 have hk2:killH (hdel hp0 o)=hdel hp0 o:=hs2
 have f1:(n+1=n)=False:=by simp
 have g1:(n=n+1)=False:=by simp
 have f2:(n+2=n)=False:=by simp
 have g2:(n=n+2)=False:=by simp
 have f3:(n+3=n)=False:=by simp
 have g3:(n=n+3)=False:=by simp
 have f4:(n+4=n)=False:=by simp
 have g4:(n=n+4)=False:=by simp
 have f5:(n+5=n)=False:=by simp
 have g5:(n=n+5)=False:=by simp
 have p0:(n=p)=False:=eq_false (by omega)
 have p1:(n+1=p)=False:=eq_false (by omega)
 have p2:(n+1+1=p)=False:=eq_false (by omega)
 have p3:(n+1+1+1=p)=False:=eq_false (by omega)
 have p4:(n+1+1+1+1=p)=False:=eq_false (by omega)
 have p5:(n+1+1+1+1+1=p)=False:=eq_false (by omega)
 have d3:=del_below hbl (j:=n+1+1+1) (by omega)
 have d4:=del_below hbl (j:=n+1+1+1+1) (by omega)
 have o0:(n=o)=False:=eq_false (by omega)
 have o1:(n+1=o)=False:=eq_false (by omega)
 have o2:(n+1+1=o)=False:=eq_false (by omega)
 have o3:(n+1+1+1=o)=False:=eq_false (by omega)
 have o4:(n+1+1+1+1=o)=False:=eq_false (by omega)
 have o5:(n+1+1+1+1+1=o)=False:=eq_false (by omega)
 have d5:=del_below2 (o:=o) hbl (j:=n+1+1+1+1) (by omega)
 have tko:List.take L.length (owss L)=owss L:=List.take_of_length_le (by rw[owss_length];omega)
 have isNs: ∀l:List (List AV),allScs [[AV.ow 1 l]]=false:=fun _=>rfl
 simp only[brdF,rulF,mpF,List.cons_append,List.nil_append,staF,unA,ints,List.map_cons,List.map_nil] at *
 refine Closed.rT hC Q235 ?_
 simp only[c235,e0,uns_length,push_cast,↓J1,↓J2,N1,N2,N3,reduceCtorEq,N4,N5,N6,reduceIte,N7,I1,I2,I3]
 repeat' (first
  | simp only[hk,hg,hp,e0,uns_length,Int.toNat_natCast,f1,g1,f2,g2,f3,g3,f4,g4,f5,g5,p0,p1,p2,p3,p4,p5,d3,d4,ints_length,owss_length,apYR_ns,isNs,o0,o1,o2,o3,o4,o5,tko,ho,hk2,d5,push_cast,↓J1,↓J2,N1,N2,N3,reduceCtorEq,N4,N5,N6,reduceIte,N7,I1,I2,I3]
  | refine⟨_,c1,?_⟩
  | refine⟨_,c2,?_⟩
  | refine⟨_,c3,?_⟩
  | refine ifB_intro (fun h=>?_) (fun h=>?_)
  | refine And.intro ?_ ?_)
 all_goals first
  | omega
  | rfl
  | (rw[←owss_app];rfl)
theorem rFr0(b:Brd)(s:Sta)(u i d:Int)(hp0:Heap)(n p:Nat)(h:staOk b s=true)(hu:0≤u∧u<(s.us.length:Int))(ha:0≤(unOf s u).at_)(hb:BrdB (2^50) b)(hpn:p<n)(hp:hget hp0 p=some (.slice 1 [[.int .i64 d]]))(hs:solid hp0)(hbl:below n hp0)(o:Nat)(L:List (List Int))(ho:hget hp0 o=some (.slice 1 (owss L)))(hop:o≠p)(hon:o<n)(hs2:solid (hdel hp0 o))(hg:decide (0<roomR b s (unOf s u).sd i)=false)(hL:L.length<100):C 235 [brdF b,.agg (staF s),.int .i64 u,.int .i64 i,.int .i64 0,.ref p none 1 0 1,.ref o none 1 0 L.length] hp0 n (fun v h' n'=>v= .ref o none 1 0 L.length∧h'=(n+2,.var [.int .i64 ((unOf s u).at_.tmod b.m.w),.int .i64 ((unOf s u).at_.tdiv b.m.w)])::(n+1,.var (staF s))::(n,.var (rulF b.r++mpF b.m))::hp0∧n'=n+3):=by
 have hm:=mp_wh (brd_mp (sta_brd h))
 have hwh:=brd_wh (sta_brd h)
 have hlen:=sta_len h
 have e0:=uns_int hu
 have hx:=un_int h hu
 have hsd:=un_sd hx
 have hr:=brd_ru (sta_brd h)
 simp only[rulOk,tailOk,inR,Bool.and_eq_true,decide_eq_true_eq] at hr
 have hat:(unOf s u).at_<b.m.w*b.m.h:=zon_at hwh.2.1 hx
 have c1:=t233 hC b.m (unOf s u).at_ hm.1 hm.2 (by omega)
 have c2:=t217 hC b s (unOf s u).sd i hsd (by omega) (by omega)
 have c3:=t241 hC [d] (by simp)
 rw[show(if owner s i=1-(unOf s u).sd then 0 else b.r.stack-(fil (inHex i) s.us s.us.length).length)=roomR b s (unOf s u).sd i from rfl] at c2
 generalize roomR b s (unOf s u).sd i=R at *
 generalize unOf s u=x at *
 have hk:killH hp0=hp0:=hs
 have hk2:killH (hdel hp0 o)=hdel hp0 o:=hs2
 have f1:(n+1=n)=False:=by simp
 have g1:(n=n+1)=False:=by simp
 have f2:(n+2=n)=False:=by simp
 have g2:(n=n+2)=False:=by simp
 have f3:(n+3=n)=False:=by simp
 have g3:(n=n+3)=False:=by simp
 have f4:(n+4=n)=False:=by simp
 have g4:(n=n+4)=False:=by simp
 have f5:(n+5=n)=False:=by simp
 have g5:(n=n+5)=False:=by simp
 have p0:(n=p)=False:=eq_false (by omega)
 have p1:(n+1=p)=False:=eq_false (by omega)
 have p2:(n+1+1=p)=False:=eq_false (by omega)
 have p3:(n+1+1+1=p)=False:=eq_false (by omega)
 have p4:(n+1+1+1+1=p)=False:=eq_false (by omega)
 have p5:(n+1+1+1+1+1=p)=False:=eq_false (by omega)
 have d3:=del_below hbl (j:=n+1+1+1) (by omega)
 have d4:=del_below hbl (j:=n+1+1+1+1) (by omega)
 have o0:(n=o)=False:=eq_false (by omega)
 have o1:(n+1=o)=False:=eq_false (by omega)
 have o2:(n+1+1=o)=False:=eq_false (by omega)
 have o3:(n+1+1+1=o)=False:=eq_false (by omega)
 have o4:(n+1+1+1+1=o)=False:=eq_false (by omega)
 have o5:(n+1+1+1+1+1=o)=False:=eq_false (by omega)
 have d5:=del_below2 (o:=o) hbl (j:=n+1+1+1+1) (by omega)
 have tko:List.take L.length (owss L)=owss L:=List.take_of_length_le (by rw[owss_length];omega)
 have isNs: ∀l:List (List AV),allScs [[AV.ow 1 l]]=false:=fun _=>rfl
 simp only[brdF,rulF,mpF,List.cons_append,List.nil_append,staF,unA,ints,List.map_cons,List.map_nil] at *
 refine Closed.rT hC Q235 ?_
 simp only[c235,e0,uns_length,push_cast,↓J1,↓J2,N1,N2,N3,reduceCtorEq,N4,N5,N6,reduceIte,N7,I1,I2,I3]
 repeat' (first
  | simp only[hk,hg,hp,e0,uns_length,Int.toNat_natCast,f1,g1,f2,g2,f3,g3,f4,g4,f5,g5,p0,p1,p2,p3,p4,p5,d3,d4,ints_length,owss_length,apYR_ns,isNs,o0,o1,o2,o3,o4,o5,tko,ho,hk2,d5,push_cast,↓J1,↓J2,N1,N2,N3,reduceCtorEq,N4,N5,N6,reduceIte,N7,I1,I2,I3]
  | refine⟨_,c1,?_⟩
  | refine⟨_,c2,?_⟩
  | refine⟨_,c3,?_⟩
  | refine ifB_intro (fun h=>?_) (fun h=>?_)
  | refine And.intro ?_ ?_)
 all_goals first
  | omega
  | rfl
  | (rw[←owss_app];rfl)
end
end Go.Proofs.YtlkcpadkjepchaaGreatDoor.X
set_option maxHeartbeats 1000000
set_option maxRecDepth 8000
set_option linter.unusedSimpArgs false
set_option linter.unusedVariables false
open Nat renaming reduceBEq→N1,reduceAdd→N2,reduceSub→N3,reduceMul→N4,reduceEqDiff→N5,reduceLeDiff→N6,reduceLT→N7
open Int renaming reduceLE→I1,reduceLT→I2,reduceToNat→I3
namespace Go.Proofs.YtlkcpadkjepchaaGreatDoor.X
open Go
section
variable{P:Program}{G:Glo}{C:CT}{md:FuncId→Bool}{B:Nat}{t:List AV}{h:Heap}{n:Nat}{Q:XE→St→Prop}{r x y:XC}
theorem cutF(A:St→Prop)(h1: ∀(K:St→Prop) (F:XE→St→Prop),(∀s',A s'→K s')→R P G C md B x ⟨t,h,n⟩ (thenX K F)∧R P G C md B y ⟨t,h,n⟩ (thenX K F))(h2: ∀s',A s'→R P G C md B r s' Q):R P G C md B (.fork x y r) ⟨t,h,n⟩ Q:=by
 rw[R_fork];exact h1 _ _ h2
end
theorem below_le{n m:Nat}{h:Heap}(hb:below n h)(hm:n≤m):below m h:=by
 induction hm with
 | refl=>exact hb
 | step _ ih=>exact below_succ ih
end Go.Proofs.YtlkcpadkjepchaaGreatDoor.X
