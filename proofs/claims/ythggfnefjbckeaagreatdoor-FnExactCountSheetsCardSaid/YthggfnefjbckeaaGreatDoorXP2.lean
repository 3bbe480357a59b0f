/- A part of the proof: lemmas on the machine or on the functions that the law reaches. No condition of its own. -/
import Derived.Test.YthggfnefjbckeaaGreatDoorXP1
set_option linter.unusedVariables false
open Nat renaming reduceBEq→N1,reduceAdd→N2,reduceSub→N3,reduceMul→N4,reduceEqDiff→N5,reduceLeDiff→N6,reduceLT→N7
open Int renaming reduceLE→I1,reduceLT→I2,reduceToNat→I3
namespace Go.Proofs.YthggfnefjbckeaaGreatDoor.X
open Go
def dirs:List AV:=[.int .i64 1,.int .i64 0,.int .i64 1,.int .i64 (-1),.int .i64 0,.int .i64 (-1),.int .i64 (-1),.int .i64 0,.int .i64 (-1),.int .i64 1,.int .i64 0,.int .i64 1]
def G1:Glo:=fun g=>if g=0 then some dirs else none
theorem ev_dirs{s:St}:ev G1 s (.global 0)= .pf dirs:=_root_.id rfl
attribute [push_cast] ev_dirs
end Go.Proofs.YthggfnefjbckeaaGreatDoor.X
set_option maxHeartbeats 1000000
set_option maxRecDepth 8000
set_option linter.unusedSimpArgs false
set_option linter.unusedSectionVars false
set_option linter.unusedVariables false
open Nat renaming reduceBEq→N1,reduceAdd→N2,reduceSub→N3,reduceMul→N4,reduceEqDiff→N5,reduceLeDiff→N6,reduceLT→N7
open Int renaming reduceLE→I1,reduceLT→I2,reduceToNat→I3
namespace Go.Proofs.YthggfnefjbckeaaGreatDoor.X
open Go
def ints(l:List Int):List (List AV):=l.map fun n=>[.int .i64 n]
theorem own_ints(l:List Int):ownR (.ow 1 (ints l))=true:=by
 simp only[ownR]
 unfold ints
 induction l with
 | nil=>rfl
 | cons x l ih=>simp only[List.map_cons,ownRLL,ownRL,ownR,Bool.and_true,Bool.true_and];exact ih
section
variable{C:CT}(hC:Closed Tryz.prog G1 md0 C)
include hC
theorem t26(a b c:Int):Ev C 26 [.int .i64 a,.int .i64 b,.int .i64 c] (.bool (decide (b≤a)&&decide (a≤c))):=by
 refine rT hC Q26 ?_
 simp only[c26,push_cast,↓J1,↓J2,N1,N2,N3,reduceCtorEq,N4,N5,N6,reduceIte,N7,I1,I2,I3]
 grind [ifB]
theorem t73(a b c:Int):Ev C 73 [.int .i64 a,.int .i64 b,.int .i64 c] (.bool (decide (b≤a)&&decide (a≤c))):=by
 refine rT hC Q73 ?_
 simp only[c73,push_cast,↓J1,↓J2,N1,N2,N3,reduceCtorEq,N4,N5,N6,reduceIte,N7,I1,I2,I3]
 grind [ifB]
theorem t115(a b:Int)(hb: -2^62≤b∧b≤2^62):Ev C 115 [.int .i64 a,.int .i64 b] (.bool (decide (0≤a)&&decide (a≤b-1))):=by
 refine rT hC Q115 ?_
 simp only[c115,push_cast,↓J1,↓J2,N1,N2,N3,reduceCtorEq,N4,N5,N6,reduceIte,N7,I1,I2,I3]
 refine⟨_,t73 hC _ _ _,?_⟩
 simp only[push_cast,↓J1,↓J2,N1,N2,N3,reduceCtorEq,N4,N5,N6,reduceIte,N7,I1,I2,I3]
 rw[wrap64 (by omega) (by omega)]
theorem t56(es:List (List AV))(v:Int)(hv: -1≤v∧v<2^50)(he:es.length<2^50):Ev C 56 [.sl es,.int .i64 v] (.int .i64 (if v<es.length then -1 else v-es.length)):=by
 refine rT hC Q56 ?_
 simp only[c56,push_cast,↓J1,↓J2,N1,N2,N3,reduceCtorEq,N4,N5,N6,reduceIte,N7,I1,I2,I3]
 rw[wrap64 (by omega) (by omega)]
 grind [ifB]
theorem t80(l m:List Int)(hl:l.length<2^50)(hm:m.length<2^50):Ev C 80 [.sl (ints l),.sl (ints m)] (.bool (l==m)):=by
 refine rT hC Q80 ?_
 simp only[c80,ints,List.length_map,push_cast,↓J1,↓J2,N1,N2,N3,reduceCtorEq,N4,N5,N6,reduceIte,N7,I1,I2,I3]
 refine ifB_intro (fun h=>?_) (fun h=>?_)
 ·have hlm:l.length=m.length:=by simp at h;omega
  refine RL_count (fun i=>⟨tb 26 .any [(0,.sl (l.map fun n=>[.int .i64 n])),(1,.sl (m.map fun n=>[.int .i64 n])),(5,.int .i64 (i:Int))],[],0⟩) (fun i=>l.take i=m.take i) l.length 0 (hdA []) (by omega) rfl fun i hi ht J hJ=>?_
  by_cases h1:i<l.length
  ·have h2:i<m.length:=by omega
   simp only[List.length_map,Int.toNat_natCast,List.getElem?_map,List.getElem?_eq_getElem h1,List.getElem?_eq_getElem h2,push_cast,↓J1,↓J2,N1,N2,N3,reduceCtorEq,N4,N5,N6,reduceIte,N7,I1,I2,I3]
   refine ifB_intro (fun _=>⟨by omega,by omega,ifB_intro (fun h=>?_) (fun h=>?_)⟩) (fun h=>by simp at h;omega)
   ·refine hJ h1 ?_ _ (hdA [])
    ·rw[List.take_succ_eq_append_getElem h1,List.take_succ_eq_append_getElem h2,ht]
     have h':l[i]=m[i]:=by simpa using h
     rw[h']
   ·have: ¬l=m:=by rintro rfl;simp at h
    simp[this]
  ·simp only[List.length_map,Int.toNat_natCast,List.getElem?_map,push_cast,↓J1,↓J2,N1,N2,N3,reduceCtorEq,N4,N5,N6,reduceIte,N7,I1,I2,I3]
   refine ifB_intro (fun h=>by simp at h;omega) (fun h=>?_)
   rw[List.take_of_length_le (by omega),List.take_of_length_le (by omega)] at ht
   simp[ht]
 ·have: ¬l=m:=by rintro rfl;simp at h
  simp[this]
theorem t69(l:List Int)(hl:l.length<2^30):Ev C 69 [.sl (ints l)] (.ow 1 (ints l)):=by
 refine rT hC Q69 ?_ (own_ints l)
 simp only[c69,ints,List.length_map,push_cast,↓J1,↓J2,N1,N2,N3,reduceCtorEq,N4,N5,N6,reduceIte,N7,I1,I2,I3]
 refine⟨by omega,by omega,by omega,by omega,?_⟩
 refine RL_count (fun i=>⟨tb 22 .any [(0,.sl (l.map fun n=>[.int .i64 n])),(3,.ref 0 none 1 0 l.length),(4,.int .i64 (i:Int))],[(0,.slice 1 ((l.take i).map (fun n=>[.int .i64 n])++List.replicate (l.length-i) [.int .i64 0]))],1⟩) (fun _=>True) l.length 0 (hdA [(0,0)]) (by omega) trivial fun i hi _ J hJ=>?_
 by_cases h1:i<l.length
 ·rw[show l.length-i=(l.length-(i+1))+1 by omega,List.replicate_succ]
  simp only[List.length_map,Int.toNat_natCast,List.getElem?_map,List.getElem?_eq_getElem h1,mid_get (show((l.take i).map fun n=>[AV.int .i64 n]).length=i by simp;omega),mid_set (show((l.take i).map fun n=>[AV.int .i64 n]).length=i by simp;omega),push_cast,↓J1,↓J2,N1,N2,N3,reduceCtorEq,N4,N5,N6,reduceIte,N7,I1,I2,I3]
  refine ifB_intro (fun _=>⟨by omega,by omega,by omega,?_⟩) (fun h=>by simp at h;omega)
  refine hJ h1 trivial _ (hdA [(0,0)] (hh:=?_))
  rw[List.take_succ_eq_append_getElem h1,List.map_append,List.append_assoc]
  simp only[canR,canB,renO,renL,ren,lkp,hget,N7,N5,Nat.not_lt_zero,if_false,if_true,reduceIte,List.append_nil,List.nil_append]
  rfl
 ·simp only[List.length_map,Int.toNat_natCast,List.getElem?_map,push_cast,↓J1,↓J2,N1,N2,N3,reduceCtorEq,N4,N5,N6,reduceIte,N7,I1,I2,I3]
  refine ifB_intro (fun h=>by simp at h;omega) (fun h=>?_)
  rw[List.take_of_length_le (by omega),show l.length-i=0 by omega]
  exact RetTo_ow (by simp[hget]) (by simp)
end
end Go.Proofs.YthggfnefjbckeaaGreatDoor.X
set_option maxHeartbeats 1000000
set_option maxRecDepth 8000
set_option linter.unusedSimpArgs false
set_option linter.unusedSectionVars false
set_option linter.unusedVariables false
open Nat renaming reduceBEq→N1,reduceAdd→N2,reduceSub→N3,reduceMul→N4,reduceEqDiff→N5,reduceLeDiff→N6,reduceLT→N7
open Int renaming reduceLE→I1,reduceLT→I2,reduceToNat→I3
namespace Go.Proofs.YthggfnefjbckeaaGreatDoor.X
open Go
structure Ln where
 a:Int
 b:Int
 c:Int
 deriving DecidableEq
def inR(lo hi n:Int):Bool:=decide (lo≤n)&&decide (n≤hi)
def fidx(p:Int→Bool)(l:List Int):Int:=if l.findIdx p<l.length then(l.findIdx p:Int) else -1
theorem fidx_at{p:Int→Bool}{l:List Int}{i:Nat}(h:i<l.length)(hp:p l[i]=true)(hn: ∀j (h:j<l.length),j<i→p l[j]=false):fidx p l=i:=by
 have:l.findIdx p=i:=(List.findIdx_eq h).2 ⟨hp,fun j hj=>hn j (by omega) hj⟩
 simp[fidx,this,h]
theorem fidx_no{p:Int→Bool}{l:List Int}(hn: ∀j (h:j<l.length),p l[j]=false):fidx p l= -1:=by
 have: ¬l.findIdx p<l.length:=fun h=>by
  have:=hn _ h
  rw[List.findIdx_getElem (w:=h)] at this
  cases this
 simp only[fidx,this,if_false]
theorem fidx_any(p:Int→Bool)(l:List Int):decide (0≤fidx p l)=l.any p:=by
 by_cases h:l.findIdx p<l.length
 ·have h1:fidx p l=l.findIdx p:=if_pos h
  have h2:l.any p=true:=by
   obtain⟨x,hx,hp⟩:=List.findIdx_lt_length.1 h
   exact List.any_eq_true.2 ⟨x,hx,hp⟩
  rw[h1,h2]
  exact decide_eq_true (by omega)
 ·have h1:fidx p l= -1:=if_neg h
  have h2:l.any p=false:=by
   rw[List.any_eq_false]
   intro x hx hp
   exact h (List.findIdx_lt_length.2 ⟨x,hx,hp⟩)
  rw[h1,h2]
  rfl
theorem frzA_F{h:Heap}{k:Nat}{x:AV}(hx:isF x=true):frzA h k x=some x:=by
 cases x<;>simp[isF] at hx<;>cases k<;>simp[frzA,isF]
theorem frzAL_F{h:Heap}{k:Nat}: ∀{xs:List AV},allF xs=true→frzAL h k xs=some xs
 | [],_=>by cases k<;>simp[frzAL]
 | x::xs,hx=>by
  simp only[allF,Bool.and_eq_true] at hx
  cases k<;>simp[frzAL,frzA_F hx.1,frzAL_F hx.2]
theorem ren_F{B:Nat}{ρ:List (Nat×Nat)}{x:AV}(hx:isF x=true):ren B ρ x=x:=by
 cases x<;>simp[isF] at hx<;>simp[ren]
theorem renL_F{B:Nat}{ρ:List (Nat×Nat)}: ∀{xs:List AV},allF xs=true→renL B ρ xs=xs
 | [],_=>by simp[renL]
 | x::xs,hx=>by
  simp only[allF,Bool.and_eq_true] at hx
  simp[renL,ren_F hx.1,renL_F hx.2]
theorem frzOkL_F: ∀{xs:List AV},allF xs=true→frzOkL xs=true
 | [],_=>by simp[frzOkL]
 | x::xs,hx=>by
  simp only[allF,Bool.and_eq_true] at hx
  simp only[frzOkL,frzOkL_F hx.2,Bool.and_true]
  have:=hx.1
  cases x<;>simp[isF] at this<;>simp[frzOk]
section
variable{C:CT}(hC:Closed Tryz.prog G1 md0 C)
include hC
theorem t145(l:List Int)(lo hi:Int)(hl:l.length<2^50):Ev C 145 [.sl (ints l),.int .i64 lo,.int .i64 hi] (.bool (l.all (inR lo hi))):=by
 refine rT hC Q145 ?_
 simp only[c145,ints,List.length_map,push_cast,↓J1,↓J2,N1,N2,N3,reduceCtorEq,N4,N5,N6,reduceIte,N7,I1,I2,I3]
 refine RL_count (fun i=>⟨tb 21 .any [(1,.int .i64 lo),(2,.int .i64 hi),(9,.sl (l.map fun n=>[.int .i64 n])),(10,.int .i64 (l.length:Int)),(11,.int .i64 (i:Int))],[],0⟩) (fun i=>l.all (inR lo hi)=(l.drop i).all (inR lo hi)) l.length 0 (hdA []) (by omega) rfl fun i hi' ht J hJ=>?_
 by_cases h1:i<l.length
 ·simp only[List.length_map,Int.toNat_natCast,List.getElem?_map,List.getElem?_eq_getElem h1,push_cast,↓J1,↓J2,N1,N2,N3,reduceCtorEq,N4,N5,N6,reduceIte,N7,I1,I2,I3]
  refine ifB_intro (fun _=>⟨by omega,_,t26 hC _ _ _,?_⟩) (fun h=>by simp at h;omega)
  rw[List.drop_eq_getElem_cons h1,List.all_cons] at ht
  simp only[push_cast,↓J1,↓J2,N1,N2,N3,reduceCtorEq,N4,N5,N6,reduceIte,N7,I1,I2,I3]
  refine ifB_intro (fun h=>?_) (fun h=>?_)
  ·refine hJ h1 ?_ _ (hdA [])
   ·rw[ht];simp only[inR] at h⊢;rw[h];rfl
  ·rw[ht];simp only[inR] at h⊢;rw[h];rfl
 ·simp only[List.length_map,Int.toNat_natCast,List.getElem?_map,push_cast,↓J1,↓J2,N1,N2,N3,reduceCtorEq,N4,N5,N6,reduceIte,N7,I1,I2,I3]
  refine ifB_intro (fun h=>by simp at h;omega) (fun h=>?_)
  rw[ht,List.drop_eq_nil_of_le (by omega)]
  rfl
theorem t181(l:List Int)(f:FuncId)(caps:List AV)(p:Int→Bool)(hl:l.length<2^50)(hm:md0 f=false)(hc:allF caps=true)
  (hp: ∀n∈l,Ev C f (.int .i64 n::caps) (.bool (p n))):Ev C 181 [.sl (ints l),.fn f caps] (.int .i64 (fidx p l)):=by
 have hr:renL 0 [] caps=caps:=renL_F hc
 refine rT hC Q181 ?_
 simp only[c181,ints,List.length_map,push_cast,↓J1,↓J2,N1,N2,N3,reduceCtorEq,N4,N5,N6,reduceIte,N7,I1,I2,I3]
 refine RL_count (fun i=>⟨tb 19 .any [(0,.sl (l.map fun n=>[.int .i64 n])),(1,.fn f caps),(7,.int .i64 (l.length:Int)),(8,.int .i64 (i:Int))],[],0⟩) (fun i=> ∀j (h:j<l.length),j<i→p l[j]=false) l.length 0 (hdA []) (by omega) (by intro j h h';omega) fun i hi' ht J hJ=>?_
 by_cases h1:i<l.length
 ·simp only[List.length_map,Int.toNat_natCast,List.getElem?_map,List.getElem?_eq_getElem h1,hm,frzAL_F hc,frzOkL_F hc,push_cast,↓J1,↓J2,N1,N2,N3,reduceCtorEq,N4,N5,N6,reduceIte,N7,I1,I2,I3]
  refine ifB_intro (fun _=>⟨by omega,_,hp _ (List.getElem_mem h1),?_⟩) (fun h=>by simp at h;omega)
  simp only[push_cast,↓J1,↓J2,N1,N2,N3,reduceCtorEq,N4,N5,N6,reduceIte,N7,I1,I2,I3]
  refine ifB_intro (fun h=>?_) (fun h=>?_)
  ·exact(fidx_at h1 h ht).symm
  ·refine hJ h1 ?_ _ (hdA [])
   ·intro j hj hji
    by_cases hij:j=i
    ·subst hij;exact h
    ·exact ht j hj (by omega)
 ·simp only[List.length_map,Int.toNat_natCast,List.getElem?_map,hm,push_cast,↓J1,↓J2,N1,N2,N3,reduceCtorEq,N4,N5,N6,reduceIte,N7,I1,I2,I3]
  refine ifB_intro (fun h=>by simp at h;omega) (fun h=>?_)
  exact(fidx_no fun j hj=>ht j hj (by omega)).symm
theorem t155(l:List Int)(f:FuncId)(caps:List AV)(p:Int→Bool)(hl:l.length<2^50)(hm:md0 f=false)(hc:allF caps=true)
  (hp: ∀n∈l,Ev C f (.int .i64 n::caps) (.bool (p n))):Ev C 155 [.sl (ints l),.fn f caps] (.bool (l.any p)):=by
 refine rT hC Q155 ?_
 simp only[c155,push_cast,↓J1,↓J2,N1,N2,N3,reduceCtorEq,N4,N5,N6,reduceIte,N7,I1,I2,I3]
 simp only[frzAL_F hc,frzOkL_F hc,push_cast,↓J1,↓J2,N1,N2,N3,reduceCtorEq,N4,N5,N6,reduceIte,N7,I1,I2,I3]
 refine⟨_,t181 hC l f caps p hl hm hc hp,?_⟩
 simp only[push_cast,↓J1,↓J2,N1,N2,N3,reduceCtorEq,N4,N5,N6,reduceIte,N7,I1,I2,I3]
 exact fidx_any p l
end
end Go.Proofs.YthggfnefjbckeaaGreatDoor.X
set_option maxHeartbeats 2000000
set_option maxRecDepth 8000
set_option linter.unusedSimpArgs false
set_option linter.unusedVariables false
open Nat renaming reduceBEq→N1,reduceAdd→N2,reduceSub→N3,reduceMul→N4,reduceEqDiff→N5,reduceLeDiff→N6,reduceLT→N7
open Int renaming reduceLE→I1,reduceLT→I2,reduceToNat→I3
namespace Go.Proofs.YthggfnefjbckeaaGreatDoor.X
open Go
theorem ints_length(l:List Int):(ints l).length=l.length:=by simp[ints]
theorem frzLL_ints(l:List Int):frzLL (ints l)=ints l:=by
 unfold ints
 induction l with
 | nil=>rfl
 | cons x l ih=>simp only[List.map_cons,frzLL,frzL,frzT,ih]
theorem ints_get{v:List Int}{k:Nat}(h:k<v.length):(ints v)[k]?=some [.int .i64 (v.getD k 0)]:=by
 simp[ints,List.getD,h]
theorem ints_set{v:List Int}{k:Nat}{y:Int}:(ints v).set k [.int .i64 y]=ints (v.set k y):=by
 simp[ints,List.map_set]
def sub1(v:Int)(n:Nat):Int:=if v<n then -1 else v-n
structure SzOk{α:Type}(f:α→Int→Int)(B:Int)(x:α):Prop where
 le: ∀v,0≤v→v≤B→ -1≤f x v∧f x v≤v
def szAll{α:Type}(f:α→Int→Int):List α→Int→Int
 | [],v=>v
 | x::xs,v=>if f x v<0 then -1 else szAll f xs (f x v)
def leftAt{α:Type}(f:α→Int→Int)(l:List α)(v:Int):Nat→Int
 | 0=>v
 | i+1=>match l[i]? with | some x=>f x (leftAt f l v i) | none=>0
theorem leftAt_succ{α:Type}{f:α→Int→Int}{l:List α}{v:Int}{i:Nat}(h:i<l.length):leftAt f l v (i+1)=f l[i] (leftAt f l v i):=by
 simp only[leftAt,List.getElem?_eq_getElem h]
theorem szAll_le{α:Type}{f:α→Int→Int}{B:Int}: ∀{l:List α},(∀x∈l,SzOk f B x)→ ∀v,0≤v→v≤B→ -1≤szAll f l v∧szAll f l v≤v
 | [],_,v,h0,_=>⟨by simp[szAll];omega,by simp[szAll]⟩
 | x::xs,h,v,h0,hB=>by
  have hx:=(h x (by simp)).le v h0 hB
  simp only[szAll]
  split
  ·omega
  ·have:=szAll_le (l:=xs) (fun y hy=>h y (by simp[hy])) (f x v) (by omega) (by omega)
   omega
theorem szAll_each{α:Type}{f:α→Int→Int}{B:Int}: ∀{l:List α},(∀x∈l,SzOk f B x)→ ∀v,0≤v→v≤B→0≤szAll f l v→ ∀x∈l,∃u,0≤u∧u≤v∧0≤f x u
 | [],_,v,_,_,_,x,hx=>by simp at hx
 | y::ys,h,v,h0,hB,hs,x,hx=>by
  have hy:=(h y (by simp)).le v h0 hB
  simp only[szAll] at hs
  split at hs
  ·omega
  ·rename_i hn
   rcases List.mem_cons.1 hx with rfl | hx
   ·exact⟨v,h0,by omega,by omega⟩
   ·obtain⟨u,h1,h2,h3⟩:=szAll_each (fun z hz=>h z (by simp[hz])) (f y v) (by omega) (by omega) hs x hx
    exact⟨u,h1,by omega,h3⟩
theorem sub1_le{v:Int}{n:Nat}(h:0≤v): -1≤sub1 v n∧sub1 v n≤v:=by
 simp only[sub1];split<;>omega
theorem sub1_pos{v:Int}{n:Nat}(h:0≤sub1 v n):(n:Int)≤v:=by
 simp only[sub1] at h;split at h<;>omega
structure Ter where
 n:ByteArray
 c:List Int
 s:Int
 h:Int
 b:Bool
 deriving DecidableEq
structure Kin where
 n:ByteArray
 st:Int
 mv:Int
 sp:Int
 z:Bool
 v:Int
 deriving DecidableEq
structure Rul where
 ts:List Ter
 ks:List Kin
 stack:Int
 river:Int
 road:Int
 supply:Int
 turns:Int
 deriving DecidableEq
structure Mp where
 w:Int
 h:Int
 t:List Int
 ri:List Int
 ro:List Int
 deriving DecidableEq
structure Brd where
 r:Rul
 m:Mp
 deriving DecidableEq
def terF(t:Ter):List AV:=[.str t.n,.sl (ints t.c),.int .i64 t.s,.int .i64 t.h,.bool t.b]
def terO(t:Ter):List AV:=[.str t.n,.ow 1 (ints t.c),.int .i64 t.s,.int .i64 t.h,.bool t.b]
def kinA(k:Kin):List AV:=[.str k.n,.int .i64 k.st,.int .i64 k.mv,.int .i64 k.sp,.bool k.z,.int .i64 k.v]
def tersF(l:List Ter):List (List AV):=l.map terF
def tersO(l:List Ter):List (List AV):=l.map terO
def kins(l:List Kin):List (List AV):=l.map kinA
def rulF(r:Rul):List AV:=[.sl (tersF r.ts),.sl (kins r.ks),.int .i64 r.stack,.int .i64 r.river,.int .i64 r.road,.int .i64 r.supply,.int .i64 r.turns]
def rulO(r:Rul):List AV:=[.ow 5 (tersO r.ts),.ow 6 (kins r.ks),.int .i64 r.stack,.int .i64 r.river,.int .i64 r.road,.int .i64 r.supply,.int .i64 r.turns]
def mpF(m:Mp):List AV:=[.int .i64 m.w,.int .i64 m.h,.sl (ints m.t),.sl (ints m.ri),.sl (ints m.ro)]
def mpO(m:Mp):List AV:=[.int .i64 m.w,.int .i64 m.h,.ow 1 (ints m.t),.ow 1 (ints m.ri),.ow 1 (ints m.ro)]
theorem tersF_length(l:List Ter):(tersF l).length=l.length:=by simp[tersF]
theorem kins_length(l:List Kin):(kins l).length=l.length:=by simp[kins]
theorem frzLL_ters(l:List Ter):frzLL (tersO l)=tersF l:=by
 unfold tersO tersF
 induction l with
 | nil=>rfl
 | cons x l ih=>simp only[List.map_cons,frzLL,terO,terF,frzL,frzT,frzLL_ints,ih]
theorem frzLL_kins(l:List Kin):frzLL (kins l)=kins l:=by
 unfold kins
 induction l with
 | nil=>rfl
 | cons x l ih=>simp only[List.map_cons,frzLL,kinA,frzL,frzT,ih]
theorem own_ints1(l:List Int):ownRLL (ints l)=true:=by have:=own_ints l;simpa only[ownR] using this
theorem own_ters(l:List Ter):ownRLL (tersO l)=true:=by
 unfold tersO
 induction l with
 | nil=>rfl
 | cons x l ih=>simp only[List.map_cons,ownRLL,terO,ownRL,ownR,own_ints1,Bool.and_true,Bool.true_and];exact ih
theorem own_kins(l:List Kin):ownRLL (kins l)=true:=by
 unfold kins
 induction l with
 | nil=>rfl
 | cons x l ih=>simp only[List.map_cons,ownRLL,kinA,ownRL,ownR,Bool.and_true,Bool.true_and];exact ih
def szTer(t:Ter)(v:Int):Int:=if sub1 v t.n.size<0 then -1 else sub1 (sub1 v t.n.size) t.c.length
def szTers(l:List Ter)(v:Int):Int:=if sub1 v l.length<0 then -1 else szAll szTer l (sub1 v l.length)
def szKin(k:Kin)(v:Int):Int:=sub1 v k.n.size
def szKins(l:List Kin)(v:Int):Int:=if sub1 v l.length<0 then -1 else szAll szKin l (sub1 v l.length)
theorem szTer_ok(B:Int)(t:Ter):SzOk szTer B t:=⟨fun v h0 hB=>by
 have h1:=sub1_le (n:=t.n.size) h0
 simp only[szTer]
 split
 ·omega
 ·have h2:=sub1_le (v:=sub1 v t.n.size) (n:=t.c.length) (by omega);omega⟩
theorem szKin_ok(B:Int)(t:Kin):SzOk szKin B t:=⟨fun v h0 hB=>sub1_le h0⟩
theorem szTers_le{l:List Ter}{v:Int}(h0:0≤v)(hB:v≤2^50): -1≤szTers l v∧szTers l v≤v:=by
 have h1:=sub1_le (n:=l.length) h0
 simp only[szTers]
 split
 ·omega
 ·have:=szAll_le (l:=l) (fun x _=>szTer_ok (2^50) x) (sub1 v l.length) (by omega) (by omega);omega
theorem szKins_le{l:List Kin}{v:Int}(h0:0≤v)(hB:v≤2^50): -1≤szKins l v∧szKins l v≤v:=by
 have h1:=sub1_le (n:=l.length) h0
 simp only[szKins]
 split
 ·omega
 ·have:=szAll_le (l:=l) (fun x _=>szKin_ok (2^50) x) (sub1 v l.length) (by omega) (by omega);omega
theorem szTers_pos{l:List Ter}{v:Int}(h0:0≤v)(hB:v≤2^50)(h:0≤szTers l v):(l.length:Int)≤v∧ ∀x∈l,(x.n.size:Int)≤v∧(x.c.length:Int)≤v:=by
 have h1:=sub1_le (n:=l.length) h0
 simp only[szTers] at h
 split at h
 ·omega
 ·have h2:=sub1_pos (v:=v) (n:=l.length) (by omega)
  refine⟨h2,fun x hx=>?_⟩
  obtain⟨u,u0,u1,u2⟩:=szAll_each (fun x _=>szTer_ok (2^50) x) (sub1 v l.length) (by omega) (by omega) h x hx
  have k1:=sub1_le (n:=x.n.size) u0
  simp only[szTer] at u2
  split at u2
  ·omega
  ·have k2:=sub1_pos (v:=u) (n:=x.n.size) (by omega)
   have k3:=sub1_pos u2
   omega
theorem szKins_pos{l:List Kin}{v:Int}(h0:0≤v)(hB:v≤2^50)(h:0≤szKins l v):(l.length:Int)≤v∧ ∀x∈l,(x.n.size:Int)≤v:=by
 have h1:=sub1_le (n:=l.length) h0
 simp only[szKins] at h
 split at h
 ·omega
 ·have h2:=sub1_pos (v:=v) (n:=l.length) (by omega)
  refine⟨h2,fun x hx=>?_⟩
  obtain⟨u,u0,u1,u2⟩:=szAll_each (fun x _=>szKin_ok (2^50) x) (sub1 v l.length) (by omega) (by omega) h x hx
  have k2:=sub1_pos u2
  omega
def andThen(f g:Int→Int)(v:Int):Int:=if f v<0 then -1 else if g (f v)<0 then -1 else g (f v)
def szRul(r:Rul):Int→Int:=andThen (szTers r.ts) (szKins r.ks)
def szMp(m:Mp)(v:Int):Int:=if sub1 v m.t.length<0 then -1 else if sub1 (sub1 v m.t.length) m.ri.length<0 then -1 else if sub1 (sub1 (sub1 v m.t.length) m.ri.length) m.ro.length<0 then -1 else sub1 (sub1 (sub1 v m.t.length) m.ri.length) m.ro.length
def szBrd(b:Brd):Int→Int:=andThen (szRul b.r) (szMp b.m)
structure RulB(B:Nat)(r:Rul):Prop where
 ts:r.ts.length<B
 ks:r.ks.length<B
 t: ∀x∈r.ts,x.n.size<B∧x.c.length<B
 k: ∀x∈r.ks,x.n.size<B
structure MpB(B:Nat)(m:Mp):Prop where
 t:m.t.length<B
 ri:m.ri.length<B
 ro:m.ro.length<B
structure BrdB(B:Nat)(b:Brd):Prop where
 r:RulB B b.r
 m:MpB B b.m
theorem szRul_le{r:Rul}{v:Int}(h0:0≤v)(hB:v≤2^50): -1≤szRul r v∧szRul r v≤v:=by
 have h1:=szTers_le (l:=r.ts) h0 hB
 simp only[szRul,andThen]
 split
 ·omega
 ·have h2:=szKins_le (l:=r.ks) (v:=szTers r.ts v) (by omega) (by omega)
  split<;>omega
theorem szMp_le{m:Mp}{v:Int}(h0:0≤v): -1≤szMp m v∧szMp m v≤v:=by
 have h1:=sub1_le (n:=m.t.length) h0
 simp only[szMp]
 split
 ·omega
 ·have h2:=sub1_le (v:=sub1 v m.t.length) (n:=m.ri.length) (by omega)
  split
  ·omega
  ·have h3:=sub1_le (v:=sub1 (sub1 v m.t.length) m.ri.length) (n:=m.ro.length) (by omega)
   split<;>omega
theorem szBrd_pos{b:Brd}(h:0≤szBrd b 1048576):BrdB (2^21) b:=by
 have h1:=szRul_le (r:=b.r) (v:=1048576) (by omega) (by omega)
 simp only[szBrd,andThen] at h
 split at h
 ·omega
 rename_i n1
 split at h
 ·omega
 have k1:=szTers_le (l:=b.r.ts) (v:=1048576) (by omega) (by omega)
 have hr:0≤szTers b.r.ts 1048576∧0≤szKins b.r.ks (szTers b.r.ts 1048576):=by
  simp only[szRul,andThen] at n1
  split at n1
  ·omega
  ·split at n1<;>omega
 have p1:=szTers_pos (by omega) (by omega) hr.1
 have p2:=szKins_pos (by omega) (by omega) hr.2
 refine⟨⟨by omega,by omega,fun x hx=>?_,fun x hx=>?_⟩,?_⟩
 ·have:=p1.2 x hx;omega
 ·have:=p2.2 x hx;omega
 ·generalize szRul b.r 1048576=v at *
  have q1:=sub1_le (v:=v) (n:=b.m.t.length) (by omega)
  simp only[szMp] at h
  split at h
  ·omega
  ·have q2:=sub1_le (v:=sub1 v b.m.t.length) (n:=b.m.ri.length) (by omega)
   split at h
   ·omega
   ·split at h
    ·omega
    ·have r1:=sub1_pos (v:=v) (n:=b.m.t.length) (by omega)
     have r2:=sub1_pos (v:=sub1 v b.m.t.length) (n:=b.m.ri.length) (by omega)
     have r3:=sub1_pos h
     exact⟨by omega,by omega,by omega⟩
def brdF(b:Brd):AV:= .agg (rulF b.r++mpF b.m)
def brdO(b:Brd):AV:= .agg (rulO b.r++mpO b.m)
end Go.Proofs.YthggfnefjbckeaaGreatDoor.X
set_option maxHeartbeats 4000000
set_option maxRecDepth 8000
set_option linter.unusedSimpArgs false
set_option linter.unusedVariables false
open Nat renaming reduceBEq→N1,reduceAdd→N2,reduceSub→N3,reduceMul→N4,reduceEqDiff→N5,reduceLeDiff→N6,reduceLT→N7
open Int renaming reduceLE→I1,reduceLT→I2,reduceToNat→I3
namespace Go.Proofs.YthggfnefjbckeaaGreatDoor.X
open Go
attribute [local irreducible] Ev
section
variable{C:CT}(hC:Closed Tryz.prog G1 md0 C)
include hC
omit hC in
theorem if_sub{n:Nat}{v:Int}:(if v<(n:Int) then(-1:Int) else v-n)=sub1 v n:=rfl
theorem t118(t:Ter)(v:Int)(hv:0≤v∧v<2^50)(h1:t.n.size<2^50)(h2:t.c.length<2^50):Ev C 118 [.agg (terF t),.int .i64 v] (.int .i64 (szTer t v)):=by
 simp only[terF]
 refine rT hC Q118 ?_
 simp only[c118,push_cast,↓J1,↓J2,N1,N2,N3,reduceCtorEq,N4,N5,N6,reduceIte,N7,I1,I2,I3]
 rw[wrap64 (by omega) (by omega)]
 refine ifB_intro (fun h=>?_) (fun h=>?_)
 ·have h':v<t.n.size:=by simp at h;omega
  simp only[szTer,sub1,if_pos h'];rfl
 ·have h': ¬v<t.n.size:=by simp at h;omega
  refine⟨_,t56 hC _ _ (by omega) (by rw[ints_length];exact h2),?_⟩
  simp only[ints_length,push_cast,↓J1,↓J2,N1,N2,N3,reduceCtorEq,N4,N5,N6,reduceIte,N7,I1,I2,I3]
  have e:szTer t v=if v-(t.n.size:Int)<t.c.length then -1 else v-t.n.size-t.c.length:=by
   simp only[szTer,sub1,if_neg h',if_neg (show¬v-(t.n.size:Int)<0 by omega)]
  rw[e]
  refine ifB_intro (fun h=>?_) (fun h=>?_)
  ·have:=of_decide_eq_true h;split at this<;>(first | rfl | omega)
  ·rfl
theorem t119(k:Kin)(v:Int)(hv:0≤v∧v<2^50)(h1:k.n.size<2^50):Ev C 119 [.agg (kinA k),.int .i64 v] (.int .i64 (szKin k v)):=by
 simp only[kinA]
 refine rT hC Q119 ?_
 simp only[c119,push_cast,↓J1,↓J2,N1,N2,N3,reduceCtorEq,N4,N5,N6,reduceIte,N7,I1,I2,I3]
 rw[wrap64 (by omega) (by omega)]
 refine ifB_intro (fun h=>?_) (fun h=>?_)
 ·have h':v<k.n.size:=by simp at h;omega
  simp only[szKin,sub1,if_pos h']
 ·have h': ¬v<k.n.size:=by simp at h;omega
  simp only[szKin,sub1,if_neg h']
theorem t87(l:List Ter)(v:Int)(hv:0≤v∧v<2^50)(hl:l.length<2^50)(hn: ∀x∈l,x.n.size<2^50∧x.c.length<2^50):Ev C 87 [.sl (tersF l),.int .i64 v] (.int .i64 (szTers l v)):=by
 refine rT hC Q87 ?_
 simp only[c87,tersF_length,push_cast,↓J1,↓J2,N1,N2,N3,reduceCtorEq,N4,N5,N6,reduceIte,N7,I1,I2,I3]
 rw[wrap64 (by omega) (by omega)]
 refine ifB_intro (fun h=>?_) (fun h=>?_)
 ·have h':v<l.length:=by simp at h;omega
  simp only[szTers,sub1,if_pos h'];rfl
 ·have h': ¬v<l.length:=by simp at h;omega
  have e0:szTers l v=szAll szTer l (v-l.length):=by simp only[szTers,sub1,if_neg h',if_neg (show¬v-(l.length:Int)<0 by omega)]
  rw[e0]
  have hok: ∀x∈l,SzOk szTer (2^50) x:=fun x _=>szTer_ok _ x
  refine RL_count (fun i=>⟨tb 27 .any [(0,.sl (tersF l)),(1,.int .i64 (leftAt szTer l (v-l.length) i)),(5,.int .i64 (i:Int))],[],0⟩) (fun i=>(0≤leftAt szTer l (v-l.length) i∧leftAt szTer l (v-l.length) i≤v)∧szAll szTer l (v-l.length)=szAll szTer (l.drop i) (leftAt szTer l (v-l.length) i)) l.length 0 (hdA []) (by omega) ⟨⟨by simp only[leftAt];omega,by simp only[leftAt];omega⟩,rfl⟩ fun i hi ⟨ht0,ht⟩ J hJ=>?_
  by_cases h1:i<l.length
  ·have e1:(tersF l)[i]?=some (terF l[i]):=by simp[tersF,h1]
   have hb:=(hok _ (List.getElem_mem h1)).le _ ht0.1 (by omega)
   have e2:=leftAt_succ (f:=szTer) (v:=v-l.length) h1
   simp only[tersF_length,Int.toNat_natCast,e1,terF,push_cast,↓J1,↓J2,N1,N2,N3,reduceCtorEq,N4,N5,N6,reduceIte,N7,I1,I2,I3]
   refine ifB_intro (fun _=>?_) (fun h=>by simp at h;omega)
   repeat (refine⟨by omega,?_⟩)
   refine⟨_,t118 hC l[i] _ ⟨ht0.1,by omega⟩ (hn _ (List.getElem_mem h1)).1 (hn _ (List.getElem_mem h1)).2,?_⟩
   simp only[push_cast,↓J1,↓J2,N1,N2,N3,reduceCtorEq,N4,N5,N6,reduceIte,N7,I1,I2,I3]
   rw[List.drop_eq_getElem_cons h1,szAll] at ht
   refine ifB_intro (fun h=>?_) (fun h=>?_)
   ·rw[ht,if_pos (of_decide_eq_true h)]
   ·have hn:=of_decide_eq_false h
    rw[if_neg hn] at ht
    refine hJ h1 ⟨⟨by rw[e2];omega,by rw[e2];omega⟩,by rw[e2];exact ht⟩ _ (hdA [] (hV:=?_))
    simp only[keptV_cons,keptV_nil,tb_get,lk_same,lk_ne,lk_nil,ren,renL,lkp,N7,N1,N5,reduceIte,and_true,true_and,Nat.not_lt_zero,if_false,if_true,Nat.add_zero,Nat.zero_add]
    rw[wrap64 (by omega) (by omega),e2]
    and_intros<;>rfl
  ·simp only[tersF_length,Int.toNat_natCast,push_cast,↓J1,↓J2,N1,N2,N3,reduceCtorEq,N4,N5,N6,reduceIte,N7,I1,I2,I3]
   refine ifB_intro (fun h=>by simp at h;omega) (fun h=>?_)
   rw[ht,List.drop_eq_nil_of_le (by omega)]
   rfl
theorem t88(l:List Kin)(v:Int)(hv:0≤v∧v<2^50)(hl:l.length<2^50)(hn: ∀x∈l,x.n.size<2^50):Ev C 88 [.sl (kins l),.int .i64 v] (.int .i64 (szKins l v)):=by
 refine rT hC Q88 ?_
 simp only[c88,kins_length,push_cast,↓J1,↓J2,N1,N2,N3,reduceCtorEq,N4,N5,N6,reduceIte,N7,I1,I2,I3]
 rw[wrap64 (by omega) (by omega)]
 refine ifB_intro (fun h=>?_) (fun h=>?_)
 ·have h':v<l.length:=by simp at h;omega
  simp only[szKins,sub1,if_pos h'];rfl
 ·have h': ¬v<l.length:=by simp at h;omega
  have e0:szKins l v=szAll szKin l (v-l.length):=by simp only[szKins,sub1,if_neg h',if_neg (show¬v-(l.length:Int)<0 by omega)]
  rw[e0]
  have hok: ∀x∈l,SzOk szKin (2^50) x:=fun x _=>szKin_ok _ x
  refine RL_count (fun i=>⟨tb 27 .any [(0,.sl (kins l)),(1,.int .i64 (leftAt szKin l (v-l.length) i)),(5,.int .i64 (i:Int))],[],0⟩) (fun i=>(0≤leftAt szKin l (v-l.length) i∧leftAt szKin l (v-l.length) i≤v)∧szAll szKin l (v-l.length)=szAll szKin (l.drop i) (leftAt szKin l (v-l.length) i)) l.length 0 (hdA []) (by omega) ⟨⟨by simp only[leftAt];omega,by simp only[leftAt];omega⟩,rfl⟩ fun i hi ⟨ht0,ht⟩ J hJ=>?_
  by_cases h1:i<l.length
  ·have e1:(kins l)[i]?=some (kinA l[i]):=by simp[kins,h1]
   have hb:=(hok _ (List.getElem_mem h1)).le _ ht0.1 (by omega)
   have e2:=leftAt_succ (f:=szKin) (v:=v-l.length) h1
   simp only[kins_length,Int.toNat_natCast,e1,kinA,push_cast,↓J1,↓J2,N1,N2,N3,reduceCtorEq,N4,N5,N6,reduceIte,N7,I1,I2,I3]
   refine ifB_intro (fun _=>?_) (fun h=>by simp at h;omega)
   repeat (refine⟨by omega,?_⟩)
   refine⟨_,t119 hC l[i] _ ⟨ht0.1,by omega⟩ (hn _ (List.getElem_mem h1)),?_⟩
   simp only[push_cast,↓J1,↓J2,N1,N2,N3,reduceCtorEq,N4,N5,N6,reduceIte,N7,I1,I2,I3]
   rw[List.drop_eq_getElem_cons h1,szAll] at ht
   refine ifB_intro (fun h=>?_) (fun h=>?_)
   ·rw[ht,if_pos (of_decide_eq_true h)]
   ·have hn:=of_decide_eq_false h
    rw[if_neg hn] at ht
    refine hJ h1 ⟨⟨by rw[e2];omega,by rw[e2];omega⟩,by rw[e2];exact ht⟩ _ (hdA [] (hV:=?_))
    simp only[keptV_cons,keptV_nil,tb_get,lk_same,lk_ne,lk_nil,ren,renL,lkp,N7,N1,N5,reduceIte,and_true,true_and,Nat.not_lt_zero,if_false,if_true,Nat.add_zero,Nat.zero_add]
    rw[wrap64 (by omega) (by omega),e2]
    and_intros<;>rfl
  ·simp only[kins_length,Int.toNat_natCast,push_cast,↓J1,↓J2,N1,N2,N3,reduceCtorEq,N4,N5,N6,reduceIte,N7,I1,I2,I3]
   refine ifB_intro (fun h=>by simp at h;omega) (fun h=>?_)
   rw[ht,List.drop_eq_nil_of_le (by omega)]
   rfl
end
end Go.Proofs.YthggfnefjbckeaaGreatDoor.X
set_option maxHeartbeats 4000000
set_option maxRecDepth 8000
set_option linter.unusedSimpArgs false
set_option linter.unusedVariables false
open Nat renaming reduceBEq→N1,reduceAdd→N2,reduceSub→N3,reduceMul→N4,reduceEqDiff→N5,reduceLeDiff→N6,reduceLT→N7
open Int renaming reduceLE→I1,reduceLT→I2,reduceToNat→I3
namespace Go.Proofs.YthggfnefjbckeaaGreatDoor.X
open Go
attribute [local irreducible] Ev
section
variable{C:CT}(hC:Closed Tryz.prog G1 md0 C)
include hC
theorem t128(t:Ter)(h:t.c.length<2^30):Ev C 128 [.agg (terF t)] (.agg (terO t)):=by
 simp only[terF,terO]
 refine rT hC Q128 ?_ (by simp only[ownR,ownRL,own_ints1,Bool.and_true])
 simp only[c128,push_cast,↓J1,↓J2,N1,N2,N3,reduceCtorEq,N4,N5,N6,reduceIte,N7,I1,I2,I3]
 refine⟨_,t69 hC _ h,?_⟩
 simp only[push_cast,↓J1,↓J2,N1,N2,N3,reduceCtorEq,N4,N5,N6,reduceIte,N7,I1,I2,I3]
 exact rtA
theorem t129(k:Kin):Ev C 129 [.agg (kinA k)] (.agg (kinA k)):=by
 simp only[kinA]
 refine rT hC Q129 ?_
 simp only[c129,push_cast,↓J1,↓J2,N1,N2,N3,reduceCtorEq,N4,N5,N6,reduceIte,N7,I1,I2,I3]
 exact rtA
theorem t97(l:List Ter)(hl:l.length<2^30)(hn: ∀x∈l,x.c.length<2^30):Ev C 97 [.sl (tersF l)] (.ow 5 (tersO l)):=by
 refine rT hC Q97 ?_ (by simp only[ownR,own_ters])
 simp only[c97,tersF_length,push_cast,↓J1,↓J2,N1,N2,N3,reduceCtorEq,N4,N5,N6,reduceIte,N7,I1,I2,I3]
 repeat (refine⟨by omega,?_⟩)
 refine RL_count (fun i=>⟨tb 23 .any [(0,.sl (tersF l)),(3,.ref 0 none 5 0 l.length),(4,.int .i64 (i:Int))],[(0,.slice 5 ((l.take i).map terO++List.replicate (l.length-i) [.str ByteArray.empty,.nil,.int .i64 0,.int .i64 0,.bool false]))],1⟩) (fun _=>True) l.length 0 (hdA [(0,0)]) (by omega) trivial fun i hi _ J hJ=>?_
 by_cases h1:i<l.length
 ·have e1:(tersF l)[i]?=some (terF l[i]):=by simp[tersF,h1]
  rw[show l.length-i=(l.length-(i+1))+1 by omega,List.replicate_succ]
  simp only[tersF_length,Int.toNat_natCast,e1,terF,push_cast,↓J1,↓J2,N1,N2,N3,reduceCtorEq,N4,N5,N6,reduceIte,N7,I1,I2,I3]
  refine ifB_intro (fun _=>?_) (fun h=>by simp at h;omega)
  repeat (refine⟨by omega,?_⟩)
  refine⟨_,t128 hC l[i] (hn _ (List.getElem_mem h1)),?_⟩
  simp only[Int.toNat_natCast,terF,terO,List.take_length,mid_get (show((l.take i).map terO).length=i by simp;omega),mid_set (show((l.take i).map terO).length=i by simp;omega),push_cast,↓J1,↓J2,N1,N2,N3,reduceCtorEq,N4,N5,N6,reduceIte,N7,I1,I2,I3]
  repeat (refine⟨by omega,?_⟩)
  refine hJ h1 trivial _ (hdA [(0,0)] (hh:=?_))
  rw[List.take_succ_eq_append_getElem h1,List.map_append,List.append_assoc]
  simp only[hdel,canR,canB,renO,renL,ren,lkp,hget,N7,N5,Nat.not_lt_zero,if_false,if_true,reduceIte,List.append_nil,List.nil_append]
  rfl
 ·simp only[tersF_length,Int.toNat_natCast,push_cast,↓J1,↓J2,N1,N2,N3,reduceCtorEq,N4,N5,N6,reduceIte,N7,I1,I2,I3]
  refine ifB_intro (fun h=>by simp at h;omega) (fun h=>?_)
  rw[List.take_of_length_le (by omega),show l.length-i=0 by omega]
  exact RetTo_ow (by simp[hget,tersO]) (by simp[tersO])
theorem t98(l:List Kin)(hl:l.length<2^30):Ev C 98 [.sl (kins l)] (.ow 6 (kins l)):=by
 refine rT hC Q98 ?_ (by simp only[ownR,own_kins])
 simp only[c98,kins_length,push_cast,↓J1,↓J2,N1,N2,N3,reduceCtorEq,N4,N5,N6,reduceIte,N7,I1,I2,I3]
 repeat (refine⟨by omega,?_⟩)
 refine RL_count (fun i=>⟨tb 23 .any [(0,.sl (kins l)),(3,.ref 0 none 6 0 l.length),(4,.int .i64 (i:Int))],[(0,.slice 6 ((l.take i).map kinA++List.replicate (l.length-i) [.str ByteArray.empty,.int .i64 0,.int .i64 0,.int .i64 0,.bool false,.int .i64 0]))],1⟩) (fun _=>True) l.length 0 (hdA [(0,0)]) (by omega) trivial fun i hi _ J hJ=>?_
 by_cases h1:i<l.length
 ·have e1:(kins l)[i]?=some (kinA l[i]):=by simp[kins,h1]
  rw[show l.length-i=(l.length-(i+1))+1 by omega,List.replicate_succ]
  simp only[kins_length,Int.toNat_natCast,e1,kinA,push_cast,↓J1,↓J2,N1,N2,N3,reduceCtorEq,N4,N5,N6,reduceIte,N7,I1,I2,I3]
  refine ifB_intro (fun _=>?_) (fun h=>by simp at h;omega)
  repeat (refine⟨by omega,?_⟩)
  refine⟨_,t129 hC l[i],?_⟩
  simp only[Int.toNat_natCast,kinA,kinA,List.take_length,mid_get (show((l.take i).map kinA).length=i by simp;omega),mid_set (show((l.take i).map kinA).length=i by simp;omega),push_cast,↓J1,↓J2,N1,N2,N3,reduceCtorEq,N4,N5,N6,reduceIte,N7,I1,I2,I3]
  repeat (refine⟨by omega,?_⟩)
  refine hJ h1 trivial _ (hdA [(0,0)] (hh:=?_))
  rw[List.take_succ_eq_append_getElem h1,List.map_append,List.append_assoc]
  simp only[hdel,canR,canB,renO,renL,ren,lkp,hget,N7,N5,Nat.not_lt_zero,if_false,if_true,reduceIte,List.append_nil,List.nil_append]
  rfl
 ·simp only[kins_length,Int.toNat_natCast,push_cast,↓J1,↓J2,N1,N2,N3,reduceCtorEq,N4,N5,N6,reduceIte,N7,I1,I2,I3]
  refine ifB_intro (fun h=>by simp at h;omega) (fun h=>?_)
  rw[List.take_of_length_le (by omega),show l.length-i=0 by omega]
  exact RetTo_ow (by simp[hget,kins]) (by simp[kins])
end
end Go.Proofs.YthggfnefjbckeaaGreatDoor.X
set_option maxHeartbeats 4000000
set_option maxRecDepth 8000
set_option linter.unusedSimpArgs false
set_option linter.unusedVariables false
open Nat renaming reduceBEq→N1,reduceAdd→N2,reduceSub→N3,reduceMul→N4,reduceEqDiff→N5,reduceLeDiff→N6,reduceLT→N7
open Int renaming reduceLE→I1,reduceLT→I2,reduceToNat→I3
namespace Go.Proofs.YthggfnefjbckeaaGreatDoor.X
open Go
attribute [local irreducible] Ev
section
variable{C:CT}(hC:Closed Tryz.prog G1 md0 C)
include hC
theorem t141(t u:Ter)(h1:t.c.length<2^50)(h2:u.c.length<2^50):Ev C 141 [.agg (terF t),.agg (terF u)] (.bool (decide (t=u))):=by
 obtain⟨a1,a2,a3,a4,a5⟩:=t
 obtain⟨b1,b2,b3,b4,b5⟩:=u
 simp only[terF]
 refine rT hC Q141 ?_
 simp only[c141,push_cast,↓J1,↓J2,N1,N2,N3,reduceCtorEq,N4,N5,N6,reduceIte,N7,I1,I2,I3]
 repeat' (first
  | simp only[push_cast,↓J1,↓J2,N1,N2,N3,reduceCtorEq,N4,N5,N6,reduceIte,N7,I1,I2,I3]
  | refine⟨_,t80 hC _ _ h1 h2,?_⟩
  | refine ifB_intro (fun h=>?_) (fun h=>?_))
 all_goals simp_all
theorem t142(t u:Kin):Ev C 142 [.agg (kinA t),.agg (kinA u)] (.bool (decide (t=u))):=by
 obtain⟨a1,a2,a3,a4,a5,a6⟩:=t
 obtain⟨b1,b2,b3,b4,b5,b6⟩:=u
 simp only[kinA]
 refine rT hC Q142 ?_
 simp only[c142,push_cast,↓J1,↓J2,N1,N2,N3,reduceCtorEq,N4,N5,N6,reduceIte,N7,I1,I2,I3]
 repeat' (first
  | simp only[push_cast,↓J1,↓J2,N1,N2,N3,reduceCtorEq,N4,N5,N6,reduceIte,N7,I1,I2,I3]
  | refine ifB_intro (fun h=>?_) (fun h=>?_))
 all_goals simp_all
theorem t108(l m:List Ter)(hl:l.length<2^50)(hm:m.length<2^50)(hn: ∀x∈l,x.c.length<2^50)(hk: ∀x∈m,x.c.length<2^50):Ev C 108 [.sl (tersF l),.sl (tersF m)] (.bool (decide (l=m))):=by
 refine rT hC Q108 ?_
 simp only[c108,tersF_length,push_cast,↓J1,↓J2,N1,N2,N3,reduceCtorEq,N4,N5,N6,reduceIte,N7,I1,I2,I3]
 refine ifB_intro (fun h=>?_) (fun h=>?_)
 ·have hlm:l.length=m.length:=by simp at h;omega
  refine RL_count (fun i=>⟨tb 27 .any [(0,.sl (tersF l)),(1,.sl (tersF m)),(5,.int .i64 (i:Int))],[],0⟩) (fun i=>l.take i=m.take i) l.length 0 (hdA []) (by omega) rfl fun i hi ht J hJ=>?_
  by_cases h1:i<l.length
  ·have h2:i<m.length:=by omega
   have e1:(tersF l)[i]?=some (terF l[i]):=by simp[tersF,h1]
   have e2:(tersF m)[i]?=some (terF m[i]):=by simp[tersF,h2]
   simp only[tersF_length,Int.toNat_natCast,e1,e2,terF,push_cast,↓J1,↓J2,N1,N2,N3,reduceCtorEq,N4,N5,N6,reduceIte,N7,I1,I2,I3]
   refine ifB_intro (fun _=>?_) (fun h=>by simp at h;omega)
   repeat (refine⟨by omega,?_⟩)
   refine⟨_,t141 hC l[i] m[i] (hn _ (List.getElem_mem h1)) (hk _ (List.getElem_mem h2)),?_⟩
   simp only[push_cast,↓J1,↓J2,N1,N2,N3,reduceCtorEq,N4,N5,N6,reduceIte,N7,I1,I2,I3]
   refine ifB_intro (fun h=>?_) (fun h=>?_)
   ·refine hJ h1 ?_ _ (hdA [])
    rw[List.take_succ_eq_append_getElem h1,List.take_succ_eq_append_getElem h2,ht,of_decide_eq_true h]
   ·have: ¬l=m:=by rintro rfl;simp at h
    simp[this]
  ·simp only[tersF_length,Int.toNat_natCast,push_cast,↓J1,↓J2,N1,N2,N3,reduceCtorEq,N4,N5,N6,reduceIte,N7,I1,I2,I3]
   refine ifB_intro (fun h=>by simp at h;omega) (fun h=>?_)
   rw[List.take_of_length_le (by omega),List.take_of_length_le (by omega)] at ht
   simp[ht]
 ·have: ¬l=m:=by rintro rfl;simp at h
  simp[this]
theorem t109(l m:List Kin)(hl:l.length<2^50)(hm:m.length<2^50):Ev C 109 [.sl (kins l),.sl (kins m)] (.bool (decide (l=m))):=by
 refine rT hC Q109 ?_
 simp only[c109,kins_length,push_cast,↓J1,↓J2,N1,N2,N3,reduceCtorEq,N4,N5,N6,reduceIte,N7,I1,I2,I3]
 refine ifB_intro (fun h=>?_) (fun h=>?_)
 ·have hlm:l.length=m.length:=by simp at h;omega
  refine RL_count (fun i=>⟨tb 27 .any [(0,.sl (kins l)),(1,.sl (kins m)),(5,.int .i64 (i:Int))],[],0⟩) (fun i=>l.take i=m.take i) l.length 0 (hdA []) (by omega) rfl fun i hi ht J hJ=>?_
  by_cases h1:i<l.length
  ·have h2:i<m.length:=by omega
   have e1:(kins l)[i]?=some (kinA l[i]):=by simp[kins,h1]
   have e2:(kins m)[i]?=some (kinA m[i]):=by simp[kins,h2]
   simp only[kins_length,Int.toNat_natCast,e1,e2,kinA,push_cast,↓J1,↓J2,N1,N2,N3,reduceCtorEq,N4,N5,N6,reduceIte,N7,I1,I2,I3]
   refine ifB_intro (fun _=>?_) (fun h=>by simp at h;omega)
   repeat (refine⟨by omega,?_⟩)
   refine⟨_,t142 hC l[i] m[i],?_⟩
   simp only[push_cast,↓J1,↓J2,N1,N2,N3,reduceCtorEq,N4,N5,N6,reduceIte,N7,I1,I2,I3]
   refine ifB_intro (fun h=>?_) (fun h=>?_)
   ·refine hJ h1 ?_ _ (hdA [])
    rw[List.take_succ_eq_append_getElem h1,List.take_succ_eq_append_getElem h2,ht,of_decide_eq_true h]
   ·have: ¬l=m:=by rintro rfl;simp at h
    simp[this]
  ·simp only[kins_length,Int.toNat_natCast,push_cast,↓J1,↓J2,N1,N2,N3,reduceCtorEq,N4,N5,N6,reduceIte,N7,I1,I2,I3]
   refine ifB_intro (fun h=>by simp at h;omega) (fun h=>?_)
   rw[List.take_of_length_le (by omega),List.take_of_length_le (by omega)] at ht
   simp[ht]
 ·have: ¬l=m:=by rintro rfl;simp at h
  simp[this]
end
end Go.Proofs.YthggfnefjbckeaaGreatDoor.X
set_option maxHeartbeats 4000000
set_option maxRecDepth 8000
set_option linter.unusedSimpArgs false
set_option linter.unusedVariables false
open Nat renaming reduceBEq→N1,reduceAdd→N2,reduceSub→N3,reduceMul→N4,reduceEqDiff→N5,reduceLeDiff→N6,reduceLT→N7
open Int renaming reduceLE→I1,reduceLT→I2,reduceToNat→I3
namespace Go.Proofs.YthggfnefjbckeaaGreatDoor.X
open Go
attribute [local irreducible] Ev
section
variable{C:CT}(hC:Closed Tryz.prog G1 md0 C)
include hC
theorem t53(r:Rul)(v:Int)(hv:0≤v∧v<2^50)(hb:RulB (2^50) r):Ev C 53 [.agg (rulF r),.int .i64 v] (.int .i64 (szRul r v)):=by
 simp only[rulF]
 refine rT hC Q53 ?_
 simp only[c53,push_cast,↓J1,↓J2,N1,N2,N3,reduceCtorEq,N4,N5,N6,reduceIte,N7,I1,I2,I3]
 refine⟨_,t87 hC r.ts v hv hb.ts hb.t,?_⟩
 simp only[push_cast,↓J1,↓J2,N1,N2,N3,reduceCtorEq,N4,N5,N6,reduceIte,N7,I1,I2,I3]
 refine ifB_intro (fun h=>?_) (fun h=>?_)
 ·simp only[szRul,andThen,if_pos (of_decide_eq_true h)]
 ·have hn:=of_decide_eq_false h
  refine⟨_,t88 hC r.ks _ ⟨by omega,by have:=szTers_le (l:=r.ts) hv.1 (by omega);omega⟩ hb.ks hb.k,?_⟩
  simp only[push_cast,↓J1,↓J2,N1,N2,N3,reduceCtorEq,N4,N5,N6,reduceIte,N7,I1,I2,I3]
  refine ifB_intro (fun h=>?_) (fun h=>?_)
  ·simp only[szRul,andThen,if_neg hn] at *
   simp only[if_pos (of_decide_eq_true h)]
  ·simp only[szRul,andThen,if_neg hn] at *
   simp only[if_neg (of_decide_eq_false h)]
theorem t54(m:Mp)(v:Int)(hv:0≤v∧v<2^50)(hb:MpB (2^50) m):Ev C 54 [.agg (mpF m),.int .i64 v] (.int .i64 (szMp m v)):=by
 have h1:=sub1_le (n:=m.t.length) hv.1
 simp only[mpF]
 refine rT hC Q54 ?_
 simp only[c54,push_cast,↓J1,↓J2,N1,N2,N3,reduceCtorEq,N4,N5,N6,reduceIte,N7,I1,I2,I3]
 refine⟨_,t56 hC _ _ (by omega) (by rw[ints_length];exact hb.t),?_⟩
 rw[ints_length,if_sub]
 simp only[push_cast,↓J1,↓J2,N1,N2,N3,reduceCtorEq,N4,N5,N6,reduceIte,N7,I1,I2,I3]
 refine ifB_intro (fun h=>?_) (fun h=>?_)
 ·simp only[szMp,if_pos (of_decide_eq_true h)]
 ·have hn:=of_decide_eq_false h
  have h2:=sub1_le (v:=sub1 v m.t.length) (n:=m.ri.length) (by omega)
  refine⟨_,t56 hC _ _ (by omega) (by rw[ints_length];exact hb.ri),?_⟩
  rw[ints_length,if_sub]
  simp only[push_cast,↓J1,↓J2,N1,N2,N3,reduceCtorEq,N4,N5,N6,reduceIte,N7,I1,I2,I3]
  refine ifB_intro (fun h=>?_) (fun h=>?_)
  ·simp only[szMp,if_neg hn,if_pos (of_decide_eq_true h)]
  ·have hn2:=of_decide_eq_false h
   refine⟨_,t56 hC _ _ (by omega) (by rw[ints_length];exact hb.ro),?_⟩
   rw[ints_length,if_sub]
   simp only[push_cast,↓J1,↓J2,N1,N2,N3,reduceCtorEq,N4,N5,N6,reduceIte,N7,I1,I2,I3]
   refine ifB_intro (fun h=>?_) (fun h=>?_)
   ·simp only[szMp,if_neg hn,if_neg hn2,if_pos (of_decide_eq_true h)]
   ·simp only[szMp,if_neg hn,if_neg hn2,if_neg (of_decide_eq_false h)]
theorem t20(b:Brd)(v:Int)(hv:0≤v∧v<2^50)(hb:BrdB (2^50) b):Ev C 20 [brdF b,.int .i64 v] (.int .i64 (szBrd b v)):=by
 simp only[brdF,rulF,mpF,List.cons_append,List.nil_append]
 refine rT hC Q20 ?_
 simp only[c20,push_cast,↓J1,↓J2,N1,N2,N3,reduceCtorEq,N4,N5,N6,reduceIte,N7,I1,I2,I3]
 refine⟨_,t53 hC b.r v hv hb.r,?_⟩
 simp only[push_cast,↓J1,↓J2,N1,N2,N3,reduceCtorEq,N4,N5,N6,reduceIte,N7,I1,I2,I3]
 refine ifB_intro (fun h=>?_) (fun h=>?_)
 ·simp only[szBrd,andThen,if_pos (of_decide_eq_true h)]
 ·have hn:=of_decide_eq_false h
  refine⟨_,t54 hC b.m _ ⟨by omega,by have:=szRul_le (r:=b.r) hv.1 (by omega);omega⟩ hb.m,?_⟩
  simp only[push_cast,↓J1,↓J2,N1,N2,N3,reduceCtorEq,N4,N5,N6,reduceIte,N7,I1,I2,I3]
  refine ifB_intro (fun h=>?_) (fun h=>?_)
  ·simp only[szBrd,andThen,if_neg hn] at *
   simp only[if_pos (of_decide_eq_true h)]
  ·simp only[szBrd,andThen,if_neg hn] at *
   simp only[if_neg (of_decide_eq_false h)]
theorem t66(r:Rul)(hb:RulB (2^30) r):Ev C 66 [.agg (rulF r)] (.agg (rulO r)):=by
 simp only[rulF,rulO]
 refine rT hC Q66 ?_ (by simp only[ownR,ownRL,own_ters,own_kins,Bool.and_true])
 simp only[c66,push_cast,↓J1,↓J2,N1,N2,N3,reduceCtorEq,N4,N5,N6,reduceIte,N7,I1,I2,I3]
 refine⟨_,t97 hC _ hb.ts (fun x hx=>(hb.t x hx).2),?_⟩
 simp only[push_cast,↓J1,↓J2,N1,N2,N3,reduceCtorEq,N4,N5,N6,reduceIte,N7,I1,I2,I3]
 refine⟨_,t98 hC _ hb.ks,?_⟩
 simp only[push_cast,↓J1,↓J2,N1,N2,N3,reduceCtorEq,N4,N5,N6,reduceIte,N7,I1,I2,I3]
 exact rtA
theorem t67(m:Mp)(hb:MpB (2^30) m):Ev C 67 [.agg (mpF m)] (.agg (mpO m)):=by
 simp only[mpF,mpO]
 refine rT hC Q67 ?_ (by simp only[ownR,ownRL,own_ints1,Bool.and_true])
 simp only[c67,push_cast,↓J1,↓J2,N1,N2,N3,reduceCtorEq,N4,N5,N6,reduceIte,N7,I1,I2,I3]
 refine⟨_,t69 hC _ hb.t,?_⟩
 simp only[push_cast,↓J1,↓J2,N1,N2,N3,reduceCtorEq,N4,N5,N6,reduceIte,N7,I1,I2,I3]
 refine⟨_,t69 hC _ hb.ri,?_⟩
 simp only[push_cast,↓J1,↓J2,N1,N2,N3,reduceCtorEq,N4,N5,N6,reduceIte,N7,I1,I2,I3]
 refine⟨_,t69 hC _ hb.ro,?_⟩
 simp only[push_cast,↓J1,↓J2,N1,N2,N3,reduceCtorEq,N4,N5,N6,reduceIte,N7,I1,I2,I3]
 exact rtA
theorem t29(b:Brd)(hb:BrdB (2^30) b):Ev C 29 [brdF b] (brdO b):=by
 have c1:=t66 hC b.r hb.r
 have c2:=t67 hC b.m hb.m
 simp only[brdF,brdO,rulF,mpF,rulO,mpO,List.cons_append,List.nil_append] at *
 refine rT hC Q29 ?_ (by simp only[ownR,ownRL,own_ters,own_kins,own_ints1,Bool.and_true])
 simp only[c29,push_cast,↓J1,↓J2,N1,N2,N3,reduceCtorEq,N4,N5,N6,reduceIte,N7,I1,I2,I3]
 refine⟨_,c1,?_⟩
 simp only[push_cast,↓J1,↓J2,N1,N2,N3,reduceCtorEq,N4,N5,N6,reduceIte,N7,I1,I2,I3]
 refine⟨_,c2,?_⟩
 simp only[push_cast,↓J1,↓J2,N1,N2,N3,reduceCtorEq,N4,N5,N6,reduceIte,N7,I1,I2,I3]
 exact rtA
theorem t77(r q:Rul)(h1:RulB (2^50) r)(h2:RulB (2^50) q):Ev C 77 [.agg (rulF r),.agg (rulF q)] (.bool (decide (r=q))):=by
 have c1:=t108 hC r.ts q.ts h1.ts h2.ts (fun x hx=>(h1.t x hx).2) (fun x hx=>(h2.t x hx).2)
 have c2:=t109 hC r.ks q.ks h1.ks h2.ks
 clear h1 h2
 obtain⟨a1,a2,a3,a4,a5,a6,a7⟩:=r
 obtain⟨b1,b2,b3,b4,b5,b6,b7⟩:=q
 simp only[rulF] at *
 refine rT hC Q77 ?_
 simp only[c77,push_cast,↓J1,↓J2,N1,N2,N3,reduceCtorEq,N4,N5,N6,reduceIte,N7,I1,I2,I3]
 repeat' (first
  | simp only[push_cast,↓J1,↓J2,N1,N2,N3,reduceCtorEq,N4,N5,N6,reduceIte,N7,I1,I2,I3]
  | refine⟨_,c1,?_⟩
  | refine⟨_,c2,?_⟩
  | refine ifB_intro (fun h=>?_) (fun h=>?_))
 all_goals (clear c1 c2;simp_all)
theorem t78(r q:Mp)(h1:MpB (2^50) r)(h2:MpB (2^50) q):Ev C 78 [.agg (mpF r),.agg (mpF q)] (.bool (decide (r=q))):=by
 have c1:=t80 hC r.t q.t h1.t h2.t
 have c2:=t80 hC r.ri q.ri h1.ri h2.ri
 have c3:=t80 hC r.ro q.ro h1.ro h2.ro
 clear h1 h2
 obtain⟨a1,a2,a3,a4,a5⟩:=r
 obtain⟨b1,b2,b3,b4,b5⟩:=q
 simp only[mpF] at *
 refine rT hC Q78 ?_
 simp only[c78,push_cast,↓J1,↓J2,N1,N2,N3,reduceCtorEq,N4,N5,N6,reduceIte,N7,I1,I2,I3]
 repeat' (first
  | simp only[push_cast,↓J1,↓J2,N1,N2,N3,reduceCtorEq,N4,N5,N6,reduceIte,N7,I1,I2,I3]
  | refine⟨_,c1,?_⟩
  | refine⟨_,c2,?_⟩
  | refine⟨_,c3,?_⟩
  | refine ifB_intro (fun h=>?_) (fun h=>?_))
 all_goals (clear c1 c2 c3;simp_all)
theorem t38(a b:Brd)(h1:BrdB (2^50) a)(h2:BrdB (2^50) b):Ev C 38 [brdF a,brdF b] (.bool (decide (a=b))):=by
 have c1:=t77 hC a.r b.r h1.r h2.r
 have c2:=t78 hC a.m b.m h1.m h2.m
 clear h1 h2
 obtain⟨r,m⟩:=a
 obtain⟨q,o⟩:=b
 simp only[brdF,rulF,mpF,List.cons_append,List.nil_append] at *
 refine rT hC Q38 ?_
 simp only[c38,push_cast,↓J1,↓J2,N1,N2,N3,reduceCtorEq,N4,N5,N6,reduceIte,N7,I1,I2,I3]
 repeat' (first
  | simp only[push_cast,↓J1,↓J2,N1,N2,N3,reduceCtorEq,N4,N5,N6,reduceIte,N7,I1,I2,I3]
  | refine⟨_,c1,?_⟩
  | refine⟨_,c2,?_⟩
  | refine ifB_intro (fun h=>?_) (fun h=>?_))
 all_goals (clear c1 c2;simp_all)
end
end Go.Proofs.YthggfnefjbckeaaGreatDoor.X
set_option maxHeartbeats 2000000
set_option maxRecDepth 8000
set_option linter.unusedSimpArgs false
set_option linter.unusedVariables false
open Nat renaming reduceBEq→N1,reduceAdd→N2,reduceSub→N3,reduceMul→N4,reduceEqDiff→N5,reduceLeDiff→N6,reduceLT→N7
open Int renaming reduceLE→I1,reduceLT→I2,reduceToNat→I3
namespace Go.Proofs.YthggfnefjbckeaaGreatDoor.X
open Go
def allI{α:Type}(f:Nat→α→Bool)(l:List α):Bool:=(List.range l.length).all fun i=>match l[i]? with | some x=>f i x | none=>true
theorem allI_no{α:Type}{f:Nat→α→Bool}{l:List α}{i:Nat}(h:i<l.length)(hf:f i l[i]=false):allI f l=false:=by
 simp only[allI,List.all_eq_false]
 exact⟨i,by simp[h],by simp[h,hf]⟩
theorem allI_yes{α:Type}{f:Nat→α→Bool}{l:List α}(h: ∀i (h:i<l.length),f i l[i]=true):allI f l=true:=by
 simp only[allI,List.all_eq_true]
 intro i hi
 have hi':i<l.length:=by simpa using hi
 simp[hi',h i hi']
theorem allI_get{α:Type}{f:Nat→α→Bool}{l:List α}(h:allI f l=true)(i:Nat)(hi:i<l.length):f i l[i]=true:=by
 simp only[allI,List.all_eq_true] at h
 have:=h i (by simp[hi])
 simpa [hi] using this
def upto(n:Nat)(p:Nat→Bool):Bool:=(List.range n).all p
theorem upto_no{n i:Nat}{p:Nat→Bool}(h:i<n)(hp:p i=false):upto n p=false:=by
 simp only[upto,List.all_eq_false]
 exact⟨i,by simp[h],by simp[hp]⟩
theorem upto_yes{n:Nat}{p:Nat→Bool}(h: ∀j,j<n→p j=true):upto n p=true:=by
 simp only[upto,List.all_eq_true]
 exact fun x hx=>h x (by simpa using hx)
theorem upto_iff{n:Nat}{p:Nat→Bool}:upto n p=true↔ ∀j,j<n→p j=true:=by
 simp[upto,List.all_eq_true]
def risP(l:List Int)(lo hi:Int)(i:Nat):Bool:=inR lo hi (l.getD i 0)&&(decide (i=0)||decide (l.getD (i-1) 0<l.getD i 0))
def incP(l:List Int)(i:Nat):Bool:=decide (l.getD i 0<l.getD (i+1) 0)
theorem cut_ints_get{v:List Int}{k:Nat}(h:k<v.length):(ints v)[k]?=some [.int .i64 (v.getD k 0)]:=ints_get h
def gidx{α:Type}(p:α→Bool)(l:List α):Int:=if l.findIdx p<l.length then(l.findIdx p:Int) else -1
theorem gidx_at{α:Type}{p:α→Bool}{l:List α}{i:Nat}(h:i<l.length)(hp:p l[i]=true)(hn: ∀j (h:j<l.length),j<i→p l[j]=false):gidx p l=i:=by
 have:l.findIdx p=i:=(List.findIdx_eq h).2 ⟨hp,fun j hj=>hn j (by omega) hj⟩
 simp[gidx,this,h]
theorem gidx_no{α:Type}{p:α→Bool}{l:List α}(hn: ∀j (h:j<l.length),p l[j]=false):gidx p l= -1:=by
 have: ¬l.findIdx p<l.length:=fun h=>by
  have:=hn _ h
  rw[List.findIdx_getElem (w:=h)] at this
  cases this
 simp only[gidx,this,if_false]
def okName(s:ByteArray):Bool:=upto s.size (fun i=>decide (97≤bt s i)&&decide (bt s i≤122))&&inR 1 8 s.size
def terOk(r:Rul)(i:Nat)(t:Ter):Bool:=okName t.n&&decide (gidx (fun x=>decide (x.n=t.n)) r.ts=i)&&decide ((t.c.length:Int)=(r.ks.length:Int))&&t.c.all (inR 0 9)&&inR (-3) 3 t.s&&inR 0 3 t.h
def kinOk(r:Rul)(i:Nat)(k:Kin):Bool:=okName k.n&&decide (gidx (fun x=>decide (x.n=k.n)) r.ks=i)&&inR 1 9 k.st&&inR 0 9 k.mv&&inR 1 4 k.sp&&inR 0 4 k.v
def tailOk(r:Rul):Bool:=inR 1 4 r.stack&&inR 0 9 r.river&&inR 1 9 r.road&&inR 0 20 r.supply&&inR 1 30 r.turns
def rulOk(r:Rul):Bool:=inR 1 6 r.ts.length&&inR 1 4 r.ks.length&&allI (terOk r) r.ts&&allI (kinOk r) r.ks&&tailOk r
def dq(d:Nat):Int:=[1,1,0,-1,-1,0].getD d 0
def dr(d:Nat):Int:=[0,-1,-1,0,1,1].getD d 0
def nextM(m:Mp)(i d:Int):Int:=
 if inR 0 (m.w-1) (i.tmod m.w+dq d.toNat)&&inR 0 (m.h-1) (i.tdiv m.w+dr d.toNat) then(i.tdiv m.w+dr d.toNat)*m.w+(i.tmod m.w+dq d.toNat) else -1
def edgeOk(m:Mp)(e:Int):Bool:=inR 0 (3*(m.w*m.h)-1) e&&!decide (nextM m (e.tdiv 3) (e.tmod 3)<0)
def edgesOk(m:Mp)(l:List Int):Bool:=l.all (edgeOk m)&&upto l.length (risP l 0 (3*(m.w*m.h)-1))
def mpOk(m:Mp):Bool:=inR 1 10 m.w&&inR 1 10 m.h&&decide ((m.t.length:Int)=m.w*m.h)&&m.t.all (inR 0 5)&&edgesOk m m.ri&&edgesOk m m.ro
def brdOk(b:Brd):Bool:=rulOk b.r&&mpOk b.m&&b.m.t.all (inR 0 (b.r.ts.length-1))
end Go.Proofs.YthggfnefjbckeaaGreatDoor.X
