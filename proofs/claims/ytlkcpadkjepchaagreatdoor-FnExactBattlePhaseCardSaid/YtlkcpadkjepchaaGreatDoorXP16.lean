/- A part of the proof: lemmas on the machine or on the functions that the law reaches. No condition of its own. -/
import Derived.Test.YtlkcpadkjepchaaGreatDoorXP3
import Derived.Test.YtlkcpadkjepchaaGreatDoorXP4
import Derived.Test.YtlkcpadkjepchaaGreatDoorXP5
import Derived.Test.YtlkcpadkjepchaaGreatDoorXP15
set_option maxHeartbeats 4000000
set_option maxRecDepth 8000
set_option linter.unusedSimpArgs false
set_option linter.unusedVariables false
open Nat renaming reduceBEq→N1,reduceAdd→N2,reduceSub→N3,reduceMul→N4,reduceEqDiff→N5,reduceLeDiff→N6,reduceLT→N7
open Int renaming reduceLE→I1,reduceLT→I2,reduceToNat→I3
namespace Go.Proofs.YtlkcpadkjepchaaGreatDoor.X
open Go
theorem has_ints{k:Nat}{xs:List AV}(h:Has Tryz.prog (k+2) 26 xs): ∃l,xs=[.sl (ints l)]∧l.length<2^50:=by
 obtain⟨es,rfl,_,hb,he⟩:=has_slice tk_26 h
 rw[bo_3] at hb
 obtain⟨l,rfl⟩:=all_map (f:=fun n:Int=>[AV.int .i64 n]) (es:=es) fun e hx=>by
  obtain⟨n,hn,_⟩:=has_int tk_3 (he e hx).2
  exact⟨n,hn⟩
 simp only[reachBytes,List.length_map] at hb
 exact⟨l,rfl,by omega⟩
theorem all_map2{α:Type}{f:α→List AV}{p:α→Prop}{es:List (List AV)}(h: ∀e∈es,∃x,e=f x∧p x): ∃l:List α,es=l.map f∧ ∀x∈l,p x:=by
 induction es with
 | nil=>exact⟨[],rfl,by simp⟩
 | cons e es ih=>
  obtain⟨l,hl,hp⟩:=ih fun x hx=>h x (by simp[hx])
  obtain⟨x,hx,px⟩:=h e (by simp)
  exact⟨x::l,by rw[hl,hx];rfl,by simp only[List.mem_cons,forall_eq_or_imp];exact⟨px,hp⟩⟩
theorem has_ter{k:Nat}{xs:List AV}(h:Has Tryz.prog (k+9) 190 xs): ∃t:Ter,xs=terF t∧t.n.size<2^50∧t.c.length<2^50:=by
 have h:=has_struct sty_190 h
 obtain⟨x0,r,rfl,_,h0,h⟩:=hasE_cons h
 obtain⟨x1,r,rfl,_,h1,h⟩:=hasE_cons h
 obtain⟨x2,r,rfl,_,h2,h⟩:=hasE_cons h
 obtain⟨x3,r,rfl,_,h3,h⟩:=hasE_cons h
 obtain⟨x4,r,rfl,_,h4,h⟩:=hasE_cons h
 obtain rfl:=hasE_nil h
 obtain⟨n,rfl,hn⟩:=has_str tk_9 h0
 obtain⟨c,rfl,hc⟩:=has_ints h1
 obtain⟨s,rfl,_⟩:=has_int tk_3 h2
 obtain⟨e,rfl,_⟩:=has_int tk_3 h3
 obtain⟨b,rfl⟩:=has_bool tk_4 h4
 simp only[reachBytes] at hn
 exact⟨⟨n,c,s,e,b⟩,rfl,by show n.size<_;omega,hc⟩
theorem has_kin{k:Nat}{xs:List AV}(h:Has Tryz.prog (k+9) 193 xs): ∃t:Kin,xs=kinA t∧t.n.size<2^50:=by
 have h:=has_struct sty_193 h
 obtain⟨x0,r,rfl,_,h0,h⟩:=hasE_cons h
 obtain⟨x1,r,rfl,_,h1,h⟩:=hasE_cons h
 obtain⟨x2,r,rfl,_,h2,h⟩:=hasE_cons h
 obtain⟨x3,r,rfl,_,h3,h⟩:=hasE_cons h
 obtain⟨x4,r,rfl,_,h4,h⟩:=hasE_cons h
 obtain⟨x5,r,rfl,_,h5,h⟩:=hasE_cons h
 obtain rfl:=hasE_nil h
 obtain⟨n,rfl,hn⟩:=has_str tk_9 h0
 obtain⟨s,rfl,_⟩:=has_int tk_3 h1
 obtain⟨m,rfl,_⟩:=has_int tk_3 h2
 obtain⟨p,rfl,_⟩:=has_int tk_3 h3
 obtain⟨z,rfl⟩:=has_bool tk_4 h4
 obtain⟨v,rfl,_⟩:=has_int tk_3 h5
 simp only[reachBytes] at hn
 exact⟨⟨n,s,m,p,z,v⟩,rfl,by show n.size<_;omega⟩
theorem has_rul{k:Nat}{xs:List AV}(h:Has Tryz.prog (k+16) 25 xs): ∃r:Rul,xs=rulF r∧RulB (2^50) r:=by
 have h:=has_struct sty_25 h
 obtain⟨x0,r,rfl,_,h0,h⟩:=hasE_cons h
 obtain⟨x1,r,rfl,_,h1,h⟩:=hasE_cons h
 obtain⟨x2,r,rfl,_,h2,h⟩:=hasE_cons h
 obtain⟨x3,r,rfl,_,h3,h⟩:=hasE_cons h
 obtain⟨x4,r,rfl,_,h4,h⟩:=hasE_cons h
 obtain⟨x5,r,rfl,_,h5,h⟩:=hasE_cons h
 obtain⟨x6,r,rfl,_,h6,h⟩:=hasE_cons h
 obtain rfl:=hasE_nil h
 obtain⟨es,rfl,_,hb,he⟩:=has_slice tk_22 h0
 obtain⟨ts,rfl,ht⟩:=all_map2 (f:=terF) (es:=es) fun e hx=>has_ter (he e hx).2
 obtain⟨fs,rfl,_,hc,hf⟩:=has_slice tk_23 h1
 obtain⟨ks,rfl,hk⟩:=all_map2 (f:=kinA) (es:=fs) fun e hx=>has_kin (hf e hx).2
 obtain⟨a,rfl,_⟩:=has_int tk_3 h2
 obtain⟨b,rfl,_⟩:=has_int tk_3 h3
 obtain⟨c,rfl,_⟩:=has_int tk_3 h4
 obtain⟨d,rfl,_⟩:=has_int tk_3 h5
 obtain⟨e,rfl,_⟩:=has_int tk_3 h6
 rw[bo_190] at hb
 rw[bo_193] at hc
 simp only[reachBytes,List.length_map] at hb hc
 exact⟨⟨ts,ks,a,b,c,d,e⟩,rfl,⟨by show ts.length<_;omega,by show ks.length<_;omega,ht,hk⟩⟩
theorem has_mp{k:Nat}{xs:List AV}(h:Has Tryz.prog (k+16) 28 xs): ∃m:Mp,xs=mpF m∧MpB (2^50) m:=by
 have h:=has_struct sty_28 h
 obtain⟨x0,r,rfl,_,h0,h⟩:=hasE_cons h
 obtain⟨x1,r,rfl,_,h1,h⟩:=hasE_cons h
 obtain⟨x2,r,rfl,_,h2,h⟩:=hasE_cons h
 obtain⟨x3,r,rfl,_,h3,h⟩:=hasE_cons h
 obtain⟨x4,r,rfl,_,h4,h⟩:=hasE_cons h
 obtain rfl:=hasE_nil h
 obtain⟨w,rfl,_⟩:=has_int tk_3 h0
 obtain⟨e,rfl,_⟩:=has_int tk_3 h1
 obtain⟨t,rfl,ht⟩:=has_ints h2
 obtain⟨ri,rfl,hri⟩:=has_ints h3
 obtain⟨ro,rfl,hro⟩:=has_ints h4
 exact⟨⟨w,e,t,ri,ro⟩,rfl,⟨ht,hri,hro⟩⟩
theorem has_brd{k:Nat}{xs:List AV}(h:Has Tryz.prog (k+20) 30 xs): ∃b:Brd,xs=rulF b.r++mpF b.m∧BrdB (2^50) b:=by
 have h:=has_struct sty_30 h
 obtain⟨x0,r,rfl,_,h0,h⟩:=hasE_cons h
 obtain⟨x1,r,rfl,_,h1,h⟩:=hasE_cons h
 obtain rfl:=hasE_nil h
 obtain⟨r,rfl,hr⟩:=has_rul h0
 obtain⟨m,rfl,hm⟩:=has_mp h1
 exact⟨⟨r,m⟩,by simp only[List.append_nil],⟨hr,hm⟩⟩
end Go.Proofs.YtlkcpadkjepchaaGreatDoor.X
set_option maxHeartbeats 1000000
set_option maxRecDepth 8000
set_option linter.unusedSimpArgs false
set_option linter.unusedVariables false
open Nat renaming reduceBEq→N1,reduceAdd→N2,reduceSub→N3,reduceMul→N4,reduceEqDiff→N5,reduceLeDiff→N6,reduceLT→N7
open Int renaming reduceLE→I1,reduceLT→I2,reduceToNat→I3
namespace Go.Proofs.YtlkcpadkjepchaaGreatDoor.X
open Go
theorem hasV_sta{k:Nat}{x:AV}(hv:HasV Tryz.prog (k+20) 41 x): ∃s:Sta,x= .agg (staF s)∧s.us.length<2^50:=by
 obtain⟨ys,rfl,h⟩:=hasV_struct sty_41 hv
 obtain⟨x0,r,rfl,_,h0,h⟩:=hasE_cons h
 obtain⟨x1,r,rfl,_,h1,h⟩:=hasE_cons h
 obtain⟨x2,r,rfl,_,h2,h⟩:=hasE_cons h
 obtain rfl:=hasE_nil h
 obtain⟨a,rfl,_⟩:=has_int tk_3 h0
 obtain⟨b,rfl,_⟩:=has_int tk_3 h1
 obtain⟨es,rfl,_,hb,he⟩:=has_slice tk_39 h2
 obtain⟨us,rfl⟩:=all_map (f:=unA) (es:=es) fun e hx=>by
  have h:=has_struct sty_130 (he e hx).2
  obtain⟨x0,r,rfl,_,h0,h⟩:=hasE_cons h
  obtain⟨x1,r,rfl,_,h1,h⟩:=hasE_cons h
  obtain⟨x2,r,rfl,_,h2,h⟩:=hasE_cons h
  obtain⟨x3,r,rfl,_,h3,h⟩:=hasE_cons h
  obtain rfl:=hasE_nil h
  obtain⟨a,rfl,_⟩:=has_int tk_3 h0
  obtain⟨b,rfl,_⟩:=has_int tk_3 h1
  obtain⟨c,rfl,_⟩:=has_int tk_3 h2
  obtain⟨d,rfl,_⟩:=has_int tk_3 h3
  exact⟨⟨a,b,c,d⟩,rfl⟩
 rw[bo_130] at hb
 simp only[reachBytes,List.length_map] at hb
 exact⟨⟨a,b,us⟩,rfl,by show us.length<_;omega⟩
end Go.Proofs.YtlkcpadkjepchaaGreatDoor.X
set_option maxHeartbeats 1000000
set_option maxRecDepth 8000
set_option linter.unusedSimpArgs false
set_option linter.unusedVariables false
open Nat renaming reduceBEq→N1,reduceAdd→N2,reduceSub→N3,reduceMul→N4,reduceEqDiff→N5,reduceLeDiff→N6,reduceLT→N7
open Int renaming reduceLE→I1,reduceLT→I2,reduceToNat→I3
namespace Go.Proofs.YtlkcpadkjepchaaGreatDoor.X
open Go
theorem has_intss{k:Nat}{xs:List AV}(h:Has Tryz.prog (k+3) 32 xs): ∃W,xs=[.sl (intss W)]∧SSB (2^50) W:=by
 obtain⟨es,rfl,_,hb,he⟩:=has_slice tk_32 h
 rw[bo_26] at hb
 obtain⟨W,rfl,hr⟩:=all_map2 (f:=fun r:List Int=>[AV.sl (ints r)]) (p:=fun r=>r.length<2^50) (es:=es) fun e hx=>by
  obtain⟨l,rfl,hl⟩:=has_ints (he e hx).2
  exact⟨l,rfl,hl⟩
 simp only[reachBytes,List.length_map] at hb
 exact⟨W,rfl,⟨by omega,hr⟩⟩
theorem has_od{k:Nat}{xs:List AV}(h:Has Tryz.prog (k+6) 173 xs): ∃p:Od,xs=odA p:=by
 have h:=has_struct sty_173 h
 obtain⟨x1,r,rfl,_,h1,h⟩:=hasE_cons h
 obtain⟨x2,r,rfl,_,h2,h⟩:=hasE_cons h
 obtain rfl:=hasE_nil h
 obtain⟨a,rfl,_⟩:=has_int tk_3 h1
 obtain⟨b,rfl,_⟩:=has_int tk_3 h2
 exact⟨⟨a,b⟩,rfl⟩
theorem has_ct{k:Nat}{xs:List AV}(h:Has Tryz.prog (k+12) 34 xs): ∃t:Ct,xs=ctF t∧CtB (2^50) t:=by
 have h:=has_struct sty_34 h
 obtain⟨x0,r,rfl,_,h0,h⟩:=hasE_cons h
 obtain⟨x1,r,rfl,_,h1,h⟩:=hasE_cons h
 obtain⟨x2,r,rfl,_,h2,h⟩:=hasE_cons h
 obtain rfl:=hasE_nil h
 obtain⟨es,rfl,_,hb,he⟩:=has_slice tk_31 h0
 obtain⟨cs,rfl⟩:=all_map (f:=odA) (es:=es) fun e hx=>has_od (he e hx).2
 obtain⟨d,rfl,_⟩:=has_int tk_3 h1
 obtain⟨rs,rfl,hr⟩:=has_intss h2
 rw[bo_173] at hb
 simp only[reachBytes,List.length_map] at hb
 exact⟨⟨cs,d,rs⟩,rfl,⟨by show cs.length<_;omega,hr⟩⟩
theorem has_cl{k:Nat}{xs:List AV}(h:Has Tryz.prog (k+8) 36 xs): ∃W,xs=[.sl (intss W)]∧SSB (2^50) W:=by
 have h:=has_struct sty_36 h
 obtain⟨x0,r,rfl,_,h0,h⟩:=hasE_cons h
 obtain rfl:=hasE_nil h
 obtain⟨W,rfl,hr⟩:=has_intss h0
 exact⟨W,rfl,hr⟩
theorem hasV_se{k:Nat}{x:AV}(hv:HasV Tryz.prog (k+26) 38 x): ∃s:Se,x=seF s∧SeB (2^50) s:=by
 obtain⟨ys,rfl,h⟩:=hasV_struct sty_38 hv
 obtain⟨x0,r,rfl,_,h0,h⟩:=hasE_cons h
 obtain⟨x1,r,rfl,_,h1,h⟩:=hasE_cons h
 obtain⟨x2,r,rfl,_,h2,h⟩:=hasE_cons h
 obtain⟨x3,r,rfl,_,h3,h⟩:=hasE_cons h
 obtain rfl:=hasE_nil h
 obtain⟨b,rfl,hb⟩:=has_brd h0
 obtain⟨t,rfl,ht⟩:=has_ct h1
 obtain⟨c,rfl,hc⟩:=has_cl h2
 obtain⟨w,rfl,hw⟩:=has_intss h3
 exact⟨⟨b,t,c,w⟩,by simp only[seF,List.append_nil,List.append_assoc,List.cons_append,List.nil_append],⟨hb,ht,hc,hw⟩⟩
end Go.Proofs.YtlkcpadkjepchaaGreatDoor.X
set_option maxHeartbeats 1000000
set_option maxRecDepth 8000
set_option linter.unusedSimpArgs false
set_option linter.unusedVariables false
open Nat renaming reduceBEq→N1,reduceAdd→N2,reduceSub→N3,reduceMul→N4,reduceEqDiff→N5,reduceLeDiff→N6,reduceLT→N7
open Int renaming reduceLE→I1,reduceLT→I2,reduceToNat→I3
namespace Go.Proofs.YtlkcpadkjepchaaGreatDoor.X
open Go
theorem hasV_ods{k:Nat}{x:AV}(hv:HasV Tryz.prog (k+20) 42 x): ∃l:List Od,x= .sl (ods l)∧l.length<2^50:=by
 obtain⟨es,rfl,_,hb,he⟩:=hasV_slice tk_42 hv
 obtain⟨cs,rfl⟩:=all_map (f:=odA) (es:=es) fun e hx=>by
  have h:=has_struct sty_94 (he e hx).2
  obtain⟨x1,r,rfl,_,h1,h⟩:=hasE_cons h
  obtain⟨x2,r,rfl,_,h2,h⟩:=hasE_cons h
  obtain rfl:=hasE_nil h
  obtain⟨a,rfl,_⟩:=has_int tk_3 h1
  obtain⟨b,rfl,_⟩:=has_int tk_3 h2
  exact⟨⟨a,b⟩,rfl⟩
 rw[bo_94] at hb
 simp only[reachBytes,List.length_map] at hb
 exact⟨cs,rfl,by omega⟩
theorem lawBattlePhase_C{C:CT}(hC:Closed Tryz.prog G1 md0 C)(hF:FrzC C): ∀xs,HasVs Tryz.prog 30 [38,41,42,3] xs→Ev C 3 xs (.bool true):=by
 rintro xs ⟨x0,r0,rfl,h0,x1,r1,rfl,h1,x2,r2,rfl,h2,x3,r3,rfl,h3,rfl⟩
 obtain⟨x,rfl,hx⟩:=hasV_se h0
 obtain⟨s,rfl,hs⟩:=hasV_sta h1
 obtain⟨ak,rfl,hak⟩:=hasV_ods h2
 obtain⟨d,rfl,_⟩:=hasV_int tk_3 h3
 exact t3 hC hF x s ak d hx hs hak
theorem lawBattlePhase: ∀xs,HasVs Tryz.prog 30 [38,41,42,3] xs→Ev (CS Tryz.prog G1) 3 xs (.bool true):=lawBattlePhase_C (CS_closed (by kernel_rfl)) CS_frz
end Go.Proofs.YtlkcpadkjepchaaGreatDoor.X
