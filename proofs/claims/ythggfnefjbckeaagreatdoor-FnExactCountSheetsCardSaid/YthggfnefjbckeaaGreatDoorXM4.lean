/- A part of the proof: lemmas on the machine or on the functions that the law reaches. No condition of its own. -/
import Derived.Test.YthggfnefjbckeaaGreatDoorXM3
import Derived.Laws.Strings
import Derived.KernelRfl
set_option linter.unusedVariables false
set_option linter.unusedSimpArgs false
namespace Go.Proofs.YthggfnefjbckeaaGreatDoor.X
open Go
theorem RetTo_bool{h:Heap}{b c:Bool}:RetTo h (.bool b) (.bool c)=(b=c):=by
 simp[RetTo,conR,isF,NilTo]
theorem RetTo_int{h:Heap}{k k':IntKind}{b c:Int}:RetTo h (.int k b) (.int k' c)=(k=k'∧b=c):=by
 simp[RetTo,conR,isF,NilTo]
theorem RetTo_str{h:Heap}{b c:ByteArray}:RetTo h (.str b) (.str c)=(b=c):=by
 simp[RetTo,conR,isF,NilTo]
theorem wrap64{n:Int}(h1: -9223372036854775808≤n)(h2:n≤9223372036854775807):IntKind.i64.wrap n=n:=by
 simp only[IntKind.wrap,IntKind.bits,IntKind.signed,IntKind.max]
 simp
 omega
def ifB(b:Bool)(A B:Prop):Prop:=(b=true→A)∧(b=false→B)
theorem ifB_true{A B:Prop}:ifB true A B=A:=by simp[ifB]
theorem ifB_false{A B:Prop}:ifB false A B=B:=by simp[ifB]
theorem ifB_not{b:Bool}{A B:Prop}:ifB (!b) A B=ifB b B A:=by cases b<;>simp[ifB]
theorem ifB_intro{b:Bool}{A B:Prop}(h1:b=true→A)(h2:b=false→B):ifB b A B:=⟨h1,h2⟩
section
variable{P:Program}{G:Glo}{C:CT}{md:FuncId→Bool}{B:Nat}{t:List AV}{h:Heap}{n:Nat}{Q:XE→St→Prop}{d d':Nat}{r x y:XC}{K:AV→St→Prop}{s:St}{dst:Option Nat}{o:Op}
theorem R_done:R P G C md B .done ⟨t,h,n⟩ Q=Q .normal ⟨t,h,n⟩:=_root_.id rfl
theorem R_exit{id:Nat}:R P G C md B (.exit id) ⟨t,h,n⟩ Q=Q (.exit id) ⟨t,h,n⟩:=_root_.id rfl
theorem R_ret:R P G C md B .ret ⟨t,h,n⟩ Q=Q .ret ⟨t,h,n⟩:=_root_.id rfl
theorem R_block{id:Nat}:R P G C md B (.block id x r) ⟨t,h,n⟩ Q=R P G C md B x ⟨t,h,n⟩ (inBlockX id (thenX (fun s'=>R P G C md B r s' Q) Q)):=_root_.id rfl
theorem R_fork:R P G C md B (.fork x y r) ⟨t,h,n⟩ Q=(R P G C md B x ⟨t,h,n⟩ (thenX (fun s'=>R P G C md B r s' Q) Q)∧R P G C md B y ⟨t,h,n⟩ (thenX (fun s'=>R P G C md B r s' Q) Q)):=_root_.id rfl
def cK(P:Program)(G:Glo)(C:CT)(md:FuncId→Bool)(B:Nat)(c:Operand)(x y r:XC)(s:St)(Q:XE→St→Prop):AV→Prop
 | .bool b=>ifB b (R P G C md B x (know s c true) (thenX (fun s'=>R P G C md B r s' Q) Q)) (R P G C md B y (know s c false) (thenX (fun s'=>R P G C md B r s' Q) Q))
 | _=>False
theorem R_cond{c:Operand}:R P G C md B (.cond c x y r) ⟨t,h,n⟩ Q=cK P G C md B c x y r ⟨t,h,n⟩ Q (ev G ⟨t,h,n⟩ c):=by
 simp only[R]
 cases ev G ⟨t,h,n⟩ c<;>rfl
theorem cK_true{c:Operand}:cK P G C md B c x y r s Q (.bool true)=R P G C md B x (know s c true) (thenX (fun s'=>R P G C md B r s' Q) Q):=ifB_true
theorem cK_false{c:Operand}:cK P G C md B c x y r s Q (.bool false)=R P G C md B y (know s c false) (thenX (fun s'=>R P G C md B r s' Q) Q):=ifB_false
theorem cK_bool{c:Operand}{b:Bool}:cK P G C md B c x y r s Q (.bool b)=ifB b (R P G C md B x (know s c true) (thenX (fun s'=>R P G C md B r s' Q) Q)) (R P G C md B y (know s c false) (thenX (fun s'=>R P G C md B r s' Q) Q)):=_root_.id rfl
theorem R_op:R P G C md B (.op dst o none r) ⟨t,h,n⟩ Q=opK P G C md o ⟨t,h,n⟩ fun v s'=>R P G C md B r (s'.put dst v) Q:=_root_.id rfl
def gX(P:Program)(G:Glo)(C:CT)(md:FuncId→Bool)(B:Nat)(dst:Option Nat)(o:Op)(d:Nat)(w:Bool)(r:XC)(s:St)(Q:XE→St→Prop):AV→Prop
 | .bool b=>(b=w→opK P G C md o (s.put (some d) (.bool w)) fun v s'=>R P G C md B r (s'.put dst v) Q)∧(b=!w→R P G C md B r ((s.put (some d) (.bool !w)).put dst (.con undef)) Q)
 | .con (.tuple a)=>a= #[]∧R P G C md B r (s.put dst (.con undef)) Q
 | _=>False
theorem R_guard{w:Bool}:R P G C md B (.op dst o (some (d,w)) r) ⟨t,h,n⟩ Q=gX P G C md B dst o d w r ⟨t,h,n⟩ Q (t.getD d .any):=by
 simp only[R,guardG]
 generalize t.getD d .any=z
 cases z<;>rfl
theorem gX_tt:gX P G C md B dst o d true r s Q (.bool true)=opK P G C md o (s.put (some d) (.bool true)) fun v s'=>R P G C md B r (s'.put dst v) Q:=by simp[gX]
theorem gX_ft:gX P G C md B dst o d true r s Q (.bool false)=R P G C md B r ((s.put (some d) (.bool false)).put dst (.con undef)) Q:=by simp[gX]
theorem gX_tf:gX P G C md B dst o d false r s Q (.bool true)=R P G C md B r ((s.put (some d) (.bool true)).put dst (.con undef)) Q:=by simp[gX]
theorem gX_ff:gX P G C md B dst o d false r s Q (.bool false)=opK P G C md o (s.put (some d) (.bool false)) fun v s'=>R P G C md B r (s'.put dst v) Q:=by simp[gX]
theorem gX_t{b:Bool}:gX P G C md B dst o d true r s Q (.bool b)=ifB b (opK P G C md o (s.put (some d) (.bool true)) fun v s'=>R P G C md B r (s'.put dst v) Q) (R P G C md B r ((s.put (some d) (.bool false)).put dst (.con undef)) Q):=by cases b<;>simp[gX,ifB]
theorem gX_f{b:Bool}:gX P G C md B dst o d false r s Q (.bool b)=ifB b (R P G C md B r ((s.put (some d) (.bool true)).put dst (.con undef)) Q) (opK P G C md o (s.put (some d) (.bool false)) fun v s'=>R P G C md B r (s'.put dst v) Q):=by cases b<;>simp[gX,ifB]
theorem gX_u{w:Bool}:gX P G C md B dst o d w r s Q (.con undef)=R P G C md B r (s.put dst (.con undef)) Q:=by simp[gX,undef]
theorem put_none{v:AV}:St.put ⟨t,h,n⟩ none v=⟨t,h,n⟩:=_root_.id rfl
theorem put_int{k:IntKind}{m:Int}:St.put ⟨t,h,n⟩ (some d) (.int k m)=⟨t.set d (.int k m),h,n⟩:=_root_.id rfl
theorem put_bool{b:Bool}:St.put ⟨t,h,n⟩ (some d) (.bool b)=⟨t.set d (.bool b),h,n⟩:=_root_.id rfl
theorem put_str{b:ByteArray}:St.put ⟨t,h,n⟩ (some d) (.str b)=⟨t.set d (.str b),h,n⟩:=_root_.id rfl
theorem put_nil:St.put ⟨t,h,n⟩ (some d) .nil=⟨t.set d .nil,h,n⟩:=_root_.id rfl
theorem put_any:St.put ⟨t,h,n⟩ (some d) .any=⟨t.set d .any,h,n⟩:=_root_.id rfl
theorem put_con{v:Value}:St.put ⟨t,h,n⟩ (some d) (.con v)=⟨t.set d (.con v),h,n⟩:=_root_.id rfl
theorem put_sl{es:List (List AV)}:St.put ⟨t,h,n⟩ (some d) (.sl es)=⟨t.set d (.sl es),h,n⟩:=_root_.id rfl
theorem put_pf{es:List AV}:St.put ⟨t,h,n⟩ (some d) (.pf es)=⟨t.set d (.pf es),h,n⟩:=_root_.id rfl
theorem put_agg{es:List AV}:St.put ⟨t,h,n⟩ (some d) (.agg es)=⟨t.set d (.agg es),h,n⟩:=_root_.id rfl
theorem put_tup{es:List AV}:St.put ⟨t,h,n⟩ (some d) (.tup es)=⟨t.set d (.tup es),h,n⟩:=_root_.id rfl
theorem put_fn{f:FuncId}{es:List AV}:St.put ⟨t,h,n⟩ (some d) (.fn f es)=⟨t.set d (.fn f es),h,n⟩:=_root_.id rfl
theorem put_ref{i:Nat}{sub:Option (Nat×Nat×Nat)}{a b c:Nat}:St.put ⟨t,h,n⟩ (some d) (.ref i sub a b c)=⟨t.set d (.ref i sub a b c),h,n⟩:=_root_.id rfl
theorem put_ptr{i:Nat}{sub:Option (Nat×Nat×Nat)}{a b c:Nat}:St.put ⟨t,h,n⟩ (some d) (.ptr i sub a b c)=⟨t.set d (.ptr i sub a b c),h,n⟩:=_root_.id rfl
theorem know_tmp{b:Bool}:know ⟨t,h,n⟩ (.tmp d) b=⟨t.set d (.bool b),h,n⟩:=_root_.id rfl
theorem ev_tmp:ev G ⟨t,h,n⟩ (.tmp d)=t.getD d .any:=_root_.id rfl
theorem ev_int{k:IntKind}{m:Int}:ev G s (.const (.int k m))= .int k m:=_root_.id rfl
theorem ev_bool{b:Bool}:ev G s (.const (.bool b))= .bool b:=_root_.id rfl
theorem ev_str{b:ByteArray}:ev G s (.const (.string b))= .str b:=_root_.id rfl
theorem ev_nil:ev G s (.const (.slice none 0 0))= .nil:=_root_.id rfl
theorem ev_func{f:FuncId}:ev G s (.func f)= .fn f []:=_root_.id rfl
theorem o_move{x:Operand}:opK P G C md (.move x) s K=K (ev G s x) s:=_root_.id rfl
theorem o_assign{x:Operand}:opK P G C md (.assign x) s K=K (ev G s x) s:=_root_.id rfl
def pickK(a b:AV)(K:AV→Prop):AV→Prop
 | .bool true=>K a
 | .bool false=>K b
 | _=>False
theorem o_pick{c x y:Operand}:opK P G C md (.pick c x y) s K=pickK (ev G s x) (ev G s y) (fun v=>K v s) (ev G s c):=by
 simp only[opK]
 cases ev G s c<;>rfl
theorem pick_true{a b:AV}{K:AV→Prop}:pickK a b K (.bool true)=K a:=_root_.id rfl
theorem pick_false{a b:AV}{K:AV→Prop}:pickK a b K (.bool false)=K b:=_root_.id rfl
theorem o_bin{op:BinOp}{ty ty':TypeId}{x y:Operand}:opK P G C md (.binOp op ty x y ty') s K=binK P op ty (ev G s x) (ev G s y) (fun v=>K v s):=_root_.id rfl
theorem o_un{op:UnOp}{ty:TypeId}{x:Operand}:opK P G C md (.unOp op ty x) s K=unK op (ev G s x) (fun v=>K v s):=_root_.id rfl
theorem o_field{ty:TypeId}{x:Operand}{j:Nat}:opK P G C md (.field ty x j) s K=fldO P (fldP P ty j) (ev G s x) (fun v=>K v s):=_root_.id rfl
def extrK(i:Nat)(K:AV→Prop):AV→Prop
 | .tup vs=>match vs[i]? with
  | some v=>K v
  | none=>False
 | _=>False
theorem o_extr{x:Operand}{i:Nat}:opK P G C md (.extract x i) s K=extrK i (fun v=>K v s) (ev G s x):=by
 simp only[opK]
 cases ev G s x<;>rfl
theorem o_buildS{ty:TypeId}{m:Nat}{ps:Array (Nat×Operand)}:opK P G C md (.buildSlice ty m ps) s K=((m=0→ps.toList=[])∧buildSliceK P s ty m (ps.toList.map fun p=>(p.1,ev G s p.2)) K):=_root_.id rfl
theorem o_min{x y:Operand}{ty ty':TypeId}:opK P G C md (.call ⟨.builtin .min,⟨[x,y]⟩,⟨[ty,ty']⟩⟩) s K=minK (ev G s x) (ev G s y) (fun v=>K v s):=_root_.id rfl
theorem o_max{x y:Operand}{ty ty':TypeId}:opK P G C md (.call ⟨.builtin .max,⟨[x,y]⟩,⟨[ty,ty']⟩⟩) s K=maxK (ev G s x) (ev G s y) (fun v=>K v s):=_root_.id rfl
theorem o_call{f:Operand}{xs:List Operand}{tys:Array TypeId}:opK P G C md (.call ⟨.value f,⟨xs⟩,tys⟩) s K=callK C md s (ev G s f) (xs.map (ev G s)) K:=_root_.id rfl
theorem o_mkfn{f:FuncId}{caps:Array Operand}:opK P G C md (.makeFunc (.func f) ⟨[]⟩ caps) s K=(K (.fn f (evL G s caps)) s∧opK.allCells (evL G s caps)=true):=by
 simp[opK]
end
theorem mid_get{α:Type}{A B:List α}{x:α}{i:Nat}(h:A.length=i):(A++x::B)[i]?=some x:=by
 subst h;simp
theorem mid_set{α:Type}{A B:List α}{x y:α}{i:Nat}(h:A.length=i):(A++x::B).set i y=A++y::B:=by
 subst h;simp
mutual
theorem NilTo.refl: ∀x:AV,NilTo x x
 | .nil=>by simp[NilTo]
 | .ow sz es=>by simp only[NilTo];exact⟨es,rfl,NilToLL.refl es⟩
 | .agg xs=>by simp only[NilTo];exact⟨xs,rfl,NilToL.refl xs⟩
 | .tup xs=>by simp only[NilTo];exact⟨xs,rfl,NilToL.refl xs⟩
 | .op xs=>by simp only[NilTo];exact⟨xs,rfl,NilToL.refl xs⟩
 | .any=>by simp[NilTo]
 | .con _=>by simp[NilTo]
 | .int _ _=>by simp[NilTo]
 | .bool _=>by simp[NilTo]
 | .str _=>by simp[NilTo]
 | .sl _=>by simp[NilTo]
 | .pf _=>by simp[NilTo]
 | .ref _ _ _ _ _=>by simp[NilTo]
 | .ptr _ _ _ _ _=>by simp[NilTo]
 | .fn _ _=>by simp[NilTo]
theorem NilToL.refl: ∀xs:List AV,NilToL xs xs
 | []=>by simp[NilToL]
 | x::xs=>by simp only[NilToL];exact⟨x,xs,rfl,NilTo.refl x,NilToL.refl xs⟩
theorem NilToLL.refl: ∀xs:List (List AV),NilToLL xs xs
 | []=>by simp[NilToLL]
 | x::xs=>by simp only[NilToLL];exact⟨x,xs,rfl,NilToL.refl x,NilToLL.refl xs⟩
end
theorem RetTo_ow{h:Heap}{id sz len:Nat}{es:List (List AV)}(hg:hget h id=some (.slice sz es))(hl:len=es.length):RetTo h (.ref id none sz 0 len) (.ow sz es):=by
 refine⟨.ow sz es,hdel h id,?_,NilTo.refl _⟩
 simp[conR,hg,hl]
theorem RetTo_of{h h2:Heap}{v r:AV}(hc:conR 8 h v=some (r,h2)):RetTo h v r:=⟨r,h2,hc,NilTo.refl r⟩
end Go.Proofs.YthggfnefjbckeaaGreatDoor.X
set_option linter.unusedVariables false
set_option linter.unusedSimpArgs false
namespace Go.Proofs.YthggfnefjbckeaaGreatDoor.X
open Go
def fieldK:Option (Nat×Nat)→(Nat→Prop)→Prop
 | some (off,_+1),K=>K off
 | _,_=>False
theorem field_some{off n:Nat}{K:Nat→Prop}:fieldK (some (off,n+1)) K=K off:=_root_.id rfl
def faddrT(k:TK)(x:AV)(j:Nat)(K:AV→Prop):Prop:=
 match k with
 | .struct fs=>match fs[j]? with
  | some (off,sz')=>sz'≠0∧match x with
   | .ptr id sub sz i c=>K (.ptr id sub sz i (c+off))
   | .pf cs=>K (.pf (cs.drop off))
   | _=>False
  | none=>False
 | _=>False
theorem fa_ptr{fs:List (Nat×Nat)}{id:Nat}{sub:Option (Nat×Nat×Nat)}{sz i c j:Nat}{K:AV→Prop}:faddrT (.struct fs) (.ptr id sub sz i c) j K=fieldK fs[j]? fun off=>K (.ptr id sub sz i (c+off)):=by
 simp only[faddrT]
 rcases fs[j]? with _ | ⟨off,_ | n⟩<;>simp[fieldK]
theorem fa_pf{fs:List (Nat×Nat)}{cs:List AV}{j:Nat}{K:AV→Prop}:faddrT (.struct fs) (.pf cs) j K=fieldK fs[j]? fun off=>K (.pf (cs.drop off)):=by
 simp only[faddrT]
 rcases fs[j]? with _ | ⟨off,_ | n⟩<;>simp[fieldK]
def elK(z:Nat)(K:AV→Prop):Option (List AV)→Prop
 | some el=>el.length=z∧K (.pf el)
 | none=>False
theorem el_some{z:Nat}{K:AV→Prop}{el:List AV}:elK z K (some el)=(el.length=z∧K (.pf el)):=_root_.id rfl
def iaddrT(P:Program)(k:TK)(x ix:AV)(K:AV→Prop):Prop:=
 match k,x,ix with
 | .slice e,.ref id sub sz off len,.int _ i=>sz=szOf P e∧szOf P e≠0∧0≤i∧i<len∧K (.ptr id sub sz (off+i.toNat) 0)
 | .slice e,.sl es,.int _ i=>szOf P e≠0∧0≤i∧match es[i.toNat]? with
  | some el=>el.length=szOf P e∧K (.pf el)
  | none=>False
 | .array m e,.ptr id sub sz i0 c,.int _ i=>szOf P e≠0∧0≤i∧i<m∧K (.ptr id sub sz i0 (c+i.toNat*szOf P e))
 | .array m e,.pf cs,.int _ i=>szOf P e≠0∧0≤i∧i<m∧K (.pf (cs.drop (i.toNat*szOf P e)))
 | _,_,_=>False
section
variable{P:Program}{G:Glo}{C:CT}{md:FuncId→Bool}{t:List AV}{h:Heap}{n m:Nat}{K:AV→Prop}{KS:AV→St→Prop}{s:St}{e ty ty':TypeId}{k k':IntKind}{i a b:Int}{es:List (List AV)}{cs:List AV}{id sz off len c i0:Nat}{sub:Option (Nat×Nat×Nat)}
theorem ia_ref:iaddrT P (.slice e) (.ref id sub sz off len) (.int k i) K=(sz=szOf P e∧szOf P e≠0∧0≤i∧i<len∧K (.ptr id sub sz (off+i.toNat) 0)):=_root_.id rfl
theorem ia_sl:iaddrT P (.slice e) (.sl es) (.int k i) K=(szOf P e≠0∧0≤i∧elK (szOf P e) K es[i.toNat]?):=by
 simp only[iaddrT]
 cases es[i.toNat]?<;>rfl
theorem ia_aptr:iaddrT P (.array m e) (.ptr id sub sz i0 c) (.int k i) K=(szOf P e≠0∧0≤i∧i<m∧K (.ptr id sub sz i0 (c+i.toNat*szOf P e))):=_root_.id rfl
theorem ia_apf:iaddrT P (.array m e) (.pf cs) (.int k i) K=(szOf P e≠0∧0≤i∧i<m∧K (.pf (cs.drop (i.toNat*szOf P e)))):=_root_.id rfl
end
def idxT(k:TK)(x ix:AV)(K:AV→Prop):Prop:=
 match k,x,ix with
 | .str,.str s,.int _ i=>0≤i∧i<s.size∧K (.int .u8 (bt s i))
 | _,_,_=>False
theorem ix_str{s:ByteArray}{k:IntKind}{i:Int}{K:AV→Prop}:idxT .str (.str s) (.int k i) K=(0≤i∧i<s.size∧K (.int .u8 (bt s i))):=_root_.id rfl
def slR(P:Program)(e:TypeId)(id:Nat)(sub:Option (Nat×Nat×Nat))(sz off len:Nat)(K:AV→Prop):AV→AV→Prop
 | .int _ l,.int _ r=>sz=szOf P e∧szOf P e≠0∧0≤l∧l≤r∧r≤len∧K (.ref id sub sz (off+l.toNat) (r-l).toNat)
 | _,_=>False
def slF(P:Program)(e:TypeId)(es:List (List AV))(K:AV→Prop):AV→AV→Prop
 | .int _ l,.int _ r=>szOf P e≠0∧(∀el∈es,el.length=szOf P e)∧0≤l∧l≤r∧r≤es.length∧K (.sl ((es.drop l.toNat).take (r-l).toNat))
 | _,_=>False
def slN(P:Program)(e:TypeId)(K:AV→Prop):AV→AV→Prop
 | .int _ l,.int _ r=>szOf P e≠0∧l=0∧r=0∧K .nil
 | _,_=>False
def slS(s:ByteArray)(K:AV→Prop):AV→AV→Prop
 | .int _ l,.int _ r=>0≤l∧l≤r∧r≤s.size∧K (.str (s.extract l.toNat r.toNat))
 | _,_=>False
def sliceT(P:Program)(k:TK)(x:AV)(lo hi:Option AV)(K:AV→Prop):Prop:=
 match k,x with
 | .slice e,.ref id sub sz off len=>slR P e id sub sz off len K (lo.getD (.int .i64 0)) (hi.getD (.int .i64 len))
 | .slice e,.sl es=>slF P e es K (lo.getD (.int .i64 0)) (hi.getD (.int .i64 es.length))
 | .slice e,.nil=>slN P e K (lo.getD (.int .i64 0)) (hi.getD (.int .i64 0))
 | .str,.str s=>slS s K (lo.getD (.int .i64 0)) (hi.getD (.int .i64 s.size))
 | _,_=>False
section
variable{P:Program}{K:AV→Prop}{e:TypeId}{k k':IntKind}{l r:Int}{es:List (List AV)}{id sz off len:Nat}{sub:Option (Nat×Nat×Nat)}{lo hi:Option AV}{b:ByteArray}
theorem sl_ref:sliceT P (.slice e) (.ref id sub sz off len) lo hi K=slR P e id sub sz off len K (lo.getD (.int .i64 0)) (hi.getD (.int .i64 len)):=_root_.id rfl
theorem sl_sl:sliceT P (.slice e) (.sl es) lo hi K=slF P e es K (lo.getD (.int .i64 0)) (hi.getD (.int .i64 es.length)):=_root_.id rfl
theorem sl_nil:sliceT P (.slice e) .nil lo hi K=slN P e K (lo.getD (.int .i64 0)) (hi.getD (.int .i64 0)):=_root_.id rfl
theorem sl_str:sliceT P .str (.str b) lo hi K=slS b K (lo.getD (.int .i64 0)) (hi.getD (.int .i64 b.size)):=_root_.id rfl
theorem slR_int:slR P e id sub sz off len K (.int k l) (.int k' r)=(sz=szOf P e∧szOf P e≠0∧0≤l∧l≤r∧r≤len∧K (.ref id sub sz (off+l.toNat) (r-l).toNat)):=_root_.id rfl
theorem slF_int:slF P e es K (.int k l) (.int k' r)=(szOf P e≠0∧(∀el∈es,el.length=szOf P e)∧0≤l∧l≤r∧r≤es.length∧K (.sl ((es.drop l.toNat).take (r-l).toNat))):=_root_.id rfl
theorem slN_int:slN P e K (.int k l) (.int k' r)=(szOf P e≠0∧l=0∧r=0∧K .nil):=_root_.id rfl
theorem slS_int:slS b K (.int k l) (.int k' r)=(0≤l∧l≤r∧r≤b.size∧K (.str (b.extract l.toNat r.toNat))):=_root_.id rfl
end
def ldC(ag:Option Nat)(cs:List AV)(c:Nat)(K:AV→Prop):Prop:=
 match ag with
 | some n=>c+n≤cs.length∧K (.agg ((cs.drop c).take n))
 | none=>match cs[c]? with
  | some y=>K y
  | none=>False
def okV(K:AV→Prop):Option AV→Prop
 | some y=>K y
 | none=>False
theorem okV_some{K:AV→Prop}{y:AV}:okV K (some y)=K y:=_root_.id rfl
def okL(K:List AV→Prop):Option (List AV)→Prop
 | some y=>K y
 | none=>False
theorem okL_some{K:List AV→Prop}{y:List AV}:okL K (some y)=K y:=_root_.id rfl
def ldE(id:Nat)(sub:Option (Nat×Nat×Nat))(sz i c:Nat)(K:AV→Prop):Option Nat→Option (List AV)→Prop
 | some n,some e=>c+n≤e.length∧okL (fun ys=>K (.agg ys)) (cellsS id sub sz i c ((e.drop c).take n))
 | none,some e=>okV K ((e[c]?).bind (cellS id sub sz i c))
 | _,none=>False
def ldS(id:Nat)(sub:Option (Nat×Nat×Nat))(sz i c:Nat)(K:AV→Prop)(ag:Option Nat):Option (Nat×List (List AV))→Prop
 | some (sz',es)=>sz'=sz∧ldE id sub sz i c K ag es[i]?
 | none=>False
def ldV(h:Heap)(id sz i c:Nat)(K:AV→Prop)(ag:Option Nat):Option Ob→Prop
 | some (.var cs)=>i=0∧ldC ag cs c K
 | some (.slice sz' es)=>sz'=sz∧ldE id none sz i c K ag es[i]?
 | none=>False
def loadT(ag:Option (Option Nat))(h:Heap)(x:AV)(K:AV→Prop):Prop:=
 match x,ag with
 | .pf cs,some (some n)=>n≤cs.length∧allF (cs.take n)=true∧K (.agg (cs.take n))
 | .pf cs,some none=>match cs with
  | y::_=>isF y=true∧K y
  | []=>False
 | .ptr id none sz i c,some ag=>ldV h id sz i c K ag (hget h id)
 | .ptr id (some u) sz i c,some ag=>ldS id (some u) sz i c K ag (getS h id (some u))
 | _,_=>False
theorem load_eq{P:Program}{h:Heap}{ty:TypeId}{x:AV}{K:AV→Prop}:loadK P h ty x K=loadT (agT P ty) h x K:=by
 unfold loadK loadT
 cases x<;>try rfl
 case pf cs=>rcases agT P ty with _ | _ | n<;>rfl
 case ptr id sub sz i c=>
  rcases agT P ty with _ | ag
  ·cases sub<;>rfl
  cases sub with
  | none=>
   simp only[getS,ldV]
   rcases hget h id with _ | ⟨sz',es⟩ | cs
   ·rfl
   ·simp only
    rcases es[i]? with _ | e
    ·simp[ldE]
    rcases ag with _ | n
    ·simp only[ldE]
     rcases e[c]? with _ | y
     ·rfl
     ·simp only[Option.bind_some]
      rcases cellS id none sz i c y with _ | z<;>rfl
    ·simp only[ldE]
     rcases cellsS id none sz i c _ with _ | z<;>rfl
   ·simp only[ldC]
    cases ag<;>rfl
  | some u=>
   simp only[ldS]
   rcases hq:getS h id (some u) with _ | ⟨sz',es⟩
   ·simp
   ·simp only
    rcases es[i]? with _ | e
    ·simp[ldE]
    rcases ag with _ | n
    ·simp only[ldE]
     rcases e[c]? with _ | y
     ·rfl
     ·simp only[Option.bind_some]
      rcases cellS id (some u) sz i c y with _ | z<;>rfl
    ·simp only[ldE]
     rcases cellsS id (some u) sz i c _ with _ | z<;>rfl
section
variable{h:Heap}{id sz sz' i c n:Nat}{sub:Option (Nat×Nat×Nat)}{u:Nat×Nat×Nat}{K:AV→Prop}{ag:Option Nat}{cs e:List AV}{es:List (List AV)}{y:AV}
theorem ld_pfa:loadT (some (some n)) h (.pf cs) K=(n≤cs.length∧allF (cs.take n)=true∧K (.agg (cs.take n))):=_root_.id rfl
theorem ld_pf:loadT (some none) h (.pf (y::cs)) K=(isF y=true∧K y):=_root_.id rfl
theorem ld_ptr:loadT (some ag) h (.ptr id none sz i c) K=ldV h id sz i c K ag (hget h id):=_root_.id rfl
theorem ld_sub:loadT (some ag) h (.ptr id (some u) sz i c) K=ldS id (some u) sz i c K ag (getS h id (some u)):=_root_.id rfl
theorem ldV_var:ldV h id sz i c K ag (some (.var cs))=(i=0∧ldC ag cs c K):=_root_.id rfl
theorem ldV_slice:ldV h id sz i c K ag (some (.slice sz' es))=(sz'=sz∧ldE id none sz i c K ag es[i]?):=_root_.id rfl
theorem ldS_some:ldS id sub sz i c K ag (some (sz',es))=(sz'=sz∧ldE id sub sz i c K ag es[i]?):=_root_.id rfl
theorem ldE_agg:ldE id sub sz i c K (some n) (some e)=(c+n≤e.length∧okL (fun ys=>K (.agg ys)) (cellsS id sub sz i c ((e.drop c).take n))):=_root_.id rfl
theorem ldE_one:ldE id sub sz i c K none (some e)=okV K ((e[c]?).bind (cellS id sub sz i c)):=_root_.id rfl
theorem ldC_agg:ldC (some n) cs c K=(c+n≤cs.length∧K (.agg ((cs.drop c).take n))):=_root_.id rfl
theorem ldC_one:ldC none cs c K=okV K cs[c]?:=by simp only[ldC];cases cs[c]?<;>rfl
end
def stIf(b:Bool)(K:St→Prop)(s:St):Prop:=if b=true then K s else K (killSt s)
theorem stIf_true{K:St→Prop}{s:St}:stIf true K s=K s:=_root_.id rfl
theorem stIf_false{K:St→Prop}{s:St}:stIf false K s=K (killSt s):=_root_.id rfl
def stC(s:St)(id sz i:Nat)(es:List (List AV))(K:St→Prop)(f:List AV→List AV):Option (List AV×Heap)→Prop
 | some (ys,h')=>match hget h' id with
  | some (.slice _ _)=>K (killSt ⟨s.tmps,hset h' id (.slice sz (es.set i (f ys))),s.next⟩)
  | _=>False
 | none=>False
def stE(s:St)(id:Nat)(sub:Option (Nat×Nat×Nat))(sz i c:Nat)(cs:List AV)(es:List (List AV))(K:St→Prop):Option (List AV)→Prop
 | some e=>c+cs.length≤e.length∧ifB (allSc cs&&allSc ((e.drop c).take cs.length)) (K ⟨s.tmps,setS s.heap id sub (es.set i (setsA e c cs)),s.next⟩)
   (sub=none∧stC s id sz i es K (setsA e c) (conL s.heap cs))
 | none=>False
def stG(s:St)(id:Nat)(sub:Option (Nat×Nat×Nat))(sz i c:Nat)(cs:List AV)(K:St→Prop):Option (Nat×List (List AV))→Prop
 | some (sz',es)=>sz'=sz∧stE s id sub sz i c cs es K es[i]?
 | none=>False
def stV(s:St)(id sz i c:Nat)(cs:List AV)(K:St→Prop):Option Ob→Prop
 | some (.var old)=>i=0∧c+cs.length≤old.length∧stIf (allSn ((old.drop c).take cs.length)) K ⟨s.tmps,hset s.heap id (.var (setsA old c cs)),s.next⟩
 | some (.slice sz' es)=>sz'=sz∧stE s id none sz i c cs es K es[i]?
 | none=>False
def storeT(z:Nat)(s:St)(x:AV)(K:St→Prop):Option (List AV)→Prop
 | some cs=>z≠0∧cs.length=z∧match x with
  | .ptr id none sz i c=>stV s id sz i c cs K (hget s.heap id)
  | .ptr id (some u) sz i c=>stG s id (some u) sz i c cs K (getS s.heap id (some u))
  | _=>False
 | none=>False
theorem stE_eq{s:St}{id:Nat}{sub:Option (Nat×Nat×Nat)}{sz i c:Nat}{cs:List AV}{es:List (List AV)}{K:St→Prop}:stE s id sub sz i c cs es K es[i]?=match es[i]? with
    | some e=>c+cs.length≤e.length∧
     (if allSc cs=true∧allSc ((e.drop c).take cs.length)=true then K ⟨s.tmps,setS s.heap id sub (es.set i (setsA e c cs)),s.next⟩
      else sub=none∧match conL s.heap cs with
       | some (ys,h')=>match hget h' id with
         | some (.slice _ _)=>K (killSt ⟨s.tmps,hset h' id (.slice sz (es.set i (setsA e c ys))),s.next⟩)
         | _=>False
       | none=>False)
    | none=>False:=by
 rcases es[i]? with _ | e
 ·rfl
 simp only[stE,stC]
 cases h1:allSc cs<;>cases h2:allSc ((e.drop c).take cs.length)<;>simp[ifB]<;>
  (rcases conL s.heap cs with _ | ⟨ys,h'⟩<;>simp)
theorem store_eq{P:Program}{s:St}{ty:TypeId}{x v:AV}{K:St→Prop}:storeK P s ty x v K=storeT (szOf P ty) s x K (cellsV v):=by
 unfold storeK storeT
 cases x<;>(try (rcases cellsV v with _ | cs<;>simp;done))
 case ptr id sub sz i c=>
  rcases cellsV v with _ | cs
  ·rfl
  cases sub with
  | none=>
   simp only[getS,stV]
   rcases hget s.heap id with _ | ⟨sz',es⟩ | old
   ·rfl
   ·simp only[stE_eq];rfl
   ·simp only[stIf]
  | some u=>
   simp only[stG]
   rcases getS s.heap id (some u) with _ | ⟨sz',es⟩
   ·rfl
   ·simp only[stE_eq];rfl
section
variable{s:St}{h':Heap}{id z sz sz' i c:Nat}{sub:Option (Nat×Nat×Nat)}{u:Nat×Nat×Nat}{K:St→Prop}{cs e old ys:List AV}{es:List (List AV)}{f:List AV→List AV}
theorem st_ptr:storeT z s (.ptr id none sz i c) K (some cs)=(z≠0∧cs.length=z∧stV s id sz i c cs K (hget s.heap id)):=_root_.id rfl
theorem st_sub:storeT z s (.ptr id (some u) sz i c) K (some cs)=(z≠0∧cs.length=z∧stG s id (some u) sz i c cs K (getS s.heap id (some u))):=_root_.id rfl
theorem stV_var:stV s id sz i c cs K (some (.var old))=(i=0∧c+cs.length≤old.length∧stIf (allSn ((old.drop c).take cs.length)) K ⟨s.tmps,hset s.heap id (.var (setsA old c cs)),s.next⟩):=_root_.id rfl
theorem stV_slice:stV s id sz i c cs K (some (.slice sz' es))=(sz'=sz∧stE s id none sz i c cs es K es[i]?):=_root_.id rfl
theorem stG_some:stG s id sub sz i c cs K (some (sz',es))=(sz'=sz∧stE s id sub sz i c cs es K es[i]?):=_root_.id rfl
theorem stE_some:stE s id sub sz i c cs es K (some e)=(c+cs.length≤e.length∧ifB (allSc cs&&allSc ((e.drop c).take cs.length)) (K ⟨s.tmps,setS s.heap id sub (es.set i (setsA e c cs)),s.next⟩)
   (sub=none∧stC s id sz i es K (setsA e c) (conL s.heap cs))):=_root_.id rfl
def stD(s:St)(id sz i:Nat)(es:List (List AV))(K:St→Prop)(ys':List AV)(h':Heap):Option Ob→Prop
 | some (.slice _ _)=>K (killSt ⟨s.tmps,hset h' id (.slice sz (es.set i ys')),s.next⟩)
 | _=>False
theorem stC_some:stC s id sz i es K f (some (ys,h'))=stD s id sz i es K (f ys) h' (hget h' id):=by
 simp only[stC,stD]
theorem stD_some{es':List (List AV)}:stD s id sz i es K ys h' (some (.slice sz' es'))=K (killSt ⟨s.tmps,hset h' id (.slice sz (es.set i ys)),s.next⟩):=_root_.id rfl
end
def allocT(z:Option (List AV))(s:St)(K:AV→St→Prop):Prop:=
 match z with
 | some cs=>K (.ptr s.next none 0 0 0) ⟨s.tmps,(s.next,.var cs)::s.heap,s.next+1⟩
 | none=>False
theorem al_some{cs:List AV}{t:List AV}{h:Heap}{n:Nat}{K:AV→St→Prop}:allocT (some cs) ⟨t,h,n⟩ K=K (.ptr n none 0 0 0) ⟨t,(n,.var cs)::h,n+1⟩:=_root_.id rfl
theorem box_eq{s:St}{v:AV}{K:AV→St→Prop}:boxK s v K=allocT (cellsV v) s K:=by
 unfold boxK allocT;cases cellsV v<;>rfl
theorem cv_agg{cs:List AV}:cellsV (.agg cs)=some cs:=_root_.id rfl
theorem cv_int{k:IntKind}{i:Int}:cellsV (.int k i)=some [.int k i]:=_root_.id rfl
theorem cv_bool{b:Bool}:cellsV (.bool b)=some [.bool b]:=_root_.id rfl
theorem cv_str{b:ByteArray}:cellsV (.str b)=some [.str b]:=_root_.id rfl
theorem cv_nil:cellsV .nil=some [.nil]:=_root_.id rfl
theorem cv_sl{es:List (List AV)}:cellsV (.sl es)=some [.sl es]:=_root_.id rfl
theorem cv_pf{es:List AV}:cellsV (.pf es)=some [.pf es]:=_root_.id rfl
theorem cv_ref{id:Nat}{sub:Option (Nat×Nat×Nat)}{a b c:Nat}:cellsV (.ref id sub a b c)=some [.ref id sub a b c]:=_root_.id rfl
theorem cv_ptr{id:Nat}{sub:Option (Nat×Nat×Nat)}{a b c:Nat}:cellsV (.ptr id sub a b c)=some [.ptr id sub a b c]:=_root_.id rfl
theorem cv_fn{f:FuncId}{cs:List AV}:cellsV (.fn f cs)=some [.fn f cs]:=_root_.id rfl
def okAgg(K:AV→Prop):Option (List AV)→Prop
 | some cs=>K (.agg cs)
 | none=>False
theorem okAgg_some{K:AV→Prop}{cs:List AV}:okAgg K (some cs)=K (.agg cs):=_root_.id rfl
def buildT(pl:Option (List (Nat×Nat)))(z:Option (List AV))(parts:List (Nat×AV))(K:AV→Prop):Prop:=
 match pl,z with
 | some pl,some zs=>okAgg K (fillA (pl[·]?) zs parts)
 | _,_=>False
theorem build_eq{P:Program}{ty:TypeId}{parts:List (Nat×AV)}{K:AV→Prop}:buildK P ty parts K=buildT (places P ty) (zeroCells P ty) parts K:=by
 unfold buildK buildT
 rcases places P ty with _ | pl<;>rcases zeroCells P ty with _ | zs<;>try rfl
theorem bu_some{pl:List (Nat×Nat)}{zs:List AV}{parts:List (Nat×AV)}{K:AV→Prop}:buildT (some pl) (some zs) parts K=okAgg K (fillA (pl[·]?) zs parts):=_root_.id rfl
theorem fill_nil{p:Nat→Option (Nat×Nat)}{cs:List AV}:fillA p cs []=some cs:=_root_.id rfl
def fill1(p:Nat→Option (Nat×Nat))(cells:List AV)(rest:List (Nat×AV)):Option (Nat×Nat)→Option (List AV)→Option (List AV)
 | some (off,size),some cs=>if cs.length=size∧off+cs.length≤cells.length then fillA p (setsA cells off cs) rest else none
 | _,_=>none
theorem fill_cons{p:Nat→Option (Nat×Nat)}{cs:List AV}{i:Nat}{v:AV}{rest:List (Nat×AV)}:fillA p cs ((i,v)::rest)=fill1 p cs rest (p i) (cellsV v):=by
 simp only[fillA]
 rcases p i with _ | ⟨_,_⟩<;>rcases cellsV v with _ | _<;>rfl
theorem fill1_some{p:Nat→Option (Nat×Nat)}{cells cs:List AV}{rest:List (Nat×AV)}{off size:Nat}:fill1 p cells rest (some (off,size)) (some cs)=if cs.length=size∧off+cs.length≤cells.length then fillA p (setsA cells off cs) rest else none:=_root_.id rfl
def mkE(s:St)(z:Nat)(l:Int)(K:AV→St→Prop):Option (List AV)→Prop
 | some zs=>zs.length=z∧allF zs=true∧K (.ref s.next none z 0 l.toNat) ⟨s.tmps,(s.next,.slice z (List.replicate l.toNat zs))::s.heap,s.next+1⟩
 | none=>False
theorem mkE_some{t:List AV}{h:Heap}{n z:Nat}{l:Int}{K:AV→St→Prop}{zs:List AV}:mkE ⟨t,h,n⟩ z l K (some zs)=(zs.length=z∧allF zs=true∧K (.ref n none z 0 l.toNat) ⟨t,(n,.slice z (List.replicate l.toNat zs))::h,n+1⟩):=_root_.id rfl
def makeT(P:Program)(k:TK)(s:St)(l c:AV)(K:AV→St→Prop):Prop:=
 match k,l,c with
 | .slice e,.int _ l,.int _ c=>szOf P e≠0∧0≤l∧l≤c∧(byOf P e:Int)*c≤140737488355328∧c≤9223372036854775807∧mkE s (szOf P e) l K (zeroCells P e)
 | _,_,_=>False
theorem make_eq{P:Program}{s:St}{ty:TypeId}{l c:AV}{K:AV→St→Prop}:makeSliceK P s ty l c K=makeT P (tk P ty) s l c K:=by
 unfold makeSliceK makeT
 rcases tk P ty with _ | _ | _ | _ | _ | _ | _ | _<;>cases l<;>cases c<;>try rfl
theorem mk_slice{P:Program}{e:TypeId}{s:St}{k k':IntKind}{l c:Int}{K:AV→St→Prop}:makeT P (.slice e) s (.int k l) (.int k' c) K=(szOf P e≠0∧0≤l∧l≤c∧(byOf P e:Int)*c≤140737488355328∧c≤9223372036854775807∧mkE s (szOf P e) l K (zeroCells P e)):=_root_.id rfl
def bsC(s:St)(z len:Nat)(K:AV→St→Prop):Option (List AV×Heap)→Prop
 | some (ts,h')=>K (.ref s.next none z 0 len) ⟨s.tmps,(s.next,.slice z (chunk z len ts))::h',s.next+1⟩
 | none=>False
def bsF(s:St)(z len:Nat)(K:AV→St→Prop):Option (List AV)→Prop
 | some cs=>bsC s z len K (conL s.heap cs)
 | none=>False
def bsZ(s:St)(z len:Nat)(parts:List (Nat×AV))(K:AV→St→Prop):Option (List AV)→Prop
 | some zs=>zs.length=z∧bsF s z len K (fillA (fun i=>some (i*z,z)) ((List.replicate len zs).flatten) parts)
 | none=>False
def buildST(P:Program)(k:TK)(s:St)(len:Nat)(parts:List (Nat×AV))(K:AV→St→Prop):Prop:=
 match k with
 | .slice e=>szOf P e≠0∧len*szOf P e≤16777216∧if len=0 then K (.ref s.next none (szOf P e) 0 0) ⟨s.tmps,(s.next,.slice (szOf P e) [])::s.heap,s.next+1⟩ else bsZ s (szOf P e) len parts K (zeroCells P e)
 | _=>False
theorem buildS_eq{P:Program}{s:St}{ty:TypeId}{len:Nat}{parts:List (Nat×AV)}{K:AV→St→Prop}:buildSliceK P s ty len parts K=buildST P (tk P ty) s len parts K:=by
 unfold buildSliceK buildST
 rcases tk P ty with e | _ | _ | _ | _ | _ | _ | _<;>try rfl
theorem bs_slice{P:Program}{e:TypeId}{s:St}{len:Nat}{parts:List (Nat×AV)}{K:AV→St→Prop}:buildST P (.slice e) s len parts K=(szOf P e≠0∧len*szOf P e≤16777216∧if len=0 then K (.ref s.next none (szOf P e) 0 0) ⟨s.tmps,(s.next,.slice (szOf P e) [])::s.heap,s.next+1⟩ else bsZ s (szOf P e) len parts K (zeroCells P e)):=_root_.id rfl
theorem bsZ_some{s:St}{z len:Nat}{parts:List (Nat×AV)}{K:AV→St→Prop}{zs:List AV}:bsZ s z len parts K (some zs)=(zs.length=z∧bsF s z len K (fillA (fun i=>some (i*z,z)) ((List.replicate len zs).flatten) parts)):=_root_.id rfl
theorem bsF_some{s:St}{z len:Nat}{K:AV→St→Prop}{cs:List AV}:bsF s z len K (some cs)=bsC s z len K (conL s.heap cs):=_root_.id rfl
theorem bsC_some{t:List AV}{h h':Heap}{n:Nat}{z len:Nat}{K:AV→St→Prop}{ts:List AV}:bsC ⟨t,h,n⟩ z len K (some (ts,h'))=K (.ref n none z 0 len) ⟨t,(n,.slice z (chunk z len ts))::h',n+1⟩:=_root_.id rfl
def lenT(k:TK)(x:AV)(K:AV→Prop):Prop:=
 match k,x with
 | .slice _,.ref _ _ _ _ len=>K (.int .i64 len)
 | .slice _,.sl es=>K (.int .i64 es.length)
 | .slice _,.nil=>K (.int .i64 0)
 | .str,.str s=>K (.int .i64 s.size)
 | _,_=>False
theorem len_ref{e:TypeId}{id sz off len:Nat}{sub:Option (Nat×Nat×Nat)}{K:AV→Prop}:lenT (.slice e) (.ref id sub sz off len) K=K (.int .i64 len):=_root_.id rfl
theorem len_sl{e:TypeId}{es:List (List AV)}{K:AV→Prop}:lenT (.slice e) (.sl es) K=K (.int .i64 es.length):=_root_.id rfl
theorem len_nil{e:TypeId}{K:AV→Prop}:lenT (.slice e) .nil K=K (.int .i64 0):=_root_.id rfl
theorem len_str{b:ByteArray}{K:AV→Prop}:lenT .str (.str b) K=K (.int .i64 b.size):=_root_.id rfl
theorem conv_int{k k' k2:IntKind}{n:Int}{P:Program}{h:Heap}{K:AV→Prop}:convHT (.int k) (.int k') P h (.int k2 n) K=K (.int k' (k'.wrap n)):=_root_.id rfl
theorem conv_bytes{e id sz off len:Nat}{P:Program}{h:Heap}{K:AV→Prop}:convHT (.slice e) .str P h (.ref id none sz off len) K=convB (tk P e) (hget h id) sz off len K:=_root_.id rfl
theorem convB_some{sz sz2 off len:Nat}{es:List (List AV)}{K:AV→Prop}:convB (.int .u8) (some (.slice sz2 es)) sz off len K=(sz=sz2∧sz=1∧bytesV ((es.drop off).take len) K):=_root_.id rfl
theorem bytesV_one{n:Int}{K:AV→Prop}:bytesV [[.int .u8 n]] K=K (.str ⟨#[UInt8.ofNat n.toNat]⟩):=_root_.id rfl
def fldC(K:AV→Prop):Option AV→Prop
 | some y=>K y
 | none=>False
theorem fldC_some{y:AV}{K:AV→Prop}:fldC K (some y)=K y:=_root_.id rfl
theorem fldO_some{P:Program}{ft off:Nat}{x:AV}{K:AV→Prop}:fldO P (some (ft,off)) x K=fldV (agT P ft) off x K:=_root_.id rfl
theorem fldV_one{off:Nat}{cs:List AV}{K:AV→Prop}:fldV (some none) off (.agg cs) K=fldC K cs[off]?:=by
 show(match cs[off]? with | some y=>K y | none=>False)=fldC K cs[off]?
 cases cs[off]?<;>rfl
theorem fldV_agg{n off:Nat}{cs:List AV}{K:AV→Prop}:fldV (some (some n)) off (.agg cs) K=(off+n≤cs.length∧K (.agg ((cs.drop off).take n))):=_root_.id rfl
def apY(s:St)(z by':Nat)(es1:List (List AV))(K:AV→St→Prop):Option (List (List AV)×Heap)→Prop
 | some (es2,h2)=>(es1.length+es2.length)*by'≤140737488355328∧K (.ref s.next none z 0 (es1.length+es2.length)) (killSt ⟨s.tmps,(s.next,.slice z (es1++es2))::h2,s.next+1⟩)
 | none=>False
def apX(P:Program)(s:St)(tx:TypeId)(z by':Nat)(y:AV)(K:AV→St→Prop):Option (List (List AV)×Heap)→Prop
 | some (es1,h1)=>apY s z by' es1 K (appY P h1 z tx y)
 | none=>False
def appendT(P:Program)(k:TK)(s:St)(tx:TypeId)(x y:AV)(K:AV→St→Prop):Prop:=
 match k with
 | .slice e=>szOf P e≠0∧byOf P e≠0∧(zeroCells P e).map (·.length)=some (szOf P e)∧apX P s tx (szOf P e) (byOf P e) y K (appX P s.heap (szOf P e) x)
 | _=>False
theorem append_eq{P:Program}{s:St}{ty tx:TypeId}{x y:AV}{K:AV→St→Prop}:appendK P s ty tx x y K=appendT P (tk P ty) s tx x y K:=by
 unfold appendK appendT
 rcases tk P ty with e | _ | _ | _ | _ | _ | _ | _<;>try rfl
def apXR(z z' off len:Nat)(h:Heap)(id:Nat):Option Ob→Option (List (List AV)×Heap)
 | some (.slice sz2 es)=>if z'=sz2∧z'=z then some ((es.drop off).take len,hdel h id) else none
 | _=>none
def apYR(z z' off len:Nat)(h:Heap)(id:Nat)(sub:Option (Nat×Nat×Nat)):Option (Nat×List (List AV))→Option (List (List AV)×Heap)
 | some (sz2,es)=>if z'=sz2∧z'=z then(if allScs ((es.drop off).take len) then some ((es.drop off).take len,h) else match sub with | none=>some ((es.drop off).take len,hdel h id) | some _=>none) else none
 | _=>none
def appYT(h:Heap)(sz:Nat)(k:TK):AV→Option (List (List AV)×Heap)
 | .nil=>match k with | .slice _=>some ([],h) | _=>none
 | .ref id sub sz' off len=>match k with | .slice _=>apYR sz sz' off len h id sub (getS h id sub) | _=>none
 | .sl es=>match k with | .slice _=>if es.all (fun e=>e.length==sz) then some (es,h) else none | _=>none
 | .str s=>match k with | .str=>if sz=1 then some (s.data.toList.map fun b=>[.int .u8 b.toNat],h) else none | _=>none
 | _=>none
theorem appY_eq{P:Program}{h:Heap}{sz:Nat}{tx:TypeId}{y:AV}:appY P h sz tx y=appYT h sz (tk P tx) y:=by
 cases y<;>try rfl
 rename_i id sub sz' off len
 simp only[appY,appYT]
 rcases tk P tx with e | _ | _ | _ | _ | _ | _ | _<;>try rfl
 simp only
 rcases getS h id sub with _ | ⟨a,b⟩<;>rfl
section
variable{P:Program}{e tx:TypeId}{s:St}{t:List AV}{h h1 h2:Heap}{n z z' by' id off len sz2:Nat}{x y:AV}{K:AV→St→Prop}{es es1 es2:List (List AV)}{sub:Option (Nat×Nat×Nat)}{b:ByteArray}
theorem ap_slice:appendT P (.slice e) s tx x y K=(szOf P e≠0∧byOf P e≠0∧(zeroCells P e).map (·.length)=some (szOf P e)∧apX P s tx (szOf P e) (byOf P e) y K (appX P s.heap (szOf P e) x)):=_root_.id rfl
theorem apX_some:apX P s tx z by' y K (some (es1,h1))=apY s z by' es1 K (appYT h1 z (tk P tx) y):=by rw[←appY_eq];rfl
theorem apY_some:apY ⟨t,h,n⟩ z by' es1 K (some (es2,h2))=((es1.length+es2.length)*by'≤140737488355328∧K (.ref n none z 0 (es1.length+es2.length)) (killSt ⟨t,(n,.slice z (es1++es2))::h2,n+1⟩)):=_root_.id rfl
theorem appX_nil:appX P h z .nil=some ([],h):=_root_.id rfl
theorem appX_ref:appX P h z (.ref id none z' off len)=apXR z z' off len h id (hget h id):=by
 simp only[appX,apXR]
 rcases hget h id with _ | ⟨_,_⟩ | _<;>rfl
theorem apXR_some:apXR z z' off len h id (some (.slice sz2 es))=if z'=sz2∧z'=z then some ((es.drop off).take len,hdel h id) else none:=_root_.id rfl
theorem appY_nil:appYT h z (.slice e) .nil=some ([],h):=_root_.id rfl
theorem appY_ref:appYT h z (.slice e) (.ref id sub z' off len)=apYR z z' off len h id sub (getS h id sub):=_root_.id rfl
theorem appY_sl:appYT h z (.slice e) (.sl es)=if es.all (fun e=>e.length==z) then some (es,h) else none:=_root_.id rfl
theorem appY_str:appYT h z .str (.str b)=if z=1 then some (b.data.toList.map fun b=>[.int .u8 b.toNat],h) else none:=_root_.id rfl
theorem apYR_sc(hs:allScs ((es.drop off).take len)=true):apYR z z' off len h id sub (some (sz2,es))=if z'=sz2∧z'=z then some ((es.drop off).take len,h) else none:=by
 simp[apYR,hs]
theorem apYR_ns(hs:allScs ((es.drop off).take len)=false):apYR z z' off len h id none (some (sz2,es))=if z'=sz2∧z'=z then some ((es.drop off).take len,hdel h id) else none:=by
 simp[apYR,hs]
end
section
variable{P:Program}{G:Glo}{C:CT}{md:FuncId→Bool}{s:St}{K:AV→St→Prop}{ty ty':TypeId}{x y i v l c:Operand}{j:Nat}
theorem p_faddr:opK P G C md (.fieldAddr ty x j) s K=faddrT (tk P ty) (ev G s x) j (fun v=>K v s):=_root_.id rfl
theorem p_iaddr:opK P G C md (.indexAddr ty x i) s K=iaddrT P (tk P ty) (ev G s x) (ev G s i) (fun v=>K v s):=_root_.id rfl
theorem p_idx:opK P G C md (.index ty x i) s K=idxT (tk P ty) (ev G s x) (ev G s i) (fun v=>K v s):=_root_.id rfl
theorem p_slice{lo hi:Option Operand}:opK P G C md (.slice ty x lo hi none) s K=sliceT P (tk P ty) (ev G s x) (lo.map (ev G s)) (hi.map (ev G s)) (fun v=>K v s):=by
 simp only[opK,sliceK,sliceT]
 rcases tk P ty with e | _ | _ | _ | _ | _ | _ | _<;>cases ev G s x<;>(try rfl)<;>
 cases (lo.map (ev G s)).getD (.int .i64 0)<;>(try rfl)<;>simp only[slR,slF,slN,slS]<;>
 (generalize Option.getD _ _=z;cases z<;>rfl)
theorem p_load:opK P G C md (.load ty x) s K=loadT (agT P ty) s.heap (ev G s x) (fun v=>K v s):=(_root_.id rfl:_=loadK P s.heap ty (ev G s x) (fun v=>K v s)).trans load_eq
theorem p_store:opK P G C md (.store ty x v) s K=storeT (szOf P ty) s (ev G s x) (fun s'=>K .any s') (cellsV (ev G s v)):=store_eq
theorem p_alloc:opK P G C md (.alloc ty) s K=allocT (zeroCells P ty) s K:=_root_.id rfl
theorem p_box:opK P G C md (.box ty x) s K=allocT (cellsV (ev G s x)) s K:=box_eq
theorem p_build{ps:Array (Nat×Operand)}:opK P G C md (.build ty ps) s K=buildT (places P ty) (zeroCells P ty) (ps.toList.map fun p=>(p.1,ev G s p.2)) (fun v=>K v s):=(_root_.id rfl:_=buildK P ty (ps.toList.map fun p=>(p.1,ev G s p.2)) (fun v=>K v s)).trans build_eq
theorem p_buildS{m:Nat}{ps:Array (Nat×Operand)}:opK P G C md (.buildSlice ty m ps) s K=((m=0→ps.toList=[])∧buildST P (tk P ty) s m (ps.toList.map fun p=>(p.1,ev G s p.2)) K):=by
 rw[o_buildS,buildS_eq]
theorem p_make:opK P G C md (.makeSlice ty l c) s K=makeT P (tk P ty) s (ev G s l) (ev G s c) K:=make_eq
theorem p_conv:opK P G C md (.convert ty ty' x) s K=convHT (tk P ty) (tk P ty') P s.heap (ev G s x) (fun v=>K v s):=_root_.id rfl
theorem p_len:opK P G C md (.call ⟨.builtin .len,⟨[x]⟩,⟨[ty]⟩⟩) s K=lenT (tk P ty) (ev G s x) (fun v=>K v s):=_root_.id rfl
theorem p_append:opK P G C md (.call ⟨.builtin .append,⟨[x,y]⟩,⟨[ty,ty']⟩⟩) s K=appendT P (tk P ty) s ty' (ev G s x) (ev G s y) K:=append_eq
end
section
variable{P:Program}{ty:TypeId}{k k':IntKind}{a b:Int}{K:AV→Prop}{u v:ByteArray}{p q:Bool}
theorem bi_add:binK P .add ty (.int k a) (.int k' b) K=(k=k'∧K (.int k (k.wrap (a+b)))):=_root_.id rfl
theorem bi_sub:binK P .sub ty (.int k a) (.int k' b) K=(k=k'∧K (.int k (k.wrap (a-b)))):=_root_.id rfl
theorem bi_mul:binK P .mul ty (.int k a) (.int k' b) K=(k=k'∧K (.int k (k.wrap (a*b)))):=_root_.id rfl
theorem bi_quo:binK P .quo ty (.int k a) (.int k' b) K=(k=k'∧b≠0∧K (.int k (k.wrap (a.tdiv b)))):=_root_.id rfl
theorem bi_rem:binK P .rem ty (.int k a) (.int k' b) K=(k=k'∧b≠0∧K (.int k (a.tmod b))):=_root_.id rfl
theorem bi_eql:binK P .eql ty (.int k a) (.int k' b) K=(k=k'∧K (.bool (decide (a=b)))):=by
 simp only[binK,intK];rw[show(a==b)=decide (a=b) from rfl]
theorem bi_neq:binK P .neq ty (.int k a) (.int k' b) K=(k=k'∧K (.bool (!decide (a=b)))):=by
 simp only[binK,intK];rw[show(a !=b)=!decide (a=b) from rfl]
theorem bi_lss:binK P .lss ty (.int k a) (.int k' b) K=(k=k'∧K (.bool (decide (a<b)))):=_root_.id rfl
theorem bi_leq:binK P .leq ty (.int k a) (.int k' b) K=(k=k'∧K (.bool (decide (a≤b)))):=_root_.id rfl
theorem bi_gtr:binK P .gtr ty (.int k a) (.int k' b) K=(k=k'∧K (.bool (decide (b<a)))):=_root_.id rfl
theorem bi_geq:binK P .geq ty (.int k a) (.int k' b) K=(k=k'∧K (.bool (decide (b≤a)))):=_root_.id rfl
theorem bi_shl:binK P .shl ty (.int k a) (.int k' b) K=(0≤b∧K (.int k (k.wrap (a*2^(min b.toNat k.bits))))):=_root_.id rfl
theorem bi_shr:binK P .shr ty (.int k a) (.int k' b) K=(0≤b∧K (.int k (a.fdiv (2^(min b.toNat k.bits))))):=_root_.id rfl
theorem bi_str{op:BinOp}:binK P op ty (.str u) (.str v) K=strK op u v K:=by cases op<;>rfl
def bbT(k:TK)(op:BinOp)(a b:Bool)(K:AV→Prop):Prop:=
 match k,op with
 | .bool,.eql=>K (.bool (a==b))
 | .bool,.neq=>K (.bool (!(a==b)))
 | _,_=>False
theorem bi_bool{op:BinOp}:binK P op ty (.bool p) (.bool q) K=bbT (tk P ty) op p q K:=by cases op<;>rfl
theorem bb_eql:bbT .bool .eql p q K=K (.bool (p==q)):=_root_.id rfl
theorem bb_neq:bbT .bool .neq p q K=K (.bool (!(p==q))):=_root_.id rfl
def snT(k:TK)(op:BinOp)(e:Prop)(K:AV→Prop):Prop:=
 match k,op with
 | .slice _,.eql=> ∀b:Bool,(b=true→e)→K (.bool b)
 | .slice _,.neq=> ∀b:Bool,(b=false→e)→K (.bool b)
 | _,_=>False
theorem bi_sln{op:BinOp}{es:List (List AV)}:binK P op ty (.sl es) .nil K=snT (tk P ty) op (es=[]) K:=by cases op<;>rfl
theorem bi_refn{op:BinOp}{id sz off len:Nat}:binK P op ty (.ref id none sz off len) .nil K=snT (tk P ty) op (len=0) K:=by cases op<;>rfl
def nnT(k:TK)(op:BinOp)(K:AV→Prop):Prop:=
 match k,op with
 | .slice _,.eql=>K (.bool true)
 | .slice _,.neq=>K (.bool false)
 | _,_=>False
theorem bi_agg{op:BinOp}{xs ys:List AV}:binK P op ty (.agg xs) (.agg ys) K=aggK (flatS P ty) op xs ys K:=by cases op<;>rfl
theorem ag_eql{f:Option Nat}{xs ys:List AV}:aggK f .eql xs ys K=(f=some xs.length∧isInts xs ys=true∧K (.bool (eqInts xs ys))):=_root_.id rfl
theorem ag_neq{f:Option Nat}{xs ys:List AV}:aggK f .neq xs ys K=(f=some xs.length∧isInts xs ys=true∧K (.bool (!eqInts xs ys))):=_root_.id rfl
theorem is_cons{k:IntKind}{a b:Int}{xs ys:List AV}:isInts (.int k a::xs) (.int k b::ys)=isInts xs ys:=by simp[isInts]
theorem is_nil:isInts [] []=true:=_root_.id rfl
theorem eqi_cons{k k':IntKind}{a b:Int}{xs ys:List AV}:eqInts (.int k a::xs) (.int k' b::ys)=(decide (a=b)&&eqInts xs ys):=by simp only[eqInts];rw[show(a==b)=decide (a=b) from rfl]
theorem eqi_nil:eqInts [] []=true:=by simp[eqInts]
theorem bi_niln{op:BinOp}:binK P op ty .nil .nil K=nnT (tk P ty) op K:=by cases op<;>rfl
theorem nn_eql{e:TypeId}:nnT (.slice e) .eql K=K (.bool true):=_root_.id rfl
theorem nn_neq{e:TypeId}:nnT (.slice e) .neq K=K (.bool false):=_root_.id rfl
theorem sn_eql{e:TypeId}{z:Prop}:snT (.slice e) .eql z K= ∀b:Bool,(b=true→z)→K (.bool b):=_root_.id rfl
theorem sn_neq{e:TypeId}{z:Prop}:snT (.slice e) .neq z K= ∀b:Bool,(b=false→z)→K (.bool b):=_root_.id rfl
end
section
variable{P:Program}{G:Glo}{C:CT}{md:FuncId→Bool}{B:Nat}{c:XC}{s:St}{Q:XE→St→Prop}
end
end Go.Proofs.YthggfnefjbckeaaGreatDoor.X
set_option linter.unusedVariables false
set_option linter.unusedSimpArgs false
namespace Go.Proofs.YthggfnefjbckeaaGreatDoor.X
open Go
def lk(u:AV):List (Nat×AV)→Nat→AV
 | [],_=>u
 | (i,v)::l,d=>if i=d then v else lk u l d
def tb(n:Nat)(u:AV)(l:List (Nat×AV)):List AV:=(List.range n).map (lk u l)
theorem lk_same{u v:AV}{l:List (Nat×AV)}{d:Nat}:lk u ((d,v)::l) d=v:=by simp[lk]
theorem lk_ne{u v:AV}{l:List (Nat×AV)}{i d:Nat}(h:(i==d)=false):lk u ((i,v)::l) d=lk u l d:=by
 simp at h;simp[lk,h]
theorem lk_nil{u:AV}{d:Nat}:lk u [] d=u:=_root_.id rfl
theorem tb_get{n d:Nat}{u:AV}{l:List (Nat×AV)}(h:d<n):(tb n u l).getD d .any=lk u l d:=by
 simp[tb,List.getD,h]
theorem tb_set{n d:Nat}{u v:AV}{l:List (Nat×AV)}:(tb n u l).set d v=tb n u ((d,v)::l):=by
 apply List.ext_getElem
 ·simp[tb]
 ·intro i h1 h2
  simp only[tb,List.length_map,List.length_range,List.length_set] at h1 h2
  rw[List.getElem_set]
  split
  ·rename_i h;subst h;simp[tb,lk]
  ·rename_i h;simp[tb,lk,h]
def killA:List (Nat×AV)→List (Nat×AV)
 | []=>[]
 | (i,v)::l=>(i,killS v)::killA l
theorem killL_map{α:Type}(f:α→AV): ∀l:List α,killL (l.map f)=l.map fun i=>killS (f i)
 | []=>rfl
 | x::l=>by simp only[List.map_cons,killL,killL_map f l]
theorem kill_lk{u:AV}(hu:killS u=u): ∀(l:List (Nat×AV)) (d:Nat),killS (lk u l d)=lk u (killA l) d
 | [],d=>hu
 | (i,v)::l,d=>by
  simp only[lk,killA]
  split
  ·rfl
  ·exact kill_lk hu l d
theorem tb_kill{n:Nat}{u:AV}{l:List (Nat×AV)}(hu:killS u=u):killL (tb n u l)=tb n u (killA l):=by
 simp only[tb,killL_map,kill_lk hu]
theorem tb_kill_u{n:Nat}{l:List (Nat×AV)}{h:Heap}{m:Nat}:killSt ⟨tb n (.con undef) l,h,m⟩=⟨tb n (.con undef) (killA l),killH h,m⟩:=by
 simp only[killSt,tb_kill (show killS (.con undef)= .con undef from rfl)]
theorem tb_kill_a{n:Nat}{l:List (Nat×AV)}{h:Heap}{m:Nat}:killSt ⟨tb n .any l,h,m⟩=⟨tb n .any (killA l),killH h,m⟩:=by
 simp only[killSt,tb_kill (show killS .any= .any from rfl)]
def argA:Nat→List AV→List (Nat×AV)
 | _,[]=>[]
 | k,x::xs=>(k,x)::argA (k+1) xs
theorem lk_arg{u:AV}: ∀(xs:List AV) (k d:Nat),lk u (argA k xs) d=if k≤d then xs.getD (d-k) u else u
 | [],k,d=>by simp[argA,lk]
 | x::xs,k,d=>by
  simp only[argA,lk]
  rcases Nat.lt_trichotomy k d with h | h | h
  ·rw[if_neg (by omega),lk_arg xs,if_pos (by omega),if_pos (by omega),show d-k=(d-(k+1))+1 by omega,List.getD_cons_succ]
  ·subst h;simp
  ·rw[if_neg (by omega),lk_arg xs,if_neg (by omega),if_neg (by omega)]
theorem tb_arg{u:AV}{xs:List AV}{n:Nat}(h:xs.length≤n):xs++List.replicate (n-xs.length) u=tb n u (argA 0 xs):=by
 apply List.ext_getElem
 ·simp[tb];omega
 ·intro i h1 h2
  simp only[List.length_append,List.length_replicate] at h1
  simp only[tb,List.getElem_map,List.getElem_range,lk_arg,Nat.zero_le,if_true,Nat.sub_zero]
  rw[List.getElem_append]
  split
  ·rename_i h;simp[List.getD,h]
  ·rename_i h;simp[List.getD,show xs[i]?=none by simp;omega]
section
variable{P:Program}{G:Glo}{C:CT}{md:FuncId→Bool}
theorem Ev.runT(hC:Closed P G md C){f:FuncId}{fn:Func}{ts:List AV}{r:AV}{x:XC}{n:Nat}{rs:List ResultVar}(hf:P.funcs[f]?=some fn)(hx:compF md fn=x)(hn:fn.ntmps=n)(hrs:fn.results.toList=rs)(hne:fn.name≠ "runtime.NumGoroutine")(hl:ts.length≤n)(ho:ownR r=true)
  (hr:R P G C md 0 x ⟨tb n (.con undef) (argA 0 ts),[],0⟩ (bodyQ P rs fun v h _=>RetTo h v r)):Ev C f ts r:=by
 subst hn;subst hrs
 refine Ev.run hC hf hx hne ho ?_
 rw[tb_arg hl];exact hr
theorem Closed.runT(hC:Closed P G md C){f:FuncId}{fn:Func}{ts:List AV}{x:XC}{n m:Nat}{h:Heap}{K:AV→Heap→Nat→Prop}{rs:List ResultVar}(hf:P.funcs[f]?=some fn)(hx:compF md fn=x)(hn:fn.ntmps=n)(hrs:fn.results.toList=rs)(hne:fn.name≠ "runtime.NumGoroutine")(hl:ts.length≤n)
  (hr:R P G C md m x ⟨tb n (.con undef) (argA 0 ts),h,m⟩ (bodyQ P rs K)):C f ts h m K:=by
 subst hn;subst hrs
 refine hC.run hf hx hne ?_
 rw[tb_arg hl];exact hr
end
def Head(B:Nat)(s s':St):Prop:= ∃acts ρ nx,rhoOk B ρ (objIds acts) nx=true∧canon B acts ρ nx s=s'
def keptV(B:Nat)(ρ:List (Nat×Nat))(t:List AV):List (Nat×AV)→Prop
 | []=>True
 | (k,v)::r=>ren B ρ (t.getD k .any)=v∧keptV B ρ t r
theorem keptV_nil{B:Nat}{ρ:List (Nat×Nat)}{t:List AV}:keptV B ρ t []=True:=_root_.id rfl
theorem keptV_cons{B:Nat}{ρ:List (Nat×Nat)}{t:List AV}{k:Nat}{v:AV}{r:List (Nat×AV)}:keptV B ρ t ((k,v)::r)=(ren B ρ (t.getD k .any)=v∧keptV B ρ t r):=_root_.id rfl
theorem keptV_lk{B:Nat}{ρ:List (Nat×Nat)}{t:List AV}: ∀{V:List (Nat×AV)},keptV B ρ t V→ ∀i,i∈V.map (·.1)→ren B ρ (t.getD i .any)=lk .any V i
 | [],_,i,hi=>by simp at hi
 | (k,v)::r,⟨h1,h2⟩,i,hi=>by
  simp only[lk]
  split
  ·rename_i h;subst h;exact h1
  ·rename_i h
   simp only[List.map_cons,List.mem_cons] at hi
   rcases hi with hi | hi
   ·exact absurd hi.symm h
   ·exact keptV_lk h2 i hi
theorem lk_out{u:AV}: ∀{V:List (Nat×AV)} {i:Nat},i∉V.map (·.1)→lk u V i=u
 | [],i,_=>rfl
 | (k,v)::r,i,h=>by
  simp only[List.map_cons,List.mem_cons,not_or] at h
  simp only[lk]
  rw[if_neg (fun e=>h.1 e.symm)]
  exact lk_out h.2
theorem canSlots_map{α:Type}{B:Nat}{ρ:List (Nat×Nat)}(a:α→Keepd)(x y:α→AV): ∀(l:List α),(∀i∈l,canSlots B ρ [a i] [x i]=[y i])→canSlots B ρ (l.map a) (l.map x)=l.map y
 | [],_=>by simp[canSlots]
 | i::l,h=>by
  have h0:=h i (by simp)
  have ih:=canSlots_map a x y l fun j hj=>h j (by simp[hj])
  simp only[List.map_cons]
  cases ha:a i<;>rw[ha] at h0
  ·simp only[canSlots,List.cons.injEq,and_true] at h0⊢
   exact⟨h0,ih⟩
  ·simp only[canSlots,List.cons.injEq,and_true] at h0⊢
   exact⟨h0,ih⟩
  ·cases hx:x i<;>rw[hx] at h0<;>simp only[canSlots,List.cons.injEq,and_true] at h0⊢ <;>exact⟨h0,ih⟩
theorem canObjs_no: ∀(as:List Keepd) (xs:List AV),(∀a∈as,∀id sz,a≠ .obj id sz)→canObjs as xs=[]
 | [],xs,_=>by cases xs<;>simp[canObjs]
 | a::as,[],_=>by cases a<;>simp[canObjs]
 | a::as,x::xs,h=>by
  have:=h a (by simp)
  cases a with
  | obj id sz=>exact absurd rfl (this id sz)
  | drop=>simp only[canObjs];exact canObjs_no as xs fun b hb=>h b (by simp[hb])
  | keep=>simp only[canObjs];exact canObjs_no as xs fun b hb=>h b (by simp[hb])
theorem objIds_no: ∀(as:List Keepd),(∀a∈as,∀id sz,a≠ .obj id sz)→objIds as=[]
 | [],_=>rfl
 | a::as,h=>by
  have:=h a (by simp)
  cases a with
  | obj id sz=>exact absurd rfl (this id sz)
  | drop=>simp only[objIds];exact objIds_no as fun b hb=>h b (by simp[hb])
  | keep=>simp only[objIds];exact objIds_no as fun b hb=>h b (by simp[hb])
def actK(V:List (Nat×AV))(i:Nat):Keepd:=if i∈V.map (·.1) then .keep else .drop
theorem head_tb{B n m nx:Nat}{u:AV}{l V:List (Nat×AV)}{h h':Heap}(ρ:List (Nat×Nat))(h1:rhoOk B ρ [] nx=true)(hV:keptV B ρ (tb n u l) V)(hh:canR B ρ h ρ++canB B ρ h=h'):Head B ⟨tb n u l,h,m⟩ ⟨tb n .any V,h',nx⟩:=by
 have hno: ∀a∈(List.range n).map (actK V),∀id sz,a≠Keepd.obj id sz:=by
  intro a ha id sz e
  simp only[List.mem_map] at ha
  obtain⟨i,_,rfl⟩:=ha
  unfold actK at e
  split at e<;>cases e
 refine⟨(List.range n).map (actK V),ρ,nx,by rw[objIds_no _ hno];exact h1,?_⟩
 simp only[canon,canObjs_no _ _ hno,List.nil_append,hh]
 congr 1
 refine canSlots_map _ _ _ _ fun i hi=>?_
 simp only[List.mem_range] at hi
 unfold actK
 split
 ·rename_i hm
  have:=keptV_lk hV i hm
  rw[tb_get hi] at this
  simp only[canSlots,this]
 ·rename_i hm
  simp only[canSlots,lk_out hm]
theorem filterMap_one{α:Type}{g:Nat→Option α}{k n:Nat}{x:α}(hk:k<n)(h1:g k=some x)(h2: ∀i,i≠k→g i=none):(List.range n).filterMap g=[x]:=by
 induction n with
 | zero=>omega
 | succ n ih=>
  rw[List.range_succ,List.filterMap_append]
  by_cases h:k=n
  ·subst h
   have:(List.range k).filterMap g=[]:=by
    rw[List.filterMap_eq_nil_iff]
    intro a ha
    simp only[List.mem_range] at ha
    exact h2 a (by omega)
   rw[this];simp[h1]
  ·rw[ih (by omega)]
   simp[h2 n (fun e=>h e.symm)]
theorem canObjs_map(a:Nat→Keepd)(x:Nat→AV): ∀l:List Nat,canObjs (l.map a) (l.map x)=l.filterMap fun i=>match a i,x i with | .obj id sz,.nil=>some (id,.slice sz []) | _,_=>none
 | []=>rfl
 | i::l=>by
  simp only[List.map_cons,List.filterMap_cons,←canObjs_map a x l]
  cases a i<;>cases x i<;>simp[canObjs]
theorem objIds_map(a:Nat→Keepd): ∀l:List Nat,objIds (l.map a)=l.filterMap fun i=>match a i with | .obj id sz=>some id | _=>none
 | []=>rfl
 | i::l=>by
  simp only[List.map_cons,List.filterMap_cons,←objIds_map a l]
  cases a i<;>simp[objIds]
theorem head_obj{B n m nx:Nat}{u:AV}{l V:List (Nat×AV)}{h h':Heap}(k id sz:Nat)(ρ:List (Nat×Nat))(h1:rhoOk B ρ [id] nx=true)(hk:(tb n u l).getD k .any= .nil)(hkn:k<n)(hV:keptV B ρ (tb n u l) V)(hkV:k∉V.map (·.1))(hh:(id,.slice sz [])::(canR B ρ h ρ++canB B ρ h)=h'):Head B ⟨tb n u l,h,m⟩ ⟨tb n .any ((k,.ref id none sz 0 0)::V),h',nx⟩:=by
 rw[tb_get hkn] at hk
 refine⟨(List.range n).map (fun i=>if i=k then .obj id sz else actK V i),ρ,nx,?_,?_⟩
 ·rw[objIds_map,filterMap_one (k:=k) (x:=id) hkn (by simp)]
  ·exact h1
  ·intro i hi
   simp only[hi,if_false]
   unfold actK
   by_cases hm:i∈V.map (·.1)<;>simp only[hm,if_true,if_false]
 ·simp only[canon]
  congr 1
  ·refine canSlots_map _ _ _ _ fun i hi=>?_
   simp only[List.mem_range] at hi
   by_cases hik:i=k
   ·subst hik
    simp only[if_true,hk,canSlots,lk]
   ·rw[if_neg hik]
    unfold actK
    simp only[lk,if_neg (fun e:k=i=>hik e.symm)]
    split
    ·rename_i hm
     have:=keptV_lk hV i hm
     rw[tb_get hi] at this
     simp only[canSlots,this]
    ·rename_i hm
     simp only[canSlots,lk_out hm]
  ·rw[←hh]
   have:canObjs ((List.range n).map (fun i=>if i=k then .obj id sz else actK V i)) (tb n u l)=[(id,.slice sz [])]:=by
    unfold tb
    rw[canObjs_map]
    refine filterMap_one hkn (by simp[hk]) fun i hi=>?_
    simp only[hi,if_false]
    unfold actK
    by_cases hm:i∈V.map (·.1)<;>simp only[hm,if_true,if_false]
   rw[this];rfl
section
variable{P:Program}{G:Glo}{C:CT}{md:FuncId→Bool}{B:Nat}{c:XC}{s:St}{Q:XE→St→Prop}
theorem RL_ind(H:Nat→St→Prop)(k0:Nat)(s0:St)(h0:Head B s s0)(hH:H k0 s0)
  (h: ∀k s',H k s'→ ∀J:St→Prop,(∀k' s s'',k'<k→H k' s''→Head B s s''→J s)→R P G C md B c s' (thenX J Q)):R P G C md B (.loop c) s Q:=by
 simp only[R]
 intro J hJ
 have key: ∀k s s',H k s'→Head B s s'→J s:=by
  intro k
  induction k using Nat.strongRecOn with
  | ind k ih=>
   intro s s' hk ⟨acts,ρ,nx,h1,h2⟩
   refine hJ s ⟨acts,ρ,nx,h1,?_⟩
   rw[h2]
   exact h k s' hk J fun k' s s'' hlt h3 h4=>ih k' hlt s s'' h3 h4
 exact key k0 s s0 hH h0
theorem RL_count(S:Nat→St)(I:Nat→Prop)(n i0:Nat)(h0:Head B s (S i0))(hle:i0≤n)(hI:I i0)
  (h: ∀i,i≤n→I i→ ∀J:St→Prop,(i<n→I (i+1)→ ∀s,Head B s (S (i+1))→J s)→R P G C md B c (S i) (thenX J Q)):R P G C md B (.loop c) s Q:=by
 refine RL_ind (fun k s'=> ∃i,i+k=n∧s'=S i∧I i) (n-i0) (S i0) h0 ⟨i0,by omega,rfl,hI⟩ ?_
 rintro k s' ⟨i,hi,rfl,hIi⟩ J hJ
 exact h i (by omega) hIi J fun hlt hI' s hs=>hJ (k-1) s _ (by omega) ⟨i+1,by omega,rfl,hI'⟩ hs
end
def sty(P:Program)(t:TypeId):Option (List TypeId):=match P.underlying t with
 | some (.struct fs)=>some (fs.toList.map (·.type))
 | _=>none
theorem sty_und{P:Program}{t:TypeId}{ts:List TypeId}(h:sty P t=some ts): ∃fs,P.underlying t=some (.struct fs)∧fs.toList.map (·.type)=ts:=by
 unfold sty at h
 split at h
 ·rename_i fs e
  simp only[Option.some.injEq] at h
  exact⟨fs,e,h⟩
 ·cases h
theorem has_struct{P:Program}{k:Nat}{t:TypeId}{ts:List TypeId}{xs:List AV}(e:sty P t=some ts)(h:Has P (k+1) t xs):HasE P k ts xs:=by
 obtain⟨fs,hu,rfl⟩:=sty_und e
 simp only[Has,hu] at h
 exact h
theorem has_int{P:Program}{k:Nat}{t:TypeId}{kd:IntKind}{xs:List AV}(e:tk P t= .int kd)(h:Has P (k+1) t xs): ∃n,xs=[.int kd n]∧(Lit.int kd n).wf=true:=by
 simp only[Has,tk_int e] at h
 exact h
theorem has_bool{P:Program}{k:Nat}{t:TypeId}{xs:List AV}(e:tk P t= .bool)(h:Has P (k+1) t xs): ∃b,xs=[.bool b]:=by
 simp only[Has,tk_bool e] at h
 exact h
theorem has_str{P:Program}{k:Nat}{t:TypeId}{xs:List AV}(e:tk P t= .str)(h:Has P (k+1) t xs): ∃s,xs=[.str s]∧s.size≤reachBytes:=by
 simp only[Has,tk_str e] at h
 exact h
theorem has_slice{P:Program}{k:Nat}{t e:TypeId}{xs:List AV}(he:tk P t= .slice e)(h:Has P (k+1) t xs): ∃es,xs=[.sl es]∧es.length≤maxLen∧es.length*P.bytesOf e≤reachBytes∧ ∀el∈es,el.length=P.cellsOf e∧Has P k e el:=by
 simp only[Has,tk_slice he] at h
 exact h
theorem hasE_cons{P:Program}{k:Nat}{t:TypeId}{ts:List TypeId}{xs:List AV}(h:HasE P (k+1) (t::ts) xs): ∃x1 x2,xs=x1++x2∧x1.length=P.cellsOf t∧Has P k t x1∧HasE P k ts x2:=by
 simpa only[HasE] using h
theorem hasE_nil{P:Program}{k:Nat}{xs:List AV}(h:HasE P (k+1) [] xs):xs=[]:=by
 simpa only[HasE] using h
theorem hasV_struct{P:Program}{k:Nat}{t:TypeId}{ts:List TypeId}{x:AV}(e:sty P t=some ts)(h:HasV P (k+1) t x): ∃xs,x= .agg xs∧HasE P k ts xs:=by
 obtain⟨fs,hu,hts⟩:=sty_und e
 unfold HasV at h
 simp only[hu] at h
 obtain⟨xs,rfl,h⟩:=h
 exact⟨xs,rfl,has_struct e h⟩
theorem hasV_int{P:Program}{k:Nat}{t:TypeId}{kd:IntKind}{x:AV}(e:tk P t= .int kd)(h:HasV P (k+1) t x): ∃n,x= .int kd n∧(Lit.int kd n).wf=true:=by
 unfold HasV at h
 simp only[tk_int e] at h
 obtain⟨n,h1,h2⟩:=has_int e h
 exact⟨n,by simpa using h1,h2⟩
theorem all_map{α β:Type}{f:β→α}{es:List α}(h: ∀e∈es,∃p,e=f p): ∃l:List β,es=l.map f:=by
 induction es with
 | nil=>exact⟨[],rfl⟩
 | cons e es ih=>
  obtain⟨l,hl⟩:=ih fun x hx=>h x (by simp[hx])
  obtain⟨p,hp⟩:=h e (by simp)
  exact⟨p::l,by rw[hl,hp];rfl⟩
theorem RetTo_sc{h:Heap}{xs:List AV}(hs:allSc xs=true):RetTo h (.tup xs) (.tup xs):=by
 have key: ∀(xs:List AV),allSc xs=true→conRL 7 h xs=some (xs,h):=by
  intro xs
  induction xs with
  | nil=>intro _;simp[conRL]
  | cons x xs ih=>
   intro hs
   simp only[allSc,Bool.and_eq_true] at hs
   have h1:conR 7 h x=some (x,h):=by
    have:=hs.1
    cases x<;>simp[isSc] at this<;>simp[conR,isF]
   simp[conRL,h1,ih hs.2]
 exact RetTo_of (h2:=h) (by simp only[conR,key xs hs])
theorem RetTo_ib{h:Heap}{k k':IntKind}{a c:Int}{b d:Bool}:RetTo h (.tup [.int k a,.bool b]) (.tup [.int k' c,.bool d])=(k=k'∧a=c∧b=d):=by
 apply propext
 constructor
 ·rintro⟨r0,h2,e1,e2⟩
  simp[conR,conRL,isF] at e1
  obtain⟨rfl,rfl⟩:=e1
  simp[NilTo,NilToL] at e2
  exact⟨e2.1.1.symm,e2.1.2.symm,e2.2.symm⟩
 ·rintro⟨rfl,rfl,rfl⟩
  exact RetTo_sc rfl
theorem RetTo_ii{h:Heap}{k k' j j':IntKind}{a b c d:Int}:RetTo h (.tup [.int k a,.int j b]) (.tup [.int k' c,.int j' d])=(k=k'∧a=c∧j=j'∧b=d):=by
 apply propext
 constructor
 ·rintro⟨r0,h2,e1,e2⟩
  simp[conR,conRL,isF] at e1
  obtain⟨rfl,rfl⟩:=e1
  simp[NilTo,NilToL] at e2
  exact⟨e2.1.1.symm,e2.1.2.symm,e2.2.1.symm,e2.2.2.symm⟩
 ·rintro⟨rfl,rfl,rfl,rfl⟩
  exact RetTo_sc rfl
attribute [push_cast] o_field conv_bytes convB_some bytesV_one fldC_some fldO_some fldV_one fldV_agg
attribute [push_cast] R_done R_exit R_ret R_block R_fork R_cond cK_true cK_false cK_bool R_op R_guard gX_tt
 gX_ft gX_tf gX_ff gX_t gX_f gX_u put_none put_int put_bool put_str put_nil put_any
 put_con put_sl put_pf put_agg put_tup put_fn put_ref put_ptr know_tmp ev_tmp ev_int ev_bool
 ev_str ev_nil ev_func o_move o_assign o_pick pick_true pick_false o_bin o_un o_extr extrK
 o_min o_max o_call o_mkfn evL opK.allCells load_eq p_faddr p_iaddr p_idx p_slice p_load
 p_store p_alloc p_box p_build p_buildS p_make p_conv p_len p_append field_some fa_ptr fa_pf
 el_some ia_ref ia_sl ia_aptr ia_apf ix_str sl_ref sl_sl sl_nil sl_str slR_int slF_int
 slN_int slS_int okV_some okL_some ld_pfa ld_pf ld_ptr ld_sub ldV_var ldV_slice ldS_some ldE_agg
 ldE_one ldC_agg ldC_one stIf_true stIf_false st_ptr st_sub stV_var stV_slice stG_some stE_some stC_some
 stD_some al_some cv_agg cv_int cv_bool cv_str cv_nil cv_sl cv_pf cv_ref cv_ptr cv_fn
 okAgg_some bu_some fill_nil fill_cons fill1_some mkE_some mk_slice bs_slice bsZ_some bsF_some bsC_some len_ref
 len_sl len_nil len_str conv_int ap_slice apX_some apY_some appX_nil appX_ref apXR_some appY_nil appY_ref
 appY_sl appY_str bi_add bi_sub bi_mul bi_quo bi_rem bi_eql bi_neq bi_lss bi_leq bi_gtr
 bi_agg ag_eql ag_neq is_cons is_nil eqi_cons eqi_nil bi_geq bi_shl bi_shr bi_str bi_bool bb_eql bb_neq bi_sln bi_refn bi_niln nn_eql nn_neq
 sn_eql sn_neq ifB_not tb_get tb_set lk_same lk_ne lk_nil tb_kill_u tb_kill_a killA argA
 List.set_cons_zero List.set_cons_succ unK thenX inBlockX bodyQ resK oneOr List.cons_append List.nil_append List.length_cons List.length_nil
 List.replicate minK maxK callK frzA frzAL isF List.map_cons List.map_nil frzOkL frzOk Bool.and_true
 Bool.true_and true_and and_true Bool.false_eq_true if_false if_true Bool.and_self Option.some.injEq List.append_nil cellS cellsS getS
 hget hdel killL killS killH imp impL setS setsA hset List.drop_zero List.take_length
 List.drop_succ_cons List.take_succ_cons List.take_zero List.getElem?_cons_zero List.getElem?_cons_succ Nat.add_zero Nat.zero_add ne_eq not_false_eq_true not_true_eq_false allSc isSc allSn isSn
 Bool.not_eq_true' Option.getD_some Option.getD_none Option.map_some Option.map_none Option.bind_some Nat.lt_irrefl Nat.zero_le Nat.le_refl isCell Bool.not_true Bool.not_false
 false_implies true_implies forall_const implies_true RetTo_bool RetTo_int RetTo_str RetTo_ib RetTo_ii decide_eq_true_eq decide_eq_false_iff_not exists_const
 Bool.true_eq_false ge_iff_le gt_iff_lt allF Bool.and_false Bool.false_and Bool.or_false Bool.false_or Bool.or_true Bool.true_or conL conC
 chunk List.flatten_cons List.flatten_nil beq_self_eq_true decide_true allScs apYR_sc
end Go.Proofs.YthggfnefjbckeaaGreatDoor.X
set_option linter.unusedVariables false
namespace Go.Proofs.YthggfnefjbckeaaGreatDoor.X
open Go
theorem str_eq(a b:ByteArray):(a.toList==b.toList)=decide (a=b):=by
 rw[Bool.eq_iff_iff,beq_iff_eq,decide_eq_true_eq,ByteArray.toList_eq,ByteArray.toList_eq]
 constructor
 ·intro h;exact ByteArray.ext (Array.toList_inj.mp h)
 ·rintro rfl;rfl
theorem bs_eql{a b:ByteArray}{K:AV→Prop}:strK .eql a b K=K (.bool (decide (a=b))):=by
 rw[←str_eq];rfl
theorem bs_neq{a b:ByteArray}{K:AV→Prop}:strK .neq a b K=K (.bool (!decide (a=b))):=by
 rw[←str_eq];rfl
theorem bs_add{a b:ByteArray}{K:AV→Prop}:strK .add a b K=(((a.size+b.size:Nat):Int)≤9223372036854775807∧K (.str (a++b))):=_root_.id rfl
attribute [push_cast] bs_eql bs_neq bs_add
end Go.Proofs.YthggfnefjbckeaaGreatDoor.X
set_option linter.unusedVariables false
set_option linter.unusedSimpArgs false
open Nat renaming reduceBEq→N1,reduceAdd→N2,reduceSub→N3,reduceMul→N4,reduceEqDiff→N5,reduceLeDiff→N6,reduceLT→N7
open Int renaming reduceLE→I1,reduceLT→I2,reduceToNat→I3
namespace Go.Proofs.YthggfnefjbckeaaGreatDoor.X
open Go
namespace K
def t(n:Nat):Operand:= .tmp n
def z(n:Int):Operand:= .const (.int .i64 n)
def b1:Operand:= .const (.bool true)
def b0:Operand:= .const (.bool false)
def o(d:Nat)(x:Op)(r:XC):XC:= .op (some d) x none r
def y(d g:Nat)(x:Op)(r:XC):XC:= .op (some d) x (some (g,true)) r
def w(d g:Nat)(x:Op)(r:XC):XC:= .op (some d) x (some (g,false)) r
def s(T a b:Nat)(r:XC):XC:= .op none (.store T (.tmp a) (.tmp b)) none r
def k(c:Nat)(a b r:XC):XC:= .cond (.tmp c) a b r
def m(s:Nat):Op:= .move (.tmp s)
def a(s:Nat):Op:= .assign (.tmp s)
def l(T s:Nat):Op:= .load T (.tmp s)
def f(T s j:Nat):Op:= .fieldAddr T (.tmp s) j
def i(T s j:Nat):Op:= .indexAddr T (.tmp s) (.tmp j)
def b(op:BinOp)(T x y:Nat):Op:= .binOp op T (.tmp x) (.tmp y) T
def c(op:BinOp)(T x:Nat)(n:Int):Op:= .binOp op T (.tmp x) (.const (.int .i64 n)) T
def n(s T:Nat):Op:= .call ⟨.builtin .len,⟨[.tmp s]⟩,⟨[T]⟩⟩
def g(F:Nat)(xs:List Operand)(ts:List Nat):Op:= .call ⟨.value (.func F),⟨xs⟩,⟨ts⟩⟩
def x(T s:Nat):Op:= .box T (.tmp s)
def q(T s:Nat):Op:= .unOp .not T (.tmp s)
def p(c:Nat)(a b:Operand):Op:= .pick (.tmp c) a b
section
variable{N F T S J C G:Nat}{n:Int}{u v:Operand}{O:Op}{A B R:XC}{us:List Operand}{ts:List Nat}{e:BinOp}
theorem e1:t N= .tmp N:=_root_.id rfl
theorem e2:z n= .const (.int .i64 n):=_root_.id rfl
theorem e3:b1= .const (.bool true):=_root_.id rfl
theorem e4:b0= .const (.bool false):=_root_.id rfl
theorem e5:o N O R= .op (some N) O none R:=_root_.id rfl
theorem e6:y N G O R= .op (some N) O (some (G,true)) R:=_root_.id rfl
theorem e7:w N G O R= .op (some N) O (some (G,false)) R:=_root_.id rfl
theorem e8:s T N S R= .op none (.store T (.tmp N) (.tmp S)) none R:=_root_.id rfl
theorem e9:k N A B R= .cond (.tmp N) A B R:=_root_.id rfl
theorem f1:m S= .move (.tmp S):=_root_.id rfl
theorem f2:a S= .assign (.tmp S):=_root_.id rfl
theorem f3:l T S= .load T (.tmp S):=_root_.id rfl
theorem f4:f T S J= .fieldAddr T (.tmp S) J:=_root_.id rfl
theorem f5:i T S J= .indexAddr T (.tmp S) (.tmp J):=_root_.id rfl
theorem f6:b e T S J= .binOp e T (.tmp S) (.tmp J) T:=_root_.id rfl
theorem f7:c e T S n= .binOp e T (.tmp S) (.const (.int .i64 n)) T:=_root_.id rfl
theorem f8:K.n S T= .call ⟨.builtin .len,⟨[.tmp S]⟩,⟨[T]⟩⟩:=_root_.id rfl
theorem f9:g F us ts= .call ⟨.value (.func F),⟨us⟩,⟨ts⟩⟩:=_root_.id rfl
theorem g1:x T S= .box T (.tmp S):=_root_.id rfl
theorem g2:q T S= .unOp .not T (.tmp S):=_root_.id rfl
theorem g3:p C u v= .pick (.tmp C) u v:=_root_.id rfl
end
attribute [push_cast] e1 e2 e3 e4 e5 e6 e7 e8 e9 f1 f2 f3 f4 f5 f6 f7 f8 f9 g1 g2 g3
end K
def FnP(P:Program)(md:FuncId→Bool)(f:FuncId)(x:XC)(n:Nat)(rs:List ResultVar):Prop:=
 ∃fn,P.funcs[f]?=some fn∧compF md fn=x∧fn.ntmps=n∧fn.results.toList=rs∧fn.name≠ "runtime.NumGoroutine"
theorem FnP.of{P:Program}{md:FuncId→Bool}{f:FuncId}{fn:Func}{x:XC}{n:Nat}{rs:List ResultVar}(h:P.funcs[f]?=some fn)(h1:compF md fn=x:=by kernel_rfl)(h2:fn.ntmps=n:=by kernel_rfl)(h3:fn.results.toList=rs:=by kernel_rfl)(h4:fn.name≠ "runtime.NumGoroutine" :=by decide):FnP P md f x n rs:=
 ⟨fn,h,h1,h2,h3,h4⟩
section
variable{P:Program}{G:Glo}{C:CT}{md:FuncId→Bool}
theorem rT(hC:Closed P G md C){f:FuncId}{ts:List AV}{r:AV}{x:XC}{n:Nat}{rs:List ResultVar}(hq:FnP P md f x n rs)
  (hr:R P G C md 0 x ⟨tb n (.con undef) (argA 0 ts),[],0⟩ (bodyQ P rs fun v h _=>RetTo h v r)) (ho:ownR r=true:=by rfl) (hl:ts.length≤n:=by exact Nat.le_of_ble_eq_true rfl):Ev C f ts r:=by
 obtain⟨fn,h1,h2,h3,h4,h5⟩:=hq
 exact Ev.runT hC h1 h2 h3 h4 h5 hl ho hr
theorem Closed.rT(hC:Closed P G md C){f:FuncId}{ts:List AV}{x:XC}{n m:Nat}{h:Heap}{K:AV→Heap→Nat→Prop}{rs:List ResultVar}(hq:FnP P md f x n rs)
  (hr:R P G C md m x ⟨tb n (.con undef) (argA 0 ts),h,m⟩ (bodyQ P rs K)) (hl:ts.length≤n:=by exact Nat.le_of_ble_eq_true rfl):C f ts h m K:=by
 obtain⟨fn,h1,h2,h3,h4,h5⟩:=hq
 exact Closed.runT hC h1 h2 h3 h4 h5 hl hr
end
attribute [push_cast] Bool.not_true Bool.not_false decide_true
theorem J1{A B:Prop}:ifB true A B=A:=ifB_true
theorem J2{A B:Prop}:ifB false A B=B:=ifB_false
theorem hdA{B n m nx:Nat}{u:AV}{l V:List (Nat×AV)}{h h':Heap}(ρ:List (Nat×Nat))(h1:rhoOk B ρ [] nx=true:=by rfl)
  (hV:keptV B ρ (tb n u l) V:=by(simp only[keptV_cons,keptV_nil,tb_get,lk_same,lk_ne,lk_nil,ren,renL,lkp,N7,N1,N5,reduceIte,and_true,true_and,Nat.not_lt_zero,if_false,if_true,Nat.add_zero,Nat.zero_add];(try rw[wrap64 (by omega) (by omega)]);(first | done | (simp;done) | (simp[*];done) | (simp;omega) | (and_intros<;>rfl))))
  (hh:canR B ρ h ρ++canB B ρ h=h':=by(simp only[canR,canB,renO,renL,ren,lkp,hget,N7,N5,Nat.not_lt_zero,if_false,if_true,reduceIte,List.append_nil,List.nil_append];(first | done | rfl))):Head B ⟨tb n u l,h,m⟩ ⟨tb n .any V,h',nx⟩:=head_tb ρ h1 hV hh
theorem hdO{B n m nx:Nat}{u:AV}{l V:List (Nat×AV)}{h h':Heap}(k id sz:Nat)(ρ:List (Nat×Nat))(h1:rhoOk B ρ [id] nx=true:=by rfl)(hk:(tb n u l).getD k .any= .nil:=by(simp only[keptV_cons,keptV_nil,tb_get,lk_same,lk_ne,lk_nil,ren,renL,lkp,N7,N1,N5,reduceIte,and_true,true_and]))(hkn:k<n:=by decide)
  (hV:keptV B ρ (tb n u l) V:=by(simp only[keptV_cons,keptV_nil,tb_get,lk_same,lk_ne,lk_nil,ren,renL,lkp,N7,N1,N5,reduceIte,and_true,true_and,Nat.not_lt_zero,if_false,if_true,Nat.add_zero,Nat.zero_add];(first | done | (simp;done) | (and_intros<;>rfl)))) (hkV:k∉V.map (·.1):=by simp)
  (hh:(id,.slice sz [])::(canR B ρ h ρ++canB B ρ h)=h':=by(simp only[canR,canB,renO,renL,ren,lkp,hget,N7,N5,Nat.not_lt_zero,if_false,if_true,reduceIte,List.append_nil,List.nil_append];rfl)):Head B ⟨tb n u l,h,m⟩ ⟨tb n .any ((k,.ref id none sz 0 0)::V),h',nx⟩:=head_obj k id sz ρ h1 hk hkn hV hkV hh
theorem rtA{h h2:Heap}{v r:AV}(hc:conR 8 h v=some (r,h2):=by(simp only[conR,conRL,isF,hget,hdel,List.drop_zero,List.take_length,if_true,if_false,reduceIte,N5,reduceCtorEq];rfl)):RetTo h v r:=RetTo_of hc
end Go.Proofs.YthggfnefjbckeaaGreatDoor.X
set_option linter.unusedVariables false
set_option linter.unusedSimpArgs false
namespace Go.Proofs.YthggfnefjbckeaaGreatDoor.X
open Go
mutual
theorem ren_frz{B:Nat}{ρ:List (Nat×Nat)}: ∀{x:AV},frzOk x=true→ren B ρ x=x
 | .any,_=>rfl
 | .con _,_=>rfl
 | .int ..,_=>rfl
 | .bool _,_=>rfl
 | .str _,_=>rfl
 | .nil,_=>rfl
 | .sl _,_=>rfl
 | .pf _,_=>rfl
 | .fn f caps,h=>by simp only[frzOk] at h;simp only[ren,renL_frz h]
 | .agg cs,h=>by simp only[frzOk] at h;simp only[ren,renL_frz h]
 | .tup _,h=>by simp[frzOk] at h
 | .ow _ _,h=>by simp[frzOk] at h
 | .op _,h=>by simp[frzOk] at h
 | .ref _ _ _ _ _,h=>by simp[frzOk] at h
 | .ptr _ _ _ _ _,h=>by simp[frzOk] at h
theorem renL_frz{B:Nat}{ρ:List (Nat×Nat)}: ∀{xs:List AV},frzOkL xs=true→renL B ρ xs=xs
 | [],_=>rfl
 | x::xs,h=>by
  simp only[frzOkL,Bool.and_eq_true] at h
  simp only[renL,ren_frz h.1,renL_frz h.2]
end
def frzOkR:AV→Bool
 | .tup xs=>frzOkL xs
 | x=>frzOk x
theorem ren_frzR{B:Nat}{ρ:List (Nat×Nat)}{x:AV}(h:frzOkR x=true):ren B ρ x=x:=by
 unfold frzOkR at h
 split at h
 ·simp only[ren,renL_frz h]
 ·exact ren_frz h
theorem TV.toS{w:World}{I:Nat→Prop}{hd:Nat→Value}{n:Nat}: ∀(xs:List AV) (vs:List Value),frzOkL xs=true→TV w I xs vs []→SV hd n w I xs vs
 | [],vs,_,h=>by simp only[TV,SV] at h⊢;exact h.1
 | x::xs,vs,hf,h=>by
  simp only[frzOkL,Bool.and_eq_true] at hf
  simp only[TV] at h
  obtain⟨v,vs',F1,F2,rfl,hF,hx,hxs⟩:=h
  obtain⟨rfl,rfl⟩:=List.append_eq_nil_iff.1 hF.symm
  simp only[SV]
  exact⟨v,vs',rfl,T.toS x v hf.1 hx,TV.toS xs vs' hf.2 hxs⟩
theorem T.toSR{w:World}{I:Nat→Prop}{hd:Nat→Value}{n:Nat}{x:AV}{v:Value}(hf:frzOkR x=true)(h:T w I x v []):S hd n w I x v:=by
 unfold frzOkR at hf
 split at hf
 ·simp only[T,S] at h⊢
  obtain⟨vs,rfl,ht⟩:=h
  exact⟨vs,rfl,TV.toS _ _ hf ht⟩
 ·exact T.toS _ _ hf h
mutual
theorem S.low{hd hd':Nat→Value}{n n':Nat}{w:World}{I:Nat→Prop}: ∀(x:AV) (v:Value),frzOk x=true→S hd n w I x v→S hd' n' w I x v
 | .any,v,_,h=>by simp only[S]
 | .con _,v,_,h=>by simpa only[S] using h
 | .int ..,v,_,h=>by simpa only[S] using h
 | .bool _,v,_,h=>by simpa only[S] using h
 | .str _,v,_,h=>by simpa only[S] using h
 | .nil,v,_,h=>by simpa only[S] using h
 | .sl _,v,_,h=>by simpa only[S] using h
 | .pf _,v,_,h=>by simpa only[S] using h
 | .fn f caps,v,hf,h=>by
  simp only[frzOk] at hf
  simp only[S] at h⊢
  obtain⟨vs,hv,ht⟩:=h
  exact⟨vs,hv,SL.low caps _ hf ht⟩
 | .agg cs,v,hf,h=>by
  simp only[frzOk] at hf
  simp only[S] at h⊢
  obtain⟨vs,hv,ht⟩:=h
  exact⟨vs,hv,SL.low cs _ hf ht⟩
 | .tup _,v,h,_=>by simp[frzOk] at h
 | .ow _ _,v,h,_=>by simp[frzOk] at h
 | .op _,v,h,_=>by simp[frzOk] at h
 | .ref _ _ _ _ _,v,h,_=>by simp[frzOk] at h
 | .ptr _ _ _ _ _,v,h,_=>by simp[frzOk] at h
theorem SL.low{hd hd':Nat→Value}{n n':Nat}{w:World}{I:Nat→Prop}: ∀(xs:List AV) (vs:List Value),frzOkL xs=true→SL hd n w I xs vs→SL hd' n' w I xs vs
 | [],vs,_,h=>by simpa only[SL] using h
 | x::xs,vs,hf,h=>by
  simp only[frzOkL,Bool.and_eq_true] at hf
  simp only[SL] at h⊢
  obtain⟨v,vs',rfl,h1,hx,hxs⟩:=h
  exact⟨v,vs',rfl,h1,S.low x v hf.1 hx,SL.low xs vs' hf.2 hxs⟩
end
theorem SV.low{hd hd':Nat→Value}{n n':Nat}{w:World}{I:Nat→Prop}: ∀(xs:List AV) (vs:List Value),frzOkL xs=true→SV hd n w I xs vs→SV hd' n' w I xs vs
 | [],vs,_,h=>by simpa only[SV] using h
 | x::xs,vs,hf,h=>by
  simp only[frzOkL,Bool.and_eq_true] at hf
  simp only[SV] at h⊢
  obtain⟨v,vs',rfl,hx,hxs⟩:=h
  exact⟨v,vs',rfl,S.low x v hf.1 hx,SV.low xs vs' hf.2 hxs⟩
theorem HR.moreI{G:Glo}{M I I2:Nat→Prop}{h:Heap}{n:Nat}{hd:Nat→Value}{Fp:Nat→List Nat}{w:World}(hr:HR G M I h n hd Fp w)(hI: ∀b,I b→I2 b)(h1: ∀b,I2 b→b<w.heap.size)(h2: ∀b,I2 b→ ∀id o,hget h id=some o→b∉Fp id):HR G M I2 h n hd Fp w:=by
 have fr:Fr I I2 n n hd hd w w:=⟨Nat.le_refl _,fun b hb=>⟨hI b hb,rfl⟩,fun _ _ _ _ h=>h⟩
 exact⟨fun id o ho=>fr.O (hr.obj id o ho) (fun _ _=>rfl),fun b hb=>⟨h1 b hb,h2 b hb⟩,hr.nodup,hr.disj,hr.mine,hr.next,hr.news,fun g cs hg=>(hr.glo g cs hg).frame fr.im⟩
structure FrzC(C:CT):Prop where
 ret: ∀{f:FuncId} {args:List AV} {h:Heap} {n:Nat} {K K':AV→Heap→Nat→Prop},C f args h n K→
  (∀v h' n',K v h' n'→ ∃r0 r h2,conR 8 h' v=some (r0,h2)∧NilTo r0 r∧frzOkR (frzT r)=true∧K' (frzT r) (canB n [] h2) n)→C f args h n K'
 pure: ∀{f:FuncId} {args ts:List AV} {r:AV} {h:Heap} {n:Nat},Ev C f ts r→frzAL h 8 args=some ts→frzOkL ts=true→frzOkR (frzT r)=true→
  C f args h n fun v h' n'=>v=frzT r∧h'=h∧n'=n
 own: ∀{f:FuncId} {args ts:List AV} {r:AV} {h:Heap} {n:Nat},Ev C f ts r→frzAL h 8 args=some ts→frzOkL ts=true→
  C f args h n fun v h' n'=>v=(imp n r).1∧h'=(imp n r).2.1++h∧n'=(imp n r).2.2
 up: ∀{f:FuncId} {ts:List AV} {r:AV} {h:Heap} {n:Nat} {K:AV→Heap→Nat→Prop},C f ts [] 0 K→frzOkL ts=true→(∀v h' n',K v h' n'→ ∃r0 h2,conR 8 h' v=some (r0,h2)∧NilTo r0 r)→frzOkR (frzT r)=true→
  C f ts h n fun v h' n'=>v=frzT r∧h'=h∧n'=n
 mono: ∀{f:FuncId} {args:List AV} {h:Heap} {n:Nat} {K K':AV→Heap→Nat→Prop},C f args h n K→(∀v h' n',K v h' n'→n≤n'→K' v h' n')→C f args h n K'
section
variable{P:Program}{G:Glo}
theorem cs_pure{f:FuncId}{args ts:List AV}{r:AV}{h:Heap}{n:Nat}(hk:Ev (CS P G) f ts r)(hfz:frzAL h 8 args=some ts)(hok:frzOkL ts=true):
  Enters P f∧ ∀(M I:Nat→Prop) (hd:Nat→Value) (Fp:Nat→List Nat) (w:World) (vals:List Value),HR G M I h n hd Fp w→SV hd n w I args vals→
   Calls P f vals.toArray w fun e w'=> ∃v F,e= .returned v∧T w' I r v F∧HR G M I h n hd Fp w'∧Free M I h Fp F∧Ext M I I n hd hd w w':=by
 obtain⟨K0,hc,hown,hres⟩:=hk
 obtain⟨hent,hcall⟩:=hc
 refine⟨hent,fun M I hd Fp w vals hr hx=>?_⟩
 have hr0:HR G (fun b=>w.heap.size≤b) (fun b=>b<w.heap.size) [] 0 hd Fp w:=
  ⟨fun id o ho=>by simp[hget] at ho,fun b hb=>⟨hb,fun id o ho=>by simp[hget] at ho⟩,fun id o ho=>by simp[hget] at ho,fun id o id' o' ho=>by simp[hget] at ho,fun id o ho=>by simp[hget] at ho,fun id o ho=>by simp[hget] at ho,fun b hb=>hb,
   fun g cs hg=>(hr.glo g cs hg).frame (fun b hb=>⟨(hr.imm b hb).1,rfl⟩)⟩
 have hargs:SV hd 0 w (fun b=>b<w.heap.size) ts vals:=by
  have ht:=frzV_sound hr 8 hx hfz
  have: ∀(ts:List AV) (vs:List Value),frzOkL ts=true→TV w (fun b=>b<w.heap.size) ts vs []→SV hd 0 w (fun b=>b<w.heap.size) ts vs:=by
   intro ts
   induction ts with
   | nil=>intro vs _ h;simp only[TV,SV] at h⊢;exact h.1
   | cons x ts ih=>
    intro vs hf h
    simp only[frzOkL,Bool.and_eq_true] at hf
    simp only[TV] at h
    obtain⟨v,vs',F1,F2,rfl,hF,hx,hxs⟩:=h
    obtain⟨rfl,rfl⟩:=List.append_eq_nil_iff.1 hF.symm
    simp only[SV]
    exact⟨v,vs',rfl,T.toS x v hf.1 hx,ih vs' hf.2 hxs⟩
  exact this ts _ hok ht
 refine(hcall _ _ hd Fp w vals hr0 hargs).mono ?_
 rintro e w' ⟨v,av,h',n',I',hd',Fp',rfl,hK0,hr',hv,hE,hn⟩
 obtain⟨r0,h2,hcon,hnil⟩:=hres av h' n' hK0
 obtain⟨F,hT,hr2,hfree,hsub,_⟩:=(conR_sound 8).1 h' hr' av r0 h2 v hv hcon
 have hT2:=T.anyI (I':=I) r v F hown (T.nilTo r0 r v F hT hnil)
 have hnewF: ∀b∈F,w.heap.size≤b:=fun b hb=>hfree.mine b hb
 have hold: ∀b,b<w.heap.size→w'.heap[b]?=w.heap[b]?:=fun b hb=>(hE.im b hb).2
 have hrw:HR G M I h n hd Fp w':=hr.grown hE.keep.size hold
 have hfree2:Free M I h Fp F:=⟨hfree.nodup,fun b hb=>hr.news b (hnewF b hb),fun b hb hi=>by have:=(hr.imm b hi).1;have:=hnewF b hb;omega,fun id o ho b hb hm=>by have:=hr.ltB ho b hb;have:=hnewF b hm;omega⟩
 exact⟨v,F,rfl,hT2,hrw,hfree2,⟨hE.keep.os,hE.keep.tape,hE.keep.output,hE.keep.size,fun b hb _=>hold b hb⟩,fun b hb=>⟨hb,hold b (hr.imm b hb).1⟩,fun _ _=>rfl,fun _ h=> .inl h⟩
theorem CS_frz:FrzC (CS P G) where
 ret:=by
  rintro f args h n K K' ⟨hent,hc⟩ hK
  refine⟨hent,fun M I hd Fp w vals hr hv=>(hc M I hd Fp w vals hr hv).mono ?_⟩
  rintro e w' ⟨v,av,h',n',I',hd',Fp',rfl,hK0,hr',hS,hE,hn⟩
  obtain⟨r0,r,h2,hcon,hnil,hok,hK'⟩:=hK _ _ _ hK0
  obtain⟨F,hT,hr2,hfree,hsub,_⟩:=(conR_sound 8).1 h' hr' av r0 h2 v hS hcon
  have hT2:=T.nilTo r0 r v F hT hnil
  have hr3:=hr2.freeze F (T.lt _ _ _ hT2) (fun id u hu b hb hm=>hfree.disj id u hu b hb hm)
  have hT3:=T.frz (I':=fun b=>I' b∨b∈F) (fun b hb=> .inl hb) r v F hT2 (fun b hb=> .inr hb)
  have hS3:S hd' n' w' (fun b=>I' b∨b∈F) (frzT r) v:=T.toSR hok hT3
  have hsr:SR G M (fun b=>I' b∨b∈F) ⟨[frzT r],h2,n'⟩ hd' Fp' ⟨#[v],[]⟩ w':=by
   refine⟨hr3,rfl,fun t=>?_,rfl⟩
   cases t with
   | zero=>exact hS3
   | succ t=>simp[S]
  obtain⟨hd2,Fp2,hsr2,hB⟩:=hsr.canon (B:=n) (acts:=[.keep]) (ρ:=[]) (nx:=n) (by simp[rhoOk,objIds])
  refine⟨v,frzT r,canB n [] h2,n,fun b=>I' b∨b∈F,hd2,Fp2,rfl,hK',?_,?_,?_,Nat.le_refl _⟩
  ·exact hsr2.heap
  ·have:=hsr2.slots 0
   simpa [canon,canSlots,ren_frzR hok] using this
  ·exact⟨hE.keep,fun b hb=>⟨.inl (hE.im b hb).1,(hE.im b hb).2⟩,fun id hid=>(hB id hid).trans (hE.hds id hid),fun b hb=>hb.elim (hE.old b) fun h=> .inr (hfree.mine b h)⟩
 pure:=by
  rintro f args ts r h n hev hfz hok hr0
  obtain⟨hent,hc⟩:=cs_pure (n:=n) hev hfz hok
  refine⟨hent,fun M I hd Fp w vals hr hv=>(hc M I hd Fp w vals hr hv).mono ?_⟩
  rintro e w' ⟨v,F,rfl,hT,hr',hfree,hE⟩
  have hr3:=hr'.freeze F (T.lt _ _ _ hT) (fun id u hu b hb hm=>hfree.disj id u hu b hb hm)
  have hT3:=T.frz (I':=fun b=>I b∨b∈F) (fun b hb=> .inl hb) r v F hT (fun b hb=> .inr hb)
  exact⟨v,frzT r,h,n,fun b=>I b∨b∈F,hd,Fp,rfl,⟨rfl,rfl,rfl⟩,hr3,T.toSR hr0 hT3,⟨hE.keep,fun b hb=>⟨.inl (hE.im b hb).1,(hE.im b hb).2⟩,hE.hds,fun b hb=>hb.elim .inl fun h=> .inr (hfree.mine b h)⟩,Nat.le_refl _⟩
 own:=by
  rintro f args ts r h n hev hfz hok
  obtain⟨hent,hc⟩:=cs_pure (n:=n) hev hfz hok
  refine⟨hent,fun M I hd Fp w vals hr hv=>(hc M I hd Fp w vals hr hv).mono ?_⟩
  rintro e w' ⟨v,F,rfl,hT,hr',hfree,hE⟩
  obtain⟨hn1,hd1,Fp1,hr1,fr1,hx1,_,hS1⟩:=imp_sound r h n hd Fp v F hr' hT hfree
  exact⟨v,_,_,_,I,hd1,Fp1,rfl,⟨rfl,rfl,rfl⟩,hr1,hS1,⟨hE.keep,hE.im,hx1,hE.old⟩,hn1⟩
 up:=by
  rintro f ts r h n K ⟨hent,hc⟩ hok hK hr0
  refine⟨hent,fun M I hd Fp w vals hr hv=>?_⟩
  have hz:HR G (fun b=>w.heap.size≤b) I [] 0 hd Fp w:=
   ⟨fun id o ho=>by simp[hget] at ho,fun b hb=>⟨(hr.imm b hb).1,fun id o ho=>by simp[hget] at ho⟩,fun id o ho=>by simp[hget] at ho,fun id o id' o' ho=>by simp[hget] at ho,fun id o ho=>by simp[hget] at ho,fun id o ho=>by simp[hget] at ho,fun b hb=>hb,hr.glo⟩
  refine(hc _ I hd Fp w vals hz (SV.low ts vals hok hv)).mono ?_
  rintro e w' ⟨v,av,h',n',I',hd',Fp',rfl,hK0,hr',hS,hE,hn⟩
  obtain⟨r0,h2,hcon,hnil⟩:=hK _ _ _ hK0
  obtain⟨F,hT,hr2,hfree,hsub,_⟩:=(conR_sound 8).1 h' hr' av r0 h2 v hS hcon
  have hT2:=T.nilTo r0 r v F hT hnil
  have hold: ∀b,b<w.heap.size→w'.heap[b]?=w.heap[b]?:=fun b hb=>hE.keep.block b hb (by omega)
  have hrw:HR G M I h n hd Fp w':=hr.grown hE.keep.size hold
  have hnew: ∀b,(I' b∨b∈F)→I b∨w.heap.size≤b:=fun b hb=>hb.elim (hE.old b) fun h=> .inr (hfree.mine b h)
  have hr3:HR G M (fun b=>I' b∨b∈F) h n hd Fp w':=hrw.moreI (fun b hb=> .inl (hE.im b hb).1) (fun b hb=>hb.elim (fun h=>(hr'.imm b h).1) fun h=>T.lt _ _ _ hT2 b h) fun b hb id o ho hm=>by
   rcases hnew b hb with h1 | h1
   ·exact(hr.imm b h1).2 id o ho hm
   ·have:=hr.ltB ho b hm;omega
  have hT3:=T.frz (I':=fun b=>I' b∨b∈F) (fun b hb=> .inl hb) r v F hT2 (fun b hb=> .inr hb)
  exact⟨v,frzT r,h,n,fun b=>I' b∨b∈F,hd,Fp,rfl,⟨rfl,rfl,rfl⟩,hr3,T.toSR hr0 hT3,⟨⟨hE.keep.os,hE.keep.tape,hE.keep.output,hE.keep.size,fun b hb _=>hold b hb⟩,fun b hb=>⟨.inl (hE.im b hb).1,(hE.im b hb).2⟩,fun _ _=>rfl,
   fun b hb=>(hnew b hb).imp id (hr.news b)⟩,Nat.le_refl _⟩
 mono:=by
  rintro f args h n K K' ⟨hent,hc⟩ hK
  refine⟨hent,fun M I hd Fp w vals hr hv=>(hc M I hd Fp w vals hr hv).mono ?_⟩
  rintro e w' ⟨v,av,h',n',I',hd',Fp',rfl,hK0,hr',hS,hE,hn⟩
  exact⟨v,av,h',n',I',hd',Fp',rfl,hK _ _ _ hK0 hn,hr',hS,hE,hn⟩
end
theorem open_frz{C:CT}(hF:FrzC C){f:FuncId}{args ts:List AV}{r:AV}{h:Heap}{n:Nat}{Q:AV→Heap→Nat→Prop}(hev:Ev C f ts r)(hz:frzAL h 8 args=some ts)(hq:Q (frzT r) h n)(hok:frzOkL ts=true:=by rfl)(hr:frzOkR (frzT r)=true:=by rfl):
  ∃K0:AV→Heap→Nat→Prop,C f args h n K0∧ ∀v h' n',K0 v h' n'→n≤n'→Q v h' n':=
 ⟨_,hF.pure hev hz hok hr,by rintro _ _ _ ⟨rfl,rfl,rfl⟩ _;exact hq⟩
theorem open_own{C:CT}(hF:FrzC C){f:FuncId}{args ts:List AV}{r:AV}{h:Heap}{n:Nat}{Q:AV→Heap→Nat→Prop}(hev:Ev C f ts r)(hz:frzAL h 8 args=some ts)(hq:Q (imp n r).1 ((imp n r).2.1++h) (imp n r).2.2)(hok:frzOkL ts=true:=by rfl):
  ∃K0:AV→Heap→Nat→Prop,C f args h n K0∧ ∀v h' n',K0 v h' n'→n≤n'→Q v h' n':=
 ⟨_,hF.own hev hz hok,by rintro _ _ _ ⟨rfl,rfl,rfl⟩ _;exact hq⟩
end Go.Proofs.YthggfnefjbckeaaGreatDoor.X
