/- A part of the proof: lemmas on the machine or on the functions that the law reaches. No condition of its own. -/
import Derived.Tactics
import Derived.Laws.AppendOwn
import Derived.Laws.MakeOwn
import Derived.Below
import Derived.Laws.StructEq
import Derived.Laws.Tables
import Derived.Laws.CopyRow
import Derived.Laws.Cells
import Derived.Deep.AppendSrc
set_option linter.unusedVariables false
set_option linter.unusedSimpArgs false
namespace Go.Proofs.YthggfnefjbckeaaGreatDoor.X
open Go
inductive AV where
 | any
 | con (v:Value)
 | int (k:IntKind) (n:Int)
 | bool (b:Bool)
 | str (s:ByteArray)
 | nil
 | sl (es:List (List AV))
 | pf (cs:List AV)
 | ow (sz:Nat) (es:List (List AV))
 | op (cs:List AV)
 | ref (id:Nat) (sub:Option (Nat×Nat×Nat)) (sz off len:Nat)
 | ptr (id:Nat) (sub:Option (Nat×Nat×Nat)) (sz i c:Nat)
 | fn (f:FuncId) (caps:List AV)
 | agg (cs:List AV)
 | tup (vs:List AV)
 deriving Inhabited
def At(w:World)(b o:Nat)(vs:List Value):Prop:= ∀j u,vs[j]?=some u→w.cell? ⟨b,o+j,none⟩=some u
theorem At.frame{w w':World}{b o:Nat}{vs:List Value}(h:At w b o vs)(hb:w'.heap[b]?=w.heap[b]?):At w' b o vs:=fun j u hu=>
 (World.cell?_of_block (a:=⟨b,o+j,none⟩) hb).trans (h j u hu)
def Each(sz:Nat):List (List AV)→Prop
 | []=>True
 | e::es=>e.length=sz∧Each sz es
mutual
def T(w:World)(I:Nat→Prop):AV→Value→List Nat→Prop
 | .any,_,F=>F=[]
 | .con u,v,F=>v=u∧F=[]
 | .int k n,v,F=>v= .int k n∧F=[]
 | .bool b,v,F=>v= .bool b∧F=[]
 | .str s,v,F=>v= .string s∧F=[]
 | .nil,v,F=>v= .slice none 0 0∧F=[]
 | .sl es,v,F=>F=[]∧ ∃A c,v= .slice A es.length c∧es.length≤c∧es.length≤maxLen∧
   (es=[]∨ ∃b o sz vs,A=some ⟨b,o,none⟩∧I b∧Each sz es∧At w b o vs∧TLL w I es vs [])
 | .pf cs,v,F=>F=[]∧ ∃b o vs,v= .pointer (some ⟨b,o,none⟩)∧I b∧At w b o vs∧TL w I cs vs []
 | .ow sz es,v,F=>(es=[]∧(∃A,v= .slice A 0 0)∧F=[])∨
   ∃b o c cur e vs Fs,v= .slice (some ⟨b,o,none⟩) es.length c∧w.heap[b]?=some (.cells cur e (0,0))∧es.length≤c∧c≤maxLen∧o+c*sz≤cur.size∧
    Each sz es∧(cur.toList.drop o).take (es.length*sz)=vs∧TLL w I es vs Fs∧F=b::Fs
 | .op cs,v,F=> ∃b cur e Fs,v= .pointer (some ⟨b,0,none⟩)∧w.heap[b]?=some (.cells cur e (0,0))∧TL w I cs cur.toList Fs∧F=b::Fs
 | .fn f caps,v,F=> ∃vs,v= .func (.func f) #[] vs∧TL w I caps vs.toList F
 | .agg cs,v,F=> ∃vs,v= .agg vs∧TL w I cs vs.toList F
 | .tup xs,v,F=> ∃vs,v= .tuple vs∧TV w I xs vs.toList F
 | .ref ..,_,_=>False
 | .ptr ..,_,_=>False
def TL(w:World)(I:Nat→Prop):List AV→List Value→List Nat→Prop
 | [],vs,F=>vs=[]∧F=[]
 | x::xs,vs,F=> ∃v vs' F1 F2,vs=v::vs'∧F=F1++F2∧v.oneCell'=true∧T w I x v F1∧TL w I xs vs' F2
def TV(w:World)(I:Nat→Prop):List AV→List Value→List Nat→Prop
 | [],vs,F=>vs=[]∧F=[]
 | x::xs,vs,F=> ∃v vs' F1 F2,vs=v::vs'∧F=F1++F2∧T w I x v F1∧TV w I xs vs' F2
def TLL(w:World)(I:Nat→Prop):List (List AV)→List Value→List Nat→Prop
 | [],vs,F=>vs=[]∧F=[]
 | e::es,vs,F=> ∃v1 v2 F1 F2,vs=v1++v2∧F=F1++F2∧TL w I e v1 F1∧TLL w I es v2 F2
end
section frame
variable{w w':World}{I I':Nat→Prop}
mutual
theorem T.frame(hI: ∀b,I b→I' b∧w'.heap[b]?=w.heap[b]?): ∀(x:AV) (v:Value) (F:List Nat),T w I x v F→(∀b∈F,w'.heap[b]?=w.heap[b]?)→T w' I' x v F
 | .any,v,F,h,_=>by simpa [T] using h
 | .con u,v,F,h,_=>by simpa [T] using h
 | .int k n,v,F,h,_=>by simpa [T] using h
 | .bool b,v,F,h,_=>by simpa [T] using h
 | .str s,v,F,h,_=>by simpa [T] using h
 | .nil,v,F,h,_=>by simpa [T] using h
 | .sl es,v,F,h,_=>by
  simp only[T] at h⊢
  obtain⟨hF,A,c,hv,hc,hm,h⟩:=h
  refine⟨hF,A,c,hv,hc,hm,h.imp id ?_⟩
  rintro⟨b,o,sz,vs,hA,hb,he,hat,ht⟩
  exact⟨b,o,sz,vs,hA,(hI b hb).1,he,hat.frame (hI b hb).2,TLL.frame hI es vs [] ht (by simp)⟩
 | .pf cs,v,F,h,_=>by
  simp only[T] at h⊢
  obtain⟨hF,b,o,vs,hv,hb,hat,ht⟩:=h
  exact⟨hF,b,o,vs,hv,(hI b hb).1,hat.frame (hI b hb).2,TL.frame hI cs vs [] ht (by simp)⟩
 | .ow sz es,v,F,h,hF=>by
  simp only[T] at h⊢
  refine h.imp id ?_
  rintro⟨b,o,c,cur,e,vs,Fs,hv,hh,hc,hm,ho,he,hvs,ht,rfl⟩
  exact⟨b,o,c,cur,e,vs,Fs,hv,(hF b (by simp)).trans hh,hc,hm,ho,he,hvs,TLL.frame hI es vs Fs ht (fun b hb=>hF b (by simp[hb])),rfl⟩
 | .op cs,v,F,h,hF=>by
  simp only[T] at h⊢
  obtain⟨b,cur,e,Fs,hv,hh,ht,rfl⟩:=h
  exact⟨b,cur,e,Fs,hv,(hF b (by simp)).trans hh,TL.frame hI cs _ Fs ht (fun b hb=>hF b (by simp[hb])),rfl⟩
 | .fn f caps,v,F,h,hF=>by
  simp only[T] at h⊢
  obtain⟨vs,hv,ht⟩:=h
  exact⟨vs,hv,TL.frame hI caps _ F ht hF⟩
 | .agg cs,v,F,h,hF=>by
  simp only[T] at h⊢
  obtain⟨vs,hv,ht⟩:=h
  exact⟨vs,hv,TL.frame hI cs _ F ht hF⟩
 | .tup xs,v,F,h,hF=>by
  simp only[T] at h⊢
  obtain⟨vs,hv,ht⟩:=h
  exact⟨vs,hv,TV.frame hI xs _ F ht hF⟩
 | .ref _ _ _ _ _,v,F,h,_=>by simp only[T] at h
 | .ptr _ _ _ _ _,v,F,h,_=>by simp only[T] at h
theorem TL.frame(hI: ∀b,I b→I' b∧w'.heap[b]?=w.heap[b]?): ∀(xs:List AV) (vs:List Value) (F:List Nat),TL w I xs vs F→(∀b∈F,w'.heap[b]?=w.heap[b]?)→TL w' I' xs vs F
 | [],vs,F,h,_=>by simpa [TL] using h
 | x::xs,vs,F,h,hF=>by
  simp only[TL] at h⊢
  obtain⟨v,vs',F1,F2,rfl,rfl,h1,hx,hxs⟩:=h
  exact⟨v,vs',F1,F2,rfl,rfl,h1,T.frame hI x v F1 hx (fun b hb=>hF b (by simp[hb])),TL.frame hI xs vs' F2 hxs (fun b hb=>hF b (by simp[hb]))⟩
theorem TV.frame(hI: ∀b,I b→I' b∧w'.heap[b]?=w.heap[b]?): ∀(xs:List AV) (vs:List Value) (F:List Nat),TV w I xs vs F→(∀b∈F,w'.heap[b]?=w.heap[b]?)→TV w' I' xs vs F
 | [],vs,F,h,_=>by simpa [TV] using h
 | x::xs,vs,F,h,hF=>by
  simp only[TV] at h⊢
  obtain⟨v,vs',F1,F2,rfl,rfl,hx,hxs⟩:=h
  exact⟨v,vs',F1,F2,rfl,rfl,T.frame hI x v F1 hx (fun b hb=>hF b (by simp[hb])),TV.frame hI xs vs' F2 hxs (fun b hb=>hF b (by simp[hb]))⟩
theorem TLL.frame(hI: ∀b,I b→I' b∧w'.heap[b]?=w.heap[b]?): ∀(xs:List (List AV)) (vs:List Value) (F:List Nat),TLL w I xs vs F→(∀b∈F,w'.heap[b]?=w.heap[b]?)→TLL w' I' xs vs F
 | [],vs,F,h,_=>by simpa [TLL] using h
 | x::xs,vs,F,h,hF=>by
  simp only[TLL] at h⊢
  obtain⟨v1,v2,F1,F2,rfl,rfl,hx,hxs⟩:=h
  exact⟨v1,v2,F1,F2,rfl,rfl,TL.frame hI x v1 F1 hx (fun b hb=>hF b (by simp[hb])),TLL.frame hI xs v2 F2 hxs (fun b hb=>hF b (by simp[hb]))⟩
end
end frame
theorem lt_of_heap{w:World}{b:Nat}{o:Obj}(h:w.heap[b]?=some o):b<w.heap.size:=(Array.getElem?_eq_some_iff.1 h).1
theorem TL.length{w:World}{I:Nat→Prop}: ∀{xs:List AV} {vs:List Value} {F:List Nat},TL w I xs vs F→vs.length=xs.length
 | [],vs,F,h=>by simp only[TL] at h;simp[h.1]
 | x::xs,vs,F,h=>by
  simp only[TL] at h
  obtain⟨v,vs',F1,F2,rfl,rfl,h1,hx,hxs⟩:=h
  simp[TL.length hxs]
theorem TLL.length{w:World}{I:Nat→Prop}{sz:Nat}: ∀{es:List (List AV)} {vs:List Value} {F:List Nat},TLL w I es vs F→Each sz es→vs.length=es.length*sz
 | [],vs,F,h,_=>by simp only[TLL] at h;simp[h.1]
 | e::es,vs,F,h,he=>by
  simp only[TLL] at h
  obtain⟨v1,v2,F1,F2,rfl,rfl,hx,hxs⟩:=h
  simp only[Each] at he
  have h1:=TL.length hx
  have h2:=TLL.length hxs he.2
  simp only[List.length_append,List.length_cons,h1,h2,he.1,Nat.add_mul,Nat.one_mul]
  omega
end Go.Proofs.YthggfnefjbckeaaGreatDoor.X
set_option linter.unusedVariables false
set_option linter.unusedSimpArgs false
namespace Go.Proofs.YthggfnefjbckeaaGreatDoor.X
open Go
mutual
def frzT:AV→AV
 | .ow sz es=> .sl (frzLL es)
 | .op cs=> .pf (frzL cs)
 | .fn f caps=> .fn f (frzL caps)
 | .agg cs=> .agg (frzL cs)
 | .tup xs=> .tup (frzL xs)
 | x=>x
def frzL:List AV→List AV
 | []=>[]
 | x::xs=>frzT x::frzL xs
def frzLL:List (List AV)→List (List AV)
 | []=>[]
 | x::xs=>frzL x::frzLL xs
end
theorem frzL_eq: ∀xs:List AV,frzL xs=xs.map frzT
 | []=>rfl
 | x::xs=>by simp[frzL,frzL_eq xs]
theorem frzLL_eq: ∀xs:List (List AV),frzLL xs=xs.map (List.map frzT)
 | []=>rfl
 | x::xs=>by simp[frzLL,frzL_eq,frzLL_eq xs]
theorem frzL_length(xs:List AV):(frzL xs).length=xs.length:=by simp[frzL_eq]
theorem frzLL_length(xs:List (List AV)):(frzLL xs).length=xs.length:=by simp[frzLL_eq]
theorem Each.frz{sz:Nat}: ∀{es:List (List AV)},Each sz es→Each sz (frzLL es)
 | [],_=>trivial
 | e::es,h=>⟨(frzL_length e).trans h.1,Each.frz h.2⟩
theorem Each.mem{sz:Nat}: ∀{es:List (List AV)},Each sz es→ ∀e∈es,e.length=sz
 | e::es,h,x,hx=>by
  rcases List.mem_cons.1 hx with rfl | hx
  ·exact h.1
  ·exact Each.mem h.2 x hx
theorem Each.of_mem{sz:Nat}: ∀{es:List (List AV)},(∀e∈es,e.length=sz)→Each sz es
 | [],_=>trivial
 | e::es,h=>⟨h e (by simp),Each.of_mem (fun x hx=>h x (by simp[hx]))⟩
theorem Each.take{sz:Nat}{es:List (List AV)}(h:Each sz es)(n:Nat):Each sz (es.take n):=Each.of_mem fun e he=>h.mem e (List.mem_of_mem_take he)
theorem Each.drop{sz:Nat}{es:List (List AV)}(h:Each sz es)(n:Nat):Each sz (es.drop n):=Each.of_mem fun e he=>h.mem e (List.mem_of_mem_drop he)
theorem Each.append{sz:Nat}{es es':List (List AV)}(h:Each sz es)(h':Each sz es'):Each sz (es++es'):=Each.of_mem fun e he=>(List.mem_append.1 he).elim (h.mem e) (h'.mem e)
theorem at_row{w:World}{b o n:Nat}{cur:Array Value}{e:TypeId}{fr:Nat×Nat}(h:w.heap[b]?=some (.cells cur e fr)):At w b o ((cur.toList.drop o).take n):=by
 intro j u hu
 rw[List.getElem?_take] at hu
 split at hu
 ·rw[List.getElem?_drop] at hu
  simpa [World.cell?,h] using hu
 ·cases hu
section
variable{w:World}{I I':Nat→Prop}
mutual
theorem T.frz(hI: ∀b,I b→I' b): ∀(x:AV) (v:Value) (F:List Nat),T w I x v F→(∀b∈F,I' b)→T w I' (frzT x) v []
 | .any,v,F,h,_=>by simp[T,frzT]
 | .con u,v,F,h,_=>by simp only[T,frzT] at h⊢;exact⟨h.1,trivial⟩
 | .int k n,v,F,h,_=>by simp only[T,frzT] at h⊢;exact⟨h.1,trivial⟩
 | .bool b,v,F,h,_=>by simp only[T,frzT] at h⊢;exact⟨h.1,trivial⟩
 | .str s,v,F,h,_=>by simp only[T,frzT] at h⊢;exact⟨h.1,trivial⟩
 | .nil,v,F,h,_=>by simp only[T,frzT] at h⊢;exact⟨h.1,trivial⟩
 | .sl es,v,F,h,hF=>by
  simp only[frzT]
  have hFe:F=[]:=by simp only[T] at h;exact h.1
  subst hFe
  simp only[T] at h⊢
  obtain⟨_,A,c,hv,hc,hm,h⟩:=h
  refine⟨trivial,A,c,hv,hc,hm,h.imp id ?_⟩
  rintro⟨b,o,sz,vs,hA,hb,he,hat,ht⟩
  exact⟨b,o,sz,vs,hA,hI b hb,he,hat,TLL.frame (fun b hb=>⟨hI b hb,rfl⟩) es vs [] ht (by simp)⟩
 | .pf cs,v,F,h,hF=>by
  simp only[frzT]
  simp only[T] at h⊢
  obtain⟨_,b,o,vs,hv,hb,hat,ht⟩:=h
  exact⟨trivial,b,o,vs,hv,hI b hb,hat,TL.frame (fun b hb=>⟨hI b hb,rfl⟩) cs vs [] ht (by simp)⟩
 | .ow sz es,v,F,h,hF=>by
  simp only[frzT]
  simp only[T] at h⊢
  refine⟨trivial,?_⟩
  rcases h with ⟨rfl,⟨A,rfl⟩,rfl⟩ | ⟨b,o,c,cur,e,vs,Fs,hv,hh,hc,hm,ho,he,hvs,ht,rfl⟩
  ·exact⟨A,0,by simp[frzLL],by simp[frzLL],by simp[frzLL],.inl (by simp[frzLL])⟩
  ·refine⟨some ⟨b,o,none⟩,c,by rw[frzLL_length];exact hv,by rw[frzLL_length];exact hc,by rw[frzLL_length];exact Nat.le_trans hc hm,.inr ⟨b,o,sz,vs,rfl,hF b (by simp),he.frz,?_,?_⟩⟩
   ·rw[←hvs];exact at_row hh
   ·exact TLL.frz hI es vs Fs ht (fun b hb=>hF b (by simp[hb]))
 | .op cs,v,F,h,hF=>by
  simp only[frzT]
  simp only[T] at h⊢
  obtain⟨b,cur,e,Fs,hv,hh,ht,rfl⟩:=h
  refine⟨trivial,b,0,cur.toList,hv,hF b (by simp),?_,TL.frz hI cs _ Fs ht (fun b hb=>hF b (by simp[hb]))⟩
  intro j u hu
  simpa [World.cell?,hh] using hu
 | .fn f caps,v,F,h,hF=>by
  simp only[frzT]
  simp only[T] at h⊢
  obtain⟨vs,hv,ht⟩:=h
  exact⟨vs,hv,TL.frz hI caps _ F ht hF⟩
 | .agg cs,v,F,h,hF=>by
  simp only[frzT]
  simp only[T] at h⊢
  obtain⟨vs,hv,ht⟩:=h
  exact⟨vs,hv,TL.frz hI cs _ F ht hF⟩
 | .tup xs,v,F,h,hF=>by
  simp only[frzT]
  simp only[T] at h⊢
  obtain⟨vs,hv,ht⟩:=h
  exact⟨vs,hv,TV.frz hI xs _ F ht hF⟩
 | .ref _ _ _ _ _,v,F,h,_=>by simp only[T] at h
 | .ptr _ _ _ _ _,v,F,h,_=>by simp only[T] at h
theorem TL.frz(hI: ∀b,I b→I' b): ∀(xs:List AV) (vs:List Value) (F:List Nat),TL w I xs vs F→(∀b∈F,I' b)→TL w I' (frzL xs) vs []
 | [],vs,F,h,_=>by simp only[TL,frzL] at h⊢;exact⟨h.1,trivial⟩
 | x::xs,vs,F,h,hF=>by
  simp only[TL,frzL] at h⊢
  obtain⟨v,vs',F1,F2,rfl,rfl,h1,hx,hxs⟩:=h
  exact⟨v,vs',[],[],rfl,rfl,h1,T.frz hI x v F1 hx (fun b hb=>hF b (by simp[hb])),TL.frz hI xs vs' F2 hxs (fun b hb=>hF b (by simp[hb]))⟩
theorem TV.frz(hI: ∀b,I b→I' b): ∀(xs:List AV) (vs:List Value) (F:List Nat),TV w I xs vs F→(∀b∈F,I' b)→TV w I' (frzL xs) vs []
 | [],vs,F,h,_=>by simp only[TV,frzL] at h⊢;exact⟨h.1,trivial⟩
 | x::xs,vs,F,h,hF=>by
  simp only[TV,frzL] at h⊢
  obtain⟨v,vs',F1,F2,rfl,rfl,hx,hxs⟩:=h
  exact⟨v,vs',[],[],rfl,rfl,T.frz hI x v F1 hx (fun b hb=>hF b (by simp[hb])),TV.frz hI xs vs' F2 hxs (fun b hb=>hF b (by simp[hb]))⟩
theorem TLL.frz(hI: ∀b,I b→I' b): ∀(xs:List (List AV)) (vs:List Value) (F:List Nat),TLL w I xs vs F→(∀b∈F,I' b)→TLL w I' (frzLL xs) vs []
 | [],vs,F,h,_=>by simp only[TLL,frzLL] at h⊢;exact⟨h.1,trivial⟩
 | x::xs,vs,F,h,hF=>by
  simp only[TLL,frzLL] at h⊢
  obtain⟨v1,v2,F1,F2,rfl,rfl,hx,hxs⟩:=h
  exact⟨v1,v2,[],[],rfl,rfl,TL.frz hI x v1 F1 hx (fun b hb=>hF b (by simp[hb])),TLL.frz hI xs v2 F2 hxs (fun b hb=>hF b (by simp[hb]))⟩
end
end
theorem TL.get{w:World}{I:Nat→Prop}: ∀{xs:List AV} {vs:List Value} {F:List Nat},TL w I xs vs F→ ∀{j:Nat} {x:AV},xs[j]?=some x→ ∃v G,vs[j]?=some v∧v.oneCell'=true∧T w I x v G∧G.Sublist F
 | [],vs,F,h,j,x,hx=>by simp at hx
 | y::xs,vs,F,h,j,x,hx=>by
  simp only[TL] at h
  obtain⟨v,vs',F1,F2,rfl,rfl,h1,hy,hxs⟩:=h
  cases j with
  | zero=>simp at hx;subst hx;exact⟨v,F1,by simp,h1,hy,List.sublist_append_left _ _⟩
  | succ j=>
   simp at hx
   obtain⟨u,G,hu,h1',hT,hs⟩:=TL.get hxs hx
   exact⟨u,G,by simpa using hu,h1',hT,hs.trans (List.sublist_append_right _ _)⟩
theorem TL.ones{w:World}{I:Nat→Prop}: ∀{xs:List AV} {vs:List Value} {F:List Nat},TL w I xs vs F→ ∀v∈vs,v.oneCell'=true
 | [],vs,F,h,v,hv=>by simp only[TL] at h;simp[h.1] at hv
 | y::xs,vs,F,h,v,hv=>by
  simp only[TL] at h
  obtain⟨u,vs',F1,F2,rfl,rfl,h1,hy,hxs⟩:=h
  rcases List.mem_cons.1 hv with rfl | hv
  ·exact h1
  ·exact TL.ones hxs v hv
theorem TLL.ones{w:World}{I:Nat→Prop}: ∀{xs:List (List AV)} {vs:List Value} {F:List Nat},TLL w I xs vs F→ ∀v∈vs,v.oneCell'=true
 | [],vs,F,h,v,hv=>by simp only[TLL] at h;simp[h.1] at hv
 | y::xs,vs,F,h,v,hv=>by
  simp only[TLL] at h
  obtain⟨v1,v2,F1,F2,rfl,rfl,hx,hxs⟩:=h
  rcases List.mem_append.1 hv with hv | hv
  ·exact hx.ones v hv
  ·exact TLL.ones hxs v hv
theorem TLL.get{w:World}{I:Nat→Prop}{sz:Nat}: ∀{es:List (List AV)} {vs:List Value} {F:List Nat},TLL w I es vs F→Each sz es→ ∀{i:Nat} {e:List AV},es[i]?=some e→
  ∃G,TL w I e ((vs.drop (i*sz)).take sz) G∧G.Sublist F
 | [],vs,F,h,_,i,e,he=>by simp at he
 | y::es,vs,F,h,hs,i,e,he=>by
  simp only[TLL] at h
  obtain⟨v1,v2,F1,F2,rfl,rfl,hx,hxs⟩:=h
  have hl:=hx.length
  have h1:=hs.1
  cases i with
  | zero=>
   simp at he;subst he
   refine⟨F1,?_,List.sublist_append_left _ _⟩
   rw[Nat.zero_mul,List.drop_zero,List.take_append_of_le_length (by omega),List.take_of_length_le (by omega)]
   exact hx
  | succ i=>
   simp at he
   obtain⟨G,hG,hsub⟩:=TLL.get hxs hs.2 he
   refine⟨G,?_,hsub.trans (List.sublist_append_right _ _)⟩
   rw[Nat.add_mul,Nat.one_mul,Nat.add_comm,←List.drop_drop,List.drop_append_of_le_length (by omega),show v1.drop sz=[] from List.drop_eq_nil_of_le (by omega),List.nil_append]
   exact hG
end Go.Proofs.YthggfnefjbckeaaGreatDoor.X
set_option linter.unusedVariables false
set_option linter.unusedSimpArgs false
namespace Go.Proofs.YthggfnefjbckeaaGreatDoor.X
open Go
inductive Ob where
 | slice (sz:Nat) (es:List (List AV))
 | var (cs:List AV)
 deriving Inhabited
abbrev Heap:=List (Nat×Ob)
def hget:Heap→Nat→Option Ob
 | [],_=>none
 | (i,o)::h,id=>if i=id then some o else hget h id
def hset:Heap→Nat→Ob→Heap
 | [],_,_=>[]
 | (i,o)::h,id,u=>if i=id then(i,u)::h else(i,o)::hset h id u
def hdel:Heap→Nat→Heap
 | [],_=>[]
 | (i,o)::h,id=>if i=id then hdel h id else(i,o)::hdel h id
theorem hget_set(h:Heap)(id:Nat)(u:Ob)(j:Nat):hget (hset h id u) j=if id=j then(hget h id).map (fun _=>u) else hget h j:=by
 induction h with
 | nil=>simp[hget,hset]
 | cons p h ih=>
  obtain⟨i,o⟩:=p
  simp only[hset]
  by_cases h1:i=id
  ·subst h1
   by_cases h2:i=j<;>simp[hget,h2]
  ·by_cases h2:i=j
   ·subst h2;simp[hget,h1,Ne.symm h1,fun e=>h1 (Eq.symm e)]
   ·simp only[h1,if_false,hget,h2]
    rw[ih]
theorem hget_del(h:Heap)(id j:Nat):hget (hdel h id) j=if id=j then none else hget h j:=by
 induction h with
 | nil=>simp[hget,hdel]
 | cons p h ih=>
  obtain⟨i,o⟩:=p
  simp only[hdel]
  by_cases h1:i=id
  ·subst h1
   by_cases h2:i=j
   ·subst h2;simp[ih]
   ·simp[ih,h2,hget]
  ·by_cases h2:i=j
   ·subst h2;simp[hget,h1,Ne.symm h1,fun e=>h1 (Eq.symm e)]
   ·simp only[h1,if_false,hget,h2]
    rw[ih]
structure St where
 tmps:List AV
 heap:Heap
 next:Nat
def BaseOf(h:Value)(b o:Nat):Prop:=(∃n c,h= .slice (some ⟨b,o,none⟩) n c)∨h= .pointer (some ⟨b,o,none⟩)
def HdOf(hd:Nat→Value)(w:World)(id:Nat):Option (Nat×Nat×Nat)→Value→Prop
 | none,h=>h=hd id
 | some (szo,i,c),h=> ∃A n k,h= .slice A n k∧(A=none∨ ∃b o,BaseOf (hd id) b o∧w.cell? ⟨b,o+(i*szo+c),none⟩=some h)
def HdS(hd:Nat→Value)(w:World)(id:Nat):Option (Nat×Nat×Nat)→Value→Prop
 | none,h=>h=hd id
 | some (szo,i,c),h=> ∃b o,BaseOf (hd id) b o∧w.cell? ⟨b,o+(i*szo+c),none⟩=some h
def Win(sz off len:Nat)(h v:Value):Prop:=
 (∃b o n c c',h= .slice (some ⟨b,o,none⟩) n c∧v= .slice (some ⟨b,o+off*sz,none⟩) len c'∧off+c'≤c∧len≤c'∧off+len≤n)∨(len=0∧ ∃A,v= .slice A 0 0)
theorem BaseOf.uniq{h:Value}{b o b' o':Nat}(h1:BaseOf h b o)(h2:BaseOf h b' o'):b=b'∧o=o':=by
 rcases h1 with ⟨n,c,rfl⟩ | rfl<;>rcases h2 with ⟨n',c',h⟩ | h<;>simp at h<;>simp[h]
mutual
def S(hd:Nat→Value)(n:Nat)(w:World)(I:Nat→Prop):AV→Value→Prop
 | .ref id sub sz off len,v=>id<n∧ ∃h,HdOf hd w id sub h∧Win sz off len h v
 | .ptr id sub sz i c,v=>id<n∧ ∃h b o,HdOf hd w id sub h∧BaseOf h b o∧v= .pointer (some ⟨b,o+(i*sz+c),none⟩)
 | .fn f caps,v=> ∃vs,v= .func (.func f) #[] vs∧SL hd n w I caps vs.toList
 | .agg cs,v=> ∃vs,v= .agg vs∧SL hd n w I cs vs.toList
 | .tup xs,v=> ∃vs,v= .tuple vs∧SV hd n w I xs vs.toList
 | .ow ..,_=>False
 | .op ..,_=>False
 | .any,_=>True
 | .con u,v=>v=u
 | .int k m,v=>v= .int k m
 | .bool b,v=>v= .bool b
 | .str s,v=>v= .string s
 | .nil,v=>v= .slice none 0 0
 | .sl es,v=>T w I (.sl es) v []
 | .pf cs,v=>T w I (.pf cs) v []
def SL(hd:Nat→Value)(n:Nat)(w:World)(I:Nat→Prop):List AV→List Value→Prop
 | [],vs=>vs=[]
 | x::xs,vs=> ∃v vs',vs=v::vs'∧v.oneCell'=true∧S hd n w I x v∧SL hd n w I xs vs'
def SV(hd:Nat→Value)(n:Nat)(w:World)(I:Nat→Prop):List AV→List Value→Prop
 | [],vs=>vs=[]
 | x::xs,vs=> ∃v vs',vs=v::vs'∧S hd n w I x v∧SV hd n w I xs vs'
end
section frame
variable{hd hd':Nat→Value}{n n':Nat}{w w':World}{I I':Nat→Prop}
mutual
theorem S.frame(hn:n≤n')(hI: ∀b,I b→I' b∧w'.heap[b]?=w.heap[b]?)(hH: ∀id,id<n→ ∀sub h,HdOf hd w id sub h→HdOf hd' w' id sub h):
  ∀(x:AV) (v:Value),S hd n w I x v→S hd' n' w' I' x v
 | .ref id sub sz off len,v,h=>by
  simp only[S] at h⊢
  obtain⟨hid,h0,h1,h2⟩:=h
  exact⟨Nat.lt_of_lt_of_le hid hn,h0,hH id hid sub h0 h1,h2⟩
 | .ptr id sub sz i c,v,h=>by
  simp only[S] at h⊢
  obtain⟨hid,h0,b,o,h1,h2,h3⟩:=h
  exact⟨Nat.lt_of_lt_of_le hid hn,h0,b,o,hH id hid sub h0 h1,h2,h3⟩
 | .fn f caps,v,h=>by
  simp only[S] at h⊢
  obtain⟨vs,hv,ht⟩:=h
  exact⟨vs,hv,SL.frame hn hI hH caps _ ht⟩
 | .agg cs,v,h=>by
  simp only[S] at h⊢
  obtain⟨vs,hv,ht⟩:=h
  exact⟨vs,hv,SL.frame hn hI hH cs _ ht⟩
 | .tup xs,v,h=>by
  simp only[S] at h⊢
  obtain⟨vs,hv,ht⟩:=h
  exact⟨vs,hv,SV.frame hn hI hH xs _ ht⟩
 | .ow _ _,v,h=>by simp only[S] at h
 | .op _,v,h=>by simp only[S] at h
 | .any,v,h=>by simp only[S]
 | .con u,v,h=>by simpa only[S] using h
 | .int k m,v,h=>by simpa only[S] using h
 | .bool b,v,h=>by simpa only[S] using h
 | .str s,v,h=>by simpa only[S] using h
 | .nil,v,h=>by simpa only[S] using h
 | .sl es,v,h=>by simp only[S] at h⊢;exact T.frame hI _ _ _ h (by simp)
 | .pf cs,v,h=>by simp only[S] at h⊢;exact T.frame hI _ _ _ h (by simp)
theorem SL.frame(hn:n≤n')(hI: ∀b,I b→I' b∧w'.heap[b]?=w.heap[b]?)(hH: ∀id,id<n→ ∀sub h,HdOf hd w id sub h→HdOf hd' w' id sub h):
  ∀(xs:List AV) (vs:List Value),SL hd n w I xs vs→SL hd' n' w' I' xs vs
 | [],vs,h=>by simpa only[SL] using h
 | x::xs,vs,h=>by
  simp only[SL] at h⊢
  obtain⟨v,vs',rfl,h1,hx,hxs⟩:=h
  exact⟨v,vs',rfl,h1,S.frame hn hI hH x v hx,SL.frame hn hI hH xs vs' hxs⟩
theorem SV.frame(hn:n≤n')(hI: ∀b,I b→I' b∧w'.heap[b]?=w.heap[b]?)(hH: ∀id,id<n→ ∀sub h,HdOf hd w id sub h→HdOf hd' w' id sub h):
  ∀(xs:List AV) (vs:List Value),SV hd n w I xs vs→SV hd' n' w' I' xs vs
 | [],vs,h=>by simpa only[SV] using h
 | x::xs,vs,h=>by
  simp only[SV] at h⊢
  obtain⟨v,vs',rfl,hx,hxs⟩:=h
  exact⟨v,vs',rfl,S.frame hn hI hH x v hx,SV.frame hn hI hH xs vs' hxs⟩
end
end frame
theorem SL.length{hd:Nat→Value}{n:Nat}{w:World}{I:Nat→Prop}: ∀{xs:List AV} {vs:List Value},SL hd n w I xs vs→vs.length=xs.length
 | [],vs,h=>by simp only[SL] at h;simp[h]
 | x::xs,vs,h=>by
  simp only[SL] at h
  obtain⟨v,vs',rfl,h1,hx,hxs⟩:=h
  simp[SL.length hxs]
theorem SL.get{hd:Nat→Value}{n:Nat}{w:World}{I:Nat→Prop}: ∀{xs:List AV} {vs:List Value},SL hd n w I xs vs→ ∀{j:Nat} {x:AV},xs[j]?=some x→ ∃v,vs[j]?=some v∧v.oneCell'=true∧S hd n w I x v
 | [],vs,h,j,x,hx=>by simp at hx
 | y::xs,vs,h,j,x,hx=>by
  simp only[SL] at h
  obtain⟨v,vs',rfl,h1,hy,hxs⟩:=h
  cases j with
  | zero=>simp at hx;subst hx;exact⟨v,by simp,h1,hy⟩
  | succ j=>
   simp at hx
   obtain⟨u,hu,h1',hT⟩:=SL.get hxs hx
   exact⟨u,by simpa using hu,h1',hT⟩
theorem SV.get{hd:Nat→Value}{n:Nat}{w:World}{I:Nat→Prop}: ∀{xs:List AV} {vs:List Value},SV hd n w I xs vs→ ∀{j:Nat} {x:AV},xs[j]?=some x→ ∃v,vs[j]?=some v∧S hd n w I x v
 | [],vs,h,j,x,hx=>by simp at hx
 | y::xs,vs,h,j,x,hx=>by
  simp only[SV] at h
  obtain⟨v,vs',rfl,hy,hxs⟩:=h
  cases j with
  | zero=>simp at hx;subst hx;exact⟨v,by simp,hy⟩
  | succ j=>
   simp at hx
   obtain⟨u,hu,hT⟩:=SV.get hxs hx
   exact⟨u,by simpa using hu,hT⟩
theorem SL.ones{hd:Nat→Value}{n:Nat}{w:World}{I:Nat→Prop}: ∀{xs:List AV} {vs:List Value},SL hd n w I xs vs→ ∀v∈vs,v.oneCell'=true
 | [],vs,h,v,hv=>by simp only[SL] at h;simp[h] at hv
 | y::xs,vs,h,v,hv=>by
  simp only[SL] at h
  obtain⟨u,vs',rfl,h1,hy,hxs⟩:=h
  rcases List.mem_cons.1 hv with rfl | hv
  ·exact h1
  ·exact SL.ones hxs v hv
def ObjR(hd:Nat→Value)(n:Nat)(w:World)(I:Nat→Prop):Ob→Value→List Nat→Prop
 | .slice sz es,h,F=>T w I (.ow sz es) h F
 | .var cs,h,F=> ∃b cur e,h= .pointer (some ⟨b,0,none⟩)∧w.heap[b]?=some (.cells cur e (0,0))∧SL hd n w I cs cur.toList∧F=[b]
abbrev Glo:=Nat→Option (List AV)
def GloT(w:World)(I:Nat→Prop)(g:Nat)(cs:List AV):Prop:=T w I (.pf cs) (.pointer (some ⟨g,0,none⟩)) []∧ ∃vs t fr,w.heap[g]?=some (.cells vs t fr)∧vs.size=cs.length
theorem GloT.frame{w w':World}{I I':Nat→Prop}{g:Nat}{cs:List AV}(h:GloT w I g cs)(hI: ∀b,I b→I' b∧w'.heap[b]?=w.heap[b]?):GloT w' I' g cs:=by
 obtain⟨h1,vs,t,fr,h2,h3⟩:=h
 refine⟨T.frame hI _ _ _ h1 (by simp),vs,t,fr,?_,h3⟩
 simp only[T] at h1
 obtain⟨_,b,o,us,e,hb,_⟩:=h1
 cases e
 rw[(hI _ hb).2];exact h2
structure HR(G:Glo)(M I:Nat→Prop)(h:Heap)(n:Nat)(hd:Nat→Value)(Fp:Nat→List Nat)(w:World):Prop where
 obj: ∀id o,hget h id=some o→ObjR hd n w I o (hd id) (Fp id)
 imm: ∀b,I b→b<w.heap.size∧ ∀id o,hget h id=some o→b∉Fp id
 nodup: ∀id o,hget h id=some o→(Fp id).Nodup
 disj: ∀id o id' o',hget h id=some o→hget h id'=some o'→id≠id'→ ∀b∈Fp id,b∉Fp id'
 mine: ∀id o,hget h id=some o→ ∀b∈Fp id,M b
 next: ∀id o,hget h id=some o→id<n
 news: ∀b,w.heap.size≤b→M b
 glo: ∀g cs,G g=some cs→GloT w I g cs
structure SR(G:Glo)(M I:Nat→Prop)(s:St)(hd:Nat→Value)(Fp:Nat→List Nat)(a:Act)(w:World):Prop where
 heap:HR G M I s.heap s.next hd Fp w
 len:s.tmps.length=a.tmps.size
 slots: ∀t,S hd s.next w I (s.tmps.getD t .any) (a.tmps.getD t undef)
 defers:a.defers=[]
structure Keep(M:Nat→Prop)(w w':World):Prop where
 os:w'.os=w.os
 tape:w'.tape=w.tape
 output:w'.output=w.output
 size:w.heap.size≤w'.heap.size
 block: ∀b,b<w.heap.size→ ¬M b→w'.heap[b]?=w.heap[b]?
theorem Keep.refl(M:Nat→Prop)(w:World):Keep M w w:=⟨rfl,rfl,rfl,Nat.le_refl _,fun _ _ _=>rfl⟩
theorem Keep.trans{M:Nat→Prop}{w w1 w2:World}(h:Keep M w w1)(k:Keep M w1 w2):Keep M w w2:=
 ⟨k.os.trans h.os,k.tape.trans h.tape,k.output.trans h.output,Nat.le_trans h.size k.size,fun b hb hm=>(k.block b (Nat.lt_of_lt_of_le hb h.size) hm).trans (h.block b hb hm)⟩
theorem Keep.mono{M M':Nat→Prop}{w w1:World}(h:Keep M w w1)(hM: ∀b,b<w.heap.size→M b→M' b):Keep M' w w1:=
 ⟨h.os,h.tape,h.output,h.size,fun b hb hm=>h.block b hb (fun hx=>hm (hM b hb hx))⟩
mutual
theorem T.lt{w:World}{I:Nat→Prop}: ∀(x:AV) (v:Value) (F:List Nat),T w I x v F→ ∀b∈F,b<w.heap.size
 | .any,v,F,h,b,hb=>by simp only[T] at h;simp[h] at hb
 | .con u,v,F,h,b,hb=>by simp only[T] at h;simp[h.2] at hb
 | .int k n,v,F,h,b,hb=>by simp only[T] at h;simp[h.2] at hb
 | .bool _,v,F,h,b,hb=>by simp only[T] at h;simp[h.2] at hb
 | .str s,v,F,h,b,hb=>by simp only[T] at h;simp[h.2] at hb
 | .nil,v,F,h,b,hb=>by simp only[T] at h;simp[h.2] at hb
 | .sl es,v,F,h,b,hb=>by simp only[T] at h;simp[h.1] at hb
 | .pf cs,v,F,h,b,hb=>by simp only[T] at h;simp[h.1] at hb
 | .ow sz es,v,F,h,b,hb=>by
  simp only[T] at h
  rcases h with ⟨_,_,rfl⟩ | ⟨b0,o,c,cur,e,vs,Fs,hv,hh,hc,hm,ho,he,hvs,ht,rfl⟩
  ·simp at hb
  ·rcases List.mem_cons.1 hb with rfl | hb
   ·exact lt_of_heap hh
   ·exact TLL.lt es vs Fs ht b hb
 | .op cs,v,F,h,b,hb=>by
  simp only[T] at h
  obtain⟨b0,cur,e,Fs,hv,hh,ht,rfl⟩:=h
  rcases List.mem_cons.1 hb with rfl | hb
  ·exact lt_of_heap hh
  ·exact TL.lt cs _ Fs ht b hb
 | .fn f caps,v,F,h,b,hb=>by
  simp only[T] at h
  obtain⟨vs,hv,ht⟩:=h
  exact TL.lt caps _ F ht b hb
 | .agg cs,v,F,h,b,hb=>by
  simp only[T] at h
  obtain⟨vs,hv,ht⟩:=h
  exact TL.lt cs _ F ht b hb
 | .tup xs,v,F,h,b,hb=>by
  simp only[T] at h
  obtain⟨vs,hv,ht⟩:=h
  exact TV.lt xs _ F ht b hb
 | .ref _ _ _ _ _,v,F,h,b,hb=>by simp only[T] at h
 | .ptr _ _ _ _ _,v,F,h,b,hb=>by simp only[T] at h
theorem TL.lt{w:World}{I:Nat→Prop}: ∀(xs:List AV) (vs:List Value) (F:List Nat),TL w I xs vs F→ ∀b∈F,b<w.heap.size
 | [],vs,F,h,b,hb=>by simp only[TL] at h;simp[h.2] at hb
 | x::xs,vs,F,h,b,hb=>by
  simp only[TL] at h
  obtain⟨v,vs',F1,F2,rfl,rfl,h1,hx,hxs⟩:=h
  rcases List.mem_append.1 hb with hb | hb
  ·exact T.lt x v F1 hx b hb
  ·exact TL.lt xs vs' F2 hxs b hb
theorem TV.lt{w:World}{I:Nat→Prop}: ∀(xs:List AV) (vs:List Value) (F:List Nat),TV w I xs vs F→ ∀b∈F,b<w.heap.size
 | [],vs,F,h,b,hb=>by simp only[TV] at h;simp[h.2] at hb
 | x::xs,vs,F,h,b,hb=>by
  simp only[TV] at h
  obtain⟨v,vs',F1,F2,rfl,rfl,hx,hxs⟩:=h
  rcases List.mem_append.1 hb with hb | hb
  ·exact T.lt x v F1 hx b hb
  ·exact TV.lt xs vs' F2 hxs b hb
theorem TLL.lt{w:World}{I:Nat→Prop}: ∀(xs:List (List AV)) (vs:List Value) (F:List Nat),TLL w I xs vs F→ ∀b∈F,b<w.heap.size
 | [],vs,F,h,b,hb=>by simp only[TLL] at h;simp[h.2] at hb
 | x::xs,vs,F,h,b,hb=>by
  simp only[TLL] at h
  obtain⟨v1,v2,F1,F2,rfl,rfl,hx,hxs⟩:=h
  rcases List.mem_append.1 hb with hb | hb
  ·exact TL.lt x v1 F1 hx b hb
  ·exact TLL.lt xs v2 F2 hxs b hb
end
theorem ObjR.lt{hd:Nat→Value}{n:Nat}{w:World}{I:Nat→Prop}: ∀{o:Ob} {h:Value} {F:List Nat},ObjR hd n w I o h F→ ∀b∈F,b<w.heap.size
 | .slice sz es,h,F,hr,b,hb=>T.lt _ _ _ hr b hb
 | .var cs,h,F,hr,b,hb=>by
  obtain⟨b0,cur,e,rfl,hh,_,rfl⟩:=hr
  simp at hb;subst hb;exact lt_of_heap hh
theorem eqs_hget:True:=by
 have:= @hget.eq_1
 trivial
theorem eqs_hset:True:=by
 have:= @hset.eq_1
 trivial
end Go.Proofs.YthggfnefjbckeaaGreatDoor.X
set_option linter.unusedVariables false
set_option linter.unusedSimpArgs false
namespace Go.Proofs.YthggfnefjbckeaaGreatDoor.X
open Go
def St.put(s:St)(dst:Option Nat)(v:AV):St:=⟨match dst with | some d=>s.tmps.set d v | none=>s.tmps,s.heap,s.next⟩
structure Fr(I I':Nat→Prop)(n n':Nat)(hd hd':Nat→Value)(w w':World):Prop where
 le:n≤n'
 im: ∀b,I b→I' b∧w'.heap[b]?=w.heap[b]?
 hds: ∀id,id<n→ ∀sub v,HdOf hd w id sub v→HdOf hd' w' id sub v
theorem Fr.refl(I:Nat→Prop)(n:Nat)(hd:Nat→Value)(w:World):Fr I I n n hd hd w w:=⟨Nat.le_refl _,fun _ h=>⟨h,rfl⟩,fun _ _ _ _ h=>h⟩
theorem Fr.trans{I I' I2:Nat→Prop}{n n' n2:Nat}{hd hd' hd2:Nat→Value}{w w' w2:World}(h:Fr I I' n n' hd hd' w w')(k:Fr I' I2 n' n2 hd' hd2 w' w2):Fr I I2 n n2 hd hd2 w w2:=
 ⟨Nat.le_trans h.le k.le,fun b hb=>⟨(k.im b (h.im b hb).1).1,(k.im b (h.im b hb).1).2.trans (h.im b hb).2⟩,fun id hid sub v hv=>k.hds id (Nat.lt_of_lt_of_le hid h.le) sub v (h.hds id hid sub v hv)⟩
section
variable{I I':Nat→Prop}{n n':Nat}{hd hd':Nat→Value}{w w':World}(fr:Fr I I' n n' hd hd' w w')
include fr
theorem Fr.S{x:AV}{v:Value}(h:S hd n w I x v):X.S hd' n' w' I' x v:=S.frame fr.le fr.im fr.hds x v h
theorem Fr.SL{x:List AV}{v:List Value}(h:SL hd n w I x v):X.SL hd' n' w' I' x v:=SL.frame fr.le fr.im fr.hds x v h
theorem Fr.T{x:AV}{v:Value}{F:List Nat}(h:T w I x v F)(hF: ∀b∈F,w'.heap[b]?=w.heap[b]?):X.T w' I' x v F:=T.frame fr.im x v F h hF
theorem Fr.O{o:Ob}{v:Value}{F:List Nat}(h:ObjR hd n w I o v F)(hF: ∀b∈F,w'.heap[b]?=w.heap[b]?):ObjR hd' n' w' I' o v F:=by
 cases o with
 | slice sz es=>exact fr.T h hF
 | var cs=>
  obtain⟨b,cur,e,rfl,hh,hs,rfl⟩:=h
  exact⟨b,cur,e,rfl,(hF b (by simp)).trans hh,fr.SL hs,rfl⟩
end
theorem getD_set_eq{α:Type}(l:List α)(d:Nat)(v x:α)(t:Nat):(l.set d v).getD t x=if d=t∧d<l.length then v else l.getD t x:=by
 simp only[List.getD_eq_getElem?_getD,List.getElem?_set]
 by_cases h:d=t
 ·subst h
  by_cases hl:d<l.length
  ·simp[hl]
  ·simp[hl]
 ·simp[h]
theorem agetD_set_eq(l:Array Value)(d:Nat)(v x:Value)(t:Nat):(l.setIfInBounds d v).getD t x=if d=t∧d<l.size then v else l.getD t x:=by
 simp only[Array.getD_eq_getD_getElem?,Array.getElem?_setIfInBounds]
 by_cases h:d=t
 ·subst h
  by_cases hl:d<l.size
  ·simp[hl]
  ·simp[hl]
 ·simp[h]
section
variable{G:Glo}{M I:Nat→Prop}{s:St}{hd:Nat→Value}{Fp:Nat→List Nat}{a:Act}{w:World}
theorem SR.put(h:SR G M I s hd Fp a w)(dst:Option Nat){av:AV}{v:Value}(hv:S hd s.next w I av v):SR G M I (s.put dst av) hd Fp (a.put dst v) w:=by
 cases dst with
 | none=>exact h
 | some d=>
  refine⟨h.heap,by simp[St.put,Act.put,h.len],fun t=>?_,h.defers⟩
  simp only[St.put,Act.put,getD_set_eq,agetD_set_eq]
  have hl:=h.len
  by_cases hc:d=t∧d<s.tmps.length
  ·rw[if_pos hc,if_pos ⟨hc.1,by omega⟩]
   exact hv
  ·rw[if_neg hc,if_neg (fun hx=>hc ⟨hx.1,by omega⟩)]
   exact h.slots t
theorem SR.move(h:SR G M I s hd Fp a w){M' I':Nat→Prop}{h':Heap}{n':Nat}{hd':Nat→Value}{Fp':Nat→List Nat}{w':World}(hr:HR G M' I' h' n' hd' Fp' w')(fr:Fr I I' s.next n' hd hd' w w'):
  SR G M' I' ⟨s.tmps,h',n'⟩ hd' Fp' a w':=
 ⟨hr,h.len,fun t=>fr.S (h.slots t),h.defers⟩
end
section
variable{G:Glo}{M I:Nat→Prop}{h:Heap}{n:Nat}{hd:Nat→Value}{Fp:Nat→List Nat}{w w':World}
theorem HR.ltB(hr:HR G M I h n hd Fp w){id:Nat}{o:Ob}(ho:hget h id=some o): ∀b∈Fp id,b<w.heap.size:=(hr.obj id o ho).lt
theorem HR.fr(hr:HR G M I h n hd Fp w)(hs:w.heap.size≤w'.heap.size)(hb: ∀b,b<w.heap.size→w'.heap[b]?=w.heap[b]?):Fr I I n n hd hd w w':=by
 refine⟨Nat.le_refl _,fun b hx=>⟨hx,hb b (hr.imm b hx).1⟩,?_⟩
 intro id _ sub v hx
 cases sub with
 | none=>exact hx
 | some p=>
  obtain⟨szo,i,c⟩:=p
  simp only[HdOf] at hx⊢
  obtain⟨A,m,k,hsl,hA | ⟨b,o,hbo,hc⟩⟩:=hx
  ·exact⟨A,m,k,hsl,.inl hA⟩
  exact⟨A,m,k,hsl,.inr ⟨b,o,hbo,(World.cell?_of_block (a:=⟨b,o+(i*szo+c),none⟩) (hb b (World.block_lt_of_cell? w _ hc))).trans hc⟩⟩
theorem HR.grown(hr:HR G M I h n hd Fp w)(hs:w.heap.size≤w'.heap.size)(hb: ∀b,b<w.heap.size→w'.heap[b]?=w.heap[b]?):HR G M I h n hd Fp w':=by
 have fr:=hr.fr hs hb
 refine⟨fun id o ho=>fr.O (hr.obj id o ho) (fun b hb'=>hb b (hr.ltB ho b hb')),fun b hx=>⟨Nat.lt_of_lt_of_le (hr.imm b hx).1 hs,(hr.imm b hx).2⟩,hr.nodup,hr.disj,hr.mine,hr.next,
  fun b hx=>hr.news b (Nat.le_trans hs hx),fun g cs hg=>(hr.glo g cs hg).frame fr.im⟩
def upd{α:Type}(f:Nat→α)(i:Nat)(v:α):Nat→α:=fun j=>if i=j then v else f j
@[simp] theorem upd_same {α:Type} (f:Nat→α) (i:Nat) (v:α):upd f i v i=v:=by simp[upd]
theorem upd_ne{α:Type}(f:Nat→α){i j:Nat}(v:α)(h:i≠j):upd f i v j=f j:=by simp[upd,h]
theorem Fr.new(I:Nat→Prop)(n:Nat)(hd:Nat→Value)(w:World)(v:Value):Fr I I n (n+1) hd (upd hd n v) w w:=by
 refine⟨Nat.le_succ _,fun b hb=>⟨hb,rfl⟩,fun id hid sub u hu=>?_⟩
 have e:(upd hd n v) id=hd id:=upd_ne _ _ (by omega)
 cases sub with
 | none=>simp only[HdOf] at hu⊢;rw[e];exact hu
 | some p=>obtain⟨x,y,z⟩:=p;simp only[HdOf] at hu⊢;rw[e];exact hu
theorem HR.add(hr:HR G M I h n hd Fp w)(o:Ob)(v:Value)(F:List Nat)(hF:F.Nodup)(hM: ∀b∈F,M b)(hI: ∀b∈F,¬I b)(hd0: ∀id u,hget h id=some u→ ∀b∈Fp id,b∉F)
  (ho: ∀hd',(∀id,id<n→hd' id=hd id)→ObjR hd' (n+1) w I o v F):
  HR G M I ((n,o)::h) (n+1) (upd hd n v) (upd Fp n F) w:=by
 have fr:=Fr.new I n hd w v
 refine⟨fun id u hu=>?_,fun b hb=>⟨(hr.imm b hb).1,fun id u hu=>?_⟩,fun id u hu=>?_,fun id u id' u' hu hu' hne=>?_,fun id u hu b hbm=>?_,fun id u hu=>?_,hr.news,hr.glo⟩
 ·by_cases hid:n=id
  ·subst hid
   simp only[hget,if_true,Option.some.injEq] at hu
   subst hu
   simp only[upd_same]
   exact ho _ (fun id hlt=>upd_ne _ _ (by omega))
  ·simp only[hget,hid,if_false] at hu
   rw[upd_ne _ _ hid,upd_ne _ _ hid]
   exact fr.O (hr.obj id u hu) (fun _ _=>rfl)
 ·by_cases hid:n=id
  ·subst hid;simp only[upd_same];exact fun hm=>hI b hm hb
  ·simp only[hget,hid,if_false] at hu
   rw[upd_ne _ _ hid];exact(hr.imm b hb).2 id u hu
 ·by_cases hid:n=id
  ·subst hid;simp only[upd_same];exact hF
  ·simp only[hget,hid,if_false] at hu
   rw[upd_ne _ _ hid];exact hr.nodup id u hu
 ·intro b hb1
  by_cases hid:n=id
  ·subst hid
   have hid':n≠id':=hne
   simp only[hget,hid',if_false] at hu'
   rw[upd_ne _ _ hid']
   simp only[upd_same] at hb1
   exact fun hb2=>hd0 id' u' hu' b hb2 hb1
  ·simp only[hget,hid,if_false] at hu
   rw[upd_ne _ _ hid] at hb1
   by_cases hid':n=id'
   ·subst hid'
    simp only[upd_same]
    exact hd0 id u hu b hb1
   ·simp only[hget,hid',if_false] at hu'
    rw[upd_ne _ _ hid']
    exact hr.disj id u id' u' hu hu' hne b hb1
 ·by_cases hid:n=id
  ·subst hid;simp only[upd_same] at hbm;exact hM b hbm
  ·simp only[hget,hid,if_false] at hu
   rw[upd_ne _ _ hid] at hbm
   exact hr.mine id u hu b hbm
 ·by_cases hid:n=id
  ·omega
  ·simp only[hget,hid,if_false] at hu
   have:=hr.next id u hu
   omega
theorem HR.del(hr:HR G M I h n hd Fp w)(id:Nat):HR G M I (hdel h id) n hd Fp w:=by
 have hg: ∀j u,hget (hdel h id) j=some u→hget h j=some u:=by
  intro j u hu
  rw[hget_del] at hu
  split at hu
  ·cases hu
  ·exact hu
 exact⟨fun j u hu=>hr.obj j u (hg j u hu),fun b hb=>⟨(hr.imm b hb).1,fun j u hu=>(hr.imm b hb).2 j u (hg j u hu)⟩,fun j u hu=>hr.nodup j u (hg j u hu),
  fun j u j' u' hu hu'=>hr.disj j u j' u' (hg j u hu) (hg j' u' hu'),fun j u hu=>hr.mine j u (hg j u hu),fun j u hu=>hr.next j u (hg j u hu),hr.news,hr.glo⟩
theorem HR.freeze(hr:HR G M I h n hd Fp w)(F:List Nat)(hlt: ∀b∈F,b<w.heap.size)(hno: ∀id u,hget h id=some u→ ∀b∈Fp id,b∉F):HR G M (fun b=>I b∨b∈F) h n hd Fp w:=by
 have fr:Fr I (fun b=>I b∨b∈F) n n hd hd w w:=⟨Nat.le_refl _,fun b hb=>⟨.inl hb,rfl⟩,fun _ _ _ _ h=>h⟩
 refine⟨fun j u hu=>fr.O (hr.obj j u hu) (fun _ _=>rfl),fun b hb=>?_,hr.nodup,hr.disj,hr.mine,hr.next,hr.news,fun g cs hg=>(hr.glo g cs hg).frame fr.im⟩
 rcases hb with hb | hb
 ·exact hr.imm b hb
 ·exact⟨hlt b hb,fun id o ho hm=>hno id o ho b hm hb⟩
theorem HR.setG(hr:HR G M I h n hd Fp w){id:Nat}{o:Ob}(ho:hget h id=some o)(o':Ob)(hs:w'.heap.size=w.heap.size)(F:List Nat)(hF:F.Nodup)(hM: ∀b∈F,M b)(hI: ∀b∈F,¬I b)
  (hD: ∀j u,hget h j=some u→j≠id→ ∀b∈Fp j,b∉F)
  (hobj: ∀j u,hget h j=some u→j≠id→ObjR hd n w' I u (hd j) (Fp j)) (hglo: ∀g cs,G g=some cs→GloT w' I g cs) (hno:ObjR hd n w' I o' (hd id) F):
  HR G M I (hset h id o') n hd (upd Fp id F) w':=by
 have hg: ∀j u,hget (hset h id o') j=some u→(j=id∧u=o')∨(j≠id∧hget h j=some u):=by
  intro j u hu
  rw[hget_set] at hu
  by_cases hj:id=j
  ·subst hj;simp[ho] at hu;exact .inl ⟨rfl,hu.symm⟩
  ·simp only[hj,if_false] at hu;exact .inr ⟨Ne.symm hj,hu⟩
 refine⟨fun j u hu=>?_,fun b hx=>⟨by rw[hs];exact(hr.imm b hx).1,fun j u hu=>?_⟩,fun j u hu=>?_,fun j u j' u' hu hu' hne=>?_,fun j u hu b hbm=>?_,fun j u hu=>?_,fun b hx=>hr.news b (by rw[hs] at hx;exact hx),
  hglo⟩
 ·rcases hg j u hu with ⟨rfl,rfl⟩ | ⟨hj,hu⟩
  ·simp only[upd_same];exact hno
  ·rw[upd_ne _ _ (Ne.symm hj)]
   exact hobj j u hu hj
 ·rcases hg j u hu with ⟨rfl,rfl⟩ | ⟨hj,hu⟩
  ·simp only[upd_same];exact fun hm=>hI b hm hx
  ·rw[upd_ne _ _ (Ne.symm hj)];exact(hr.imm b hx).2 j u hu
 ·rcases hg j u hu with ⟨rfl,rfl⟩ | ⟨hj,hu⟩
  ·simp only[upd_same];exact hF
  ·rw[upd_ne _ _ (Ne.symm hj)];exact hr.nodup j u hu
 ·rcases hg j u hu with ⟨rfl,rfl⟩ | ⟨hj,hu2⟩
  ·rcases hg j' u' hu' with ⟨rfl,rfl⟩ | ⟨hj',hu3⟩
   ·exact absurd rfl hne
   ·simp only[upd_same];rw[upd_ne _ _ (Ne.symm hj')]
    exact fun b hb1 hb2=>hD j' u' hu3 hj' b hb2 hb1
  ·rw[upd_ne _ _ (Ne.symm hj)]
   rcases hg j' u' hu' with ⟨rfl,rfl⟩ | ⟨hj',hu3⟩
   ·simp only[upd_same];exact fun b hb1 hm=>hD j u hu2 hj b hb1 hm
   ·rw[upd_ne _ _ (Ne.symm hj')];exact hr.disj j u j' u' hu2 hu3 hne
 ·rcases hg j u hu with ⟨rfl,rfl⟩ | ⟨hj,hu⟩
  ·simp only[upd_same] at hbm;exact hM b hbm
  ·rw[upd_ne _ _ (Ne.symm hj)] at hbm;exact hr.mine j u hu b hbm
 ·rcases hg j u hu with ⟨rfl,rfl⟩ | ⟨hj,hu⟩
  ·exact hr.next _ o ho
  ·exact hr.next j u hu
theorem HR.set(hr:HR G M I h n hd Fp w){id:Nat}{o:Ob}(ho:hget h id=some o)(o':Ob)(hs:w'.heap.size=w.heap.size)(F:List Nat)(hF:F.Nodup)(hM: ∀b∈F,M b)(hI: ∀b∈F,¬I b)
  (hD: ∀j u,hget h j=some u→j≠id→ ∀b∈Fp j,b∉F) (hb: ∀b,b∉Fp id→w'.heap[b]?=w.heap[b]?)
  (fr:Fr I I n n hd hd w w') (hno:ObjR hd n w' I o' (hd id) F):HR G M I (hset h id o') n hd (upd Fp id F) w':=
 hr.setG ho o' hs F hF hM hI hD (fun j u hu hj=>fr.O (hr.obj j u hu) (fun b hb'=>hb b (hr.disj j u id o hu ho hj b hb'))) (fun g cs hg=>(hr.glo g cs hg).frame fr.im) hno
theorem HR.notI(hr:HR G M I h n hd Fp w){id:Nat}{o:Ob}(ho:hget h id=some o): ∀b∈Fp id,¬I b:=fun b hb hx=>(hr.imm b hx).2 id o ho hb
end
end Go.Proofs.YthggfnefjbckeaaGreatDoor.X
set_option linter.unusedVariables false
set_option linter.unusedSimpArgs false
namespace Go.Proofs.YthggfnefjbckeaaGreatDoor.X
open Go
def ofC:Value→AV
 | .int k n=> .int k n
 | .bool b=> .bool b
 | .string s=> .str s
 | .slice none 0 0=> .nil
 | v=> .con v
def ofV:Value→AV
 | .agg cs=>if cs.toList.all (·.oneCell') then .agg (cs.toList.map ofC) else .any
 | .tuple _=> .any
 | v=>ofC v
theorem ofC_S(hd:Nat→Value)(n:Nat)(w:World)(I:Nat→Prop)(v:Value):S hd n w I (ofC v) v:=by
 unfold ofC
 split<;>simp[S]
theorem ofC_SL(hd:Nat→Value)(n:Nat)(w:World)(I:Nat→Prop): ∀vs:List Value,(∀v∈vs,v.oneCell'=true)→SL hd n w I (vs.map ofC) vs
 | [],_=>by simp[SL]
 | v::vs,h=>by
  simp only[List.map_cons,SL]
  exact⟨v,vs,rfl,h v (by simp),ofC_S hd n w I v,ofC_SL hd n w I vs (fun u hu=>h u (by simp[hu]))⟩
theorem ofV_S(hd:Nat→Value)(n:Nat)(w:World)(I:Nat→Prop)(v:Value):S hd n w I (ofV v) v:=by
 unfold ofV
 split
 ·split
  ·rename_i cs h
   simp only[S]
   exact⟨cs,rfl,ofC_SL hd n w I _ (List.all_eq_true.1 h)⟩
  ·simp[S]
 ·simp[S]
 ·exact ofC_S hd n w I v
inductive TK where
 | slice (e:TypeId)
 | array (n:Nat) (e:TypeId)
 | struct (fs:List (Nat×Nat))
 | str
 | bool
 | int (k:IntKind)
 | ptr (e:TypeId)
 | other
def szOf(P:Program)(t:TypeId):Nat:=(P.info? t).elim 0 (·.size)
def byOf(P:Program)(t:TypeId):Nat:=(P.info? t).elim 0 (·.bytes)
def tk(P:Program)(t:TypeId):TK:=
 match P.underlying t with
 | some (.slice e)=> .slice e
 | some (.array n e)=> .array n e
 | some (.struct fs)=> .struct (fs.toList.map fun f=>(f.offset,szOf P f.type))
 | some .string=> .str
 | some .bool=> .bool
 | some (.int k)=> .int k
 | some (.pointer e)=> .ptr e
 | _=> .other
section
variable{P:Program}{t e:TypeId}
theorem tk_slice(h:tk P t= .slice e):P.underlying t=some (.slice e):=by
 unfold tk at h;split at h<;>simp_all
theorem tk_array{n:Nat}(h:tk P t= .array n e):P.underlying t=some (.array n e):=by
 unfold tk at h;split at h<;>simp_all
theorem tk_struct{fs:List (Nat×Nat)}(h:tk P t= .struct fs): ∃f,P.underlying t=some (.struct f)∧fs=f.toList.map fun f=>(f.offset,szOf P f.type):=by
 unfold tk at h;split at h<;>simp_all
theorem tk_str(h:tk P t= .str):P.underlying t=some .string:=by
 unfold tk at h;split at h<;>simp_all
theorem tk_bool(h:tk P t= .bool):P.underlying t=some .bool:=by
 unfold tk at h;split at h<;>simp_all
theorem tk_int{k:IntKind}(h:tk P t= .int k):P.underlying t=some (.int k):=by
 unfold tk at h;split at h<;>simp_all
theorem szOf_pos(h:szOf P t≠0): ∃i,P.info? t=some i∧i.size=szOf P t:=by
 unfold szOf at h⊢
 cases hi:P.info? t with
 | none=>simp[hi] at h
 | some i=>exact⟨i,rfl,by simp⟩
end
def ev(G:Glo)(s:St):Operand→AV
 | .tmp t=>s.tmps.getD t .any
 | .const v=>ofV v
 | .global g=>match G g with | some cs=> .pf cs | none=> .any
 | .func f=> .fn f []
theorem ev_sound{G:Glo}{M I:Nat→Prop}{s:St}{hd:Nat→Value}{Fp:Nat→List Nat}{a:Act}{w:World}(h:SR G M I s hd Fp a w)(x:Operand):S hd s.next w I (ev G s x) (a.eval x):=by
 cases x with
 | tmp t=>exact h.slots t
 | const v=>exact ofV_S hd _ w I v
 | global g=>
  simp only[ev,Act.eval]
  cases hg:G g with
  | none=>simp[S]
  | some cs=>simp only[S];exact(h.heap.glo g cs hg).1
 | func f=>simp[ev,Act.eval,S,SL]
structure Ext(M I I':Nat→Prop)(B:Nat)(hd hd':Nat→Value)(w w':World):Prop where
 keep:Keep M w w'
 im: ∀b,I b→I' b∧w'.heap[b]?=w.heap[b]?
 hds: ∀id,id<B→hd' id=hd id
 old: ∀b,I' b→I b∨M b
theorem Ext.refl(M I:Nat→Prop)(B:Nat)(hd:Nat→Value)(w:World):Ext M I I B hd hd w w:=⟨Keep.refl _ _,fun _ h=>⟨h,rfl⟩,fun _ _=>rfl,fun _ h=> .inl h⟩
theorem Ext.trans{M I I' I2:Nat→Prop}{B:Nat}{hd hd' hd2:Nat→Value}{w w' w2:World}(h:Ext M I I' B hd hd' w w')(k:Ext M I' I2 B hd' hd2 w' w2):Ext M I I2 B hd hd2 w w2:=
 ⟨h.keep.trans k.keep,fun b hb=>⟨(k.im b (h.im b hb).1).1,(k.im b (h.im b hb).1).2.trans (h.im b hb).2⟩,fun id hid=>(k.hds id hid).trans (h.hds id hid),fun b hb=>(k.old b hb).elim (h.old b) .inr⟩
theorem Ext.less{M I I':Nat→Prop}{B B':Nat}{hd hd':Nat→Value}{w w':World}(h:Ext M I I' B hd hd' w w')(hB:B'≤B):Ext M I I' B' hd hd' w w':=⟨h.keep,h.im,fun id hid=>h.hds id (Nat.lt_of_lt_of_le hid hB),h.old⟩
def OpRes(G:Glo)(M I:Nat→Prop)(s:St)(hd:Nat→Value)(a:Act)(w:World)(K:AV→St→Prop)(r:Next)(w':World):Prop:=
 ∃v av s' I' hd' Fp',(r= .value v∨(r= .skip∧v=undef))∧K av s'∧S hd' s'.next w' I' av v∧SR G M I' s' hd' Fp' a w'∧Ext M I I' s.next hd hd' w w'∧s.next≤s'.next
def OpOk(P:Program)(G:Glo)(M I:Nat→Prop)(s:St)(hd:Nat→Value)(a:Act)(w:World)(K:AV→St→Prop)(m:Sem Next):Prop:=
 ∃r w',m.run P w= .ok r w'∧OpRes G M I s hd a w K r w'
section
variable{P:Program}{G:Glo}{M I:Nat→Prop}{s:St}{hd:Nat→Value}{Fp:Nat→List Nat}{a:Act}{w:World}{K:AV→St→Prop}
theorem OpOk.pure(h:SR G M I s hd Fp a w){m:Sem Next}{v:Value}{av:AV}(hm:m.run P w= .ok (.value v) w)(hv:S hd s.next w I av v)(hK:K av s):OpOk P G M I s hd a w K m:=
 ⟨_,w,hm,v,av,s,I,hd,Fp,.inl rfl,hK,hv,h,Ext.refl _ _ _ _ _,Nat.le_refl _⟩
end
def SameB(w w':World):Prop:=w.heap.size≤w'.heap.size∧ ∀b,b<w.heap.size→w'.heap[b]?=w.heap[b]?
theorem SameB.refl(w:World):SameB w w:=⟨Nat.le_refl _,fun _ _=>rfl⟩
theorem SameB.trans{w w1 w2:World}(h:SameB w w1)(k:SameB w1 w2):SameB w w2:=⟨Nat.le_trans h.1 k.1,fun b hb=>(k.2 b (Nat.lt_of_lt_of_le hb h.1)).trans (h.2 b hb)⟩
theorem SameB.cell{w w':World}(h:SameB w w'){b o:Nat}{v:Value}(hc:w.cell? ⟨b,o,none⟩=some v):w'.cell? ⟨b,o,none⟩=some v:=by
 have hb:b<w.heap.size:=by
  rcases Nat.lt_or_ge b w.heap.size with g | g
  ·exact g
  ·simp[World.cell?,Array.getElem?_eq_none g] at hc
 unfold World.cell? at hc⊢
 simp only at hc⊢
 rw[h.2 b hb];exact hc
def intK(op:BinOp)(k:IntKind)(a b:Int)(K:AV→Prop):Prop:=
 match op with
 | .add=>K (.int k (k.wrap (a+b)))
 | .sub=>K (.int k (k.wrap (a-b)))
 | .mul=>K (.int k (k.wrap (a*b)))
 | .quo=>b≠0∧K (.int k (k.wrap (a.tdiv b)))
 | .rem=>b≠0∧K (.int k (a.tmod b))
 | .eql=>K (.bool (a==b))
 | .neq=>K (.bool (a !=b))
 | .lss=>K (.bool (decide (a<b)))
 | .leq=>K (.bool (decide (a≤b)))
 | .gtr=>K (.bool (decide (a>b)))
 | .geq=>K (.bool (decide (a≥b)))
 | _=>False
def strK(op:BinOp)(a b:ByteArray)(K:AV→Prop):Prop:=
 match op with
 | .add=>((a.size+b.size:Nat):Int)≤9223372036854775807∧K (.str (a++b))
 | .eql=>K (.bool (a.toList==b.toList))
 | .neq=>K (.bool (!(a.toList==b.toList)))
 | .lss=>K (.bool (Op.bytesLess a.toList b.toList))
 | .leq=>K (.bool (Op.bytesLess a.toList b.toList||a.toList==b.toList))
 | .gtr=>K (.bool (!(Op.bytesLess a.toList b.toList||a.toList==b.toList)))
 | .geq=>K (.bool (!Op.bytesLess a.toList b.toList))
 | _=>False
def isInts:List AV→List AV→Bool
 | [],[]=>true
 | .int k a::xs,.int k' b::ys=>k=k'&&isInts xs ys
 | _,_=>false
def eqInts:List AV→List AV→Bool
 | .int _ a::xs,.int _ b::ys=>a==b&&eqInts xs ys
 | _,_=>true
def flatF(P:Program):Nat→List Field→Bool
 | _,[]=>true
 | i,f::fs=>f.name != "_" &&f.offset==i&&(match P.underlying f.type with | some (.int _)=>true | _=>false)&&flatF P (i+1) fs
def flatS(P:Program)(t:TypeId):Option Nat:=
 match P.underlying t with
 | some (.struct fs)=>if flatF P 0 fs.toList&&!P.stoodInHeld t&&!P.eqGuardType P.depth t then some fs.size else none
 | _=>none
def aggK(f:Option Nat)(op:BinOp)(xs ys:List AV)(K:AV→Prop):Prop:=
 f=some xs.length∧isInts xs ys=true∧match op with
  | .eql=>K (.bool (eqInts xs ys))
  | .neq=>K (.bool (!eqInts xs ys))
  | _=>False
def binK(P:Program)(op:BinOp)(t:TypeId)(x y:AV)(K:AV→Prop):Prop:=
 match x,y with
 | .int k a,.int k' b=>match op with
  | .shl=>0≤b∧K (.int k (k.wrap (a*2^(min b.toNat k.bits))))
  | .shr=>0≤b∧K (.int k (a.fdiv (2^(min b.toNat k.bits))))
  | _=>k=k'∧intK op k a b K
 | .str a,.str b=>strK op a b K
 | .bool a,.bool b=>match tk P t,op with
  | .bool,.eql=>K (.bool (a==b))
  | .bool,.neq=>K (.bool (!(a==b)))
  | _,_=>False
 | .sl es,.nil=>match tk P t,op with
  | .slice _,.eql=> ∀b:Bool,(b=true→es=[])→K (.bool b)
  | .slice _,.neq=> ∀b:Bool,(b=false→es=[])→K (.bool b)
  | _,_=>False
 | .nil,.nil=>match tk P t,op with
  | .slice _,.eql=>K (.bool true)
  | .slice _,.neq=>K (.bool false)
  | _,_=>False
 | .ref _ none _ _ len,.nil=>match tk P t,op with
  | .slice _,.eql=> ∀b:Bool,(b=true→len=0)→K (.bool b)
  | .slice _,.neq=> ∀b:Bool,(b=false→len=0)→K (.bool b)
  | _,_=>False
 | .agg xs,.agg ys=>aggK (flatS P t) op xs ys K
 | _,_=>False
def unK(op:UnOp)(x:AV)(K:AV→Prop):Prop:=
 match op,x with
 | .neg,.int k n=>K (.int k (k.wrap (0-n)))
 | .not,.bool b=>K (.bool !b)
 | _,_=>False
section
variable{P:Program}{G:Glo}{M I:Nat→Prop}{s:St}{hd:Nat→Value}{Fp:Nat→List Nat}{a:Act}{w:World}
theorem S_int{n:Nat}{k:IntKind}{m:Int}:S hd n w I (.int k m) (.int k m):=by simp[S]
theorem S_bool{n:Nat}{b:Bool}:S hd n w I (.bool b) (.bool b):=by simp[S]
theorem S_str{n:Nat}{b:ByteArray}:S hd n w I (.str b) (.string b):=by simp[S]
theorem intK_sound{op:BinOp}{k:IntKind}{x y:Int}{K:AV→Prop}(h:intK op k x y K)(hs:op≠ .shl∧op≠ .shr)(t:TypeId)(n:Nat):
  ∃v av,(∀w:World,(binOp op t (.int k x) (.int k y)).run P w= .ok v w)∧K av∧S hd n w I av v:=by
 unfold intK at h
 split at h
 all_goals first | exact h.elim | skip
 case h_1=>refine⟨_,_,fun w=>?_,h,S_int⟩;simp[binOp,Op.intArith]
 case h_2=>refine⟨_,_,fun w=>?_,h,S_int⟩;simp[binOp,Op.intArith]
 case h_3=>refine⟨_,_,fun w=>?_,h,S_int⟩;simp[binOp,Op.intArith]
 case h_4=>refine⟨_,_,fun w=>?_,h.2,S_int⟩;simp[binOp,Op.intDiv,h.1]
 case h_5=>refine⟨_,_,fun w=>?_,h.2,S_int⟩;simp[binOp,Op.intDiv,h.1]
 all_goals refine⟨_,_,fun w=>?_,h,S_bool⟩;simp[binOp,Op.intCmp]
theorem strK_sound{op:BinOp}{x y:ByteArray}{K:AV→Prop}(h:strK op x y K)(t:TypeId)(n:Nat):
  ∃v av,(∀w:World,(binOp op t (.string x) (.string y)).run P w= .ok v w)∧K av∧S hd n w I av v:=by
 unfold strK at h
 split at h
 all_goals first | exact h.elim | skip
 case h_1=>
  have h1:=h.1
  have hm:IntKind.i64.max=9223372036854775807:=rfl
  refine⟨_,_,fun w=>?_,h.2,S_str⟩
  simp only[binOp,Op.stringOp,hm]
  rw[if_neg (by omega)]
  rfl
 all_goals refine⟨_,_,fun w=>?_,h,S_bool⟩;simp[binOp,Op.stringOp]
theorem equal_bool{t:TypeId}(ht:P.underlying t=some .bool)(x y:Bool):(Op.equal t (.bool x) (.bool y)).run P w= .ok (x==y) w:=by
 show(Op.equalIn (9999+1) t _ _).run P w=_
 rw[Op.equalIn]
 simp[run_underlying ht]
theorem equal_slice_nil{t e:TypeId}(ht:P.underlying t=some (.slice e))(A:Option Addr)(n c:Nat):(Op.equal t (.slice A n c) (.slice none 0 0)).run P w= .ok A.isNone w:=by
 show(Op.equalIn (9999+1) t _ _).run P w=_
 rw[Op.equalIn]
 cases A<;>simp[run_underlying ht]
theorem flat_run{d:Nat}{us vs:Array Value}{n:Nat}: ∀(fs:List Field) (i:Nat) (xs ys:List AV),flatF P i fs=true→xs.length=fs.length→isInts xs ys=true→SL hd n w I xs (us.toList.drop i)→SL hd n w I ys (vs.toList.drop i)→ ∀w:World,(Op.eqFields (d+1) us vs fs).run P w= .ok (eqInts xs ys) w
 | [],i,xs,ys,_,hl,hi,hx,hy,w0=>by
  obtain rfl:=List.length_eq_zero_iff.1 hl
  cases ys with
  | nil=>simp[Op.eqFields,eqInts]
  | cons y ys=>simp[isInts] at hi
 | f::fs,i,xs,ys,hf,hl,hi,hx,hy,w0=>by
  simp only[flatF,Bool.and_eq_true,bne_iff_ne,ne_eq,beq_iff_eq] at hf
  obtain⟨⟨⟨hn,rfl⟩,ht⟩,hf⟩:=hf
  cases xs with
  | nil=>simp at hl
  | cons x xs=>
   cases ys with
   | nil=>cases x<;>simp[isInts] at hi
   | cons y ys=>
    cases x<;>try (simp[isInts] at hi;done)
    cases y<;>try (simp[isInts] at hi;done)
    rename_i k a k' b
    simp only[isInts,Bool.and_eq_true,decide_eq_true_eq] at hi
    obtain⟨rfl,hi⟩:=hi
    simp only[SL,S] at hx hy
    obtain⟨v1,r1,e1,_,rfl,hx⟩:=hx
    obtain⟨v2,r2,e2,_,rfl,hy⟩:=hy
    have g1:us[f.offset]?=some (.int k a):=by
     have:=congrArg (fun l=>l[0]?) e1
     simpa using this
    have g2:vs[f.offset]?=some (.int k b):=by
     have:=congrArg (fun l=>l[0]?) e2
     simpa using this
    have d1:us.toList.drop (f.offset+1)=r1:=by rw[←List.tail_drop,e1];rfl
    have d2:vs.toList.drop (f.offset+1)=r2:=by rw[←List.tail_drop,e2];rfl
    split at ht
    ·rename_i k0 hu
     have ih:=flat_run (d:=d) fs (f.offset+1) xs ys hf (by simpa using hl) hi (by rw[d1];exact hx) (by rw[d2];exact hy) w0
     simp only[Op.eqFields,hn,ne_eq,not_false_eq_true,if_true,eqInts]
     simp[part,isAgg,run_underlying hu,g1,g2,run_equalIn_int w0 d f.type k k0 a b hu]
     by_cases hab:a=b
     ·simpa [hab] using ih
     ·simp[hab]
    ·cases ht
theorem binK_sound{op:BinOp}{t:TypeId}{x y:AV}{K:AV→Prop}(h:binK P op t x y K){n:Nat}{u v:Value}(hx:S hd n w I x u)(hy:S hd n w I y v):
  ∃r av,(∀w:World,(binOp op t u v).run P w= .ok r w)∧K av∧S hd n w I av r:=by
 unfold binK at h
 split at h
 ·simp only[S] at hx hy
  subst hx;subst hy
  split at h
  ·refine⟨_,_,fun w=>?_,h.2,S_int⟩
   simp[binOp,Op.shift,Int.not_lt.2 h.1]
  ·refine⟨_,_,fun w=>?_,h.2,S_int⟩
   simp[binOp,Op.shift,Int.not_lt.2 h.1]
  ·obtain⟨rfl,h⟩:=h
   exact intK_sound h ⟨by assumption,by assumption⟩ t n
 ·simp only[S] at hx hy
  subst hx;subst hy
  exact strK_sound h t n
 ·simp only[S] at hx hy
  subst hx;subst hy
  split at h
  ·rename_i ht
   refine⟨_,_,fun w=>?_,h,S_bool⟩
   simp[binOp,equal_bool (tk_bool ht)]
  ·rename_i ht
   refine⟨_,_,fun w=>?_,h,S_bool⟩
   simp[binOp,equal_bool (tk_bool ht)]
  ·exact h.elim
 ·simp only[S] at hx hy
  subst hy
  simp only[T] at hx
  obtain⟨_,A,c,rfl,hc,hm,hA⟩:=hx
  split at h
  ·rename_i ht
   refine⟨_,_,fun w=>?_,h A.isNone (fun e=>?_),S_bool⟩
   ·simp[binOp,equal_slice_nil (tk_slice ht)]
   ·rcases hA with hA | ⟨b,o,sz,vs,rfl,_⟩
    ·exact hA
    ·simp at e
  ·rename_i ht
   refine⟨_,_,fun w=>?_,h (!A.isNone) (fun e=>?_),S_bool⟩
   ·simp[binOp,equal_slice_nil (tk_slice ht)]
   ·rcases hA with hA | ⟨b,o,sz,vs,rfl,_⟩
    ·exact hA
    ·simp at e
  ·exact h.elim
 ·simp only[S] at hx hy
  subst hx;subst hy
  split at h
  ·rename_i ht
   refine⟨_,_,fun w=>?_,h,S_bool⟩
   simp[binOp,equal_slice_nil (tk_slice ht)]
  ·rename_i ht
   refine⟨_,_,fun w=>?_,h,S_bool⟩
   simp[binOp,equal_slice_nil (tk_slice ht)]
  ·exact h.elim
 ·simp only[S] at hx hy
  subst hy
  obtain⟨hlt0,h0,hh0,hw⟩:=hx
  rename_i len
  have hA: ∃A c,u= .slice A len c∧(A.isNone=true→len=0):=by
   rcases hw with ⟨b,o,n,c,c',_,rfl,_⟩ | ⟨h1,A,rfl⟩
   ·exact⟨_,_,rfl,by simp⟩
   ·exact⟨A,0,by rw[h1],fun _=>h1⟩
  obtain⟨A,c,rfl,hA⟩:=hA
  split at h
  ·rename_i ht
   refine⟨_,_,fun w=>?_,h A.isNone hA,S_bool⟩
   simp[binOp,equal_slice_nil (tk_slice ht)]
  ·rename_i ht
   refine⟨_,_,fun w=>?_,h (!A.isNone) (fun e=>hA (by simpa using e)),S_bool⟩
   simp[binOp,equal_slice_nil (tk_slice ht)]
  ·exact h.elim
 ·obtain⟨hf,hi,h⟩:=h
  simp only[S] at hx hy
  obtain⟨us,rfl,hx⟩:=hx
  obtain⟨vs,rfl,hy⟩:=hy
  rename_i xs ys
  have hr: ∀w:World,(Op.equalIn 10000 t (.agg us) (.agg vs)).run P w= .ok (eqInts xs ys) w:=by
   intro w0
   unfold flatS at hf
   split at hf
   ·rename_i fs hu
    split at hf
    ·rename_i hc
     simp only[Bool.and_eq_true,Bool.not_eq_true'] at hc
     simp only[Option.some.injEq] at hf
     have hfo:P.fieldsOf t=fs:=by simp[Program.fieldsOf,hu]
     rw[run_equalIn_struct w0 9999 t us vs (by rw[hfo];exact hu) hc.1.2,hfo]
     exact flat_run fs.toList 0 _ _ hc.1.1 (by rw[←hf];simp) hi (by simpa using hx) (by simpa using hy) w0
    ·cases hf
   ·cases hf
  split at h
  ·exact⟨_,_,fun w=>by rw[run_eql_struct,hr];rfl,h,S_bool⟩
  ·exact⟨_,_,fun w=>by rw[run_neq_struct,hr];rfl,h,S_bool⟩
  ·exact h.elim
 ·exact h.elim
theorem binK_guard{op:BinOp}{t:TypeId}{x y:AV}{K:AV→Prop}(h:binK P op t x y K){n:Nat}{u v:Value}(hx:S hd n w I x u)(hy:S hd n w I y v)(X Y:Operand)(w0:World):(eqGuard op t X Y u v).run P w0= .ok () w0:=by
 have idle: ∀{u:Value},u≠ .nilIface→(∀cs,u≠ .agg cs)→(eqGuard op t X Y u v).run P w0= .ok () w0:=by
  intro u hu ha
  cases op<;>first
   | rfl
   | (cases u<;>first | exact absurd rfl hu | exact absurd rfl (ha _) | (cases v<;>rfl))
 unfold binK at h
 split at h
 ·simp only[S] at hx;rw[hx];exact idle (by simp) (by simp)
 ·simp only[S] at hx;rw[hx];exact idle (by simp) (by simp)
 ·simp only[S] at hx;rw[hx];exact idle (by simp) (by simp)
 ·simp only[S,T] at hx;obtain⟨_,A,c,hx,_⟩:=hx;rw[hx];exact idle (by simp) (by simp)
 ·simp only[S] at hx;rw[hx];exact idle (by simp) (by simp)
 ·simp only[S] at hx
  obtain⟨_,h0,_,hw⟩:=hx
  rcases hw with ⟨b,o,n,c,c',_,hx,_⟩ | ⟨_,A,hx⟩<;>rw[hx]<;>exact idle (by simp) (by simp)
 ·obtain⟨hf,_,_⟩:=h
  simp only[S] at hx hy
  obtain⟨us,rfl,_⟩:=hx
  obtain⟨vs,rfl,_⟩:=hy
  refine run_eqGuard_agg w0 op t X Y us vs ?_
  unfold flatS at hf
  split at hf
  ·split at hf
   ·rename_i hc
    simp only[Bool.and_eq_true,Bool.not_eq_true'] at hc
    exact hc.2
   ·cases hf
  ·cases hf
 ·exact h.elim
theorem unK_sound{op:UnOp}{x:AV}{K:AV→Prop}(h:unK op x K){n:Nat}{u:Value}(hx:S hd n w I x u):
  ∃r av,(∀w:World,(Op.unary op u).run P w= .ok r w)∧K av∧S hd n w I av r:=by
 unfold unK at h
 split at h
 ·simp only[S] at hx;subst hx
  refine⟨_,_,fun w=>?_,h,S_int⟩
  simp[Op.unary,Op.intArith]
 ·simp only[S] at hx;subst hx
  refine⟨_,_,fun w=>?_,h,S_bool⟩
  simp[Op.unary]
 ·exact h.elim
end
theorem eqs_ofC:True:=by
 have:= @ofC.eq_1
 trivial
theorem eqs_ofV:True:=by
 have:= @ofV.eq_1
 trivial
theorem eqs_intK:True:=by
 have:= @intK.eq_1
 trivial
theorem eqs_strK:True:=by
 have:= @strK.eq_1
 trivial
theorem eqs_binK:True:=by
 have:= @binK.eq_1
 trivial
theorem eqs_unK:True:=by
 have:= @unK.eq_1
 trivial
end Go.Proofs.YthggfnefjbckeaaGreatDoor.X
set_option linter.unusedVariables false
set_option linter.unusedSimpArgs false
namespace Go.Proofs.YthggfnefjbckeaaGreatDoor.X
open Go
def getS(h:Heap)(id:Nat):Option (Nat×Nat×Nat)→Option (Nat×List (List AV))
 | none=>match hget h id with
  | some (.slice sz es)=>some (sz,es)
  | _=>none
 | some (szo,i,c)=>match hget h id with
  | some (.slice sz es)=>if sz=szo then(match (es[i]?).bind (·[c]?) with | some (.ow sz' es')=>some (sz',es') | _=>none) else none
  | _=>none
theorem addr_add(b o j:Nat):(⟨b,o,none⟩:Addr).add j=⟨b,o+j,none⟩:=by unfold Addr.add;split<;>simp_all
theorem ow_cell{w:World}{I:Nat→Prop}{sz:Nat}{es:List (List AV)}{hv:Value}{F:List Nat}(h:T w I (.ow sz es) hv F){i c:Nat}{e:List AV}{x:AV}(he:es[i]?=some e)(hx:e[c]?=some x):
  ∃b o cur ty v Gp,BaseOf hv b o∧w.heap[b]?=some (.cells cur ty (0,0))∧cur.toList[o+(i*sz+c)]?=some v∧v.oneCell'=true∧T w I x v Gp∧(b::Gp).Sublist F∧o+es.length*sz≤cur.size:=by
 simp only[T] at h
 rcases h with ⟨rfl,_,_⟩ | ⟨b,o,k,cur,ty,vs,Fs,rfl,hh,hc,hm,ho,hz,rfl,ht,rfl⟩
 ·simp at he
 ·obtain⟨G1,hG,hs⟩:=ht.get hz he
  obtain⟨v,G2,hv,h1,hT,hs2⟩:=hG.get hx
  have hlen:e.length=sz:=hz.mem e (List.mem_of_getElem? he)
  have hcl:c<sz:=by rw[←hlen];exact(List.getElem?_eq_some_iff.1 hx).1
  have hil:i<es.length:=(List.getElem?_eq_some_iff.1 he).1
  refine⟨b,o,cur,ty,v,G2,.inl ⟨_,_,rfl⟩,hh,?_,h1,hT,(hs2.trans hs).cons_cons _,Nat.le_trans (Nat.add_le_add_left (Nat.mul_le_mul_right sz hc) o) ho⟩
  have e1:((cur.toList.drop o).take (es.length*sz)).drop (i*sz)=((cur.toList.drop o).drop (i*sz)).take (es.length*sz-i*sz):=by rw[List.drop_take]
  rw[e1] at hv
  simp only[List.getElem?_take,List.getElem?_drop] at hv
  repeat (split at hv)
  all_goals first | (exfalso;omega) | (exact hv) | (rw[←Nat.add_assoc] at hv⊢;exact hv) | (simp at hv;done) | (simp at hv;exact hv.2)
theorem HdOf.uniq{hd:Nat→Value}{w:World}{id b o:Nat}: ∀{sub:Option (Nat×Nat×Nat)} {h1 h2:Value},HdOf hd w id sub h1→BaseOf h1 b o→HdS hd w id sub h2→h1=h2
 | none,h1,h2,e1,_,e2=>by simp only[HdOf,HdS] at e1 e2;rw[e1,e2]
 | some (szo,i,c),h1,h2,e1,e0,e2=>by
  simp only[HdOf,HdS] at e1 e2
  obtain⟨A,m,k,rfl,rfl | ⟨b,o,hb,hc⟩⟩:=e1
  ·rcases e0 with ⟨n,c,h⟩ | h<;>cases h
  obtain⟨b',o',hb',hc'⟩:=e2
  obtain⟨rfl,rfl⟩:=hb.uniq hb'
  exact Option.some.inj (hc.symm.trans hc')
theorem HdS.of{hd:Nat→Value}{w:World}{id:Nat}{A:Option Addr}{n k:Nat}: ∀{sub:Option (Nat×Nat×Nat)},HdS hd w id sub (.slice A n k)→HdOf hd w id sub (.slice A n k)
 | none,e=>e
 | some (szo,i,c),e=>⟨A,n,k,rfl,.inr e⟩
theorem ow_slice{w:World}{I:Nat→Prop}{sz:Nat}{es:List (List AV)}{hv:Value}{F:List Nat}(h:T w I (.ow sz es) hv F): ∃A k,hv= .slice A es.length k:=by
 simp only[T] at h
 rcases h with ⟨rfl,⟨A,rfl⟩,_⟩ | ⟨b,o,k,cur,ty,vs,Fs,rfl,_⟩
 ·exact⟨A,0,rfl⟩
 ·exact⟨_,k,rfl⟩
section
variable{G:Glo}{M I:Nat→Prop}{h:Heap}{n:Nat}{hd:Nat→Value}{Fp:Nat→List Nat}{w:World}
theorem getS_sound(hr:HR G M I h n hd Fp w){id:Nat}: ∀{sub:Option (Nat×Nat×Nat)} {sz:Nat} {es:List (List AV)},getS h id sub=some (sz,es)→
  ∃hv F o,hget h id=some o∧HdS hd w id sub hv∧T w I (.ow sz es) hv F∧F.Sublist (Fp id)
 | none,sz,es,hg=>by
  simp only[getS] at hg
  split at hg
  ·rename_i sz' es' ho
   simp only[Option.some.injEq,Prod.mk.injEq] at hg
   obtain⟨rfl,rfl⟩:=hg
   exact⟨hd id,Fp id,_,ho,rfl,hr.obj id _ ho,List.Sublist.refl _⟩
  ·cases hg
 | some (szo,i,c),sz,es,hg=>by
  simp only[getS] at hg
  split at hg
  ·rename_i sz' es' ho
   split at hg
   ·rename_i hsz;subst hsz
    split at hg
    ·rename_i sz2 es2 hx
     simp only[Option.some.injEq,Prod.mk.injEq] at hg
     obtain⟨rfl,rfl⟩:=hg
     obtain⟨e,he,hx⟩:=Option.bind_eq_some_iff.1 hx
     obtain⟨b,o,cur,ty,v,Gp,hb,hh,hv,h1,hT,hs,_⟩:=ow_cell (hr.obj id _ ho) he hx
     obtain⟨A,k,hA⟩:=ow_slice hT
     refine⟨v,Gp,_,ho,⟨b,o,hb,?_⟩,hT,(List.sublist_cons_self _ _).trans hs⟩
     simpa [World.cell?,hh] using hv
    ·cases hg
   ·cases hg
  ·cases hg
end
def agT(P:Program)(t:TypeId):Option (Option Nat):=
 match P.underlying t,P.info? t with
 | some d,some i=>match d with
  | .struct _=>if i.size=0 then none else some (some i.size)
  | .array _ _=>if i.size=0 then none else some (some i.size)
  | _=>some none
 | _,_=>none
theorem agT_none{P:Program}{t:TypeId}{w:World}(h:agT P t=some none):(isAgg t).run P w= .ok false w:=by
 unfold agT at h
 split at h
 ·rename_i d i hd hi
  simp only[isAgg,Sem.run_bind,run_underlying hd,Result.andThen_ok]
  cases d<;>simp at h<;>first | rfl | (split at h<;>cases h)
 ·cases h
theorem agT_some{P:Program}{t:TypeId}{w:World}{n:Nat}(h:agT P t=some (some n)):(isAgg t).run P w= .ok true w∧(sizeOf t).run P w= .ok n w∧n≠0∧szOf P t=n:=by
 unfold agT at h
 split at h
 ·rename_i d i hd hi
  have hs:(sizeOf t).run P w= .ok i.size w:=by simp[sizeOf,typeInfo,hi]
  have hz:szOf P t=i.size:=by simp[szOf,hi]
  simp only[isAgg,Sem.run_bind,run_underlying hd,Result.andThen_ok]
  cases d<;>simp at h
  all_goals (obtain⟨h0,rfl⟩:=h;exact⟨rfl,hs,h0,hz⟩)
 ·cases h
def isF:AV→Bool
 | .any | .con _ | .int .. | .bool _ | .str _ | .nil | .sl _ | .pf _=>true
 | _=>false
theorem isF_S{hd:Nat→Value}{n:Nat}{w:World}{I:Nat→Prop}{x:AV}{v:Value}{F:List Nat}(hf:isF x=true)(h:T w I x v F):S hd n w I x v:=by
 cases x<;>simp[isF] at hf<;>simp only[T,S] at h⊢
 case con=>exact h.1
 case int=>exact h.1
 case bool=>exact h.1
 case str=>exact h.1
 case nil=>exact h.1
 case sl=>exact⟨trivial,h.2⟩
 case pf=>exact⟨trivial,h.2⟩
theorem isF_T{hd:Nat→Value}{n:Nat}{w:World}{I:Nat→Prop}{x:AV}{v:Value}(hf:isF x=true)(h:S hd n w I x v):T w I x v []:=by
 cases x<;>simp[isF] at hf<;>simp only[T,S] at h⊢
 case con=>exact⟨h,trivial⟩
 case int=>exact⟨h,trivial⟩
 case bool=>exact⟨h,trivial⟩
 case str=>exact⟨h,trivial⟩
 case nil=>exact⟨h,trivial⟩
 case sl=>exact⟨trivial,h.2⟩
 case pf=>exact⟨trivial,h.2⟩
def allF:List AV→Bool
 | []=>true
 | x::xs=>isF x&&allF xs
theorem allF_SL{hd:Nat→Value}{n:Nat}{w:World}{I:Nat→Prop}: ∀{xs:List AV} {vs:List Value} {F:List Nat},allF xs=true→TL w I xs vs F→SL hd n w I xs vs
 | [],vs,F,_,h=>by simp only[TL] at h;simp only[SL];exact h.1
 | x::xs,vs,F,hf,h=>by
  simp only[allF,Bool.and_eq_true] at hf
  simp only[TL] at h
  obtain⟨v,vs',F1,F2,rfl,rfl,h1,hx,hxs⟩:=h
  simp only[SL]
  exact⟨v,vs',rfl,h1,isF_S hf.1 hx,allF_SL hf.2 hxs⟩
def cellS(id:Nat)(sub:Option (Nat×Nat×Nat))(sz i c:Nat):AV→Option AV
 | .ow sz' es'=>match sub with
  | none=>some (.ref id (some (sz,i,c)) sz' 0 es'.length)
  | some _=>none
 | x=>if isF x then some x else none
def cellsS(id:Nat)(sub:Option (Nat×Nat×Nat))(sz i:Nat):Nat→List AV→Option (List AV)
 | _,[]=>some []
 | c,x::xs=>match cellS id sub sz i c x,cellsS id sub sz i (c+1) xs with
  | some y,some ys=>some (y::ys)
  | _,_=>none
def loadK(P:Program)(h:Heap)(t:TypeId)(x:AV)(K:AV→Prop):Prop:=
 match x,agT P t with
 | .pf cs,some (some n)=>n≤cs.length∧allF (cs.take n)=true∧K (.agg (cs.take n))
 | .pf cs,some none=>match cs with
  | y::_=>isF y=true∧K y
  | []=>False
 | .ptr id sub sz i c,some ag=>match sub,hget h id with
  | none,some (.var cs)=>i=0∧match ag with
   | some n=>c+n≤cs.length∧K (.agg ((cs.drop c).take n))
   | none=>match cs[c]? with
    | some y=>K y
    | none=>False
  | _,_=>match getS h id sub with
   | some (sz',es)=>sz'=sz∧match es[i]? with
    | some e=>match ag with
     | some n=>c+n≤e.length∧(match cellsS id sub sz i c ((e.drop c).take n) with | some ys=>K (.agg ys) | none=>False)
     | none=>match e[c]? with
      | some y=>match cellS id sub sz i c y with
       | some z=>K z
       | none=>False
      | none=>False
    | none=>False
   | none=>False
 | _,_=>False
theorem At.loads{P:Program}{w:World}{b o:Nat}{vs:List Value}(h:At w b o vs):(loadCells ⟨b,o,none⟩ vs.length).run P w= .ok vs.toArray w:=
 run_loadCells_list (P:=P) w _ vs (fun j v hv=>by rw[addr_add];exact h j v hv)
theorem run_loadVar_agg{P:Program}{w:World}{t:TypeId}{b o n:Nat}{vs:List Value}(ht:agT P t=some (some n))(h:At w b o vs)(hn:vs.length=n): ∀w',SameB w w'→(loadVar t ⟨b,o,none⟩).run P w'= .ok (.agg vs.toArray) w':=by
 intro w' hw
 have h:At w' b o vs:=fun j v hv=>hw.cell (h j v hv)
 obtain⟨h1,h2,_⟩:=agT_some (w:=w') ht
 subst hn
 simp[loadVar,h1,h2,h.loads]
theorem run_loadVar_one{P:Program}{w:World}{t:TypeId}{b o:Nat}{v:Value}(ht:agT P t=some none)(h:w.cell? ⟨b,o,none⟩=some v): ∀w',SameB w w'→(loadVar t ⟨b,o,none⟩).run P w'= .ok v w':=by
 intro w' hw
 simp[loadVar,agT_none (w:=w') ht,load,Sem.run,hw.cell h]
theorem run_loadAt{P:Program}{w:World}{t:TypeId}{a:Addr}{v:Value}(h: ∀w',SameB w w'→(loadVar t a).run P w'= .ok v w'): ∀w',SameB w w'→(Instr.loadAt t (.pointer (some a))).run P w'= .ok v w':=by
 intro w' hw
 simp[Instr.loadAt,Instr.sureAddr,h w' hw]
theorem TL.take{w:World}{I:Nat→Prop}: ∀{xs:List AV} {vs:List Value} {F:List Nat} (n:Nat),TL w I xs vs F→ ∃F',TL w I (xs.take n) (vs.take n) F'∧F'.Sublist F
 | [],vs,F,n,h=>by
  simp only[TL] at h
  obtain⟨rfl,rfl⟩:=h
  exact⟨[],by simp[TL],List.Sublist.refl _⟩
 | x::xs,vs,F,0,h=>⟨[],by simp[TL],List.nil_sublist _⟩
 | x::xs,vs,F,n+1,h=>by
  simp only[TL] at h
  obtain⟨v,vs',F1,F2,rfl,rfl,h1,hx,hxs⟩:=h
  obtain⟨F',hF,hs⟩:=TL.take n hxs
  refine⟨F1++F',?_,List.Sublist.append_left hs F1⟩
  simp only[List.take_succ_cons,TL]
  exact⟨v,_,F1,F',rfl,rfl,h1,hx,hF⟩
theorem TL.drop{w:World}{I:Nat→Prop}: ∀{xs:List AV} {vs:List Value} {F:List Nat} (n:Nat),TL w I xs vs F→ ∃F',TL w I (xs.drop n) (vs.drop n) F'∧F'.Sublist F
 | xs,vs,F,0,h=>⟨F,by simpa using h,List.Sublist.refl _⟩
 | [],vs,F,n+1,h=>by
  simp only[TL] at h
  obtain⟨rfl,rfl⟩:=h
  exact⟨[],by simp[TL],List.Sublist.refl _⟩
 | x::xs,vs,F,n+1,h=>by
  simp only[TL] at h
  obtain⟨v,vs',F1,F2,rfl,rfl,h1,hx,hxs⟩:=h
  obtain⟨F',hF,hs⟩:=TL.drop n hxs
  exact⟨F',by simpa using hF,hs.trans (List.sublist_append_right _ _)⟩
theorem SL.take{hd:Nat→Value}{n:Nat}{w:World}{I:Nat→Prop}: ∀{xs:List AV} {vs:List Value} (m:Nat),SL hd n w I xs vs→SL hd n w I (xs.take m) (vs.take m)
 | [],vs,m,h=>by simp only[SL] at h;simp[SL,h]
 | x::xs,vs,0,h=>by simp[SL]
 | x::xs,vs,m+1,h=>by
  simp only[SL] at h
  obtain⟨v,vs',rfl,h1,hx,hxs⟩:=h
  simp only[List.take_succ_cons,SL]
  exact⟨v,_,rfl,h1,hx,SL.take m hxs⟩
theorem SL.drop{hd:Nat→Value}{n:Nat}{w:World}{I:Nat→Prop}: ∀{xs:List AV} {vs:List Value} (m:Nat),SL hd n w I xs vs→SL hd n w I (xs.drop m) (vs.drop m)
 | xs,vs,0,h=>by simpa using h
 | [],vs,m+1,h=>by simp only[SL] at h;simp[SL,h]
 | x::xs,vs,m+1,h=>by
  simp only[SL] at h
  obtain⟨v,vs',rfl,h1,hx,hxs⟩:=h
  simpa using SL.drop m hxs
section
variable{P:Program}{G:Glo}{M I:Nat→Prop}{h:Heap}{n:Nat}{hd:Nat→Value}{Fp:Nat→List Nat}{w:World}
theorem cellS_sound(hr:HR G M I h n hd Fp w){id:Nat}(hid:id<n){sub:Option (Nat×Nat×Nat)}{sz i c b o:Nat}{hv:Value}(hh:HdOf hd w id sub hv)(hb:BaseOf hv b o){x y:AV}{v:Value}{F:List Nat}
  (hc:w.cell? ⟨b,o+(i*sz+c),none⟩=some v) (hx:T w I x v F) (hy:cellS id sub sz i c x=some y):S hd n w I y v:=by
 unfold cellS at hy
 split at hy
 ·split at hy
  ·simp only[Option.some.injEq] at hy
   subst hy
   obtain⟨A,k,hA⟩:=ow_slice hx
   simp only[HdOf] at hh
   subst hh
   simp only[S]
   refine⟨hid,v,?_,?_⟩
   ·simp only[HdOf]
    exact⟨A,_,k,hA,.inr ⟨b,o,hb,hc⟩⟩
   ·simp only[T] at hx
    rcases hx with ⟨rfl,⟨A',rfl⟩,_⟩ | ⟨b',o',k',cur,ty,vs,Fs,rfl,hh',hc',hm,ho,hz,hvs,ht,hF⟩
    ·exact .inr ⟨rfl,A',rfl⟩
    ·exact .inl ⟨b',o',_,k',k',rfl,by simp,by omega,hc',by omega⟩
  ·cases hy
 ·split at hy
  ·rename_i hf
   simp only[Option.some.injEq] at hy
   subst hy
   exact isF_S hf hx
  ·cases hy
theorem cellsS_sound(hr:HR G M I h n hd Fp w){id:Nat}(hid:id<n){sub:Option (Nat×Nat×Nat)}{sz i b o:Nat}{hv:Value}(hh:HdOf hd w id sub hv)(hb:BaseOf hv b o):
  ∀{xs ys:List AV} {vs:List Value} {F:List Nat} (c:Nat),At w b (o+(i*sz+c)) vs→TL w I xs vs F→cellsS id sub sz i c xs=some ys→SL hd n w I ys vs
 | [],ys,vs,F,c,hat,hx,hy=>by
  simp only[cellsS,Option.some.injEq] at hy
  subst hy
  simp only[TL] at hx
  simp only[SL]
  exact hx.1
 | x::xs,ys,vs,F,c,hat,hx,hy=>by
  simp only[TL] at hx
  obtain⟨v,vs',F1,F2,rfl,rfl,h1,hx,hxs⟩:=hx
  simp only[cellsS] at hy
  split at hy
  ·rename_i y ys' e1 e2
   simp only[Option.some.injEq] at hy
   subst hy
   simp only[SL]
   refine⟨v,vs',rfl,h1,cellS_sound hr hid hh hb (by have:=hat 0 v (by simp);simpa using this) hx e1,cellsS_sound hr hid hh hb (c+1) ?_ hxs e2⟩
   intro j u hu
   have:=hat (j+1) u (by simpa using hu)
   rw[show o+(i*sz+(c+1))+j=o+(i*sz+c)+(j+1) by omega]
   exact this
  ·cases hy
end
section
variable{P:Program}{G:Glo}{M I:Nat→Prop}{s:St}{hd:Nat→Value}{Fp:Nat→List Nat}{a:Act}{w:World}{K:AV→Prop}
theorem loadK_sound(h:SR G M I s hd Fp a w){t:TypeId}{x:AV}{u:Value}(hk:loadK P s.heap t x K)(hx:S hd s.next w I x u): ∃v av,(∀w',SameB w w'→(Instr.loadAt t u).run P w'= .ok v w')∧K av∧S hd s.next w I av v:=by
 unfold loadK at hk
 split at hk
 ·rename_i cs n ht
  obtain⟨hn,hf,hk⟩:=hk
  simp only[S,T] at hx
  obtain⟨_,b,o,vs,rfl,hb,hat,hT⟩:=hx
  obtain⟨F',hT',_⟩:=hT.take n
  have hl:=hT.length
  refine⟨_,_,run_loadAt (run_loadVar_agg ht (vs:=vs.take n) (fun j v hv=>hat j v ?_) (by simp;omega)),hk,?_⟩
  ·rw[List.getElem?_take] at hv
   split at hv
   ·exact hv
   ·cases hv
  ·simp only[S]
   exact⟨_,rfl,allF_SL hf hT'⟩
 ·rename_i cs ht
  simp only[S,T] at hx
  obtain⟨_,b,o,vs,rfl,hb,hat,hT⟩:=hx
  split at hk
  ·rename_i y ys
   simp only[TL] at hT
   obtain⟨v,vs',F1,F2,rfl,_,h1,hy,_⟩:=hT
   exact⟨v,_,run_loadAt (run_loadVar_one ht (by have:=hat 0 v (by simp);simpa using this)),hk.2,isF_S hk.1 hy⟩
  ·exact hk.elim
 ·rename_i id sub sz i c ag ht
  simp only[S] at hx
  obtain⟨hid,hv,b,o,hh,hb,rfl⟩:=hx
  split at hk
  ·rename_i cs ho
   obtain⟨rfl,hk⟩:=hk
   have hobj:=h.heap.obj id _ ho
   simp only[HdOf] at hh
   subst hh
   obtain⟨b',cur,e,hp,hhp,hs,_⟩:=hobj
   obtain⟨rfl,rfl⟩:=hb.uniq (.inr hp)
   have hat:At w b 0 cur.toList:=fun j u hu=>by simpa [World.cell?,hhp] using hu
   split at hk
   ·rename_i n
    obtain⟨hn,hk⟩:=hk
    have hl:=hs.length
    refine⟨_,_,run_loadAt (run_loadVar_agg ht (vs:=(cur.toList.drop c).take n) (fun j v hv=>?_) ?_),hk,?_⟩
    ·rw[List.getElem?_take] at hv
     split at hv
     ·rw[List.getElem?_drop] at hv
      have:=hat _ _ hv
      rw[show 0+(0*sz+c)+j=0+(c+j) by omega]
      exact this
     ·cases hv
    ·simp only[List.length_take,List.length_drop];omega
    ·simp only[S]
     exact⟨_,rfl,(hs.drop c).take n⟩
   ·split at hk
    ·rename_i y hy
     obtain⟨v,hv,h1,hS⟩:=hs.get hy
     exact⟨v,_,run_loadAt (run_loadVar_one ht (by have:=hat _ _ hv;rw[show 0+(0*sz+c)=0+c by omega];exact this)),hk,hS⟩
    ·exact hk.elim
  ·split at hk
   ·rename_i sz' es hg
    obtain⟨rfl,hk⟩:=hk
    obtain⟨hv',F,ob,ho,hh',hT,hsub⟩:=getS_sound h.heap hg
    obtain rfl:=HdOf.uniq hh hb hh'
    split at hk
    ·rename_i e he
     simp only[T] at hT
     rcases hT with ⟨rfl,_,_⟩ | ⟨b',o',k,cur,ty,vs,Fs,rfl,hhp,hc,hm,hof,hz,rfl,hTT,rfl⟩
     ·simp at he
     ·obtain⟨rfl,rfl⟩:=hb.uniq (.inl ⟨_,_,rfl⟩)
      obtain⟨G1,hG,_⟩:=hTT.get hz he
      have hel:=hz.mem e (List.mem_of_getElem? he)
      have hil:i<es.length:=(List.getElem?_eq_some_iff.1 he).1
      have hat:At w b (o+i*sz') ((((cur.toList.drop o).take (es.length*sz')).drop (i*sz')).take sz'):=by
       intro j u hu
       rw[List.drop_take] at hu
       simp only[List.getElem?_take,List.getElem?_drop] at hu
       have hcu:cur.toList[o+(i*sz'+j)]?=some u:=by
        repeat (split at hu)
        all_goals first | exact hu | (simp at hu;done)
       rw[show o+i*sz'+j=o+(i*sz'+j) by omega]
       simpa [World.cell?,hhp] using hcu
      split at hk
      ·rename_i n
       obtain⟨hn,hk⟩:=hk
       split at hk
       ·rename_i ys hys
        obtain⟨F1,hG1,_⟩:=hG.drop c
        obtain⟨F2,hG2,_⟩:=hG1.take n
        have hl:=hG.length
        have hat2:At w b (o+(i*sz'+c)) ((((((cur.toList.drop o).take (es.length*sz')).drop (i*sz')).take sz').drop c).take n):=by
         intro j u hu
         rw[List.getElem?_take] at hu
         split at hu
         ·rw[List.getElem?_drop] at hu
          have:=hat _ _ hu
          rw[show o+(i*sz'+c)+j=o+i*sz'+(c+j) by omega]
          exact this
         ·cases hu
        refine⟨_,_,run_loadAt (run_loadVar_agg ht hat2 ?_),hk,?_⟩
        ·rw[List.length_take,List.length_drop,hl];omega
        ·simp only[S]
         exact⟨_,rfl,cellsS_sound h.heap hid hh hb c hat2 hG2 hys⟩
       ·exact hk.elim
      ·split at hk
       ·rename_i y hy
        split at hk
        ·rename_i z hz'
         obtain⟨v,G2,hv,h1,hTy,_⟩:=hG.get hy
         have hcell:w.cell? ⟨b,o+(i*sz'+c),none⟩=some v:=by
          have:=hat _ _ hv
          rw[show o+(i*sz'+c)=o+i*sz'+c by omega]
          exact this
         exact⟨v,_,run_loadAt (run_loadVar_one ht hcell),hk,cellS_sound h.heap hid hh hb hcell hTy hz'⟩
        ·exact hk.elim
       ·exact hk.elim
    ·exact hk.elim
   ·exact hk.elim
 ·exact hk.elim
end
theorem eqs_getS:True:=by
 have:= @getS.eq_1
 trivial
theorem eqs_isF:True:=by
 have:= @isF.eq_1
 trivial
theorem eqs_allF:True:=by
 have:= @allF.eq_1
 trivial
theorem eqs_cellS:True:=by
 have:= @cellS.eq_1
 trivial
theorem eqs_cellsS:True:=by
 have:= @cellsS.eq_1
 trivial
theorem eqs_loadK:True:=by
 have:= @loadK.eq_1
 trivial
end Go.Proofs.YthggfnefjbckeaaGreatDoor.X
set_option linter.unusedVariables false
set_option linter.unusedSimpArgs false
namespace Go.Proofs.YthggfnefjbckeaaGreatDoor.X
open Go
theorem TLL.take{w:World}{I:Nat→Prop}{sz:Nat}: ∀{es:List (List AV)} {vs:List Value} {F:List Nat} (n:Nat),TLL w I es vs F→Each sz es→ ∃F',TLL w I (es.take n) (vs.take (n*sz)) F'∧F'.Sublist F
 | [],vs,F,n,h,_=>by
  simp only[TLL] at h
  obtain⟨rfl,rfl⟩:=h
  exact⟨[],by simp[TLL],List.Sublist.refl _⟩
 | e::es,vs,F,0,h,_=>⟨[],by simp[TLL],List.nil_sublist _⟩
 | e::es,vs,F,n+1,h,hz=>by
  simp only[TLL] at h
  obtain⟨v1,v2,F1,F2,rfl,rfl,hx,hxs⟩:=h
  obtain⟨F',hF,hs⟩:=TLL.take n hxs hz.2
  have hl:=hx.length
  have h1:=hz.1
  refine⟨F1++F',?_,List.Sublist.append_left hs F1⟩
  simp only[List.take_succ_cons,TLL]
  refine⟨v1,_,F1,F',?_,rfl,hx,hF⟩
  rw[List.take_append,List.take_of_length_le (by rw[hl,h1,Nat.add_mul];omega),hl,h1,Nat.add_mul]
  congr 2
  omega
theorem TLL.drop{w:World}{I:Nat→Prop}{sz:Nat}: ∀{es:List (List AV)} {vs:List Value} {F:List Nat} (n:Nat),TLL w I es vs F→Each sz es→ ∃F',TLL w I (es.drop n) (vs.drop (n*sz)) F'∧F'.Sublist F
 | es,vs,F,0,h,_=>⟨F,by simpa using h,List.Sublist.refl _⟩
 | [],vs,F,n+1,h,_=>by
  simp only[TLL] at h
  obtain⟨rfl,rfl⟩:=h
  exact⟨[],by simp[TLL],List.Sublist.refl _⟩
 | e::es,vs,F,n+1,h,hz=>by
  simp only[TLL] at h
  obtain⟨v1,v2,F1,F2,rfl,rfl,hx,hxs⟩:=h
  obtain⟨F',hF,hs⟩:=TLL.drop n hxs hz.2
  have hl:=hx.length
  have h1:=hz.1
  refine⟨F',?_,hs.trans (List.sublist_append_right _ _)⟩
  rw[List.drop_succ_cons,Nat.add_mul,Nat.one_mul,Nat.add_comm,←List.drop_drop,List.drop_append_of_le_length (by omega),List.drop_eq_nil_of_le (by omega:v1.length≤sz),List.nil_append]
  exact hF
theorem TLL.append{w:World}{I:Nat→Prop}: ∀{es es':List (List AV)} {vs vs':List Value} {F F':List Nat},TLL w I es vs F→TLL w I es' vs' F'→TLL w I (es++es') (vs++vs') (F++F')
 | [],es',vs,vs',F,F',h,h'=>by
  simp only[TLL] at h
  obtain⟨rfl,rfl⟩:=h
  simpa using h'
 | e::es,es',vs,vs',F,F',h,h'=>by
  simp only[TLL] at h
  obtain⟨v1,v2,F1,F2,rfl,rfl,hx,hxs⟩:=h
  simp only[List.cons_append,TLL]
  exact⟨v1,v2++vs',F1,F2++F',by simp,by simp,hx,TLL.append hxs h'⟩
theorem TL.append{w:World}{I:Nat→Prop}: ∀{es es':List AV} {vs vs':List Value} {F F':List Nat},TL w I es vs F→TL w I es' vs' F'→TL w I (es++es') (vs++vs') (F++F')
 | [],es',vs,vs',F,F',h,h'=>by
  simp only[TL] at h
  obtain⟨rfl,rfl⟩:=h
  simpa using h'
 | e::es,es',vs,vs',F,F',h,h'=>by
  simp only[TL] at h
  obtain⟨v,v2,F1,F2,rfl,rfl,h1,hx,hxs⟩:=h
  simp only[List.cons_append,TL]
  exact⟨v,v2++vs',F1,F2++F',by simp,by simp,h1,hx,TL.append hxs h'⟩
theorem ow_win{w:World}{I:Nat→Prop}{sz off len:Nat}{es:List (List AV)}{hv v:Value}{F:List Nat}(h:T w I (.ow sz es) hv F)(hw:Win sz off len hv v):
  ∃F',T w I (.ow sz ((es.drop off).take len)) v F'∧F'.Sublist F∧((es.drop off).take len).length=len:=by
 rcases hw with ⟨b,o,n,c,c',rfl,rfl,h1,h2,h3⟩ | ⟨rfl,A,rfl⟩
 ·simp only[T] at h
  rcases h with ⟨rfl,⟨A,hA⟩,rfl⟩ | ⟨b',o',k,cur,ty,vs,Fs,hs,hh,hc,hm,ho,hz,rfl,ht,rfl⟩
  ·simp only[Value.slice.injEq] at hA
   obtain⟨_,rfl,rfl⟩:=hA
   obtain rfl:len=0:=by omega
   obtain rfl:c'=0:=by omega
   exact⟨[],by simp only[T];exact .inl ⟨by simp,⟨_,rfl⟩,trivial⟩,List.Sublist.refl _,by simp⟩
  ·simp only[Value.slice.injEq,Option.some.injEq,Addr.mk.injEq] at hs
   obtain⟨⟨rfl,rfl,_⟩,rfl,rfl⟩:=hs
   obtain⟨F1,hT1,hs1⟩:=ht.drop off hz
   obtain⟨F2,hT2,hs2⟩:=hT1.take len (hz.drop off)
   have hl:((es.drop off).take len).length=len:=by simp;omega
   refine⟨b::F2,?_,(hs2.trans hs1).cons_cons _,hl⟩
   simp only[T]
   refine .inr ⟨b,o+off*sz,c',cur,ty,_,F2,by rw[hl],hh,by rw[hl];exact h2,by omega,?_,(hz.drop off).take len,?_,hT2,rfl⟩
   ·have:(off+c')*sz≤c*sz:=Nat.mul_le_mul_right _ h1
    rw[Nat.add_mul] at this
    omega
   ·rw[hl,←List.drop_drop,List.drop_take,List.take_take]
    congr 1
    have:(off+len)*sz≤es.length*sz:=Nat.mul_le_mul_right _ h3
    rw[Nat.add_mul] at this
    omega
 ·exact⟨[],by simp only[T];exact .inl ⟨by simp,⟨_,rfl⟩,trivial⟩,List.nil_sublist _,by simp⟩
theorem ow_win2{w:World}{I:Nat→Prop}{hd:Nat→Value}{id:Nat}{sub:Option (Nat×Nat×Nat)}{sz off len:Nat}{es:List (List AV)}{h hv v:Value}{F:List Nat}(hT:T w I (.ow sz es) hv F)(hh:HdOf hd w id sub h)(hh':HdS hd w id sub hv)(hw:Win sz off len h v):
  ∃F',T w I (.ow sz ((es.drop off).take len)) v F'∧F'.Sublist F∧((es.drop off).take len).length=len:=by
 rcases hw with ⟨b,o,n,c,c',rfl,rfl,h1,h2,h3⟩ | ⟨rfl,A,rfl⟩
 ·obtain rfl:=HdOf.uniq hh (.inl ⟨_,_,rfl⟩) hh'
  exact ow_win hT (.inl ⟨b,o,n,c,c',rfl,rfl,h1,h2,h3⟩)
 ·exact ow_win hT (.inr ⟨rfl,A,rfl⟩)
def conC(h:Heap):AV→Option (AV×Heap)
 | .ref id none sz off len=>match hget h id with
  | some (.slice sz' es)=>if sz=sz' then some (.ow sz ((es.drop off).take len),hdel h id) else none
  | _=>none
 | x=>if isF x then some (x,h) else none
def conL(h:Heap):List AV→Option (List AV×Heap)
 | []=>some ([],h)
 | x::xs=>match conC h x with
  | some (y,h1)=>match conL h1 xs with
   | some (ys,h2)=>some (y::ys,h2)
   | none=>none
  | none=>none
structure Free(M I:Nat→Prop)(h:Heap)(Fp:Nat→List Nat)(F:List Nat):Prop where
 nodup:F.Nodup
 mine: ∀b∈F,M b
 imm: ∀b∈F,¬I b
 disj: ∀id o,hget h id=some o→ ∀b∈Fp id,b∉F
theorem Free.nil(M I:Nat→Prop)(h:Heap)(Fp:Nat→List Nat):Free M I h Fp []:=⟨List.nodup_nil,by simp,by simp,by simp⟩
def Sub(h' h:Heap):Prop:= ∀id o,hget h' id=some o→hget h id=some o
theorem Sub.refl(h:Heap):Sub h h:=fun _ _ e=>e
theorem Sub.trans{h1 h2 h3:Heap}(a:Sub h1 h2)(b:Sub h2 h3):Sub h1 h3:=fun id o e=>b id o (a id o e)
theorem Sub.del(h:Heap)(id:Nat):Sub (hdel h id) h:=by
 intro j u hu
 rw[hget_del] at hu
 split at hu
 ·cases hu
 ·exact hu
theorem Free.less{M I:Nat→Prop}{h h':Heap}{Fp:Nat→List Nat}{F:List Nat}(f:Free M I h Fp F)(s:Sub h' h):Free M I h' Fp F:=⟨f.nodup,f.mine,f.imm,fun id o ho=>f.disj id o (s id o ho)⟩
theorem Free.sub{M I:Nat→Prop}{h:Heap}{Fp:Nat→List Nat}{F F':List Nat}(f:Free M I h Fp F)(s:F'.Sublist F):Free M I h Fp F':=
 ⟨s.nodup f.nodup,fun b hb=>f.mine b (s.subset hb),fun b hb=>f.imm b (s.subset hb),fun id o ho b hb hm=>f.disj id o ho b hb (s.subset hm)⟩
section
variable{G:Glo}{M I:Nat→Prop}{h:Heap}{n:Nat}{hd:Nat→Value}{Fp:Nat→List Nat}{w:World}
theorem HR.freed(hr:HR G M I h n hd Fp w){id:Nat}{o:Ob}(ho:hget h id=some o):Free M I (hdel h id) Fp (Fp id):=by
 refine⟨hr.nodup id o ho,hr.mine id o ho,hr.notI ho,fun j u hu=>?_⟩
 rw[hget_del] at hu
 split at hu
 ·cases hu
 ·rename_i hj
  exact hr.disj j u id o hu ho (Ne.symm hj)
theorem conC_sound(hr:HR G M I h n hd Fp w){x y:AV}{h':Heap}{v:Value}(hx:S hd n w I x v)(hy:conC h x=some (y,h')):
  ∃F,HR G M I h' n hd Fp w∧T w I y v F∧Free M I h' Fp F∧Sub h' h∧(∀b∈F,∃id o,hget h id=some o∧b∈Fp id):=by
 unfold conC at hy
 split at hy
 ·rename_i id sz off len
  split at hy
  ·rename_i sz' es ho
   split at hy
   ·rename_i hsz
    subst hsz
    simp only[Option.some.injEq,Prod.mk.injEq] at hy
    obtain⟨rfl,rfl⟩:=hy
    simp only[S,HdOf] at hx
    obtain⟨hid,hv,rfl,hw⟩:=hx
    obtain⟨F',hT,hs,_⟩:=ow_win (hr.obj id _ ho) hw
    exact⟨F',hr.del id,hT,(hr.freed ho).sub hs,Sub.del h id,fun b hb=>⟨id,_,ho,hs.subset hb⟩⟩
   ·cases hy
  ·cases hy
 ·split at hy
  ·rename_i hf
   simp only[Option.some.injEq,Prod.mk.injEq] at hy
   obtain⟨rfl,rfl⟩:=hy
   exact⟨[],hr,isF_T hf hx,Free.nil _ _ _ _,Sub.refl _,by simp⟩
  ·cases hy
theorem conL_sound: ∀{h:Heap} (hr:HR G M I h n hd Fp w) {xs ys:List AV} {h':Heap} {vs:List Value} (hx:SL hd n w I xs vs) (hy:conL h xs=some (ys,h')),
  ∃F,HR G M I h' n hd Fp w∧TL w I ys vs F∧Free M I h' Fp F∧Sub h' h∧(∀b∈F,∃id o,hget h id=some o∧b∈Fp id)
 | h,hr,[],ys,h',vs,hx,hy=>by
  simp only[conL,Option.some.injEq,Prod.mk.injEq] at hy
  obtain⟨rfl,rfl⟩:=hy
  simp only[SL] at hx
  subst hx
  exact⟨[],hr,by simp[TL],Free.nil _ _ _ _,Sub.refl _,by simp⟩
 | h,hr,x::xs,ys,h',vs,hx,hy=>by
  simp only[SL] at hx
  obtain⟨v,vs',rfl,h1,hxv,hxs⟩:=hx
  simp only[conL] at hy
  split at hy
  ·rename_i y h1' e1
   split at hy
   ·rename_i ys' h2' e2
    simp only[Option.some.injEq,Prod.mk.injEq] at hy
    obtain⟨rfl,rfl⟩:=hy
    obtain⟨F1,hr1,hT1,hf1,hs1,ho1⟩:=conC_sound hr hxv e1
    obtain⟨F2,hr2,hT2,hf2,hs2,ho2⟩:=conL_sound hr1 hxs e2
    refine⟨F1++F2,hr2,?_,⟨?_,?_,?_,?_⟩,hs2.trans hs1,?_⟩
    ·simp only[TL]
     exact⟨v,vs',F1,F2,rfl,rfl,h1,hT1,hT2⟩
    ·refine List.nodup_append.2 ⟨hf1.nodup,hf2.nodup,?_⟩
     rintro b hb1 b' hb2 rfl
     obtain⟨id,o,ho,hb⟩:=ho2 b hb2
     exact hf1.disj id o ho b hb hb1
    ·intro b hb
     rcases List.mem_append.1 hb with hb | hb
     ·exact hf1.mine b hb
     ·exact hf2.mine b hb
    ·intro b hb
     rcases List.mem_append.1 hb with hb | hb
     ·exact hf1.imm b hb
     ·exact hf2.imm b hb
    ·intro id o ho b hb hm
     rcases List.mem_append.1 hm with hm | hm
     ·exact(hf1.less hs2).disj id o ho b hb hm
     ·exact hf2.disj id o ho b hb hm
    ·intro b hb
     rcases List.mem_append.1 hb with hb | hb
     ·exact ho1 b hb
     ·obtain⟨id,o,ho,hb'⟩:=ho2 b hb
      exact⟨id,o,hs1 id o ho,hb'⟩
   ·cases hy
  ·cases hy
theorem HR.addFree(hr:HR G M I h n hd Fp w)(o:Ob)(v:Value)(F:List Nat)(hf:Free M I h Fp F)(ho: ∀hd',(∀id,id<n→hd' id=hd id)→ObjR hd' (n+1) w I o v F):
  HR G M I ((n,o)::h) (n+1) (upd hd n v) (upd Fp n F) w:=hr.add o v F hf.nodup hf.mine hf.imm hf.disj ho
end
end Go.Proofs.YthggfnefjbckeaaGreatDoor.X
set_option linter.unusedVariables false
set_option linter.unusedSimpArgs false
namespace Go.Proofs.YthggfnefjbckeaaGreatDoor.X
open Go
def faddrK(P:Program)(t:TypeId)(x:AV)(j:Nat)(K:AV→Prop):Prop:=
 match tk P t with
 | .struct fs=>match fs[j]? with
  | some (off,sz')=>sz'≠0∧match x with
   | .ptr id sub sz i c=>K (.ptr id sub sz i (c+off))
   | .pf cs=>K (.pf (cs.drop off))
   | _=>False
  | none=>False
 | _=>False
def iaddrK(P:Program)(t:TypeId)(x ix:AV)(K:AV→Prop):Prop:=
 match tk P t,x,ix with
 | .slice e,.ref id sub sz off len,.int _ i=>sz=szOf P e∧szOf P e≠0∧0≤i∧i<len∧K (.ptr id sub sz (off+i.toNat) 0)
 | .slice e,.sl es,.int _ i=>szOf P e≠0∧0≤i∧match es[i.toNat]? with
  | some el=>el.length=szOf P e∧K (.pf el)
  | none=>False
 | .array m e,.ptr id sub sz i0 c,.int _ i=>szOf P e≠0∧0≤i∧i<m∧K (.ptr id sub sz i0 (c+i.toNat*szOf P e))
 | .array m e,.pf cs,.int _ i=>szOf P e≠0∧0≤i∧i<m∧K (.pf (cs.drop (i.toNat*szOf P e)))
 | _,_,_=>False
def bt(s:ByteArray)(i:Int):Int:=((s.data.toList.getD i.toNat 0).toNat:Int)
def idxK(P:Program)(t:TypeId)(x ix:AV)(K:AV→Prop):Prop:=
 match tk P t,x,ix with
 | .str,.str s,.int _ i=>0≤i∧i<s.size∧K (.int .u8 (bt s i))
 | _,_,_=>False
def sliceK(P:Program)(t:TypeId)(x:AV)(lo hi:Option AV)(K:AV→Prop):Prop:=
 match tk P t,x,lo.getD (.int .i64 0) with
 | .slice e,.ref id sub sz off len,.int _ l=>match hi.getD (.int .i64 len) with
  | .int _ r=>sz=szOf P e∧szOf P e≠0∧0≤l∧l≤r∧r≤len∧K (.ref id sub sz (off+l.toNat) (r-l).toNat)
  | _=>False
 | .slice e,.sl es,.int _ l=>match hi.getD (.int .i64 es.length) with
  | .int _ r=>szOf P e≠0∧(∀el∈es,el.length=szOf P e)∧0≤l∧l≤r∧r≤es.length∧K (.sl ((es.drop l.toNat).take (r-l).toNat))
  | _=>False
 | .slice e,.nil,.int _ l=>match hi.getD (.int .i64 0) with
  | .int _ r=>szOf P e≠0∧l=0∧r=0∧K .nil
  | _=>False
 | .str,.str s,.int _ l=>match hi.getD (.int .i64 s.size) with
  | .int _ r=>0≤l∧l≤r∧r≤s.size∧K (.str (s.extract l.toNat r.toNat))
  | _=>False
 | _,_,_=>False
section
variable{P:Program}{G:Glo}{M I:Nat→Prop}{s:St}{hd:Nat→Value}{w:World}{K:AV→Prop}{n:Nat}
theorem run_sizeOf{P:Program}{t:TypeId}{w:World}(h:szOf P t≠0):(sizeOf t).run P w= .ok (szOf P t) w:=by
 obtain⟨i,hi,hs⟩:=szOf_pos h
 simp[sizeOf,typeInfo,hi,hs]
theorem TL.dropAt{w:World}{I:Nat→Prop}{b o:Nat}{cs:List AV}{vs:List Value}(m:Nat)(hat:At w b o vs)(h:TL w I cs vs []):At w b (o+m) (vs.drop m)∧TL w I (cs.drop m) (vs.drop m) []:=by
 refine⟨fun j u hu=>?_,?_⟩
 ·rw[List.getElem?_drop] at hu
  rw[Nat.add_assoc]
  exact hat _ _ hu
 ·obtain⟨F',h1,h2⟩:=h.drop m
  rwa [List.sublist_nil.1 h2] at h1
theorem faddrK_sound{t:TypeId}{x:AV}{j:Nat}{u:Value}(hk:faddrK P t x j K)(hx:S hd n w I x u): ∃v av,(∀w:World,(Instr.fieldAt t u j).run P w= .ok v w)∧K av∧S hd n w I av v:=by
 unfold faddrK at hk
 split at hk
 ·rename_i fs ht
  obtain⟨f,hf,rfl⟩:=tk_struct ht
  split at hk
  ·rename_i off sz' hj
   obtain⟨hz,hk⟩:=hk
   rw[List.getElem?_map] at hj
   obtain⟨fd,hfd,he⟩:=Option.map_eq_some_iff.1 hj
   simp only[Prod.mk.injEq] at he
   obtain⟨rfl,rfl⟩:=he
   have hfd':f[j]?=some fd:=by simpa using hfd
   have hrun: ∀b o,∀w:World,(Instr.fieldAt t (.pointer (some ⟨b,o,none⟩)) j).run P w= .ok (.pointer (some ⟨b,o+fd.offset,none⟩)) w:=by
    intro b o w
    simp only[Instr.fieldAt,Sem.run_bind,run_underlying hf,Result.andThen_ok,hfd',Instr.sureAddr,Sem.run_pure,fieldPlace,run_sizeOf hz,if_neg hz,addr_add]
   split at hk
   ·rename_i id sub sz i c
    simp only[S] at hx
    obtain⟨hid,h0,b,o,h1,h2,rfl⟩:=hx
    refine⟨_,_,hrun _ _,hk,?_⟩
    simp only[S]
    exact⟨hid,h0,b,o,h1,h2,by simp only[Nat.add_assoc]⟩
   ·rename_i cs
    simp only[S,T] at hx
    obtain⟨_,b,o,vs,rfl,hb,hat,hT⟩:=hx
    obtain⟨h1,h2⟩:=TL.dropAt fd.offset hat hT
    refine⟨_,_,hrun _ _,hk,?_⟩
    simp only[S,T]
    exact⟨trivial,b,_,_,rfl,hb,h1,h2⟩
   ·exact hk.elim
  ·exact hk.elim
 ·exact hk.elim
theorem run_indexAt_slice{t e:TypeId}(ht:P.underlying t=some (.slice e))(hz:szOf P e≠0){b o len c:Nat}{k:IntKind}{i:Int}(h0:0≤i)(h1:i<len):
  (Instr.indexAt t (.slice (some ⟨b,o,none⟩) len c) (.int k i)).run P w= .ok (.pointer (some ⟨b,o+i.toNat*szOf P e,none⟩)) w:=by
 simp only[Instr.indexAt,asIntOf,Sem.run_bind,Sem.run_pure,Result.andThen_ok,run_underlying ht]
 rw[if_pos ⟨h0,h1⟩]
 simp only[Sem.run_bind,run_sizeOf hz,Result.andThen_ok,addr_add]
 rfl
theorem run_indexAt_array{t e:TypeId}{m:Nat}(ht:P.underlying t=some (.array m e))(hz:szOf P e≠0){b o:Nat}{k:IntKind}{i:Int}(h0:0≤i)(h1:i<m):
  (Instr.indexAt t (.pointer (some ⟨b,o,none⟩)) (.int k i)).run P w= .ok (.pointer (some ⟨b,o+i.toNat*szOf P e,none⟩)) w:=by
 simp only[Instr.indexAt,asIntOf,Sem.run_bind,Sem.run_pure,Result.andThen_ok,run_underlying ht,Instr.sureAddr]
 rw[if_pos ⟨h0,h1⟩]
 simp only[Sem.run_bind,run_sizeOf hz,Result.andThen_ok,addr_add]
 rfl
theorem iaddrK_sound{t:TypeId}{x ix:AV}{u v:Value}(hk:iaddrK P t x ix K)(hx:S hd n w I x u)(hi:S hd n w I ix v): ∃r av,(∀w:World,(Instr.indexAt t u v).run P w= .ok r w)∧K av∧S hd n w I av r:=by
 unfold iaddrK at hk
 split at hk
 ·rename_i e id sub sz off len k i ht
  obtain⟨rfl,hz,h0,h1,hk⟩:=hk
  simp only[S] at hx hi
  subst hi
  obtain⟨hid,hv,hh,hw⟩:=hx
  rcases hw with ⟨b,o,m,c,c',rfl,rfl,h2,h3,h4⟩ | ⟨rfl,A,rfl⟩
  ·refine⟨_,_,fun _=>run_indexAt_slice (tk_slice ht) hz h0 h1,hk,?_⟩
   simp only[S]
   exact⟨hid,_,b,o,hh,.inl ⟨_,_,rfl⟩,by simp only[Nat.add_mul,Nat.add_zero,Nat.add_assoc]⟩
  ·omega
 ·rename_i e es k i ht
  obtain⟨hz,h0,hk⟩:=hk
  split at hk
  ·rename_i el he
   obtain⟨hl,hk⟩:=hk
   simp only[S] at hi
   subst hi
   simp only[S,T] at hx
   obtain⟨_,A,c,rfl,hc,hm,hx⟩:=hx
   rcases hx with rfl | ⟨b,o,sz,vs,rfl,hb,hEach,hat,hT⟩
   ·simp at he
   ·have hsz:sz=szOf P e:=by rw[←hl];exact(hEach.mem el (List.mem_of_getElem? he)).symm
    subst hsz
    have hlt:i.toNat<es.length:=(List.getElem?_eq_some_iff.1 he).1
    obtain⟨F',h1,h2⟩:=hT.get hEach he
    rw[List.sublist_nil.1 h2] at h1
    refine⟨_,_,fun _=>run_indexAt_slice (tk_slice ht) hz h0 (by omega),hk,?_⟩
    simp only[S,T]
    refine⟨trivial,b,_,_,rfl,hb,?_,h1⟩
    intro j r hr
    rw[List.getElem?_take] at hr
    split at hr
    ·rw[List.getElem?_drop] at hr
     rw[Nat.add_assoc]
     exact hat _ _ hr
    ·cases hr
  ·exact hk.elim
 ·rename_i m e id sub sz i0 c k i ht
  obtain⟨hz,h0,h1,hk⟩:=hk
  simp only[S] at hx hi
  subst hi
  obtain⟨hid,h0',b,o,h2,h3,rfl⟩:=hx
  refine⟨_,_,fun _=>run_indexAt_array (tk_array ht) hz h0 h1,hk,?_⟩
  simp only[S]
  exact⟨hid,h0',b,o,h2,h3,by simp only[Nat.add_assoc]⟩
 ·rename_i m e cs k i ht
  obtain⟨hz,h0,h1,hk⟩:=hk
  simp only[S] at hi
  subst hi
  simp only[S,T] at hx
  obtain⟨_,b,o,vs,rfl,hb,hat,hT⟩:=hx
  obtain⟨h2,h3⟩:=TL.dropAt (i.toNat*szOf P e) hat hT
  refine⟨_,_,fun _=>run_indexAt_array (tk_array ht) hz h0 h1,hk,?_⟩
  simp only[S,T]
  exact⟨trivial,b,_,_,rfl,hb,h2,h3⟩
 ·exact hk.elim
theorem idxK_sound{t:TypeId}{x ix:AV}{u v:Value}(hk:idxK P t x ix K)(hx:S hd n w I x u)(hi:S hd n w I ix v): ∃r av,(Instr.index t u v).run P w= .ok r w∧K av∧S hd n w I av r:=by
 unfold idxK at hk
 split at hk
 ·rename_i s k i ht
  obtain⟨h0,h1,hk⟩:=hk
  simp only[S] at hx hi
  subst hx;subst hi
  refine⟨_,_,?_,hk,S_int⟩
  have hb:s[i.toNat]?=some (s.data.toList.getD i.toNat 0):=by
   have hlt:i.toNat<s.size:=by omega
   rw[getElem?_pos s i.toNat hlt]
   congr 1
   have:i.toNat<s.data.toList.length:=by simpa using hlt
   simp[List.getD_eq_getElem?_getD,List.getElem?_eq_getElem this]
   rfl
  simp only[Instr.index,asIntOf,Sem.run_bind,Sem.run_pure,Result.andThen_ok,run_underlying (tk_str ht),if_pos h0,hb]
  rfl
 ·exact hk.elim
theorem run_bound{v:Value}{y:Nat}{k:IntKind}{i:Int}{c:BoundsCode}(h0:0≤i)(h1:i≤y):(Instr.sliceBound (.int k i) y c).run P w= .ok i.toNat w:=by
 simp only[Instr.sliceBound,asIntOf,Sem.run_bind,Sem.run_pure,Result.andThen_ok,if_pos (And.intro h0 h1)]
def OptInt(x:Option AV)(v:Option Value)(d:Nat)(i:Int):Prop:=(x=none∧v=none∧i=d)∨ ∃y k,x=some y∧y= .int k i∧v=some (.int k i)
theorem run_bounds{isS:Bool}{len cap:Nat}{lo hi:Option Value}{xl xh:Option AV}{l r:Int}(hl:OptInt xl lo 0 l)(hh:OptInt xh hi len r)(h0:0≤l)(h1:l≤r)(h2:r≤cap):
  (Instr.sliceBounds isS len cap lo hi none).run P w= .ok (l.toNat,r.toNat,cap) w:=by
 have hb: ∀(k:IntKind) (i:Int) (y:Nat) (c:BoundsCode),0≤i→i≤y→(Instr.sliceBound (.int k i) y c).run P w= .ok i.toNat w:=fun k i y c g0 g1=>run_bound (v:=undef) g0 g1
 rcases hl with ⟨_,rfl,rfl⟩ | ⟨yl,kl,_,_,rfl⟩<;>rcases hh with ⟨_,rfl,rfl⟩ | ⟨yh,kh,_,_,rfl⟩
 ·simp[Instr.sliceBounds]
 ·simp[Instr.sliceBounds,hb kh r cap _ (by omega) h2]
 ·simp[Instr.sliceBounds,hb kl l len _ h0 h1]
 ·simp[Instr.sliceBounds,hb kh r cap _ (by omega) h2,hb kl l r.toNat _ h0 (by omega)]
theorem optInt_of{x:Option AV}{v:Option Value}{d:Nat}{i:Int}{k:IntKind}(h:x.getD (.int .i64 d)= .int k i)(hv: ∀y,x=some y→ ∃u,v=some u∧S hd n w I y u)(hn:x=none→v=none):OptInt x v d i:=by
 cases x with
 | none=>
  simp only[Option.getD_none,AV.int.injEq] at h
  exact .inl ⟨rfl,hn rfl,h.2.symm⟩
 | some y=>
  simp only[Option.getD_some] at h
  subst h
  obtain⟨u,rfl,hu⟩:=hv _ rfl
  simp only[S] at hu
  subst hu
  exact .inr ⟨_,k,rfl,rfl,rfl⟩
theorem run_slice_slice{t e:TypeId}(ht:P.underlying t=some (.slice e))(hz:szOf P e≠0){A:Option Addr}{len cap:Nat}{lo hi:Option Value}{xl xh:Option AV}{l r:Int}(hl:OptInt xl lo 0 l)(hh:OptInt xh hi len r)
  (h0:0≤l) (h1:l≤r) (h2:r≤cap):
  (Instr.sliceAt t (.slice A len cap) lo hi none).run P w= .ok (.slice (if cap=l.toNat then A else A.map (·.add (l.toNat*szOf P e))) (r.toNat-l.toNat) (cap-l.toNat)) w:=by
 simp only[Instr.sliceAt,Sem.run_bind,run_underlying ht,Result.andThen_ok,Instr.slice,run_bounds hl hh h0 h1 h2,run_sizeOf hz]
 rfl
theorem run_slice_str{t:TypeId}(ht:P.underlying t=some .string){s:ByteArray}{lo hi:Option Value}{xl xh:Option AV}{l r:Int}(hl:OptInt xl lo 0 l)(hh:OptInt xh hi s.size r)
  (h0:0≤l) (h1:l≤r) (h2:r≤s.size):(Instr.sliceAt t (.string s) lo hi none).run P w= .ok (.string (s.extract l.toNat r.toNat)) w:=by
 simp only[Instr.sliceAt,Sem.run_bind,run_underlying ht,Result.andThen_ok,Instr.slice,run_bounds hl hh h0 h1 h2,Option.isSome_none,Bool.false_eq_true,if_false,Sem.run_pure]
theorem sliceK_sound{t:TypeId}{x:AV}{lo hi:Option AV}{u:Value}{vl vh:Option Value}(hk:sliceK P t x lo hi K)(hx:S hd n w I x u)(hl: ∀y,lo=some y→ ∃u,vl=some u∧S hd n w I y u)(hln:lo=none→vl=none)
  (hh: ∀y,hi=some y→ ∃u,vh=some u∧S hd n w I y u) (hhn:hi=none→vh=none): ∃r av,(Instr.sliceAt t u vl vh none).run P w= .ok r w∧K av∧S hd n w I av r:=by
 unfold sliceK at hk
 split at hk
 ·rename_i e id sub sz off len k l ht hlo
  have hL:OptInt lo vl 0 l:=optInt_of (by simpa using hlo) hl hln
  split at hk
  ·rename_i k2 r hr
   have hR:OptInt hi vh len r:=optInt_of hr hh hhn
   obtain⟨rfl,hz,h0,h1,h2,hk⟩:=hk
   simp only[S] at hx
   obtain⟨hid,hv,hh0,hw⟩:=hx
   rcases hw with ⟨b,o,m,c,c',rfl,rfl,h3,h4,h5⟩ | ⟨rfl,A,rfl⟩
   ·refine⟨_,_,run_slice_slice (tk_slice ht) hz hL hR h0 h1 (by omega),hk,?_⟩
    simp only[S]
    refine⟨hid,_,hh0,?_⟩
    have e1:r.toNat-l.toNat=(r-l).toNat:=by omega
    by_cases hc:c'=l.toNat
    ·refine .inr ⟨by omega,?_⟩
     rw[e1,show(r-l).toNat=0 by omega,hc,Nat.sub_self]
     exact⟨_,rfl⟩
    ·rw[if_neg hc,e1]
     refine .inl ⟨b,o,m,c,c'-l.toNat,rfl,?_,by omega,by omega,by omega⟩
     simp only[Option.map_some,addr_add,Nat.add_mul,Nat.add_assoc]
   ·refine⟨_,_,run_slice_slice (tk_slice ht) hz hL hR h0 h1 (by omega),hk,?_⟩
    simp only[S]
    refine⟨hid,_,hh0,.inr ⟨by omega,?_⟩⟩
    rw[show r.toNat=0 by omega,show l.toNat=0 by omega]
    exact⟨_,rfl⟩
  ·exact hk.elim
 ·rename_i e es k l ht hlo
  have hL:OptInt lo vl 0 l:=optInt_of (by simpa using hlo) hl hln
  split at hk
  ·rename_i k2 r hr
   have hR:OptInt hi vh es.length r:=optInt_of hr hh hhn
   obtain⟨hz,hel,h0,h1,h2,hk⟩:=hk
   simp only[S,T] at hx
   obtain⟨_,A,c,rfl,hc,hm,hx⟩:=hx
   refine⟨_,_,run_slice_slice (tk_slice ht) hz hL hR h0 h1 (by omega),hk,?_⟩
   have hlen:((es.drop l.toNat).take (r-l).toNat).length=r.toNat-l.toNat:=by simp;omega
   simp only[S,T]
   refine⟨trivial,_,_,by rw[hlen],by rw[hlen];omega,by rw[hlen];omega,?_⟩
   by_cases hnil:(es.drop l.toNat).take (r-l).toNat=[]
   ·exact .inl hnil
   ·have hpos:0<r.toNat-l.toNat:=by rw[←hlen];exact List.length_pos_iff.2 hnil
    rcases hx with rfl | ⟨b,o,sz,vs,rfl,hb,hEach,hat,hT⟩
    ·simp at hnil
    ·have hsz:sz=szOf P e:=by
      cases es with
      | nil=>simp at hnil
      | cons e0 es0=>rw[←hel e0 (by simp)];exact hEach.1.symm
     subst hsz
     obtain⟨F1,hT1,hs1⟩:=hT.drop l.toNat hEach
     obtain⟨F2,hT2,hs2⟩:=hT1.take (r-l).toNat (hEach.drop l.toNat)
     obtain rfl:=List.sublist_nil.1 hs1
     obtain rfl:=List.sublist_nil.1 hs2
     rw[if_neg (by omega)]
     refine .inr ⟨b,o+l.toNat*szOf P e,szOf P e,_,by simp only[Option.map_some,addr_add],hb,(hEach.drop _).take _,?_,hT2⟩
     intro j q hq
     rw[List.getElem?_take] at hq
     split at hq
     ·rw[List.getElem?_drop] at hq
      rw[Nat.add_assoc]
      exact hat _ _ hq
     ·cases hq
  ·exact hk.elim
 ·rename_i e k l ht hlo
  have hL:OptInt lo vl 0 l:=optInt_of (by simpa using hlo) hl hln
  split at hk
  ·rename_i k2 r hr
   have hR:OptInt hi vh 0 r:=optInt_of (by simpa using hr) hh hhn
   obtain⟨hz,rfl,rfl,hk⟩:=hk
   simp only[S] at hx
   subst hx
   refine⟨_,_,run_slice_slice (tk_slice ht) hz hL hR (by omega) (by omega) (by omega),hk,?_⟩
   simp[S]
  ·exact hk.elim
 ·rename_i s k l ht hlo
  have hL:OptInt lo vl 0 l:=optInt_of (by simpa using hlo) hl hln
  split at hk
  ·rename_i k2 r hr
   have hR:OptInt hi vh s.size r:=optInt_of hr hh hhn
   obtain⟨h0,h1,h2,hk⟩:=hk
   simp only[S] at hx
   subst hx
   exact⟨_,_,run_slice_str (tk_str ht) hL hR h0 h1 h2,hk,S_str⟩
  ·exact hk.elim
 ·exact hk.elim
end
theorem eqs_faddrK:True:=by
 have:= @faddrK.eq_1
 trivial
theorem eqs_iaddrK:True:=by
 have:= @iaddrK.eq_1
 trivial
theorem eqs_sliceK:True:=by
 have:= @sliceK.eq_1
 trivial
end Go.Proofs.YthggfnefjbckeaaGreatDoor.X
set_option linter.unusedVariables false
set_option linter.unusedSimpArgs false
namespace Go.Proofs.YthggfnefjbckeaaGreatDoor.X
open Go
section
variable{P:Program}{G:Glo}{M I:Nat→Prop}{s:St}{hd:Nat→Value}{Fp:Nat→List Nat}{a:Act}{w:World}
theorem SR.newObj(h:SR G M I s hd Fp a w){h':Heap}(hr:HR G M I h' s.next hd Fp w)(w1:World)(arr:Array Value)(e:TypeId)(o:Ob)(v:Value)(Fs:List Nat)(hf:Free M I h' Fp Fs)(hlt: ∀b∈Fs,b<w.heap.size)
  (hs:w1.heap.size=w.heap.size+1) (hold: ∀b,b<w.heap.size→w1.heap[b]?=w.heap[b]?) (hnew:w1.heap[w.heap.size]?=some (.cells arr e (0,0))) (hos:w1.os=w.os) (htape:w1.tape=w.tape) (hout:w1.output=w.output)
  (ho: ∀hd' n',s.next≤n'→(∀id,id<s.next→hd' id=hd id)→Fr I I s.next n' hd hd' w w1→ObjR hd' n' w1 I o v (w.heap.size::Fs)):
  ∃Fp',SR G M I ⟨s.tmps,(s.next,o)::h',s.next+1⟩ (upd hd s.next v) Fp' a w1∧Ext M I I s.next hd (upd hd s.next v) w w1:=by
 have hb: ∀b,b<w.heap.size→w1.heap[b]?=w.heap[b]?:=hold
 have hr1:=hr.grown (w':=w1) (by omega) hb
 have fr0:=hr.fr (w':=w1) (by omega) hb
 have hE:Ext M I I s.next hd (upd hd s.next v) w w1:=
  ⟨⟨hos,htape,hout,by omega,fun b hb' _=>hold b hb'⟩,fun b hx=>⟨hx,hold b (hr.imm b hx).1⟩,fun id hid=>upd_ne _ _ (by omega),fun _ h=> .inl h⟩
 have hr2:=hr1.add o v (w.heap.size::Fs) (List.nodup_cons.2 ⟨fun hm=>by have:=hlt _ hm;omega,hf.nodup⟩) (fun b hm=>by
   rcases List.mem_cons.1 hm with rfl | hm
   ·exact hr.news _ (Nat.le_refl _)
   ·exact hf.mine b hm) (fun b hm hi=>by
   rcases List.mem_cons.1 hm with rfl | hm
   ·have:=(hr.imm _ hi).1;omega
   ·exact hf.imm b hm hi) (fun id u hu b hb' hm=>by
   rcases List.mem_cons.1 hm with rfl | hm
   ·have:=hr.ltB hu _ hb';omega
   ·exact hf.disj id u hu b hb' hm) (fun hd' hx=>ho hd' (s.next+1) (Nat.le_succ _) hx ?_)
 ·exact⟨_,h.move hr2 (fr0.trans (Fr.new I s.next hd w1 v)),hE⟩
 ·refine⟨Nat.le_succ _,fr0.im,fun id hid sub u hu=>?_⟩
  have hu':=fr0.hds id hid sub u hu
  have e:=hx id hid
  cases sub with
  | none=>simp only[HdOf] at hu'⊢;rw[e];exact hu'
  | some p=>obtain⟨x,y,z⟩:=p;simp only[HdOf] at hu'⊢;rw[e];exact hu'
theorem SR.newVar(h:SR G M I s hd Fp a w)(arr:Array Value)(e:TypeId){cs:List AV}(hc:SL hd s.next w I cs arr.toList):
  ∃hd' Fp',SR G M I ⟨s.tmps,(s.next,.var cs)::s.heap,s.next+1⟩ hd' Fp' a (w.alloc (.cells arr e))∧Ext M I I s.next hd hd' w (w.alloc (.cells arr e))∧
   S hd' (s.next+1) (w.alloc (.cells arr e)) I (.ptr s.next none 0 0 0) (.pointer (some ⟨w.heap.size,0,none⟩)):=by
 obtain⟨Fp',h1,h2⟩:=h.newObj h.heap (w.alloc (.cells arr e)) arr e (.var cs) (.pointer (some ⟨w.heap.size,0,none⟩)) [] (Free.nil _ _ _ _) (by simp) (by simp) (fun b hb=>heap_alloc_old w _ b hb) (heap_alloc_new w _) rfl rfl rfl
  (fun hd' n' hn hx fr=>⟨_,arr,e,rfl,heap_alloc_new w _,fr.SL hc,rfl⟩)
 refine⟨_,Fp',h1,h2,?_⟩
 simp only[S,HdOf]
 exact⟨Nat.lt_succ_self _,_,w.heap.size,0,rfl,.inr (by rw[upd_same]),rfl⟩
end
def zeroCells(P:Program)(t:TypeId):Option (List AV):=((P.info? t).bind (·.zero)).bind fun v=>if v.cells.toList.all (·.oneCell') then some (v.cells.toList.map ofC) else none
def allocK(P:Program)(s:St)(t:TypeId)(K:AV→St→Prop):Prop:=
 match zeroCells P t with
 | some cs=>K (.ptr s.next none 0 0 0) ⟨s.tmps,(s.next,.var cs)::s.heap,s.next+1⟩
 | none=>False
def isCell:AV→Bool
 | .con u=>u.oneCell'
 | .int .. | .bool _ | .str _ | .nil | .sl _ | .pf _ | .ref .. | .ptr .. | .fn ..=>true
 | _=>false
def cellsV:AV→Option (List AV)
 | .agg cs=>some cs
 | x=>if isCell x then some [x] else none
def boxK(s:St)(v:AV)(K:AV→St→Prop):Prop:=
 match cellsV v with
 | some cs=>K (.ptr s.next none 0 0 0) ⟨s.tmps,(s.next,.var cs)::s.heap,s.next+1⟩
 | none=>False
theorem isCell_one{hd:Nat→Value}{n:Nat}{w:World}{I:Nat→Prop}{x:AV}{v:Value}(hc:isCell x=true)(h:S hd n w I x v):v.oneCell'=true∧v.cells= #[v]:=by
 cases x<;>simp[isCell] at hc<;>simp only[S,T] at h
 case con u=>
  subst h
  refine⟨hc,?_⟩
  cases v<;>first | rfl | simp[Value.oneCell'] at hc
 case int=>subst h;exact⟨rfl,rfl⟩
 case bool=>subst h;exact⟨rfl,rfl⟩
 case str=>subst h;exact⟨rfl,rfl⟩
 case nil=>subst h;exact⟨rfl,rfl⟩
 case sl=>obtain⟨_,A,c,rfl,_⟩:=h;exact⟨rfl,rfl⟩
 case pf=>obtain⟨_,b,o,vs,rfl,_⟩:=h;exact⟨rfl,rfl⟩
 case ref=>
  obtain⟨_,h0,_,hw⟩:=h
  rcases hw with ⟨b,o,n,c,c',_,rfl,_⟩ | ⟨_,A,rfl⟩<;>exact⟨rfl,rfl⟩
 case ptr=>obtain⟨_,h0,b,o,_,_,rfl⟩:=h;exact⟨rfl,rfl⟩
 case fn=>obtain⟨vs,rfl,_⟩:=h;exact⟨rfl,rfl⟩
theorem cellsV_SL{hd:Nat→Value}{n:Nat}{w:World}{I:Nat→Prop}{x:AV}{cs:List AV}{v:Value}(hc:cellsV x=some cs)(h:S hd n w I x v):SL hd n w I cs v.cells.toList:=by
 unfold cellsV at hc
 split at hc
 ·simp only[Option.some.injEq] at hc
  subst hc
  simp only[S] at h
  obtain⟨vs,rfl,hs⟩:=h
  exact hs
 ·split at hc
  ·rename_i hx
   simp only[Option.some.injEq] at hc
   subst hc
   obtain⟨h1,h2⟩:=isCell_one hx h
   rw[h2]
   simp only[SL]
   exact⟨v,[],rfl,h1,h,rfl⟩
  ·cases hc
theorem sameB_alloc(w:World)(o:Obj):SameB w (w.alloc o):=⟨by show w.heap.size≤(w.heap.push o).size;simp,fun b hb=>heap_alloc_old w o b hb⟩
theorem run_newRow{P:Program}{w:World}(e:TypeId)(cs:Array Value):(newRow e cs).run P w= .ok ⟨w.heap.size,0,none⟩ (w.alloc (.cells cs e)):=by
 simp[newRow]
section
variable{P:Program}{G:Glo}{M I:Nat→Prop}{s:St}{hd:Nat→Value}{Fp:Nat→List Nat}{a:Act}{w:World}{K:AV→St→Prop}
theorem allocK_sound(h:SR G M I s hd Fp a w){t:TypeId}(hk:allocK P s t K): ∃v w',(Instr.alloc t true (.tuple #[])).run P w= .ok v w'∧OpRes G M I s hd a w K (.value v) w'∧SameB w w':=by
 unfold allocK at hk
 split at hk
 ·rename_i cs hz
  unfold zeroCells at hz
  obtain⟨z,hz1,hz2⟩:=Option.bind_eq_some_iff.1 hz
  obtain⟨i,hi,hiz⟩:=Option.bind_eq_some_iff.1 hz1
  split at hz2
  ·rename_i hones
   simp only[Option.some.injEq] at hz2
   subst hz2
   obtain⟨hd',Fp',h1,h2,h3⟩:=h.newVar z.cells t (cs:=z.cells.toList.map ofC) (ofC_SL hd _ w I _ (List.all_eq_true.1 hones))
   refine⟨_,_,?_,⟨_,_,_,I,hd',Fp',.inl rfl,hk,h3,h1,h2,Nat.le_succ _⟩,sameB_alloc w _⟩
   simp[Instr.alloc,zeroValue,typeInfo,hi,hiz,newVar,run_newRow]
  ·cases hz2
 ·exact hk.elim
theorem boxK_sound(h:SR G M I s hd Fp a w){t:TypeId}{x:AV}{u:Value}(hk:boxK s x K)(hx:S hd s.next w I x u): ∃v w',(Instr.box t u).run P w= .ok v w'∧OpRes G M I s hd a w K (.value v) w'∧SameB w w':=by
 unfold boxK at hk
 split at hk
 ·rename_i cs hc
  obtain⟨hd',Fp',h1,h2,h3⟩:=h.newVar u.cells t (cellsV_SL hc hx)
  refine⟨_,_,?_,⟨_,_,_,I,hd',Fp',.inl rfl,hk,h3,h1,h2,Nat.le_succ _⟩,sameB_alloc w _⟩
  simp[Instr.box,newVar,run_newRow]
 ·exact hk.elim
end
theorem eqs_allocK:True:=by
 have:= @allocK.eq_1
 trivial
theorem eqs_isCell:True:=by
 have:= @isCell.eq_1
 trivial
theorem eqs_cellsV:True:=by
 have:= @cellsV.eq_1
 trivial
theorem eqs_boxK:True:=by
 have:= @boxK.eq_1
 trivial
end Go.Proofs.YthggfnefjbckeaaGreatDoor.X
