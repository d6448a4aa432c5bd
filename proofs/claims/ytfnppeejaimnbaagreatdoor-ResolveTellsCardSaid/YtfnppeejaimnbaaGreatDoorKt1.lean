/- The parts EngA to Ty, put together. Conditions: each tells its own. -/
import Derived.Calls
import Derived.Defers
import Derived.Orders
import Derived.Laws.StructEq
import Derived.Conc.LoneSelect
import Derived.Scope
import Derived.Below
import Derived.IntWalk
import Derived.Recover
import Derived.Sort.Grow
open Go.Sem renaming bind → bD,run → mE,pure → pR,bind_assoc' → qG
open Array renaming getElem?_setIfInBounds_ne → bO,getElem?_push → eE,getElem?_toList → oE,getElem?_setIfInBounds → oK,getD_eq_getD_getElem? → oL,getElem?_eq_none → oT,replicate → oV,mem_of_getElem? → oW,getElem?_modify → oX,mem_toList_iff → oZ,getElem?_append_left → pD,getElem?_eq_getElem → pH,size_setIfInBounds → pI,range → qP,forIn_toList → rO,ext' → rQ,size_append → rU
open List renaming getD_eq_getElem?_getD → hC,getElem?_append_left → hM,replicate → nY,getElem?_eq_none → oB,mem_append_left → oC,eq_nil_of_length_eq_zero → oI,getElem?_cons_zero → oJ,getElem?_append_right → oN,mem_append_right → oQ,getElem?_eq_getElem → oR,length_append → oU,mem_cons_of_mem → pA,mem_filter → pL,filter_cons_of_pos → pM,getElem?_cons_succ → pN,mem_map → pS,all_eq_true → pW,length_cons → pX,map_cons → pZ,mem_zipIdx_iff_getElem? → qH,mem_of_find?_eq_some → qO,mem_cons → qT,filter_cons_of_neg → qV,zipWith → qY,forIn_cons → rC,find?_cons → rD,mem_append → rE,contains_iff_mem → rF,getElem?_toArray → rG,mem_cons_self → rP,size_toArray → rV,getElem?_set → rY,getElem?_map → rZ,modify_cons → sB
open Int renaming toNat → nZ
open Nat renaming beq → oA,add_mul → oD,eq_of_beq_eq_true → oF,lt_or_ge → oH,mul_le_mul_right → pC,add_sub_cancel_left → pQ,zero_add → pT,le_refl → qC,le_of_ble_eq_true → rH,add_comm → rX,one_mul → sD,blt → sE
open Bool renaming false_eq_true → oG,and_eq_true → qU,or_eq_false_iff → rI
open Go.Instr renaming findNow → oM,checkKey → oP,findAsking → pG,sameNow → pJ,findKey → pK,sliceBound → pV,storeAt → pY,lookup → qJ,sameBits → qM,keyThatStays → qN,sliceAt → qS,makeSlice → qZ,mapUpdate → rA,fieldAt → rM,indexAt → rN,sliceBounds → rT,index → sC
open Go.Builtin renaming firstCells → oO,zeroCells → oY,nextslicecap → pB,len_ → pE,append_ → qD,growBy → rJ,cap_ → rS
open Go.Value renaming slice → oS,int → pO
open Go.IntKind renaming wrap → pF
open UInt8 renaming ofNat → pP
open List.Perm renaming refl → pU,swap → qL,cons → rK
open Go.World renaming frozen? → qB,setCell → qQ
open Option renaming isSome_iff_exists → qR,map → rR
open Go.Addr renaming add → qX
open Iff renaming rfl → rL
open ByteArray renaming mk → sF
open Go renaming Value → sG,TypeId → sH,Program → sI,World → sJ,Addr → sK
namespace Go.Eng
open Go
abbrev mV:=@decide_eq_false
abbrev mW:=@decide_eq_true
abbrev mX:=@of_decide_eq_true
abbrev mY:=@of_decide_eq_false
abbrev mZ:=@if_pos
abbrev nA:=@if_neg
abbrev nB:=@congrArg
abbrev nC:=@absurd
abbrev nD:=@decide_eq_true_eq
abbrev nF:=@decide_eq_false_iff_not
abbrev nG:=Option sK
abbrev nH:=List Int
abbrev nI:=ByteArray
theorem nJ {p:Prop}(h:p:=by omega):p:=h
theorem nN {p:Prop}(h:p:=by simp;omega):p:=h
theorem nO {p:Prop}(h:p:=by dsimp only;omega):p:=h
theorem nP {p:Prop}(h:p:=by simp):p:=h
theorem nQ {p:Prop}(h:p:=by decide):p:=h
section
variable {P:sI}
abbrev AH:=Array Obj
def E9(h:AH):sJ:={heap:=h,tape:=λ_ _=>0,drawn:=0,os:=default,output:=#[]}
def Bb(h:AH)(a:sK):Option sG:=(E9 h).cell? a
def fK(h:AH)(r:Nat):Option (sH×Nat):=(E9 h).shape? r
def HG(h:AH)(a:sK):Bool:=(E9 h).frozen? a
def TJ(h:AH)(a:sK)(n:Nat):AH:=((E9 h).freeze a n).heap
def Cm(h:AH)(a:sK)(v:sG):AH:=((E9 h).setCell a v).heap
theorem Vh(w:sJ)(a:sK):w.cell? a=Bb w.heap a:=rfl
theorem US(w:sJ)(a:sK)(n:Nat):(w.freeze a n).heap=TJ w.heap a n:=by
 unfold TJ World.freeze
 split<;>rfl
structure CB (w w':sJ):Prop where
 os:w'.os=w.os
 tape:w'.tape=w.tape
 output:w'.output=w.output
 size:w.heap.size≤w'.heap.size
theorem CB.refl(w:sJ):CB w w:=⟨rfl,rfl,rfl,qC _⟩
theorem CB.trans{a b c:sJ}(h:CB a b)(k:CB b c):CB a c:=⟨k.os.trans h.os,k.tape.trans h.tape,k.output.trans h.output,Nat.le_trans h.size k.size⟩
theorem CB.freeze(w:sJ)(a:sK)(n:Nat):CB w (w.freeze a n):=by
 unfold World.freeze;split
 all_goals exact⟨rfl,rfl,rfl,nP⟩
theorem CB.setCell(w:sJ)(a:sK)(v:sG):CB w (w.setCell a v):=⟨rfl,rfl,rfl,by unfold qQ;simp⟩
theorem CB.push(w:sJ)(o:Obj):CB w {w with heap:=w.heap.push o} :=⟨rfl,rfl,rfl,nP⟩
theorem CB.setObj(w:sJ)(r:Nat)(o:Obj):CB w {w with heap:=w.heap.setIfInBounds r o} :=⟨rfl,rfl,rfl,nP⟩
def Value.plain:sG→Bool
 |.agg _ | .tuple _=>false
 |_=>true
def Ag(P:sI){α:Type}:Sem α→(α→AH→Prop)→(sG→AH→Prop)→AH→Prop
 |.pure a,K,_,h=>K a h
 |.load _ a k,K,X,h=>∃v,Bb h a=some v∧Ag P (k v) K X h
 |.store _ a v k,K,X,h=>Value.plain v=true∧(Bb h a).isSome=true∧HG h a=false∧Ag P k K X (Cm h a v)
 |.new o k,K,X,h=>Ag P (k h.size) K X (h.push o)
 |.shape r k,K,X,h=>Ag P (k (fK h r)) K X h
 |.freeze a n k,K,X,h=>Ag P k K X (TJ h a n)
 |.frozen a k,K,X,h=>Ag P (k (HG h a)) K X h
 |.getObj r k,K,X,h=>∃o,h[r]? =some o∧(∀c e f,o≠.cells c e f)∧Ag P (k o) K X h
 |.setObj r o k,K,X,h=>(∃b,h[r]? =some b∧(∀c e f,b≠.cells c e f))∧Ag P k K X (h.setIfInBounds r o)
 |.choose q k,K,X,h=>if q.forced=true then Ag P (k 0) K X h else ∀t,Ag P (k (q.cut t)) K X h
 |.sys _ _,_,_,_=>False
 |.program k,K,X,h=>Ag P (k P) K X h
 |.mark _ k,K,X,h=>Ag P k K X h
 |.halt (.panic v),_,X,h=>X v h
 |.halt _,_,_,_=>False
theorem SR{α:Type}(s:Sem α):∀ {K:α→AH→Prop}{X:sG→AH→Prop}(w:sJ),Ag P s K X w.heap→
 (∃a d,s.run P w= .ok a d∧CB w d∧K a d.heap)∨(∃v d,s.run P w= .halt (.panic v) d∧CB w d∧X v d.heap):=by
 induction s with
 |pure a=>intro K X w h;exact .inl ⟨a,w,rfl,.refl w,h⟩
 |load m a k f=>
  intro K X w h;obtain⟨v,t,l⟩:=h
  have:w.cell? a=some v:=t
  simp only[mE,this];exact f v w l
 |store m a v k f=>
  intro K X w h;obtain⟨F,u,y,l⟩:=h;have⟨x,z⟩:=qR.1 u;have A:w.cell? a=some x:=z;have B:w.frozen? a=false:=y;have j:mE P (.store m a v k) w=k.run P (w.setCell a v):=by
   cases v<;>simp_all [Value.plain,mE]
  rw[j];rcases f (w.setCell a v) l with⟨b,d,g,e,i⟩|⟨b,d,g,e,i⟩
  ·exact .inl ⟨b,d,g,(CB.setCell w a v).trans e,i⟩
  ·exact .inr ⟨b,d,g,(CB.setCell w a v).trans e,i⟩
 |new o k f=>
  intro K X w h;simp only[mE];rcases f w.heap.size {w with heap:=w.heap.push o} h with⟨b,d,g,e,i⟩|⟨b,d,g,e,i⟩
  ·exact .inl ⟨b,d,g,(CB.push w o).trans e,i⟩
  ·exact .inr ⟨b,d,g,(CB.push w o).trans e,i⟩
 |shape r k f=>intro K X w h;simp only[mE];exact f _ w h
 |freeze a n k f=>
  intro K X w h;simp only[mE];rcases f (w.freeze a n) (by rw[US];exact h) with⟨b,d,g,e,i⟩|⟨b,d,g,e,i⟩
  ·exact .inl ⟨b,d,g,(CB.freeze w a n).trans e,i⟩
  ·exact .inr ⟨b,d,g,(CB.freeze w a n).trans e,i⟩
 |frozen a k f=>intro K X w h;simp only[mE];exact f _ w h
 |getObj r k f=>
  intro K X w h;obtain⟨o,C,D,l⟩:=h;have j:mE P (.getObj r k) w=(k o).run P w:=by
   cases o<;>simp_all [mE]
  rw[j];exact f o w l
 |setObj r o k f=>
  intro K X w h;obtain⟨⟨E,C,D⟩,l⟩:=h;have j:mE P (.setObj r o k) w=k.run P {w with heap:=w.heap.setIfInBounds r o} :=by
   cases E<;>simp_all [mE]
  rw[j];rcases f {w with heap:=w.heap.setIfInBounds r o} l with⟨b,d,g,e,i⟩|⟨b,d,g,e,i⟩
  ·exact .inl ⟨b,d,g,(CB.setObj w r o).trans e,i⟩
  ·exact .inr ⟨b,d,g,(CB.setObj w r o).trans e,i⟩
 |choose q k f=>
  intro K X w h;simp only[Ag]at h;simp only[mE];split at h
  ·rename_i p;simp only[p,if_true];exact f _ w h
  ·rename_i p
   simp only[p];rcases f (q.cut (w.tape w.drawn q)) {w with drawn:=w.drawn+1} (h _) with⟨b,d,g,e,i⟩|⟨b,d,g,e,i⟩
   ·exact .inl ⟨b,d,g,⟨e.os,e.tape,e.output,e.size⟩,i⟩
   ·exact .inr ⟨b,d,g,⟨e.os,e.tape,e.output,e.size⟩,i⟩
 |sys c k f=>intro K X w h;exact h.elim
 |program k f=>intro K X w h;simp only[mE];exact f _ w h
 |mark m k f=>intro K X w h;simp only[mE];exact f w h
 |halt x=>
  intro K X w h;cases x<;>first | exact h.elim | exact .inr ⟨_,w,rfl,.refl w,h⟩
theorem Bk{α:Type}(s:Sem α):∀ {K g:α→AH→Prop}{X X':sG→AH→Prop}{h:AH},
 (∀a h,K a h→g a h)→(∀a h,X a h→X' a h)→Ag P s K X h→Ag P s g X' h:=by
 induction s with
 |pure a=>intro K g X X' h d e H;exact d _ _ H
 |load m a k f=>intro K g X X' h d e ⟨v,hv,H⟩;exact⟨v,hv,f v d e H⟩
 |store m a v k f=>intro K g X X' h d e ⟨a,b,c,H⟩;exact⟨a,b,c,f d e H⟩
 |new o k f=>intro K g X X' h d e H;exact f _ d e H
 |shape r k f=>intro K g X X' h d e H;exact f _ d e H
 |freeze a n k f=>intro K g X X' h d e H;exact f d e H
 |frozen a k f=>intro K g X X' h d e H;exact f _ d e H
 |getObj r k f=>intro K g X X' h d e ⟨o,a,b,H⟩;exact⟨o,a,b,f o d e H⟩
 |setObj r o k f=>intro K g X X' h d e ⟨a,H⟩;exact⟨a,f d e H⟩
 |choose q k f=>
  intro K g X X' h d e H;simp only[Ag]at H ⊢;split at H
  ·rename_i i;simp only[i,if_true];exact f _ d e H
  ·rename_i i;simp only[i];exact λt=>f _ d e (H t)
 |sys c k f=>intro K g X X' h d e H;exact H
 |program k f=>intro K g X X' h d e H;exact f _ d e H
 |mark m k f=>intro K g X X' h d e H;exact f d e H
 |halt x=>intro K g X X' h d e H;cases x<;>first | exact H | exact e _ _ H
theorem Ao{α β:Type}(s:Sem α)(f:α→Sem β):∀ {K:β→AH→Prop}{X:sG→AH→Prop}{h:AH},
 Ag P s (λa g=>Ag P (f a) K X g) X h→Ag P (s.bind f) K X h:=by
 induction s with
 |pure a=>intro K X h H;exact H
 |load m a k d=>intro K X h ⟨v,hv,H⟩;exact⟨v,hv,d v H⟩
 |store m a v k d=>intro K X h ⟨a,b,c,H⟩;exact⟨a,b,c,d H⟩
 |new o k d=>intro K X h H;exact d _ H
 |shape r k d=>intro K X h H;exact d _ H
 |freeze a n k d=>intro K X h H;exact d H
 |frozen a k d=>intro K X h H;exact d _ H
 |getObj r k d=>intro K X h ⟨o,a,b,H⟩;exact⟨o,a,b,d o H⟩
 |setObj r o k d=>intro K X h ⟨a,H⟩;exact⟨a,d H⟩
 |choose q k d=>
  intro K X h H;simp only[Ag,bD]at H ⊢;split at H
  ·rename_i e;simp only[e,if_true];exact d _ H
  ·rename_i e;simp only[e];exact λt=>d _ (H t)
 |sys c k d=>intro K X h H;exact H
 |program k d=>intro K X h H;exact d _ H
 |mark m k d=>intro K X h H;exact d H
 |halt x=>intro K X h H;cases x<;>exact H
inductive Bc where
 |int (k:IntKind)|bool | string | pointer | slice | map | chan | func | iface
 deriving DecidableEq,Inhabited
abbrev Bc.Ty:Bc→Type
 |.int _=>Int
 |.bool=>Bool
 |.string=>nI
 |.pointer=>nG
 |.slice=>Option sK×Nat×Nat
 |.map=>Option Nat
 |.chan=>Option Nat
 |.func=>Option (Fn×Array sG×Array sG)
 |.iface=>Option (sH×sG)
def Bc.val:(a:Bc)→a.Ty→sG
 |.int k,n=>.int k n
 |.bool,b=>.bool b
 |.string,s=>.string s
 |.pointer,p=>.pointer p
 |.slice,x=>.slice x.1 x.2.1 x.2.2
 |.map,r=>.map r
 |.chan,r=>.chan r
 |.func,none=>.nilFunc
 |.func,some x=>.func x.1 x.2.1 x.2.2
 |.iface,none=>.nilIface
 |.iface,some x=>.iface x.1 x.2
def Bc.of:(a:Bc)→sG→Option a.Ty
 |.int k,.int k' n=>if k'=k then some n else none
 |.bool,.bool b=>some b
 |.string,.string s=>some s
 |.pointer,.pointer p=>some p
 |.slice,.slice p n c=>some (p,n,c)
 |.map,.map r=>some r
 |.chan,.chan r=>some r
 |.func,.nilFunc=>some none
 |.func,.func f a b=>some (some (f,a,b))
 |.iface,.nilIface=>some none
 |.iface,.iface t v=>some (some (t,v))
 |_,_=>none
theorem Bc.of_val:∀(a:Bc) (v:sG) (x:a.Ty),a.of v=some x→v=a.val x:=by
 intro a v x h;cases a<;>cases v<;>simp only[Bc.of]at h<;>first
  |(split at h<;>simp_all [Bc.val];done)
  |(cases h<;>rfl)
theorem Bc.val_plain(a:Bc)(x:a.Ty):Value.plain (a.val x)=true:=by cases a<;>first | rfl | (cases x<;>rfl)
abbrev Atoms.Ty:List Bc→Type
 | [] =>Unit
 |a::r=>a.Ty×Atoms.Ty r
def Atoms.vals:(l:List Bc)→Atoms.Ty l→List sG
 | [],_=>[]
 |a::r,x=>a.val x.1::Atoms.vals r x.2
def Atoms.of:(l:List Bc)→List sG→Option (Atoms.Ty l)
 | [],[] =>some ()
 |a::r,v::vs=>match a.of v,Atoms.of r vs with
  |some x,some y=>some (x,y)
  |_,_=>none
 |_,_=>none
theorem Atoms.of_vals:∀(l:List Bc) (vs:List sG) (x:Atoms.Ty l),Atoms.of l vs=some x→vs=Atoms.vals l x:=by
 intro l
 induction l with
 |nil=>intro vs x h;cases vs<;>simp_all [Atoms.of,Atoms.vals]
 |cons a r b=>
  intro vs x h;cases vs with
  |nil=>simp[Atoms.of]at h
  |cons v vs=>
   simp only[Atoms.of]at h;split at h
   ·rename_i x1 c d e
    cases h;rw[Bc.of_val a v x1 d,b vs c e];rfl
   ·cases h
inductive Sh1 where
 |atom (a:Bc)
 |agg (l:List Bc)
 deriving Inhabited
abbrev Sh1.Ty:Sh1→Type
 |.atom a=>a.Ty
 |.agg l=>Atoms.Ty l
def Sh1.val:(s:Sh1)→s.Ty→sG
 |.atom a,x=>a.val x
 |.agg l,x=>.agg (Atoms.vals l x).toArray
def Sh1.of:(s:Sh1)→sG→Option s.Ty
 |.atom a,v=>a.of v
 |.agg l,.agg cs=>Atoms.of l cs.toList
 |.agg _,_=>none
theorem Sh1.of_val(s:Sh1)(v:sG)(x:s.Ty)(h:s.of v=some x):v=s.val x:=by
 cases s with
 |atom a=>exact Bc.of_val a v x h
 |agg l=>
  cases v<;>simp only[Sh1.of]at h<;>first | cases h | skip
  rename_i cs
  have:=Atoms.of_vals l cs.toList x h
  simp only[Sh1.val,←this]
abbrev Shs.Ty:List Sh1→Type
 | [] =>Unit
 |s::r=>s.Ty×Shs.Ty r
def Shs.vals:(l:List Sh1)→Shs.Ty l→List sG
 | [],_=>[]
 |a::r,x=>a.val x.1::Shs.vals r x.2
def Shs.of:(l:List Sh1)→List sG→Option (Shs.Ty l)
 | [],[] =>some ()
 |a::r,v::vs=>match a.of v,Shs.of r vs with
  |some x,some y=>some (x,y)
  |_,_=>none
 |_,_=>none
theorem Shs.of_vals:∀(l:List Sh1) (vs:List sG) (x:Shs.Ty l),Shs.of l vs=some x→vs=Shs.vals l x:=by
 intro l
 induction l with
 |nil=>intro vs x h;cases vs<;>simp_all [Shs.of,Shs.vals]
 |cons a r b=>
  intro vs x h;cases vs with
  |nil=>simp[Shs.of]at h
  |cons v vs=>
   simp only[Shs.of]at h;split at h
   ·rename_i x1 c d e
    cases h;rw[Sh1.of_val a v x1 d,b vs c e];rfl
   ·cases h
inductive Sh where
 |one (s:Sh1)
 |tuple (l:List Sh1)
 deriving Inhabited
abbrev Sh.Ty:Sh→Type
 |.one s=>s.Ty
 |.tuple l=>Shs.Ty l
def Sh.val:(s:Sh)→s.Ty→sG
 |.one s,x=>s.val x
 |.tuple l,x=>.tuple (Shs.vals l x).toArray
inductive Bl where
 |out (vs:List sG)
 |brk (id:Nat) (vs:List sG)
 |ret (v:sG)
 |pan (chain:List PanicEntry)
inductive T:Type 1 where
 |out (vs:List sG)
 |brk (id:Nat) (vs:List sG)
 |ret (v:sG)
 |pan (v:sG)
 |stuck
 |load (s:Bc) (a:sK) (k:s.Ty→T)
 |store (a:sK) (v:sG) (k:T)
 |new (o:Obj) (k:Nat→T)
 |sem (s:Sem sG) (sh:Sh) (k:sh.Ty→T)
 |call (f:FuncId) (args:List sG) (sh:Sh) (k:sh.Ty→T)
 |still (a:sK) (v:sG) (k:T)
 |both (x y:T)
 |join (ss:List Sh1) (x:T) (k:Shs.Ty ss→T)
 |block (id:Nat) (ss:List Sh1) (x:T) (k:Shs.Ty ss→T)
 |loop (ss:List Sh1) (init:List sG) (body:Shs.Ty ss→T)
 |sel (c:Nat) (send:Option sG) (zero:sG) (k:Int→Bool→sG→T)
 |later (f:FuncId) (args:List sG) (x k:T)
 |must (p:Prop) (k:T)
def nW(p:nG)(k:sK→T):T:=match p with
 |some a=>k a
 |none=>.stuck
abbrev chk(p:Prop)[Decidable p](k:T):T:=.must p k
inductive Fin where
 |ret (v:sG)
 |pan (chain:List PanicEntry)
def nX(P:sI)(f:FuncId)(args:List sG)(h:AH)(R:Fin→AH→Prop):Prop:=
 ∀w,w.heap=h→Calls P f args.toArray w λe a=>CB w a∧match e with
  |.returned v=>R (.ret v) a.heap
  |.panicked chain=>R (.pan chain) a.heap
  |.outgrown=>False
theorem nX.mono{f:FuncId}{args:List sG}{h:AH}{R b:Fin→AH→Prop}(H:nX P f args h R)
 (d:∀e h',R e h'→b e h'):nX P f args h b:=λw g=>(H w g).mono λe i a=>⟨a.1,by
 have c:=a.2;cases e<;>first | exact d _ _ c | exact c⟩
def Jd(P:sI)(f:FuncId)(args:List sG)(u:FrameMode)(h:AH)(R:Fin→FrameMode→AH→Prop):Prop:=
 ∀w,w.heap=h→CallsD P f args.toArray u w λe b a=>CB w a∧match e with
  |.returned v=>R (.ret v) b a.heap
  |.panicked chain=>R (.pan chain) b a.heap
  |.outgrown=>False
theorem Jd.mono{f:FuncId}{args:List sG}{u:FrameMode}{h:AH}{R c:Fin→FrameMode→AH→Prop}(H:Jd P f args u h R)
 (g:∀e b h',R e b h'→c e b h'):Jd P f args u h c:=λw i=>(H w i).mono λe b j a=>⟨a.1,by
 have d:=a.2;cases e<;>first | exact g _ _ _ d | exact d⟩
def Yw(c:Nat)(send:Option sG)(zero:sG)(k:Int→Bool→sG→AH→Prop)(h:AH):Prop:=
 ∃cap a s r,h[c]? =some (.chan cap a false s r false)∧match send with
  |some v=>if a.size<cap then k 0 false zero (h.setIfInBounds c (.chan cap (a.push v) false (s+1) r false)) else k (-1) false zero h
  |none=>if 0<a.size then k 0 true (a.getD 0 undef) (h.setIfInBounds c (.chan cap (a.extract 1 a.size) false s (r+1) false)) else k (-1) false zero h
def T.wp(P:sI):T→(Bl→AH→Prop)→AH→Prop
 |.out vs,Q,h=>Q (.out vs) h
 |.brk id vs,Q,h=>Q (.brk id vs) h
 |.ret v,Q,h=>Q (.ret v) h
 |.pan v,Q,h=>Q (.pan [{v,recovered:=false}]) h
 |.stuck,_,_=>False
 |.load s a k,Q,h=>∃x:s.Ty,Bb h a=some (s.val x)∧(k x).wp P Q h
 |.store a v k,Q,h=>Value.plain v=true∧(Bb h a).isSome=true∧HG h a=false∧k.wp P Q (Cm h a v)
 |.new o k,Q,h=>(k h.size).wp P Q (h.push o)
 |.sem s sh k,Q,h=>Ag P s (λv b=>∃x:sh.Ty,v=sh.val x∧(k x).wp P Q b) (λv b=>Q (.pan [{v,recovered:=false}]) b) h
 |.call f args sh k,Q,h=>nX P f args h λe b=>match e with
  |.ret v=>∃x:sh.Ty,v=sh.val x∧(k x).wp P Q b
  |.pan chain=>Q (.pan chain) b
 |.still a v k,Q,h=>Bb h a=some v∧k.wp P Q h
 |.both x y,Q,h=>x.wp P Q h∧y.wp P Q h
 |.join ss x k,Q,h=>x.wp P (λd b=>match d with
  |.out vs=>(match Shs.of ss vs with
   |some y=>(k y).wp P Q b
   |none=>False)
  |d=>Q d b) h
 |.block id ss x k,Q,h=>x.wp P (λd b=>match d with
  |.out vs=>(match Shs.of ss vs with
   |some y=>(k y).wp P Q b
   |none=>False)
  |.brk id' vs=>bif oA id' id then(match Shs.of ss vs with
   |some y=>(k y).wp P Q b
   |none=>False) else Q (.brk id' vs) b
  |d=>Q d b) h
 |.loop ss init body,Q,h=>∃(I:Shs.Ty ss→AH→Prop) (μ:Shs.Ty ss→AH→Nat),
  (∃y,Shs.of ss init=some y∧I y h)∧
  ∀y h,I y h→(body y).wp P (λd b=>match d with
   |.out vs=>(match Shs.of ss vs with
    |some j=>I j b∧μ j b<μ y h
    |none=>False)
   |d=>Q d b) h
 |.sel c send zero k,Q,h=>Yw c send zero (λi ok v b=>(k i ok v).wp P Q b) h
 |.must p k,Q,h=>p∧k.wp P Q h
 |.later f args x k,Q,h=>x.wp P (λd b=>match d with
  |.ret _=>Jd P f args .returning b λe u g=>match e with
   |.ret _=>settle u= .returning∧k.wp P Q g
   |.pan _=>False
  |.pan chain=>Jd P f args (.panicking chain) b λe u g=>match e with
   |.ret _=>(match settle u with
    |.returning=>k.wp P Q g
    |.panicking c=>Q (.pan c) g
    |.run=>False)
   |.pan _=>False
  |_=>False) h
theorem T.wp_mono(t:T):∀ {Q i:Bl→AH→Prop}{h:AH},(∀l h,Q l h→i l h)→t.wp P Q h→t.wp P i h:=by
 induction t with
 |out vs=>intro Q i h d H;exact d _ _ H
 |brk id vs=>intro Q i h d H;exact d _ _ H
 |ret v=>intro Q i h d H;exact d _ _ H
 |pan v=>intro Q i h d H;exact d _ _ H
 |stuck=>intro Q i h d H;exact H
 |load s a k j=>intro Q i h d ⟨x,C,H⟩;exact⟨x,C,j x d H⟩
 |store a v k j=>intro Q i h d ⟨a,b,c,H⟩;exact⟨a,b,c,j d H⟩
 |new o k j=>intro Q i h d H;exact j _ d H
 |sem s M k j=>intro Q i h d H;exact Bk s (λv B ⟨x,C,D⟩=>⟨x,C,j x d D⟩) (λv B D=>d _ _ D) H
 |call f args M k j=>
  intro Q i h d H;simp only[T.wp]at H ⊢;refine nX.mono H λe B w=>?_;cases e with
  |ret v=>obtain⟨x,C,D⟩:=w;exact⟨x,C,j x d D⟩
  |pan c=>exact d _ _ w
 |still a v k j=>intro Q i h d ⟨x,H⟩;exact⟨x,j d H⟩
 |both x y n F=>intro Q i h d ⟨a,b⟩;exact⟨n d a,F d b⟩
 |join ss x k n q=>
  intro Q i h d H;simp only[T.wp]at H ⊢;refine n (λz B g=>?_) H;cases z with
  |out vs=>
   dsimp only at g ⊢;split at g
   ·exact q _ d g
   ·exact g
  |brk id vs=>exact d _ _ g
  |ret v=>exact d _ _ g
  |pan v=>exact d _ _ g
 |block id ss x k n q=>
  intro Q i h d H;simp only[T.wp]at H ⊢;refine n (λz B g=>?_) H;cases z with
  |out vs=>
   dsimp only at g ⊢;split at g
   ·exact q _ d g
   ·exact g
  |brk G vs=>
   dsimp only at g ⊢;cases hb:oA G id with
   |true=>
    simp only[hb,cond_true]at g ⊢;split at g
    ·exact q _ d g
    ·exact g
   |false=>simp only[hb,cond_false]at g ⊢;exact d _ _ g
  |ret v=>exact d _ _ g
  |pan v=>exact d _ _ g
 |loop ss L body j=>
  intro Q i h d ⟨I,μ,N,hr⟩;refine⟨I,μ,N,λy h O=>j y (λz B g=>?_) (hr y h O)⟩;cases z with
  |out vs=>exact g
  |brk id vs=>exact d _ _ g
  |ret v=>exact d _ _ g
  |pan v=>exact d _ _ g
 |sel c send zero k j=>
  intro Q i h d H;obtain⟨cap,A,s,r,R,H⟩:=H;refine⟨cap,A,s,r,R,?_⟩;cases send with
  |none=>
   by_cases E:0<A.size
   ·simp only[mZ E]at H ⊢;exact j _ _ _ d H
   ·simp only[nA E]at H ⊢;exact j _ _ _ d H
  |some v=>
   by_cases E:A.size<cap
   ·simp only[mZ E]at H ⊢;exact j _ _ _ d H
   ·simp only[nA E]at H ⊢;exact j _ _ _ d H
 |must p k j=>intro Q i h d H;exact⟨H.1,j d H.2⟩
 |later f args x k n q=>
  intro Q i h d H;simp only[T.wp]at H ⊢;refine n (λz B g=>?_) H;cases z with
  |out vs=>exact g
  |brk id vs=>exact g
  |ret v=>
   exact Jd.mono g λe u J w=>by
    cases e with
    |ret v=>exact⟨w.1,q d w.2⟩
    |pan c=>exact w
  |pan K=>
   exact Jd.mono g λe u J w=>by
    cases e with
    |ret v=>
     dsimp only at w ⊢
     generalize settle u=m at w ⊢
     cases m with
     |run=>exact w
     |returning=>exact q d w
     |panicking c=>exact d _ _ w
    |pan c=>exact w
end
section
variable {α:Type}{t:sH}
def Bm(q:Bool)(P:sI){α:Type}:Sem α→(α→T)→T
 |.pure a,k=>k a
 |.program f,k=>Bm q P (f P) k
 |.new o f,k=>bif q then .stuck else .new o λr=>Bm q P (f r) k
 |.store _ a v f,k=>bif q then .stuck else .store a v (Bm q P f k)
 |.mark _ f,k=>Bm q P f k
 |.halt (.panic v),_=>bif q then .stuck else .pan v
 |_,_=>.stuck
theorem Bs{q:Bool}{P:sI}(s:Sem α):∀ {k:α→T}{Q:Bl→AH→Prop}{h:AH},(Bm q P s k).wp P Q h→
 Ag P s (λa d=>(k a).wp P Q d) (λv d=>Q (.pan [{v,recovered:=false}]) d) h:=by
 induction s with
 |pure a=>intro k Q h H;exact H
 |load m a k b=>intro k Q h H;exact H.elim
 |store m a v k b=>
  intro k Q h H;cases q with
  |true=>exact H.elim
  |false=>exact⟨H.1,H.2.1,H.2.2.1,b H.2.2.2⟩
 |new o k b=>
  intro k Q h H;cases q with
  |true=>exact H.elim
  |false=>exact b _ H
 |shape r k b=>intro k Q h H;exact H.elim
 |freeze a n k b=>intro k Q h H;exact H.elim
 |frozen a k b=>intro k Q h H;exact H.elim
 |getObj r k b=>intro k Q h H;exact H.elim
 |setObj r o k b=>intro k Q h H;exact H.elim
 |choose q k b=>intro k Q h H;exact H.elim
 |sys c k b=>intro k Q h H;exact H.elim
 |program k b=>intro k Q h H;exact b _ H
 |mark m k b=>intro k Q h H;exact b H
 |halt x=>intro k Q h H;cases q<;>cases x<;>first | exact H | exact H.elim
def Yx:sG→Bc
 |.int k _=>.int k
 |.bool _=>.bool
 |.string _=>.string
 |.pointer _=>.pointer
 |.slice _ _ _=>.slice
 |.map _=>.map
 |.chan _=>.chan
 |.func _ _ _=>.func
 |.nilFunc=>.func
 |_=>.iface
def P5:sG→Sh1
 |.agg cs=>.agg (cs.toList.map Yx)
 |v=>.atom (Yx v)
def cF:sG→Sh
 |.tuple vs=>.tuple (vs.toList.map P5)
 |v=>.one (P5 v)
def LL(P:sI)(t:sH):sG:=((P.info? t).bind (·.zero)).getD .nilIface
def Ws(P:sI)(fn:Func):Sh:=match fn.resultTypes.toList with
 | [t] =>.one (P5 (LL P t))
 |ts=>.tuple (ts.map λt=>P5 (LL P t))
def If:List Bc→sK→Nat→Array sG→(Array sG→T)→T
 | [],_,_,acc,k=>k acc
 |s::r,a,i,acc,k=>.load s (a.add i) λx=>If r a (i+1) (acc.push (s.val x)) k
def TK:TypeDesc→Bool
 |.struct _ | .array _ _=>true
 |_=>false
def FQ(P:sI)(t:sH)(a:sK)(k:sG→T):T:=
 match P.underlying t,P.info? t with
 |some d,some i=>
  match TK d,P5 (i.zero.getD .nilIface) with
  |true,.agg l=>if l.length=i.size then If l a 0 #[] λcs=>k (.agg cs) else .stuck
  |false,.atom s=>.load s a λx=>k (s.val x)
  |_,_=>.stuck
 |_,_=>.stuck
def NZ(q:Bool)(s:Sem sG)(a:Sh)(k:a.Ty→T):T:=bif q then .stuck else .sem s a k
def SA(q:Bool)(P:sI)(s:Sem sG)(t:sH)(k:sG→T):T:=
 NZ q s (cF (LL P t)) λx=>k ((cF (LL P t)).val x)
def iE(q:Bool)(s:Sem Unit)(k:sG→T):T:=
 NZ q (s.bind λ_=>.pure undef) (.tuple []) λ_=>k undef
def FS(s:nI)(i:Nat):UInt8:=s.data.toList.getD i 0
def LM(P:sI)(t:sH):sG→sG→Option Bool
 |.int j m,.int j' n=>match P.underlying t with
  |some (.int _)=>if j=j' then some (m==n) else none
  |_=>none
 |.string m,.string n=>match P.underlying t with
  |some .string=>some (m==n)
  |_=>none
 |.bool m,.bool n=>match P.underlying t with
  |some .bool=>some (m==n)
  |_=>none
 |_,_=>none
def LN(P:sI)(c d:Array sG):List Field→Option Bool
 | [] =>some true
 | f::fs=>if f.name= "_" then none else match c[f.offset]?,d[f.offset]? with
  |some a,some b=>match LM P f.type a b,LN P c d fs with
   |some r,some r'=>some (r && r')
   |_,_=>none
  |_,_=>none
def Yy(P:sI)(t:sH)(a b:Array sG)(i:Nat):Option Bool:=match P.underlying t,P.info? t,P.stoodInHeld t with
 |some (.struct gs),some inf,false=>LN P (a.extract i (i+inf.size)) (b.extract i (i+inf.size)) gs.toList
 |_,_,_=>none
def Wt(P:sI)(f:Field)(c d:Array sG):Option Bool:=match c[f.offset]?,d[f.offset]? with
 |some a,some b=>match LM P f.type a b with
  |some r=>some r
  |none=>Yy P f.type c d f.offset
 |_,_=>none
def MM(P:sI)(a b:Array sG):List Field→Option Bool
 | [] =>some true
 | f::fs=>if f.name= "_" then none else match Wt P f a b,MM P a b fs with
  |some r,some r'=>some (r && r')
  |_,_=>none
def P6(P:sI)(t:sH)(a b:Array sG)(k:Bool→T)(old:T):T:=match P.underlying t with
 |some (.struct fs)=>match P.eqGuardType P.depth t || P.stoodInHeld t,MM P a b fs.toList with
  |false,some r=>k r
  |_,_=>old
 |_=>old
def Qq(q:Bool)(P:sI)(c:BinOp)(t:sH)(x y:Operand)(a b:sG)(k:sG→T):T:=
 match c,a,b with
 |.add,.int j m,.int j' n=>if j=j' then k (.int j (j.wrap (m+n))) else .stuck
 |.sub,.int j m,.int j' n=>if j=j' then k (.int j (j.wrap (m - n))) else .stuck
 |.mul,.int j m,.int j' n=>if j=j' then k (.int j (j.wrap (m *n))) else .stuck
 |.quo,.int j m,.int j' n=>if j=j' then chk (n≠0) (k (.int j (j.wrap (m.tdiv n)))) else .stuck
 |.rem,.int j m,.int j' n=>if j=j' then chk (n≠0) (k (.int j (m.tmod n))) else .stuck
 |.shl,.int j m,.int _ n=>chk (0≤n) (k (.int j (j.wrap (m *2 ^ (min n.toNat j.bits)))))
 |.shr,.int j m,.int _ n=>chk (0≤n) (k (.int j (m.fdiv (2 ^ (min n.toNat j.bits)))))
 |.eql,.int j m,.int j' n=>if j=j' then k (.bool (m==n)) else .stuck
 |.neq,.int j m,.int j' n=>if j=j' then k (.bool (m !=n)) else .stuck
 |.lss,.int j m,.int j' n=>if j=j' then k (.bool (m<n)) else .stuck
 |.leq,.int j m,.int j' n=>if j=j' then k (.bool (m≤n)) else .stuck
 |.gtr,.int j m,.int j' n=>if j=j' then k (.bool (m>n)) else .stuck
 |.geq,.int j m,.int j' n=>if j=j' then k (.bool (m≥n)) else .stuck
 |.add,.string m,.string n=>chk (((m.size+n.size:Nat):Int) ≤IntKind.i64.max) (k (.string (m++n)))
 |.eql,.string m,.string n=>k (.bool (m.toList==n.toList))
 |.neq,.string m,.string n=>k (.bool !(m.toList==n.toList))
 |.eql,.pointer p,.pointer none=>Bm q P (underlying t) fun | .pointer _=>k (.bool p.isNone)|_=>.stuck
 |.neq,.pointer p,.pointer none=>Bm q P (underlying t) fun | .pointer _=>k (.bool !p.isNone)|_=>.stuck
 |.eql,.slice p _ _,.slice none _ _=>Bm q P (underlying t) fun | .slice _=>k (.bool p.isNone)|_=>.stuck
 |.neq,.slice p _ _,.slice none _ _=>Bm q P (underlying t) fun | .slice _=>k (.bool !p.isNone)|_=>.stuck
 |.eql,.bool m,.bool n=>Bm q P (underlying t) fun | .bool=>k (.bool (m==n))|_=>.stuck
 |.neq,.bool m,.bool n=>Bm q P (underlying t) fun | .bool=>k (.bool !(m==n))|_=>.stuck
 |.eql,.agg a,.agg b=>P6 P t a b (λr=>k (.bool r)) (NZ q (do eqGuard .eql t x y (.agg a) (.agg b);binOp .eql t (.agg a) (.agg b)) (.one (.atom .bool)) λr=>k (.bool r))
 |.neq,.agg a,.agg b=>P6 P t a b (λr=>k (.bool !r)) (NZ q (do eqGuard .neq t x y (.agg a) (.agg b);binOp .neq t (.agg a) (.agg b)) (.one (.atom .bool)) λr=>k (.bool r))
 |.eql,a,b=>NZ q (do eqGuard .eql t x y a b;binOp .eql t a b) (.one (.atom .bool)) λr=>k (.bool r)
 |.neq,a,b=>NZ q (do eqGuard .neq t x y a b;binOp .neq t a b) (.one (.atom .bool)) λr=>k (.bool r)
 |c,a,b=>Bm q P (do eqGuard c t x y a b;binOp c t a b) k
def OD(d:Int):Option sG→Option Int
 |none=>some d
 |some (.int _ n)=>some n
 |_=>none
def LO(q:Bool)(P:sI)(t:sH)(x:sG)(lo a b:Option sG)(k:sG→T):T:=
 match b,P.underlying t,x with
 |none,some .string,.string s=>match OD 0 lo,OD s.size a with
  |some l,some h=>chk (0≤l∧l≤h∧h≤s.size) (k (.string (s.extract l.toNat h.toNat)))
  |_,_=>.stuck
 |none,some (.slice e),.slice p n c=>match OD 0 lo,OD n a,P.info? e with
  |some l,some h,some i=>chk (0≤l∧l≤h∧h≤c) (k (.slice (if c=l.toNat then p else p.map (·.add (l.toNat *i.size))) (h.toNat - l.toNat) (c - l.toNat)))
  |_,_,_=>.stuck
 |_,_,_=>SA q P (qS t x lo a b) t k
def LP(q:Bool)(P:sI)(f:sG)(args:Array sG)(k:sG→T):T:=match f with
 |.func (.func g) first cap=>match P.funcs[g]? with
  | some fn=>match fn.name== "runtime.NumGoroutine",fn.body.isNone with
   |false,false=>bif q then .stuck else .call g ((first++args) ++cap).toList (Ws P fn) λx=>k ((Ws P fn).val x)
   |_,_=>.stuck
  |none=>.stuck
 |_=>.stuck
def OE(q:Bool)(P:sI)(ρ:Operand→sG)(c:Call)(t:sH)(k:sG→T):T:=
 match c.callee with
 |.builtin b=>
  let args:=c.args.map ρ
  match b with
  |.len=>match c.argTypes.toList,args.toList with
   |at0::_,x::_=>match P.underlying at0,x with
    |some .string,.string s=>k (goInt s.size)
    |some (.slice _),.slice _ n _=>k (goInt n)
    |some (.array n _),_=>k (goInt n)
    |_,_=>SA q P (pE c.argTypes t args) t k
   |_,_=>.stuck
  |.cap=>match c.argTypes.toList,args.toList with
   |at0::_,x::_=>match P.underlying at0,x with
    |some (.slice _),.slice _ _ n=>k (goInt n)
    |_,_=>SA q P (rS c.argTypes t args) t k
   |_,_=>.stuck
  |.max=>Bm q P (Builtin.max_ c.argTypes t args) k
  |.min=>Bm q P (Builtin.min_ c.argTypes t args) k
  |.append=>SA q P (qD c.argTypes t args) t k
  |.copy=>NZ q (Builtin.copy_ c.argTypes t args) (.one (.atom (.int .i64))) λn=>k (.int .i64 n)
  |.delete=>NZ q (Builtin.delete_ c.argTypes t args) (.tuple []) λ_=>k undef
  |.clear=>NZ q (Builtin.clear_ c.argTypes t args) (.tuple []) λ_=>k undef
  |_=>.stuck
 |.value f=>LP q P (ρ f) (c.args.map ρ) k
 |_=>.stuck
def DL(q:Bool)(P:sI)(ρ:Operand→sG)(o:Oper)(k:sG→T):T:=
 match o.op with
 |.move x | .assign x=>k (ρ x)
 |.pick c a b=>match ρ c with
  |.bool t=>cond t (k (ρ a)) (k (ρ b))
  |_=>.stuck
 |.load t a=>match ρ a with
  |.pointer p=>nW p λa=>FQ P t a k
  |_=>.stuck
 |.nilCheck x=>match ρ x with
  |.pointer p=>nW p λa=>k (.pointer (some a))
  |.func (.func f) a b=>k (.func (.func f) a b)
  |.iface t v=>k (.iface t v)
  |_=>.stuck
 |.binOp op t x y _=>Qq q P op t x y (ρ x) (ρ y) k
 |.slice t x lo hi mx=>LO q P t (ρ x) (lo.map ρ) (hi.map ρ) (mx.map ρ) k
 |.index t x ix=>match P.underlying t,ρ x,ρ ix with
  |some .string,.string s,.int _ i=>chk (0≤i∧i<s.size) (k (.int .u8 (FS s i.toNat).toNat))
  |_,x,ix=>Bm q P (sC t x ix) k
 |.indexAddr t x ix=>match P.underlying t,ρ x,ρ ix with
  |some (.slice e),.slice p n _,.int _ i=>match P.info? e with
   |some d=>nW p λa=>chk (0≤i∧i<n) (k (.pointer (some (a.add (i.toNat *d.size)))))
   |none=>.stuck
  |some (.array n e),.pointer (some a),.int _ i=>match P.info? e with
   |some d=>chk (0≤i∧i<n) (k (.pointer (some (a.add (i.toNat *d.size)))))
   |none=>.stuck
  |_,_,_=>.stuck
 |.call c=>OE q P ρ c o.type k
 |.alloc elem=>Bm q P (Instr.alloc elem true (.tuple #[])) k
 |.box elem x=>Bm q P (Instr.box elem (ρ x)) k
 |.build t parts=>Bm q P (Instr.build t (parts.map λ(i,x)=>(i,ρ x))) k
 |.buildSlice t len parts=>Bm q P (Instr.buildSlice t len (parts.map λ(i,x)=>(i,ρ x))) k
 |.store t a x=>match ρ a with
  |.pointer p=>nW p λa=>Bm q P (pY t (.pointer (some a)) (ρ x)) λ_=>k undef
  |v=>Bm q P (pY t v (ρ x)) λ_=>k undef
 |.unOp op _ x=>Bm q P (Op.unary op (ρ x)) k
 |.convert src dst x=>match P.underlying src,P.underlying dst with
  |some (.int _),some (.int _)=>Bm q P (convert src dst (ρ x)) k
  |some .string,some .string=>Bm q P (convert src dst (ρ x)) k
  |_,_=>SA q P (convert src dst (ρ x)) dst k
 |.makeInterface t x=>Bm q P (Instr.makeInterface t (ρ x)) k
 |.makeFunc fn first captured=>k (.func fn (first.map ρ) (captured.map ρ))
 |.makeMap t r=>Bm q P (Instr.makeMap t (r.map ρ)) k
 |.makeChan t s=>SA q P (Instr.makeChan t (ρ s)) t k
 |.makeSlice t l c=>SA q P (qZ t (ρ l) (ρ c)) t k
 |.fieldAddr s x f=>match ρ x with
  |.pointer p=>nW p λa=>Bm q P (rM s (.pointer (some a)) f) k
  |v=>Bm q P (rM s v f) k
 |.field t x f=>Bm q P (Instr.field t (ρ x) f) k
 |.extract t ix=>Bm q P (Instr.extract (ρ t) ix) k
 |.lookup t x ix ok=>SA q P (qJ t (ρ x) (ρ ix) ok) o.type k
 |.mapUpdate t m key x | .insert t m key x=>iE q (rA t (ρ m) (ρ key) (ρ x)) k
 |.range t x=>NZ q (Instr.range t (ρ x)) (.one (.atom .pointer)) λp=>k (.pointer p)
 |.next it isString=>NZ q (Instr.next (ρ it) isString o.type) (cF (LL P o.type)) λx=>k ((cF (LL P o.type)).val x)
 |.typeAssert x xt at_ ok=>SA q P (Instr.typeAssert (ρ x) xt at_ ok) o.type k
 |.panic x=>Bm q P (Instr.panic (ρ x)) k
 |_=>.stuck
def eU(q:Bool)(P:sI)(k:sG→T)(Q:Bl→AH→Prop):Next→AH→Prop
 |.value v,h=>(k v).wp P Q h
 |.skip,h=>(k undef).wp P Q h
 |.enter f args,h=>q=false∧nX P f args.toList h λe a=>match e with
  |.ret v=>(k v).wp P Q a
  |.pan c=>Q (.pan c) a
 |_,_=>False
def OpOk(q:Bool)(P:sI)(s:Sem Next)(k:sG→T)(Q:Bl→AH→Prop)(h:AH):Prop:=
 Ag P s (eU q P k Q) (λv a=>Q (.pan [{v,recovered:=false}]) a) h
section
variable {q:Bool}{P:sI}{ρ:Operand→sG}{k:sG→T}{Q:Bl→AH→Prop}{h:AH}
theorem FT{s:Sem sG}(H:Ag P s (λv h'=>(k v).wp P Q h') (λv h'=>Q (.pan [{v,recovered:=false}]) h') h):
 OpOk q P (do pure (.value (←s))) k Q h:=Ao s _ H
theorem fL{s:Sem Unit}(H:Ag P s (λ_ h'=>(k undef).wp P Q h') (λv h'=>Q (.pan [{v,recovered:=false}]) h') h):
 OpOk q P (do s;pure .skip) k Q h:=Ao s _ H
theorem LQ{p:nG}{f:sK→T}(H:(nW p f).wp P Q h):∃a,p=some a∧(f a).wp P Q h:=by
 cases p with
 |none=>exact H.elim
 |some a=>exact⟨a,rfl,H⟩
theorem Ig{p:Prop}[Decidable p]{t:T}(H:(chk p t).wp P Q h):p∧t.wp P Q h:=by exact H
theorem GO{s:Sem sG}{a:Sh}{f:a.Ty→T}(H:(NZ q s a f).wp P Q h):
 Ag P s (λv b=>∃x:a.Ty,v=a.val x∧(f x).wp P Q b) (λv b=>Q (.pan [{v,recovered:=false}]) b) h:=by
 cases q with
 |true=>exact H.elim
 |false=>
  simp only[NZ,cond_false]at H;simpa only[T.wp]using H
theorem HH{s:Sem sG}(H:(SA q P s t k).wp P Q h):
 Ag P s (λv a=>(k v).wp P Q a) (λv a=>Q (.pan [{v,recovered:=false}]) a) h:=
 Bk s (λ_ _ ⟨_,b,c⟩=>b ▸ c) (λ_ _ b=>b) (GO H)
theorem Qr(s:Sem Unit):∀ {K:sG→AH→Prop}{X:sG→AH→Prop}{h:AH},Ag P (s.bind λ_=>.pure undef) K X h→
 Ag P s (λ_ f=>K undef f) X h:=by
 induction s with
 |pure a=>intro K X h H;exact H
 |load m a k d=>intro K X h ⟨v,hv,H⟩;exact⟨v,hv,d v H⟩
 |store m a v k d=>intro K X h ⟨a,b,c,H⟩;exact⟨a,b,c,d H⟩
 |new o k d=>intro K X h H;exact d _ H
 |shape r k d=>intro K X h H;exact d _ H
 |freeze a n k d=>intro K X h H;exact d H
 |frozen a k d=>intro K X h H;exact d _ H
 |getObj r k d=>intro K X h ⟨o,a,b,H⟩;exact⟨o,a,b,d o H⟩
 |setObj r o k d=>intro K X h ⟨a,H⟩;exact⟨a,d H⟩
 |choose q k d=>
  intro K X h H;simp only[Ag,bD]at H ⊢;split at H
  ·rename_i e;simp only[e,if_true];exact d _ H
  ·rename_i e;simp only[e];exact λt=>d _ (H t)
 |sys c k d=>intro K X h H;exact H
 |program k d=>intro K X h H;exact d _ H
 |mark m k d=>intro K X h H;exact d H
 |halt x=>intro K X h H;cases x<;>exact H
theorem Wu{s:Sem Unit}(H:(iE q s k).wp P Q h):
 Ag P s (λ_ a=>(k undef).wp P Q a) (λv a=>Q (.pan [{v,recovered:=false}]) a) h:=
 Bk s (λ_ _ ⟨_,_,b⟩=>b) (λ_ _ c=>c) (Qr s (GO H))
theorem Xl(l:List Bc):∀(a:sK) (i:Nat) (b:Array sG) {f:Array sG→T},(If l a i b f).wp P Q h→
 Ag P (loadCellsFrom a i l.length b) (λcs c=>c=h∧(f cs).wp P Q c) (λ_ _=>False) h:=by
 induction l with
 |nil=>intro a i b f H;exact⟨rfl,H⟩
 |cons s r d=>
  intro a i b f H;obtain⟨x,e,H⟩:=H;exact⟨s.val x,e,d a (i+1) (b.push (s.val x)) H⟩
theorem Am{d:TypeDesc}(hd:P.underlying t=some d){f:TypeDesc→Sem α}{K:α→AH→Prop}{X:sG→AH→Prop}
 (H:Ag P (f d) K X h):Ag P (do let d ←underlying t;f d) K X h:=by show Ag P (bD (underlying t) f) K X h;simp only[underlying,program,bind,bD,Ag,hd,pure];exact H
theorem HI{i:TypeInfo}(a:P.info? t=some i){f:TypeInfo→Sem α}{K:α→AH→Prop}{X:sG→AH→Prop}
 (H:Ag P (f i) K X h):Ag P (do let i ←typeInfo t;f i) K X h:=by show Ag P (bD (typeInfo t) f) K X h;simp only[typeInfo,program,bind,bD,Ag,a,pure];exact H
theorem SS{d:TypeDesc}(hd:P.underlying t=some d){f:Bool→Sem α}{K:α→AH→Prop}{X:sG→AH→Prop}
 (H:Ag P (f (TK d)) K X h):Ag P (do let b ←isAgg t;f b) K X h:=by show Ag P (bD (isAgg t) f) K X h;simp only[isAgg,underlying,program,bind,bD,Ag,hd,pure];cases d<;>exact H
theorem Je{i:TypeInfo}(a:P.info? t=some i){f:Nat→Sem α}{K:α→AH→Prop}{X:sG→AH→Prop}
 (H:Ag P (f i.size) K X h):Ag P (do let n ←Go.sizeOf t;f n) K X h:=by show Ag P (bD (Go.sizeOf t) f) K X h;simp only[Go.sizeOf,typeInfo,program,bind,bD,Ag,a,pure];exact H
theorem Vi{a:sK}(H:(FQ P t a k).wp P Q h):
 Ag P (loadVar t a) (λv e=>e=h∧(k v).wp P Q e) (λ_ _=>False) h:=by
 unfold FQ at H;split at H
 ·rename_i d i hd j
  split at H
  ·rename_i l b f
   split at H
   ·rename_i c
    unfold loadVar;refine SS hd ?_;rw[b];simp only[if_true];refine Je j ?_;rw[←c];show Ag P (bD (loadCellsFrom a 0 l.length #[]) _) _ _ _;refine Ao _ _ (Bk _ (λcs e g=>?_) (λ_ _ x=>x) (Xl l a 0 #[] H));exact⟨g.1,g.2⟩
   ·exact H.elim
  ·rename_i s b f
   unfold loadVar;refine SS hd ?_;rw[b];obtain⟨x,m,H⟩:=H;exact⟨_,m,rfl,H⟩
  ·exact H.elim
 ·exact H.elim
end
end
section
variable {t:sH}{j:IntKind}{d:Nat}
section
variable {q:Bool}{P:sI}{ρ:Operand→sG}{k:sG→T}{Q:Bl→AH→Prop}{h:AH}
def BinOk(P:sI)(d:BinOp)(t:sH)(x y:Operand)(a b:sG)(k:sG→T)(Q:Bl→AH→Prop)(h:AH):Prop:=
 Ag P (do eqGuard d t x y a b;binOp d t a b) (λv c=>(k v).wp P Q c) (λv c=>Q (.pan [{v,recovered:=false}]) c) h
theorem Ft{a:BinOp}{x y:Operand}{m n:Int}{s:Sem sG}(c:a≠.shl)(b:a≠.shr) (d:(match a with
 |.add | .sub | .mul=>Op.intArith a j m n
 |.quo | .rem=>Op.intDiv a j m n
 |.and | .or | .xor | .andNot=>Op.intBits a j m n
 |_=>Op.intCmp a m n)=s)
 (H:Ag P s (λv h'=>(k v).wp P Q h') (λv h'=>Q (.pan [{v,recovered:=false}]) h') h):BinOk P a t x y (.int j m) (.int j n) k Q h:=by subst d;unfold BinOk;cases a<;>first | exact nC rfl c | exact nC rfl b | (simpa[eqGuard,binOp,bind,bD,Ag,pure]using H)
theorem Hh{p:Prop}[Decidable p]{t:T}(H:(if p then t else T.stuck).wp P Q h):p∧t.wp P Q h:=by
 by_cases a:p
 ·rw[mZ a]at H;exact⟨a,H⟩
 ·rw[nA a]at H;exact H.elim
theorem JC{f:TypeDesc→T}(H:(Bm q P (underlying t) f).wp P Q h):∃d,P.underlying t=some d∧(f d).wp P Q h:=by
 simp only[underlying,program,bind,bD,Bm]at H;cases hd:P.underlying t with
 |none=>rw[hd]at H;exact H.elim
 |some d=>rw[hd]at H;exact⟨d,rfl,H⟩
theorem fM{x y:Operand}{a:IntKind}{m n:Int}(b:0≤n)(H:(k (.int j (j.wrap (m *2 ^ (min n.toNat j.bits))))).wp P Q h):
 BinOk P .shl t x y (.int j m) (.int a n) k Q h:=by show Ag P (Op.shift .shl j m a n) _ _ h;unfold Op.shift;rw[nA (show ¬n<0 by omega)];exact H
theorem fN{x y:Operand}{a:IntKind}{m n:Int}(b:0≤n)(H:(k (.int j (m.fdiv (2 ^ (min n.toNat j.bits))))).wp P Q h):
 BinOk P .shr t x y (.int j m) (.int a n) k Q h:=by show Ag P (Op.shift .shr j m a n) _ _ h;unfold Op.shift;rw[nA (show ¬n<0 by omega)];exact H
theorem cG{x y:Operand}{m n:nI}(a:((m.size+n.size:Nat):Int) ≤IntKind.i64.max)(H:(k (.string (m++n))).wp P Q h):
 BinOk P .add t x y (.string m) (.string n) k Q h:=by show Ag P (Op.stringOp .add m n) _ _ h;simp only[Op.stringOp];rw[nA (show ¬((m.size+n.size:Nat):Int) >IntKind.i64.max by omega)];exact H
theorem Vj{x y:Operand}{a b:sG}{r:Bool}(c:eqGuard .eql t x y a b=pure ())(d:binOp .eql t a b=(do pure (.bool (←Op.equal t a b))))
 (e:∀K X,K r h→Ag P (Op.equal t a b) K X h) (H:(k (.bool r)).wp P Q h):BinOk P .eql t x y a b k Q h:=by unfold BinOk;rw[c,d];exact Ao (Op.equal t a b) _ (e _ _ H)
theorem Vk{x y:Operand}{a b:sG}{r:Bool}(c:eqGuard .neq t x y a b=pure ())(d:binOp .neq t a b=(do pure (.bool (!(←Op.equal t a b)))))
 (e:∀K X,K r h→Ag P (Op.equal t a b) K X h) (H:(k (.bool !r)).wp P Q h):BinOk P .neq t x y a b k Q h:=by unfold BinOk;rw[c,d];exact Ao (Op.equal t a b) _ (e _ _ H)
theorem ST{e:sH}(hd:P.underlying t=some (.pointer e))(p:nG)(K:Bool→AH→Prop)(X:sG→AH→Prop)(H:K p.isNone h):
 Ag P (Op.equal t (.pointer p) (.pointer none)) K X h:=by show Ag P (Op.equalIn (9999+1) t _ _) K X h;rw[Op.equalIn];refine Am hd ?_;cases p<;>exact H
theorem P7{e:sH}(hd:P.underlying t=some (.slice e))(p:nG)(n c:Nat)(a b:Nat)(K:Bool→AH→Prop)(X:sG→AH→Prop)(H:K p.isNone h):
 Ag P (Op.equal t (.slice p n c) (.slice none a b)) K X h:=by show Ag P (Op.equalIn (9999+1) t _ _) K X h;rw[Op.equalIn];refine Am hd ?_;cases p<;>exact H
theorem Qs(hd:P.underlying t=some .bool)(a b:Bool)(K:Bool→AH→Prop)(X:sG→AH→Prop)(H:K (a==b) h):
 Ag P (Op.equal t (.bool a) (.bool b)) K X h:=by show Ag P (Op.equalIn (9999+1) t _ _) K X h;rw[Op.equalIn];refine Am hd<|H
theorem SU{a b:sG}{r:Bool}(c:LM P t a b=some r)(K:Bool→AH→Prop)(X:sG→AH→Prop)(H:K r h):Ag P (Op.equalIn (d+1) t a b) K X h:=by
 unfold LM at c;split at c
 ·split at c
  ·rename_i e
   split at c
   ·rename_i f
    cases c;subst f;rw[Op.equalIn];refine Am e ?_;simp only[if_true];exact H
   ·cases c
  ·cases c
 ·split at c
  ·rename_i e
   cases c;rw[Op.equalIn];exact Am e H
  ·cases c
 ·split at c
  ·rename_i e
   cases c;rw[Op.equalIn];exact Am e H
  ·cases c
 ·cases c
theorem OF{a b:sG}{r:Bool}(c:LM P t a b=some r){g:Array sG}{i:Nat}{v:sG}(j:g[i]? =some v){K:sG→AH→Prop}{X:sG→AH→Prop}(H:K v h):Ag P (part t g i) K X h:=by
 have e:∀d,P.underlying t=some d→TK d=false→Ag P (part t g i) K X h:=λd f hd=>by
  unfold part isAgg;simp only[bind,bD,underlying,program,Ag,f];cases d<;>first | (cases hd;done)|(simp only[j];exact H)
 unfold LM at c;split at c
 ·split at c
  ·rename_i f;exact e _ f rfl
  ·cases c
 ·split at c
  ·rename_i f;exact e _ f rfl
  ·cases c
 ·split at c
  ·rename_i f;exact e _ f rfl
  ·cases c
 ·cases c
theorem P8(i j:Array sG)(X:sG→AH→Prop):∀(e:List Field) {r:Bool},LN P i j e=some r→ ∀(K:Bool→AH→Prop),K r h→Ag P (Op.eqFields (d+1) i j e) K X h:=by
 intro e
 induction e with
 |nil=>intro r c K H;cases c;exact H
 |cons f e k=>
  intro r c K H;unfold LN at c;split at c
  ·cases c
  ·rename_i l
   split at c
   ·rename_i a b m n
    split at c
    ·rename_i r1 p g o
     cases c;unfold Op.eqFields;rw[mZ l];refine Ao _ _ (OF g m ?_);refine Ao _ _ (OF g n ?_);refine Ao _ _ (SU g _ _ ?_);cases r1 with
     |false=>exact H
     |true=>exact k o _ H
    ·cases c
   ·cases c
theorem MN{c:Array Field}(e:P.underlying t=some (.struct c))(k:P.stoodInHeld t=false){g i:Array sG}{K:Bool→AH→Prop}{X:sG→AH→Prop}
 (H:Ag P (Op.eqFields d g i c.toList) K X h):Ag P (Op.equalIn (d+1) t (.agg g) (.agg i)) K X h:=by
 rw[Op.equalIn];refine Am e ?_;simp only[program,bind,bD,Ag,k,oG,if_false];rw[←rO];refine Eq.mpr (nB (λs=>Ag P s K X h) ?_) H
 generalize c.toList=l
 clear H e
 induction l with
 |nil=>rfl
 |cons f l j=>
  rw[rC];unfold Op.eqFields;refine(qG _ _ _).trans ?_;split
  ·refine(qG _ _ _).trans ?_;show bD _ _=bD _ _;congr 1;funext a;refine(qG _ _ _).trans ?_;show bD _ _=bD _ _;congr 1;funext b;refine(qG _ _ _).trans ?_;show bD _ _=bD _ _;congr 1;funext r;cases r with
   |false=>rfl
   |true=>exact j
  ·exact j
theorem Wv{b:Array Field}{inf:TypeInfo}(c:P.underlying t=some (.struct b))(d:P.info? t=some inf){a:Array sG}{i:Nat}{K:sG→AH→Prop}{X:sG→AH→Prop}(H:K (.agg (a.extract i (i+inf.size))) h):Ag P (part t a i) K X h:=by unfold part isAgg;simp only[bind,bD,underlying,program,Ag,c,pure,Go.sizeOf,typeInfo,d,if_true];exact H
theorem OG(k l:Array sG)(X:sG→AH→Prop):∀(j:List Field) {r:Bool},MM P k l j=some r→ ∀(K:Bool→AH→Prop),K r h→Ag P (Op.eqFields (d+2) k l j) K X h:=by
 intro j
 induction j with
 |nil=>intro r g K H;cases g;exact H
 |cons f j q=>
  intro r g K H;unfold MM at g;split at g
  ·cases g
  ·rename_i s
   split at g
   ·rename_i r1 x c t
    cases g;unfold Op.eqFields;rw[mZ s];have i:∀m:Bool→AH→Prop,(m=λr h=>Ag P (if(!r)=true then pure false else Op.eqFields (d+2) k l j) K X h)→m r1 h:=λm e=>by
     subst e;cases r1 with
     |false=>exact H
     |true=>exact q t _ H
    unfold Wt at c;split at c
    ·rename_i a b u v
     split at c
     ·rename_i r3 n
      cases c;exact Ao _ _ (OF n u (Ao _ _ (OF n v (Ao _ _ (SU n _ _ (i _ rfl))))))
     ·unfold Yy at c;split at c
      ·rename_i y inf o p w
       exact Ao _ _ (Wv o p (Ao _ _ (Wv o p (Ao _ _ (MN o w (P8 _ _ _ _ c _ (i _ rfl)))))))
      ·cases c
    ·cases c
   ·cases g
theorem P9{b:BinOp}{x y:Operand}{d g:Array sG}{α:Type}{f:Unit→Sem α}{K:α→AH→Prop}{X:sG→AH→Prop}(i:P.eqGuardType P.depth t=false)(k:b= .eql∨b= .neq)(H:Ag P (f ()) K X h):
 Ag P ((eqGuard b t x y (.agg d) (.agg g)).bind f) K X h:=by
 have c:Ag P (eqGuard b t x y (.agg d) (.agg g)) (λ_ j=>j=h) X h:=by
  rcases k with rfl | rfl
  ·show Ag P (if(!P.eqGuardType P.depth t)=true then pure () else _) _ X h;rw[i];rfl
  ·show Ag P (if(!P.eqGuardType P.depth t)=true then pure () else _) _ X h;rw[i];rfl
 exact Ao _ _ (Bk _ (λa j e=>by subst e;exact H) (λ_ _ x=>x) c)
theorem Yz{x y:Operand}{a b:Array sG}(H:(P6 P t a b (λr=>k (.bool r)) (NZ q (do eqGuard .eql t x y (.agg a) (.agg b);binOp .eql t (.agg a) (.agg b)) (.one (.atom .bool)) λr=>k (.bool r))).wp P Q h):BinOk P .eql t x y (.agg a) (.agg b) k Q h:=by
 unfold P6 at H;split at H
 ·rename_i l g
  split at H
  ·rename_i r c i
   rw[rI]at c;refine P9 c.1 (.inl rfl)<|Ao (Op.equal t (.agg a) (.agg b)) _ (MN (d:=9999) g c.2 (OG (d:=9997) a b _ _ i _ H))
  ·exact Bk _ (λv j ⟨r,e,f⟩=>e ▸ f) (λ_ _ x=>x) (GO H)
 ·exact Bk _ (λv j ⟨r,e,f⟩=>e ▸ f) (λ_ _ x=>x) (GO H)
theorem Y0{x y:Operand}{a b:Array sG}(H:(P6 P t a b (λr=>k (.bool !r)) (NZ q (do eqGuard .neq t x y (.agg a) (.agg b);binOp .neq t (.agg a) (.agg b)) (.one (.atom .bool)) λr=>k (.bool r))).wp P Q h):BinOk P .neq t x y (.agg a) (.agg b) k Q h:=by
 unfold P6 at H;split at H
 ·rename_i l g
  split at H
  ·rename_i r c i
   rw[rI]at c;refine P9 c.1 (.inr rfl)<|Ao (Op.equal t (.agg a) (.agg b)) _ (MN (d:=9999) g c.2 (OG (d:=9997) a b _ _ i _ H))
  ·exact Bk _ (λv j ⟨r,e,f⟩=>e ▸ f) (λ_ _ x=>x) (GO H)
 ·exact Bk _ (λv j ⟨r,e,f⟩=>e ▸ f) (λ_ _ x=>x) (GO H)
theorem Xm{l:BinOp}{x y:Operand}{a b:sG}(H:(Qq q P l t x y a b k).wp P Q h):BinOk P l t x y a b k Q h:=by
 unfold Qq at H;split at H
 case h_1=>have⟨e,c⟩:=Hh H;subst e;exact Ft nP nP rfl c
 case h_2=>have⟨e,c⟩:=Hh H;subst e;exact Ft nP nP rfl c
 case h_3=>have⟨e,c⟩:=Hh H;subst e;exact Ft nP nP rfl c
 case h_4=>
  have⟨e,c⟩:=Hh H;subst e;have⟨f,g⟩:=Ig c;refine Ft nP nP rfl ?_;simp only[Op.intDiv,nA f];exact g
 case h_5=>
  have⟨e,c⟩:=Hh H;subst e;have⟨f,g⟩:=Ig c;refine Ft nP nP rfl ?_;simp only[Op.intDiv,nA f];exact g
 case h_6=>
  have⟨f,c⟩:=Ig H;exact fM f c
 case h_7=>
  have⟨f,c⟩:=Ig H;exact fN f c
 case h_8=>have⟨e,c⟩:=Hh H;subst e;exact Ft nP nP rfl c
 case h_9=>have⟨e,c⟩:=Hh H;subst e;exact Ft nP nP rfl c
 case h_10=>have⟨e,c⟩:=Hh H;subst e;exact Ft nP nP rfl c
 case h_11=>have⟨e,c⟩:=Hh H;subst e;exact Ft nP nP rfl c
 case h_12=>have⟨e,c⟩:=Hh H;subst e;exact Ft nP nP rfl c
 case h_13=>have⟨e,c⟩:=Hh H;subst e;exact Ft nP nP rfl c
 case h_14=>
  have⟨f,c⟩:=Ig H;exact cG f c
 case h_15=>exact H
 case h_16=>exact H
 case h_17=>
  have⟨d,hd,c⟩:=JC H;cases d<;>first | exact c.elim | exact Vj rfl rfl (ST hd _) c
 case h_18=>
  have⟨d,hd,c⟩:=JC H;cases d<;>first | exact c.elim | exact Vk rfl rfl (ST hd _) c
 case h_19=>
  have⟨d,hd,c⟩:=JC H;cases d<;>first | exact c.elim | exact Vj rfl rfl (P7 hd _ _ _ _ _) c
 case h_20=>
  have⟨d,hd,c⟩:=JC H;cases d<;>first | exact c.elim | exact Vk rfl rfl (P7 hd _ _ _ _ _) c
 case h_21=>
  have⟨d,hd,c⟩:=JC H;cases d<;>first | exact c.elim | exact Vj rfl rfl (Qs hd _ _) c
 case h_22=>
  have⟨d,hd,c⟩:=JC H;cases d<;>first | exact c.elim | exact Vk rfl rfl (Qs hd _ _) c
 case h_23=>exact Yz H
 case h_24=>exact Y0 H
 case h_25=>exact Bk _ (λv m ⟨r,i,j⟩=>i ▸ j) (λ_ _ x=>x) (GO H)
 case h_26=>exact Bk _ (λv m ⟨r,i,j⟩=>i ▸ j) (λ_ _ x=>x) (GO H)
 case h_27=>exact Bs _ H
theorem UT{v:Option sG}{d l:Int}(a:OD d v=some l):(v=none∧l=d)∨ ∃j,v=some (.int j l):=by
 cases v with
 |none=>simp[OD]at a;exact .inl ⟨rfl,a.symm⟩
 |some v=>
  cases v<;>simp[OD]at a
  subst a;exact .inr ⟨_,rfl⟩
theorem Ge{α:Type}{l:Int}{y:Nat}{a:BoundsCode}{f:Nat→Sem α}{K:α→AH→Prop}{X:sG→AH→Prop}
 (b:0≤l) (c:l≤y) (H:Ag P (f l.toNat) K X h):Ag P (do let n ←pV (.int j l) y a;f n) K X h:=by
 show Ag P (bD (pV (.int j l) y a) f) K X h;have e:pV (.int j l) y a= .pure l.toNat:=by
  show(if 0≤l∧l≤y then pR l.toNat else boundsPanic j l y a)=_;rw[mZ ⟨b,c⟩]
 rw[e];exact H
theorem LR{b:Bool}{len cap:Nat}{lo c:Option sG}{l a:Int}(k:OD 0 lo=some l)(d:OD len c=some a)
 (g:0≤l) (o:l≤a) (i:a≤cap) {α:Type} {f:Nat×Nat×Nat→Sem α} {K:α→AH→Prop} {X:sG→AH→Prop}
 (H:Ag P (f (l.toNat,a.toNat,cap)) K X h):
 Ag P (do let r ←rT b len cap lo c none;f r) K X h:=by
 show Ag P (bD (rT b len cap lo c none) f) K X h;refine Ao _ _ ?_;have e:l≤(a.toNat:Int):=nJ
 rcases UT k with⟨rfl,rfl⟩|⟨j,rfl⟩ <;>rcases UT d with⟨rfl,rfl⟩|⟨j',rfl⟩
 ·exact H
 ·exact Ge (f:=λn=>pR (0,n,cap)) nJ i H
 ·refine Ge (f:=λn=>pR (n,len,cap)) g nJ H
 ·refine Ge (f:=λm=>bD (pV (.int j l) m .sliceB) λn=>pR (n,m,cap)) nJ i<|Ge (f:=λn=>pR (n,a.toNat,cap)) g e H
theorem UU{x:sG}{lo b r:Option sG}(H:(LO q P t x lo b r k).wp P Q h):
 Ag P (qS t x lo b r) (λv d=>(k v).wp P Q d) (λv d=>Q (.pan [{v,recovered:=false}]) d) h:=by
 unfold LO at H;split at H
 ·rename_i s hd
  split at H
  ·rename_i l u f a
   obtain⟨⟨g,j,m⟩,o⟩:=Ig H;unfold qS;refine Am hd ?_;unfold Instr.slice;refine Am hd<|LR f a g j m o
  ·exact H.elim
 ·rename_i e p n c hd
  split at H
  ·rename_i l u i f a b
   obtain⟨⟨g,j,m⟩,o⟩:=Ig H;unfold qS;refine Am hd ?_;unfold Instr.slice;refine Am hd<|LR f a g j m<|Je b o
  ·exact H.elim
 ·exact HH H
theorem Vl{c:Call}(H:(OE q P ρ c t k).wp P Q h):
 OpOk q P (do let d ←resolve ρ c t;invoke d.target d.args) k Q h:=by
 unfold OE at H;split at H
 ·rename_i b p
  have e:resolve ρ c t= .pure {target:=.builtin b c.argTypes t (c.args.map fun | .const _=>true | _=>false),args:=c.args.map ρ} :=by
   unfold resolve;rw[p];rfl
  rw[e];show OpOk q P (builtin b c.argTypes t _ (c.args.map ρ)) k Q h;cases b<;>first | exact H.elim | skip
  case append=>exact FT (HH H)
  case cap=>
   dsimp only at H;split at H<;>first | exact H.elim | skip
   rename_i at0 _ x _ r s
   refine FT ?_;have m:c.argTypes[0]? =some at0:=by rw[←oE,r];rfl
   have o:(c.args.map ρ)[0]? =some x:=by rw[←oE,s];rfl
   split at H
   ·rename_i hd
    show Ag P (rS c.argTypes t (c.args.map ρ)) _ _ _;unfold rS;rw[m,o];exact Am hd H
   ·exact HH H
  case clear=>exact FT (Bk _ (λ_ _ ⟨_,a,i⟩=>by subst a;exact i) (λ_ _ x=>x) (GO H))
  case copy=>exact FT (Bk _ (λ_ _ ⟨_,a,i⟩=>by subst a;exact i) (λ_ _ x=>x) (GO H))
  case delete=>exact FT (Bk _ (λ_ _ ⟨_,a,i⟩=>by subst a;exact i) (λ_ _ x=>x) (GO H))
  case len=>
   dsimp only at H;split at H<;>first | exact H.elim | skip
   rename_i at0 _ x _ r s
   refine FT ?_;have m:c.argTypes[0]? =some at0:=by rw[←oE,r];rfl
   have o:(c.args.map ρ)[0]? =some x:=by rw[←oE,s];rfl
   split at H
   ·rename_i hd
    show Ag P (pE c.argTypes t (c.args.map ρ)) _ _ _;unfold pE;rw[m,o];exact Am hd H
   ·rename_i hd
    show Ag P (pE c.argTypes t (c.args.map ρ)) _ _ _;unfold pE;rw[m,o];exact Am hd H
   ·rename_i x _ _ n e hd
    show Ag P (pE c.argTypes t (c.args.map ρ)) _ _ _;unfold pE;rw[m,o];refine Am hd ?_;cases x<;>exact H
   ·exact HH H
  case max=>exact FT (Bs _ H)
  case min=>exact FT (Bs _ H)
 ·rename_i f p
  unfold LP at H;split at H
  ·rename_i g first cap y
   split at H
   ·rename_i fn u
    split at H
    ·rename_i j l
     have e:resolve ρ c t= .pure {target:=.fn (.func g) cap,args:=first++c.args.map ρ} :=by
      unfold resolve;rw[p];simp only[y,Deferred.ofValue];rfl
     rw[e];show OpOk q P (callFunc g ((first++c.args.map ρ) ++cap)) k Q h;unfold OpOk callFunc;simp only[program,bind,bD,Ag,u,j,l,oG,if_false];cases q with
     |true=>exact H.elim
     |false=>
     simp only[cond_false,T.wp]at H;simp only[pure,Ag,eU];refine⟨trivial,nX.mono H λe z w=>?_⟩;cases e with
     |ret v=>obtain⟨x,a,i⟩:=w;subst a;exact i
     |pan c=>exact w
    ·exact H.elim
   ·exact H.elim
  ·exact H.elim
 ·exact H.elim
theorem UV{o:Oper}(H:(DL q P ρ o k).wp P Q h):OpOk q P (execOp ρ o) k Q h:=by
 obtain⟨E,F,L,pos,G,I⟩:=o;cases F<;>simp only[DL]at H<;>first | exact H.elim | skip
 case move x=>exact H
 case assign x=>exact H
 case pick c a b=>
  split at H
  ·rename_i t M
   show OpOk q P (do pure (.value (if ←asBool (ρ c) then ρ a else ρ b))) k Q h;rw[M];cases t<;>exact H
  ·exact H.elim
 case alloc e=>exact FT (Bs _ H)
 case box e x=>exact FT (Bs _ H)
 case build t ps=>exact FT (Bs _ H)
 case buildSlice t n ps=>exact FT (Bs _ H)
 case insert t m key x=>exact fL (Wu H)
 case load t a=>
  split at H
  ·rename_i p J
   obtain⟨N,rfl,w⟩:=LQ H;refine FT ?_;show Ag P (Instr.loadAt t (ρ a)) _ _ _;rw[J];exact Bk _ (λ_ _ ⟨O,R⟩=>O ▸ R) (λ_ _ g=>g.elim) (Vi w)
  ·exact H.elim
 case store t a x=>
  refine fL ?_;split at H
  ·rename_i p J
   obtain⟨N,rfl,w⟩:=LQ H;rw[J];exact Bs _ w
  ·exact Bs _ H
 case nilCheck x=>
  split at H
  ·rename_i p z
   obtain⟨a,rfl,w⟩:=LQ H;simp only[execOp,z];exact w
  ·rename_i f a b z
   simp only[execOp,z];exact H
  ·rename_i t v z
   simp only[execOp,z];exact H
  ·exact H.elim
 case binOp F xt x y yt=>exact FT (Xm H)
 case unOp F xt x=>exact FT (Bs _ H)
 case convert src E x=>
  refine FT ?_;split at H
  ·exact Bs _ H
  ·exact Bs _ H
  ·exact HH H
 case makeInterface t x=>exact FT (Bs _ H)
 case makeFunc fn first captured=>exact H
 case makeMap t r=>exact FT (Bs _ H)
 case makeChan t s=>exact FT (HH H)
 case makeSlice t l c=>exact FT (HH H)
 case slice t x lo hi mx=>exact FT (UU H)
 case fieldAddr s x f=>
  refine FT ?_;split at H
  ·rename_i p z
   obtain⟨a,rfl,w⟩:=LQ H;rw[z];exact Bs _ w
  ·exact Bs _ H
 case field t x f=>exact FT (Bs _ H)
 case indexAddr t x ix=>
  refine FT ?_;show Ag P (rN t (ρ x) (ρ ix)) _ _ _;split at H
  ·rename_i e p n c j i hd g u
   split at H
   ·rename_i A d
    obtain⟨a,rfl,w⟩:=LQ H;have⟨B,C⟩:=Ig w;rw[g,u];simp only[rN,Instr.sureAddr,asIntOf,underlying,program,bind,bD,Ag,hd,pure,Go.sizeOf,typeInfo,d,mZ B];exact C
   ·exact H.elim
  ·rename_i n e a j i hd g u
   split at H
   ·rename_i A d
    have⟨B,C⟩:=Ig H;rw[g,u];simp only[rN,Instr.sureAddr,asIntOf,underlying,program,bind,bD,Ag,hd,pure,Go.sizeOf,typeInfo,d,mZ B];exact C
   ·exact H.elim
  ·exact H.elim
 case index t x ix=>
  refine FT ?_;show Ag P (sC t (ρ x) (ρ ix)) _ _ _;split at H
  ·rename_i s j i hd g u
   have⟨B,C⟩:=Ig H;rw[g,u];unfold sC;simp only[asIntOf];refine Am hd ?_;have e:(if 0≤i then s[i.toNat]? else none)=some (FS s i.toNat):=by
    rw[mZ B.1];have D:i.toNat<s.size:=nJ
    rw[getElem?_pos s i.toNat D];unfold FS
    have:i.toNat<s.data.toList.length:=by simpa using D
    rw[hC,oR this];rfl
   dsimp only;rw[e];exact C
  ·exact Bs _ H
 case lookup t x ix ok=>exact FT (HH H)
 case mapUpdate t m key x=>exact fL (Wu H)
 case range t x=>exact FT (Bk _ (λ_ _ ⟨_,g,K⟩=>by subst g;exact K) (λ_ _ x=>x) (GO H))
 case next it b=>exact FT (Bk _ (λ_ _ ⟨_,g,K⟩=>by subst g;exact K) (λ_ _ x=>x) (GO H))
 case typeAssert x xt at_ ok=>exact FT (HH H)
 case extract t ix=>exact FT (Bs _ H)
 case call c=>exact Vl H
 case panic x=>exact FT (Bs _ H)
end
end
section
variable {i:Nat}{rest:List Nat}
abbrev Env:=List (Nat×sG)
def Env.get?:Env→Nat→Option sG
 | [],_=>none
 |(i,v)::r,t=>bif oA i t then some v else Env.get? r t
def Env.put(e:Env)(a:Option Tmp)(v:sG):Env:=match a with
 |some d=>(d,v)::e
 |none=>e
def Env.ev(e:Env):Operand→sG
 |.tmp t=>(e.get? t).getD undef
 |.const v=>v
 |.global g=>.pointer (some ⟨g,0,none⟩)
 |.func f=>.func (.func f) #[] #[]
def Env.has(e:Env):Operand→Bool
 |.tmp t=>(e.get? t).isSome
 |_=>true
def Agrees(e:Env)(tm:Array sG):Prop:= ∀t v,e.get? t=some v→tm[t]? =some v
theorem Env.get?_cons(i:Nat)(v:sG)(r:Env)(t:Nat):Env.get? ((i,v)::r) t=if i=t then some v else Env.get? r t:=by
 show(bif oA i t then some v else Env.get? r t)=_;by_cases h:i=t
 ·subst h;simp
 ·have:oA i t=false:=by
   cases hb:oA i t with
   |false=>rfl
   |true=>exact nC (oF hb) h
  simp[this,h]
theorem Agrees.ev{e:Env}{a:Act}(h:Agrees e a.tmps){x:Operand}(c:e.has x=true):a.eval x=e.ev x:=by
 cases x with
 |tmp t=>
  have⟨v,b⟩:=qR.1 c
  have:=h t v b
  simp[Act.eval,Env.ev,b,this]
 |const v=>rfl
 |global g=>rfl
 |func f=>rfl
theorem Agrees.put{e:Env}{a:Act}(h:Agrees e a.tmps)(b:Option Tmp)(v:sG)(hd:∀d,b=some d→d<a.tmps.size):Agrees (e.put b v) (a.put b v).tmps:=by
 cases b with
 |none=>exact h
 |some d=>
  intro t u f;simp only[Env.put,Env.get?_cons]at f;have g:=hd d rfl;by_cases c:d=t
  ·subst c;simp only[if_true,Option.some.injEq]at f;subst f;simp[Act.put,g]
  ·simp only[c,if_false]at f;simp only[Act.put,bO c];exact h t u f
theorem Act.put_size(a:Act)(b:Option Tmp)(v:sG):(a.put b v).tmps.size=a.tmps.size:=by cases b<;>simp[Act.put]
theorem Act.put_defers'(a:Act)(b:Option Tmp)(v:sG):(a.put b v).defers=a.defers:=by cases b<;>rfl
def Fr(W:List Nat)(a b:Act):Prop:=b.tmps.size=a.tmps.size∧b.defers=a.defers∧ ∀t,t∉W→b.tmps[t]? =a.tmps[t]?
theorem Fr.refl(W:List Nat)(a:Act):Fr W a a:=⟨rfl,rfl,λ_ _=>rfl⟩
theorem Fr.trans{W:List Nat}{a b c:Act}(h:Fr W a b)(k:Fr W b c):Fr W a c:=⟨k.1.trans h.1,k.2.1.trans h.2.1,λt d=>(k.2.2 t d).trans (h.2.2 t d)⟩
theorem Fr.mono{W c:List Nat}{a b:Act}(h:Fr W a b)(d:∀t,t∈W→t∈c):Fr c a b:=⟨h.1,h.2.1,λt e=>h.2.2 t (λf=>e (d t f))⟩
theorem Fr.put(W:List Nat)(a:Act)(b:Option Tmp)(v:sG)(h:∀d,b=some d→d∈W):Fr W a (a.put b v):=by
 refine⟨Act.put_size a b v,Act.put_defers' a b v,λt c=>?_⟩;cases b with
 |none=>rfl
 |some d=>
  have:d≠t:=λe=>c (e ▸ h d rfl)
  simp[Act.put,bO this]
def IR(P:sI)(ops:Array Oper)(l:List Nat)(Q:Exit→Act→sJ→Prop)(a:Act)(w:sJ):Prop:=
 ∀(b:Frame) (k:List Item) (cs:List Frame),
  ∃e c d,Q e c d∧Arrives P (lone (b.at a (.inRegion ops l::k)) cs w) b k cs e c d
section
variable {P:sI}{ops:Array Oper}{Q:Exit→Act→sJ→Prop}{a:Act}{w:sJ}
theorem fO(h:Q .normal a w):IR P ops [] Q a w:=λ_ _ _=>⟨.normal,a,w,h,.one step_region_end⟩
theorem Ww(h:((ops[i]?).map (Region.wanted · (yielded ops a.tmps))).getD false=false)
 (H:IR P ops rest Q (a.put ((ops[i]?).bind (·.dst)) undef) w):IR P ops (i::rest) Q a w:=λb k cs=>by
 obtain⟨e,d,f,g,c⟩:=H b k cs;exact⟨e,d,f,g,.of_steps (.one (step_op_skip h)) c⟩
theorem Y2{o:Oper}{v:sG}{g:sJ}(h:ops[i]? =some o)(j:Region.wanted o (yielded ops a.tmps)=true)
 (l:(execOp a.eval o).run P w= .ok (.value v) g) (H:IR P ops rest Q (a.put o.dst v) g):IR P ops (i::rest) Q a w:=λb k cs=>by
 obtain⟨e,m,f,n,c⟩:=H b k cs;refine⟨e,m,f,n,.of_steps (.one (step_lone_go ?_)) c⟩;have d:(b.at a (.inRegion ops (i::rest)::k)).finish v=b.at (a.put o.dst v) (.inRegion ops rest::k):=by rw[Frame.finish_at,h];rfl
 rw[stepG_op h j,←d];simp[stepG.apply,l]
theorem cH{o:Oper}{g:sJ}(h:ops[i]? =some o)(j:Region.wanted o (yielded ops a.tmps)=true)
 (l:(execOp a.eval o).run P w= .ok .skip g) (H:IR P ops rest Q (a.put o.dst undef) g):IR P ops (i::rest) Q a w:=λb k cs=>by
 obtain⟨e,m,f,n,c⟩:=H b k cs;refine⟨e,m,f,n,.of_steps (.one (step_lone_go ?_)) c⟩;have d:(b.at a (.inRegion ops (i::rest)::k)).finish undef=b.at (a.put o.dst undef) (.inRegion ops rest::k):=by rw[Frame.finish_at,h];rfl
 rw[stepG_op h j,←d];simp[stepG.apply,l]
theorem Y3{o:Oper}{v:sG}{c:sJ}(d:ops[i]? =some o)(e:Region.wanted o (yielded ops a.tmps)=true)
 (f:(execOp a.eval o).run P w= .halt (.panic v) c) (H:Q (.panic [{v,recovered:=false}]) a c):IR P ops (i::rest) Q a w:=λb k cs=>by
 refine⟨_,a,c,H,.inRegion ops (i::rest)::k,.one (step_lone_go ?_)⟩;rw[stepG_op d e,←Frame.raise_at];simp[stepG.apply,f]
theorem Y4{o:Oper}{f:FuncId}{args:Array sG}{n:sJ}(q:ops[i]? =some o)(r:Region.wanted o (yielded ops a.tmps)=true)
 (s:(execOp a.eval o).run P w= .ok (.enter f args) n)
 (H:Calls P f args n λe j=>match e with
  |.returned v=>IR P ops rest Q (a.put o.dst v) j
  |.panicked c=>Q (.panic c) a j
  |.outgrown=>False):IR P ops (i::rest) Q a w:=λb k cs=>by
 obtain⟨e,j,fr,p,d,_,g⟩:=H (b.at a (.inRegion ops (i::rest)::k)::cs);have h:step P (lone (b.at a (.inRegion ops (i::rest)::k)) cs w)=
  .next (lone (Frame.enter P f args .normal) (b.at a (.inRegion ops (i::rest)::k)::cs) n):=
  step_lone_go (by rw[stepG_op q r];simp[stepG.apply,s,Frame.at])
 cases e with
 |returned v=>
  obtain⟨e,t,u,x,l⟩:=p b k cs;refine⟨e,t,u,x,.of_steps (.head h (d.trans (.one ?_))) l⟩;have m:(b.at a (.inRegion ops (i::rest)::k)).finish v=b.at (a.put o.dst v) (.inRegion ops rest::k):=by rw[Frame.finish_at,q];rfl
  rw[←m];exact step_leave_returned g
 |panicked c=>
  refine⟨.panic c,a,j,p,.inRegion ops (i::rest)::k,.head h (d.trans (.one ?_))⟩;rw[←Frame.raise_at];exact step_leave_panicked g
 |outgrown=>exact p.elim
theorem UW{b:Frame}{k:List Item}{cs:List Frame}{o:Oper}{d:Array CommCase}{c:Bool}{e:CommShape}(f:ops[i]? =some o)
 (g:Region.wanted o (yielded ops a.tmps)=true) (h:(execOp a.eval o).run P w= .ok (.comm d c e) w):
 ∃es,stepG P true (Conc.G (b.at a (.inRegion ops (i::rest)::k)) cs) w= .comm (Conc.G (b.at a (.inRegion ops (i::rest)::k)) cs) d c e w es:=by
 have j:=stepG_op (P:=P) (b:=b) (k:=k) (cs:=cs) (w:=w) (rest:=rest) f g
 have:stepG P true (Conc.G (b.at a (.inRegion ops (i::rest)::k)) cs) w=stepG.apply P true (b.at a (.inRegion ops (i::rest)::k)) cs none (execOp a.eval o) w:=j
 rw[this];refine⟨(stepG.apply P true (b.at a (.inRegion ops (i::rest)::k)) cs none (execOp a.eval o) w).es,?_⟩;simp[stepG.apply,h,Conc.G,Frame.at,GStep.after,GStep.es]
def PJ(send:Option sG)(i:Int)(ok:Bool)(v:sG):sG:=match send with
 |some _=>.tuple #[goInt i,.bool ok]
 |none=>.tuple #[goInt i,.bool ok,v]
theorem Xn{o:Oper}{c:Nat}{send:Option sG}{zero:sG}(u:ops[i]? =some o)(x:Region.wanted o (yielded ops a.tmps)=true)
 (y:(execOp a.eval o).run P w= .ok (.comm #[{chan:=.chan (some c),send,zero}] false .select) w)
 (H:Yw c send zero (λj ok v h'=>∀g,CB w g→g.heap=h'→IR P ops rest Q (a.put o.dst (PJ send j ok v)) g) w.heap):IR P ops (i::rest) Q a w:=by
 intro b k cs;have⟨es,h⟩:=UW (b:=b) (k:=k) (cs:=cs) (rest:=rest) u x y;obtain⟨cap,f,s,r,t,H⟩:=H;have l:∀v,(b.at a (.inRegion ops (i::rest)::k)).finish v=b.at (a.put o.dst v) (.inRegion ops rest::k):=λv=>by rw[Frame.finish_at,u];rfl
 cases send with
 |none=>
  by_cases m:0<f.size
  ·simp only[mZ m]at H;have n:=Conc.step_lone_select_recv_buf h t m;obtain⟨e,p,g,q,d⟩:=H (w.setChan c cap (f.extract 1 f.size) false s (r+1) false) ⟨rfl,rfl,rfl,by unfold World.setChan;simp⟩ rfl b k cs;refine⟨e,p,g,q,.of_steps (.one ?_) d⟩;rw[←l];exact n
  ·simp only[nA m]at H;have z:f= #[]:=by
    have:f.size=0:=nJ
    exact Array.eq_empty_of_size_eq_zero this
   subst z;have n:=Conc.step_lone_select_default h t;obtain⟨e,p,g,q,d⟩:=H w (.refl w) rfl b k cs;refine⟨e,p,g,q,.of_steps (.one ?_) d⟩;rw[←l];exact n
 |some v=>
  by_cases m:f.size<cap
  ·simp only[mZ m]at H;have n:=Conc.step_lone_select_send_room h t m;obtain⟨e,p,g,q,d⟩:=H (w.setChan c cap (f.push v) false (s+1) r false) ⟨rfl,rfl,rfl,by unfold World.setChan;simp⟩ rfl b k cs;refine⟨e,p,g,q,.of_steps (.one ?_) d⟩;rw[←l];exact n
  ·simp only[nA m]at H;have n:=Conc.step_lone_select_send_full h t nJ;obtain⟨e,p,g,q,d⟩:=H w (.refl w) rfl b k cs;refine⟨e,p,g,q,.of_steps (.one ?_) d⟩;rw[←l];exact n
end
end
section
variable {i:Nat}{w:sJ}{W:List Nat}{h:AH}
section
variable {P:sI}{ops:Array Oper}
def Fu(P:sI)(ops:Array Oper)(i:Nat)(a:Act)(w:sJ)(K:Act→sJ→Prop)(X:List PanicEntry→sJ→Prop):Prop:=
 match ops[i]? with
 |none=>K a w
 |some o=>
  (Region.wanted o (yielded ops a.tmps)=false∧K (a.put o.dst undef) w)∨
  (Region.wanted o (yielded ops a.tmps)=true∧
   ((∃v b,(execOp a.eval o).run P w= .ok (.value v) b∧K (a.put o.dst v) b)∨
    (∃b,(execOp a.eval o).run P w= .ok .skip b∧K (a.put o.dst undef) b)∨
    (∃f args b,(execOp a.eval o).run P w= .ok (.enter f args) b∧Calls P f args b λe c=>match e with
     |.returned v=>K (a.put o.dst v) c
     |.panicked ch=>X ch c
     |.outgrown=>False)∨
    (∃v b,(execOp a.eval o).run P w= .halt (.panic v) b∧X [{v,recovered:=false}] b)))
theorem LS{a:Act}{K n:Act→sJ→Prop}{X X':List PanicEntry→sJ→Prop}(j:∀a w,K a w→n a w)(p:∀c w,X c w→X' c w)
 (H:Fu P ops i a w K X):Fu P ops i a w n X':=by
 unfold Fu at *;split
 ·rename_i h;simp only[h]at H;exact j _ _ H
 ·rename_i o h
  simp only[h]at H;rcases H with⟨k,l⟩|⟨k,l⟩
  ·exact .inl ⟨k,j _ _ l⟩
  ·refine .inr ⟨k,?_⟩;rcases l with⟨v,b,d,g⟩|⟨b,d,g⟩|⟨f,args,b,d,g⟩|⟨v,b,d,g⟩
   ·exact .inl ⟨v,b,d,j _ _ g⟩
   ·exact .inr (.inl ⟨b,d,j _ _ g⟩)
   ·refine .inr (.inr (.inl ⟨f,args,b,d,g.mono λe q m=>?_⟩));cases e<;>first | exact j _ _ m | exact p _ _ m | exact m
   ·exact .inr (.inr (.inr ⟨v,b,d,p _ _ g⟩))
theorem Xo(n:∀o∈ops,∀d,o.dst=some d→d∈W){a:Act}{K:Act→sJ→Prop}{X:List PanicEntry→sJ→Prop}
 (H:Fu P ops i a w K X):Fu P ops i a w (λl b=>Fr W a l∧K l b) X:=by
 unfold Fu at *;split
 ·rename_i h;simp only[h]at H;exact⟨.refl W a,H⟩
 ·rename_i o h
  simp only[h]at H;have hd:∀v,Fr W a (a.put o.dst v):=λv=>Fr.put W a o.dst v (n o (oW h));rcases H with⟨j,k⟩|⟨j,k⟩
  ·exact .inl ⟨j,hd _,k⟩
  ·refine .inr ⟨j,?_⟩;rcases k with⟨v,b,c,g⟩|⟨b,c,g⟩|⟨f,args,b,c,g⟩|⟨v,b,c,g⟩
   ·exact .inl ⟨v,b,c,hd _,g⟩
   ·exact .inr (.inl ⟨b,c,hd _,g⟩)
   ·refine .inr (.inr (.inl ⟨f,args,b,c,g.mono λe p m=>?_⟩));cases e<;>first | exact⟨hd _,m⟩|exact m
   ·exact .inr (.inr (.inr ⟨v,b,c,g⟩))
theorem Xp{rest:List Nat}{a:Act}{Q:Exit→Act→sJ→Prop}(H:Fu P ops i a w (IR P ops rest Q) (λc w=>Q (.panic c) a w)):
 IR P ops (i::rest) Q a w:=by
 unfold Fu at H;split at H
 ·rename_i h
  refine Ww (by simp[h]) ?_;simpa[h,Act.put]using H
 ·rename_i o h
  rcases H with⟨e,g⟩|⟨e,g⟩
  ·exact Ww (by simp[h,e]) (by simpa[h]using g)
  ·rcases g with⟨v,j,b,d⟩|⟨j,b,d⟩|⟨f,args,j,b,d⟩|⟨v,j,b,d⟩
   ·exact Y2 h e b d
   ·exact cH h e b d
   ·exact Y4 h e b d
   ·exact Y3 h e b d
theorem UX{a:Act}{K:Act→sJ→Prop}{Q:Exit→Act→sJ→Prop}(H:Fu P ops i a w K (λc w=>Q (.panic c) a w)):
 wpOp P ops Q i K a w:=by
 unfold Fu at H;unfold wpOp;split at H
 ·rename_i h;simp only[h];exact H
 ·rename_i o h
  simp only[h];rcases H with⟨g,j⟩|⟨g,j⟩
  ·simp only[g,oG,if_false];exact j
  ·simp only[g,if_true];refine .inl ?_;unfold Oper.wp;rcases j with⟨v,k,b,d⟩|⟨k,b,d⟩|⟨f,args,k,b,d⟩|⟨v,k,b,d⟩
   ·rw[b];exact d
   ·rw[b];exact d
   ·rw[b];exact Calls.mono d λe m l=>by cases e<;>first | exact l | exact l.elim
   ·rw[b];exact d
def StepH(P:sI)(ops:Array Oper)(i:Nat)(K:Act→AH→Prop)(X:List PanicEntry→AH→Prop)(a:Act)(h:AH):Prop:=
 ∀w,w.heap=h→Fu P ops i a w (λd b=>CB w b∧K d b.heap) (λc b=>CB w b∧X c b.heap)
theorem Na{a:Act}{K b:Act→AH→Prop}{X X':List PanicEntry→AH→Prop}(d:∀a h,K a h→b a h)(e:∀c h,X c h→X' c h)
 (H:StepH P ops i K X a h):StepH P ops i b X' a h:=λw f=>LS (λ_ _ ⟨x,y⟩=>⟨x,d _ _ y⟩) (λ_ _ ⟨x,y⟩=>⟨x,e _ _ y⟩) (H w f)
def Y5(ops:Array Oper)(e:Env)(o:Oper):Option Bool:=match o.guard with
 |none=>some true
 |some (j,want)=>match (ops[j]?).bind (·.dst) with
  |none=>none
  |some d=>match e.get? d with
   |some (.bool b)=>some (b==want)
   |some _=>some false
   |none=>none
theorem TL{e:Env}{a:Act}{o:Oper}{b:Bool}(h:Agrees e a.tmps)(c:Y5 ops e o=some b):Region.wanted o (yielded ops a.tmps)=b:=by
 unfold Y5 at c;unfold Region.wanted;split at c
 ·rename_i f;cases c;simp[f]
 ·rename_i j i f
  simp only[f];split at c
  ·cases c
  ·rename_i d k
   split at c
   ·rename_i n g
    cases c
    have:=h d _ g
    simp[yielded,k,this]
   ·rename_i v g l
    cases c
    have:=h d _ l
    have m:yielded ops a.tmps j=none:=by
     unfold yielded;rw[k];simp only[Option.bind_some,this];cases v<;>first | rfl | exact nC rfl (g _)
    simp[m]
   ·cases c
def TM(g:Bool)(v:sG)(k:sG→T):T:=match g,v with
 |true,.bool b=>cond b (k (.bool true)) (k (.bool false))
 |_,v=>k v
theorem MO{g:Bool}{v:sG}{k:sG→T}{Q:Bl→AH→Prop}(H:(TM g v k).wp P Q h):(k v).wp P Q h:=by
 unfold TM at H;split at H
 ·rename_i b;cases b<;>exact H
 ·exact H
def Qd(q:Bool)(P:sI)(ops:Array Oper)(a:List Nat)(e:Env)(i:Nat)(k:Env→T):T:=match ops[i]? with
 |none=>k e
 |some o=>match Y5 ops e o with
  |none=>.stuck
  |some false=>k (e.put o.dst undef)
  |some true=>bif o.op.operands.toList.all e.has then DL q P e.ev o λv=>TM (a.contains i) v λv=>k (e.put o.dst v) else .stuck
theorem SV{q:Bool}{P:sI}{ρ:Operand→sG}{o:Oper}{k:sG→T}{Q:Bl→AH→Prop}(H:(DL q P ρ o k).wp P Q h)(cs:Array SelectCase)(b:Bool):o.op≠.select cs b:=by intro a;simp only[DL,a]at H;exact H
def IL(W:List Nat)(a:Act):Prop:= ∀d∈W,d<a.tmps.size
theorem IL.fr{c:List Nat}{a b:Act}(h:IL W a)(f:Fr c a b):IL W b:=λd hd=>by rw[f.1];exact h d hd
theorem Qt{q:Bool}{C:List Nat}{e:Env}{k:Env→T}{y:Bl→AH→Prop}{a:Act}(l:Agrees e a.tmps)(D:∀o∈ops,∀d,o.dst=some d→d∈W)(E:IL W a)
 (H:(Qd q P ops C e i k).wp P y h):
 StepH P ops i (λA z=>∃B,Agrees B A.tmps∧Fr W a A∧(k B).wp P y z) (λc z=>y (.pan c) z) a h:=by
 intro w F;subst F;unfold Qd at H;unfold Fu;cases ho:ops[i]? with
 |none=>rw[ho]at H;exact⟨.refl w,e,l,.refl W a,H⟩
 |some o=>
  rw[ho]at H;have j:∀d,o.dst=some d→d∈W:=D o (oW ho);have g:∀v,Agrees (e.put o.dst v) (a.put o.dst v).tmps:=λv=>l.put o.dst v λd hd=>E d (j d hd);dsimp only at H ⊢;cases hg:Y5 ops e o with
  |none=>rw[hg]at H;exact H.elim
  |some b=>
   rw[hg]at H;have s:=TL l hg;cases b with
   |false=>exact .inl ⟨s,.refl w,_,g undef,Fr.put W a o.dst undef j,H⟩
   |true=>
    refine .inr ⟨s,?_⟩;dsimp only at H;cases hall:o.op.operands.toList.all e.has with
    |false=>rw[hall]at H;exact H.elim
    |true=>
     rw[hall]at H;simp only[cond_true]at H;have m:execOp a.eval o=execOp e.ev o:=execOp_congr o (SV H) λx G=>l.ev (pW.1 hall x (oZ.2 G));rw[m];rcases SR _ w (UV H) with⟨nx,n,t,p,r⟩|⟨v,n,t,p,r⟩
     ·cases nx<;>first | exact r.elim | skip
      case value v=>exact .inl ⟨v,n,t,p,_,g v,Fr.put W a o.dst v j,MO r⟩
      case skip=>exact .inr (.inl ⟨n,t,p,_,g undef,Fr.put W a o.dst undef j,MO r⟩)
      case enter f args=>
       refine .inr (.inr (.inl ⟨f,args,n,t,(by simpa using r.2 n rfl:Calls P f args n _).mono λI J u=>?_⟩));cases I with
       |returned v=>exact⟨p.trans u.1,_,g v,Fr.put W a o.dst v j,MO u.2⟩
       |panicked K=>exact⟨p.trans u.1,u.2⟩
       |outgrown=>exact u.2
     ·exact .inr (.inr (.inr ⟨v,n,t,p,r⟩))
def eV(ops:Array Oper)(i:Nat):Option (Oper×SelectCase):=match ops[i]? with
 |some o=>match o.guard,o.op with
  |none,.select cs false=>match cs.toList with
   | [c] =>some (o,c)
   |_=>none
  |_,_=>none
 |none=>none
def fP(p:Option Nat)(k:Nat→T):T:=match p with
 |some r=>k r
 |none=>.stuck
def Y6(P:sI)(e:Env)(c:SelectCase)(k:sG→T):T:=
 bif e.has c.chan && c.send.toList.all e.has then
  match e.ev c.chan,(P.info? c.elem).bind (·.zero) with
  |.chan p,some z=>fP p λr=>.sel r (c.send.map e.ev) z λj ok v=>k (PJ (c.send.map e.ev) j ok v)
  |_,_=>.stuck
 else .stuck
def LT(P:sI)(ops:Array Oper)(a:List Nat):List Nat→Env→(Env→T)→T
 | [],e,k=>k e
 |i::r,e,k=>match eV ops i with
  |some (o,c)=>Y6 P e c λv=>LT P ops a r (e.put o.dst v) k
  |none=>Qd false P ops a e i λb=>LT P ops a r b k
theorem Vm{U:List Nat}{E:Bl→AH→Prop}{QC:Exit→Act→sJ→Prop}{k:Env→T}(hW:∀o∈ops,∀d,o.dst=some d→d∈W)(t:List Nat)(l:List Nat):
 ∀(e:Env) (a:Act) (w:sJ),Agrees e a.tmps→IL W a→(LT P ops U l e k).wp P E w.heap→
  (∀D h b,Agrees D h.tmps→Fr W a h→CB w b→(k D).wp P E b.heap→IR P ops t QC h b)→
  (∀c h b,Fr W a h→CB w b→E (.pan c) b.heap→QC (.panic c) h b)→IR P ops (l++t) QC a w:=by
 induction l with
 |nil=>intro e a w g F H O Q;exact O e a w g (.refl W a) (.refl w) H
 |cons i r ih=>
  intro e a w g F H O Q;unfold LT at H;split at H
  ·rename_i o c m
   unfold eV at m;split at m
   ·rename_i q ho
    split at m
    ·rename_i cs V X
     split at m
     ·rename_i f G
      simp only[Option.some.injEq,Prod.mk.injEq]at m;obtain⟨rfl,rfl⟩:=m;unfold Y6 at H;cases hk:(e.has f.chan && f.send.toList.all e.has) with
      |false=>rw[hk]at H;exact H.elim
      |true=>
       rw[hk]at H;simp only[cond_true]at H;split at H
       ·rename_i p z Y hz
        cases p with
        |none=>exact H.elim
        |some Z=>
         have I:∀d,q.dst=some d→d∈W:=hW q (oW ho);rw[qU]at hk;have e1:a.eval f.chan= .chan (some Z):=by rw[g.ev hk.1];exact Y
         have e2:f.send.map a.eval=f.send.map e.ev:=by
          cases hsd:f.send with
          |none=>rfl
          |some x=>
           have:=hk.2
           simp only[hsd,Option.toList_some,List.all_cons,List.all_nil,Bool.and_true]at this;simp[g.ev this]
         have e3:cs= #[f]:=by cases cs;simp at G;subst G;rfl
         obtain⟨inf,J,u⟩:∃i,P.info? f.elem=some i∧i.zero=some z:=by
          cases hi:P.info? f.elem with
          |none=>simp[hi]at hz
          |some i=>exact⟨i,rfl,by simpa[hi]using hz⟩
         have K:(execOp a.eval q).run P w= .ok (.comm #[{chan:=.chan (some Z),send:=f.send.map e.ev,zero:=z}] false .select) w:=by
          simp[execOp,X,e3,zeroValue,typeInfo,program,bind,bD,pure,J,u,mE,e1,e2,Functor.map]
         refine Xn ho (by simp[Region.wanted,V]) K ?_;have n:Yw Z (f.send.map e.ev) z (λj ok v L=>(LT P ops U r (e.put q.dst (PJ (f.send.map e.ev) j ok v)) k).wp P E L) w.heap:=H;obtain⟨cap,y,s,rc,hc,n⟩:=n;refine⟨cap,y,s,rc,hc,?_⟩;have go:∀j ok v L,(LT P ops U r (e.put q.dst (PJ (f.send.map e.ev) j ok v)) k).wp P E L→ ∀b,CB w b→b.heap=L→
          IR P ops (r++t) QC (a.put q.dst (PJ (f.send.map e.ev) j ok v)) b:=λj ok v L A b m a0=>by
          subst a0;have hf:Fr W a (a.put q.dst (PJ (f.send.map e.ev) j ok v)):=Fr.put W a _ _ I;exact ih _ _ _ (g.put q.dst _ λd hd=>F d (I d hd)) (F.fr hf) A
           (λD h B R M C N=>O D h B R (hf.trans M) (m.trans C) N) (λc h B M C N=>Q c h B (hf.trans M) (m.trans C) N)
         cases hsd:f.send.map e.ev with
         |none=>
          rw[hsd]at n go;by_cases A:0<y.size
          ·simp only[mZ A]at n ⊢;exact go _ _ _ _ n
          ·simp only[nA A]at n ⊢;exact go _ _ _ _ n
         |some x=>
          rw[hsd]at n go;by_cases A:y.size<cap
          ·simp only[mZ A]at n ⊢;exact go _ _ _ _ n
          ·simp only[nA A]at n ⊢;exact go _ _ _ _ n
       ·exact H.elim
     ·cases m
    ·cases m
   ·cases m
  ·refine Xp (LS (λh b S=>?_) (λc b S=>?_) (Qt g hW F H w rfl))
   ·obtain⟨R,D,M,C,N⟩:=S;exact ih D h b M (F.fr C) N (λe2 a2 w2 g1 g2 g3 g4=>O e2 a2 w2 g1 (C.trans g2) (R.trans g3) g4) (λc a2 w2 g2 g3 g4=>Q c a2 w2 (C.trans g2) (R.trans g3) g4)
   ·exact Q c a b (.refl W a) S.1 S.2
theorem Xq{j:List Nat}{h:Bl→AH→Prop}{QC:Exit→Act→sJ→Prop}{k:Env→T}(m:∀o∈ops,∀d,o.dst=some d→d∈W)(l:List Nat)
 (e:Env) (a:Act) (w:sJ) (i:Agrees e a.tmps) (n:IL W a) (H:(LT P ops j l e k).wp P h w.heap)
 (p:∀g f b,Agrees g f.tmps→Fr W a f→CB w b→(k g).wp P h b.heap→QC .normal f b)
 (q:∀c f b,Fr W a f→CB w b→h (.pan c) b.heap→QC (.panic c) f b):IR P ops l QC a w:=by
 have:=Vm (QC:=QC) m [] l e a w i n H (λg f b r s t u=>fO (p g f b r s t u)) q
 rwa [List.append_nil]at this
end
end
section
variable {P:sI}{ops:Array Oper}
def Nb(m:List Nat)(o:Oper):Nat:=o.after.toList.foldl (λs e=>bif Region.binds .any e then s ||| 2 ^ e.on ||| m.getD e.on 0 else s) 0
def FU(l:List Oper):List Nat:=l.foldl (λm o=>m++ [Nb m o]) []
def forced(ms:List Nat)(j i:Nat):Bool:=(ms.getD j 0).testBit i
theorem UY(m:List Nat)(o:Oper)(i:Nat)(h:(Nb m o).testBit i=true):
 ∃e∈o.after,Region.binds .any e=true∧(e.on=i∨(m.getD e.on 0).testBit i=true):=by
 unfold Nb at h;have b:∀(l:List Edge) (s:Nat),(l.foldl (λs e=>bif Region.binds .any e then s ||| 2 ^ e.on ||| m.getD e.on 0 else s) s).testBit i=true→
  s.testBit i=true∨ ∃e∈l,Region.binds .any e=true∧(e.on=i∨(m.getD e.on 0).testBit i=true):=by
  intro l
  induction l with
  |nil=>intro s h;exact .inl h
  |cons x r c=>
   intro s h;rcases c _ h with a | ⟨e,he,a⟩
   ·dsimp only at a;cases hx:Region.binds .any x with
    |false=>rw[hx]at a;exact .inl a
    |true=>
     rw[hx]at a;simp only[cond_true,Nat.testBit_or,Bool.or_eq_true,Nat.testBit_two_pow,nD]at a;rcases a with(a | a)|a
     ·exact .inl a
     ·exact .inr ⟨x,nP,hx,.inl a⟩
     ·exact .inr ⟨x,nP,hx,.inr a⟩
   ·exact .inr ⟨e,by simp[he],a⟩
 rcases b o.after.toList 0 h with a | ⟨e,he,a⟩
 ·simp at a
 ·exact⟨e,oZ.1 he,a⟩
theorem Wx{α:Type}{p:List α→Prop}(c:p [])(d:∀l a,p l→p (l++ [a]))(l:List α):p l:=by
 have b:∀r:List α,p r.reverse:=by
  intro r
  induction r with
  |nil=>exact c
  |cons a r e=>rw[List.reverse_cons];exact d _ _ e
 simpa using b l.reverse
theorem MP(l:List Oper)(o:Oper):FU (l++ [o])=FU l++ [Nb (FU l) o]:=by simp[FU]
theorem Ed(l:List Oper):(FU l).length=l.length:=by refine Wx (p:=λl=>(FU l).length=l.length) rfl (λl o a=>?_) l;rw[MP];simp[a]
theorem SW(l:List Oper):∀(j i:Nat),((FU l).getD j 0).testBit i=true→
 ∃o,l[j]? =some o∧ ∃e∈o.after,Region.binds .any e=true∧(e.on=i∨(e.on<j∧((FU l).getD e.on 0).testBit i=true)):=by
 refine Wx (p:=λl=>∀(j i:Nat),((FU l).getD j 0).testBit i=true→
  ∃o,l[j]? =some o∧ ∃e∈o.after,Region.binds .any e=true∧(e.on=i∨(e.on<j∧((FU l).getD e.on 0).testBit i=true))) (λj i h=>?_) (λl o n=>?_) l
 ·simp[FU]at h
 ·intro j i h;rw[MP]at h;rcases Nat.lt_trichotomy j l.length with hj | hj | hj
  ·have c:(FU l++ [Nb (FU l) o]).getD j 0=(FU l).getD j 0:=by
    simp only[hC];rw[hM (by rw[Ed];exact hj)]
   rw[c]at h;obtain⟨q,d,e,f,g,k⟩:=n j i h;refine⟨q,by rw[hM hj];exact d,e,f,g,k.imp id λ⟨r,a⟩=>⟨r,?_⟩⟩;rw[MP];simp only[hC]at a ⊢;rw[hM (by rw[Ed];omega)];exact a
  ·subst hj;have c:(FU l++ [Nb (FU l) o]).getD l.length 0=Nb (FU l) o:=by
    simp only[hC];rw[oN (by rw[Ed];omega),Ed];simp
   rw[c]at h;have⟨e,f,g,k⟩:=UY _ _ _ h;refine⟨o,nP,e,f,g,k.imp id λa=>?_⟩;have b:e.on<l.length:=by
    rcases oH e.on l.length with m | m
    ·exact m
    ·rw[hC,oB (by rw[Ed];exact m)]at a;simp at a
   refine⟨b,?_⟩;rw[MP];simp only[hC]at a ⊢;rw[hM (by rw[Ed];exact b)];exact a
  ·rw[hC,oB (by simp[Ed];omega)]at h;simp at h
def PK(ops:Array Oper)(a:Array Bool):Prop:= ∀j o,ops[j]? =some o→a.getD j false=true→ ∀e∈o.after,Region.binds .any e=true→a.getD e.on false=true
theorem SC{a:Array Bool}(d:PK ops a):∀(j i:Nat),a.getD j false=true→forced (FU ops.toList) j i=true→a.getD i false=true:=by
 intro j
 induction j using Nat.strongRecOn with
 |_ j f=>
  intro i g h;have⟨o,k,e,l,m,n⟩:=SW ops.toList j i h;have b:ops[j]? =some o:=by rw[←oE];exact k
  have c:=d j o b g e l m;rcases n with rfl | ⟨hlt,p⟩
  ·exact c
  ·exact f e.on hlt i c p
theorem TN{a:Array Bool}(g:PK ops a){j i:Nat}(h:j∈Region.ready .any ops a)(k:forced (FU ops.toList) j i=true):a.getD i false=true:=by
 have⟨o,l,e,m,n,p⟩:=SW ops.toList j i k;have d:ops[j]? =some o:=by rw[←oE];exact l
 have⟨_,o2,b,c⟩:=mem_ready.1 h;rw[d]at b;cases b;have f:=c e m n;rcases p with rfl | ⟨_,q⟩
 ·exact f
 ·exact SC g e.on i f q
theorem Jf{a:Array Bool}{j:Nat}(k:PK ops a)(l:j∈Region.ready .any ops a):PK ops (a.setIfInBounds j true):=by
 intro m o f g e h i;by_cases b:j=m
 ·subst b;have⟨_,o2,c,d⟩:=mem_ready.1 l;rw[f]at c;cases c;exact getD_set_true (d e h i)
 ·rw[getD_set_ne false b]at g;exact getD_set_true (k m o f g e h i)
abbrev Y7:=List (Nat×(AH→Prop))
def GH(P:sI)(ops:Array Oper)(Qh:Act→AH→Prop)(X:List PanicEntry→AH→Prop):Nat→Array Bool→Y7→Act→AH→Prop
 | 0,listed,_,a,h=>Region.ready .any ops listed= [] ∧Qh a h
 |n+1,listed,pend,a,h=>(Region.ready .any ops listed= [] →Qh a h)∧
  ∀j∈Region.ready .any ops listed,StepH P ops j (λc b=>(∀p∈pend,forced (FU ops.toList) j p.1=false→p.2 b)∧
   GH P ops Qh X n (listed.setIfInBounds j true) (pend.filter λp=> !forced (FU ops.toList) j p.1) c b) X a h
variable {Qh:Act→AH→Prop}{X:List PanicEntry→AH→Prop}
theorem Y8{Q:Exit→Act→sJ→Prop}{w0:sJ}{a0:Act}{W:List Nat}(k:∀o∈ops,∀d,o.dst=some d→d∈W)(i:∀a w,CB w0 w→Qh a w.heap→Q .normal a w)(l:∀c a w,Fr W a0 a→CB w0 w→X c w.heap→Q (.panic c) a w):
 ∀(n:Nat) (b:Array Bool) (e:Y7) (a:Act) (w:sJ),Fr W a0 a→CB w0 w→GH P ops Qh X n b e a w.heap→wpAny P .any ops Q n b a w:=by
 intro n
 induction n with
 |zero=>intro b e a w hd g H;exact⟨H.1,i a w g H.2⟩
 |succ n m=>
  intro b e a w hd g H;refine⟨λp=>i a w g (H.1 p),λj q=>UX (LS (λr h f=>?_) (λc h f=>?_) (Xo k (H.2 j q w rfl)))⟩
  ·exact m _ _ r h (hd.trans f.1) (g.trans f.2.1) f.2.2.2
  ·exact l c a h hd (g.trans f.1) f.2
theorem cI:∀(n:Nat) (b:Array Bool) (d c:Y7) (a:Act) (h:AH),(∀p∈c,p∈d)→GH P ops Qh X n b d a h→GH P ops Qh X n b c a h:=by
 intro n
 induction n with
 |zero=>intro b d c a h f H;exact H
 |succ n g=>
  intro b d c a h f H;refine⟨H.1,λj i=>Na (λk l ⟨m,o⟩=>⟨λp e q=>m p (f p e) q,g _ _ _ k l (λp e=>?_) o⟩) (λ_ _ x=>x) (H.2 j i)⟩;rw[pL]at e ⊢;exact⟨f p e.1,e.2⟩
def iF(P:sI)(s:Sem Next)(v:sG)(h:AH):Prop:=
 ∀w,w.heap=h→ ∃a,(s.run P w= .ok (.value v) a∨(s.run P w= .ok .skip a∧v=undef))∧CB w a∧a.heap=h
theorem Y9{j:Nat}{k g:Oper}{v:sG}{a:Act}{h:AH}{K:Act→AH→Prop}(x:ops[j]? =some g)(p:k.apart ops g=true)
 (q:∀cs b,g.op≠.select cs b) (H:StepH P ops j K X (a.put k.dst v) h):
 StepH P ops j (λs y=>(∃u,s=a.put g.dst u)∧K (s.put k.dst v) y) X a h:=by
 have⟨t,z,i⟩:=Oper.apart_spec p;intro w A;have H:=H w A;unfold Fu at *;simp only[x]at H ⊢;rw[wanted_put g a k.dst v t,execOp_put g q a k.dst v t]at H;have m:∀u,(a.put k.dst v).put g.dst u=(a.put g.dst u).put k.dst v:=λu=>Act.put_comm a v u z;rcases H with⟨r,n⟩|⟨r,n⟩
 ·exact .inl ⟨r,n.1,⟨_,rfl⟩,by rw[←m];exact n.2⟩
 ·refine .inr ⟨r,?_⟩;rcases n with⟨u,l,i,d⟩|⟨l,i,d⟩|⟨f,args,l,i,d⟩|⟨u,l,i,d⟩
  ·exact .inl ⟨u,l,i,d.1,⟨_,rfl⟩,by rw[←m];exact d.2⟩
  ·exact .inr (.inl ⟨l,i,d.1,⟨_,rfl⟩,by rw[←m];exact d.2⟩)
  ·refine .inr (.inr (.inl ⟨f,args,l,i,d.mono λe B o=>?_⟩));cases e with
   |returned u=>exact⟨o.1,⟨_,rfl⟩,by rw[←m];exact o.2⟩
   |panicked c=>exact o
   |outgrown=>exact o
  ·exact .inr (.inr (.inr ⟨u,l,i,d⟩))
theorem UZ{i:Nat}{q:Oper}{v:sG}{s:Sem Next}{b:Bool}{R:AH→Prop}(hi:ops[i]? =some q)(B:∀(j:Nat) (o:Oper) cs b,ops[j]? =some o→o.op≠.select cs b)
 (hR:∀h,R h→b=true→iF P s v h) (hv:b=false→v=undef):
 ∀(n:Nat) (c:Array Bool) (d:Y7) (a:Act) (h:AH),PK ops c→
  (∀j r,ops[j]? =some r→j≠i→c.getD j true=false→(∀e∈r.after,Region.binds .any e=true→e.on≠i)→q.apart ops r=true)→
  i∈Region.ready .any ops c→execOp a.eval q=s→Region.wanted q (yielded ops a.tmps)=b→R h→(∀p∈d,p.2 h)→
  GH P ops Qh X n (c.setIfInBounds i true) ((i,R)::d) (a.put q.dst v) h→GH P ops Qh X (n+1) c d a h:=by
 intro n;have M:∀(n:Nat) (c:Array Bool) (d:Y7) (a:Act) (h:AH),execOp a.eval q=s→Region.wanted q (yielded ops a.tmps)=b→R h→(∀p∈d,p.2 h)→
  GH P ops Qh X n (c.setIfInBounds i true) ((i,R)::d) (a.put q.dst v) h→
  StepH P ops i (λa' C=>(∀p∈d,forced (FU ops.toList) i p.1=false→p.2 C)∧
   GH P ops Qh X n (c.setIfInBounds i true) (d.filter λp=> !forced (FU ops.toList) i p.1) a' C) X a h:=by
  intro n c d a h D y z f H w hw;unfold Fu;simp only[hi];have Y:=cI n _ _ (d.filter λp=> !forced (FU ops.toList) i p.1) _ h (λp m=>pA _ (pL.1 m).1) H;cases b with
  |false=>
   refine .inl ⟨y,.refl w,?_⟩;rw[hw]
   have:=hv rfl
   subst this;exact⟨λp m _=>f p m,Y⟩
  |true=>
   refine .inr ⟨y,?_⟩;obtain⟨w',t,W,K⟩:=hR h z rfl w hw;rw[D];rcases t with t | ⟨t,rfl⟩
   ·refine .inl ⟨v,w',t,W,?_⟩;rw[K];exact⟨λp m _=>f p m,Y⟩
   ·refine .inr (.inl ⟨w',t,W,?_⟩);rw[K];exact⟨λp m _=>f p m,Y⟩
 induction n with
 |zero=>
  intro c d a h G l z D y I f H;refine⟨λN=>(by rw[N]at z;cases z),λj L=>?_⟩;by_cases g:j=i
  ·subst g;exact M 0 c d a h D y I f H
  ·have:=ready_mono L g
   rw[H.1]at this;cases this
 |succ n ih=>
  intro c d a h G l z D y I f H;refine⟨λN=>(by rw[N]at z;cases z),λj L=>?_⟩;by_cases g:j=i
  ·subst g;exact M (n+1) c d a h D y I f H
  ·have t:=H.2 j (ready_mono L g);have⟨E,r,J,O⟩:=mem_ready.1 L;have F:c.getD i false=false:=by
    have N:=(mem_ready.1 z).1;rcases oH i c.size with C | C
    ·simpa[C]using N
    ·simp[oT C]
   have Q:∀e∈r.after,Region.binds .any e=true→e.on≠i:=λe D y Z=>by
    have t:=O e D y;rw[Z,F]at t;cases t
   have S:forced (FU ops.toList) j i=false:=by
    cases hf:forced (FU ops.toList) j i with
    |false=>rfl
    |true=>have:=TN G L hf;rw[F]at this;cases this
   have T:=l j r J g E Q;have⟨q1,q2,q3⟩:=Oper.apart_spec T;have W:=Y9 J T (λcs b=>B j r cs b J) t;have A:∀k ok,ops[k]? =some ok→k≠i→(c.setIfInBounds j true).getD k true=false→
    (∀e∈ok.after,Region.binds .any e=true→e.on≠i)→q.apart ops ok=true:=λk ok hk a0 U a1=>by
    refine l k ok hk a0 ?_ a1;by_cases V:j=k
    ·subst V;exact E
    ·rw[getD_set_ne true V]at U;exact U
   refine Na (λa' C hx=>?_) (λ_ _ x=>x) W;obtain⟨⟨u,rfl⟩,K,h4⟩:=hx;refine⟨λp m hf=>K p (pA _ m) hf,?_⟩;refine ih (c.setIfInBounds j true) _ (a.put r.dst u) C (Jf G L) A (ready_mono z (Ne.symm g)) ?_ ?_ (K (i,R) (rP ..) S) ?_ ?_
   ·rw[execOp_put q (λcs b=>B i q cs b hi) a r.dst u q3];exact D
   ·rw[wanted_put q a r.dst u q3];exact y
   ·intro p m;rw[pL]at m;exact K p (pA _ m.1) (by simpa using m.2)
   ·rw[Array.setIfInBounds_comm _ _ g];rw[pM (by simp[S])]at h4;exact h4
end
section
variable {P:sI}{ops:Array Oper}
def Vn(u:sG):T:=.out [u]
def QV(v:sG)(a:AH)(l:Bl)(b:AH):Prop:=l= .out [v] ∧b=a
def FD(P:sI)(D:(sG→T)→T):Prop:= ∀(k:sG→T) (Q:Bl→AH→Prop) (h:AH),(D k).wp P Q h→ ∃v,(k v).wp P Q h∧ ∀a,(D Vn).wp P (QV v a) a
theorem BW(v:sG):FD P (λk=>k v):=λ_ _ _ H=>⟨v,H,λ_=>⟨rfl,rfl⟩⟩
theorem Al:FD P (λ_=>.stuck):=λ_ _ _ H=>H.elim
theorem Jg{p:nG}{D:sK→(sG→T)→T}(b:∀a,FD P (D a)):FD P (λk=>nW p λa=>D a k):=by
 cases p with
 |none=>exact Al
 |some a=>exact b a
theorem FE{c:Prop}[Decidable c]{D:(sG→T)→T}(a:FD P D):FD P (λk=>chk c (D k)):=by intro k Q h H;have⟨v,b,d⟩:=a k Q h H.2;exact⟨v,b,λe=>⟨H.1,d e⟩⟩
theorem Ee{c:Prop}[Decidable c]{D b:(sG→T)→T}(e:FD P D)(a:FD P b):FD P (λk=>if c then D k else b k):=by
 by_cases d:c
 ·simp only[mZ d];exact e
 ·simp only[nA d];exact a
theorem Xr{b:Bool}{D c:(sG→T)→T}(d:FD P D)(a:FD P c):FD P (λk=>cond b (D k) (c k)):=by
 cases b
 ·exact a
 ·exact d
theorem Fv{α:Type}(s:Sem α){f:α→(sG→T)→T}(d:∀a,FD P (f a)):FD P (λk=>Bm true P s λa=>f a k):=by
 induction s with
 |pure a=>exact d a
 |program g b=>exact b _
 |mark m g b=>exact b
 |halt x=>cases x<;>exact Al
 |load m a g b=>exact Al
 |store m a v g b=>exact Al
 |new o g b=>exact Al
 |shape r g b=>exact Al
 |freeze a n g b=>exact Al
 |frozen a g b=>exact Al
 |getObj r g b=>exact Al
 |setObj r o g b=>exact Al
 |choose q g b=>exact Al
 |sys c g b=>exact Al
theorem CT(s:Sem sG):FD P (λk=>Bm true P s k):=Fv s (f:=λa k=>k a) λa=>BW a
theorem Ua{t:sH}{a b:Array sG}{f:Bool→(sG→T)→T}(c:∀r,FD P (f r)):FD P (λk=>P6 P t a b (λr=>f r k) .stuck):=by
 unfold P6;split
 ·split
  ·exact c _
  ·exact Al
 ·exact Al
theorem ZA(c:BinOp)(t:sH)(x y:Operand)(a b:sG):FD P (λk=>Qq true P c t x y a b k):=by
 unfold Qq;split
 case h_1=>exact Ee (BW _) Al
 case h_2=>exact Ee (BW _) Al
 case h_3=>exact Ee (BW _) Al
 case h_4=>exact Ee (FE (BW _)) Al
 case h_5=>exact Ee (FE (BW _)) Al
 case h_6=>exact FE (BW _)
 case h_7=>exact FE (BW _)
 case h_8=>exact Ee (BW _) Al
 case h_9=>exact Ee (BW _) Al
 case h_10=>exact Ee (BW _) Al
 case h_11=>exact Ee (BW _) Al
 case h_12=>exact Ee (BW _) Al
 case h_13=>exact Ee (BW _) Al
 case h_14=>exact FE (BW _)
 case h_15=>exact BW _
 case h_16=>exact BW _
 case h_17 p=>exact Fv _ (f:=λ(d:TypeDesc) (k:sG→T)=>match d with | .pointer _=>k (.bool p.isNone)|_=>.stuck) λd=>by cases d<;>first | exact BW _ | exact Al
 case h_18 p=>exact Fv _ (f:=λ(d:TypeDesc) (k:sG→T)=>match d with | .pointer _=>k (.bool !p.isNone)|_=>.stuck) λd=>by cases d<;>first | exact BW _ | exact Al
 case h_19 p _ _ _ _=>exact Fv _ (f:=λ(d:TypeDesc) (k:sG→T)=>match d with | .slice _=>k (.bool p.isNone)|_=>.stuck) λd=>by cases d<;>first | exact BW _ | exact Al
 case h_20 p _ _ _ _=>exact Fv _ (f:=λ(d:TypeDesc) (k:sG→T)=>match d with | .slice _=>k (.bool !p.isNone)|_=>.stuck) λd=>by cases d<;>first | exact BW _ | exact Al
 case h_21 m n=>exact Fv _ (f:=λ(d:TypeDesc) (k:sG→T)=>match d with | .bool=>k (.bool (m==n))|_=>.stuck) λd=>by cases d<;>first | exact BW _ | exact Al
 case h_22 m n=>exact Fv _ (f:=λ(d:TypeDesc) (k:sG→T)=>match d with | .bool=>k (.bool !(m==n))|_=>.stuck) λd=>by cases d<;>first | exact BW _ | exact Al
 case h_23=>exact Ua (f:=λr k=>k (.bool r)) λr=>BW _
 case h_24=>exact Ua (f:=λr k=>k (.bool !r)) λr=>BW _
 case h_25=>exact Al
 case h_26=>exact Al
 case h_27=>exact CT _
theorem Vo(t:sH)(x:sG)(lo a b:Option sG):FD P (λk=>LO true P t x lo a b k):=by
 unfold LO;split
 ·split
  ·exact FE (BW _)
  ·exact Al
 ·split
  ·exact FE (BW _)
  ·exact Al
 ·exact Al
theorem Xs(ρ:Operand→sG)(c:Call)(t:sH):FD P (λk=>OE true P ρ c t k):=by
 unfold OE;split
 ·rename_i b a
  cases b<;>first | exact Al | exact CT _ | skip
  case len=>
   dsimp only;split
   ·split<;>first | exact BW _ | exact Al
   ·exact Al
  case cap=>
   dsimp only;split
   ·split<;>first | exact BW _ | exact Al
   ·exact Al
 ·unfold LP;split
  ·split
   ·split<;>exact Al
   ·exact Al
  ·exact Al
 ·exact Al
def Jh(a:sK)(v:sG):List (sK×sG):=match v with
 |.agg cs=>cs.toList.zipIdx.map λc=>(a.add c.2,c.1)
 |v=>[(a,v)]
def NO(ρ:Operand→sG)(o:Oper)(v:sG):List (sK×sG):=match o.op with
 |.load _ x=>match ρ x with
  |.pointer (some a)=>Jh a v
  |_=>[]
 |_=>[]
def Holds(l:List (sK×sG))(h:AH):Prop:= ∀c∈l,Bb h c.1=some c.2
theorem Vp(l:List Bc)(a:sK){f:Array sG→(sG→T)→T}(m:∀cs k,f cs k=k (.agg cs)):∀(i:Nat) (b:Array sG) (k:sG→T) (Q:Bl→AH→Prop) (h:AH),
 (If l a i b λcs=>f cs k).wp P Q h→ ∃r:List sG,r.length=l.length∧(k (.agg (b++r.toArray))).wp P Q h∧(∀j v,r[j]? =some v→Bb h (a.add (i+j))=some v)∧
  ∀d,(∀j v,r[j]? =some v→Bb d (a.add (i+j))=some v)→(If l a i b λcs=>f cs Vn).wp P (QV (.agg (b++r.toArray)) d) d:=by
 induction l with
 |nil=>
  intro i b k Q h H;refine⟨[],rfl,?_,?_,?_⟩
  ·simpa[If,m]using H
  ·intro j v c;simp at c
  ·intro d _;simp[If,m,Vn,T.wp,QV]
 |cons s r o=>
  intro i b k Q h H;obtain⟨x,p,H⟩:=H;obtain⟨g,q,t,u,w⟩:=o (i+1) (b.push (s.val x)) k Q h H;refine⟨s.val x::g,by simp[q],?_,?_,?_⟩
  ·have e:b++(s.val x::g).toArray=b.push (s.val x) ++g.toArray:=by
    apply rQ;simp
   rw[e];exact t
  ·intro j v c;cases j with
   |zero=>simp at c;subst c;exact p
   |succ j=>
    simp at c
    have:=u j v c
    rw[show i+(j+1)=i+1+j by omega];exact this
  ·intro d n;refine⟨x,by simpa using n 0 (s.val x) nP,?_⟩;have e:b++(s.val x::g).toArray=b.push (s.val x) ++g.toArray:=by
    apply rQ;simp
   rw[e];refine w d λj v c=>?_
   have:=n (j+1) v (by simpa using c)
   rw[show i+1+j=i+(j+1) by omega];exact this
theorem Xt{t:sH}{a:sK}{k:sG→T}{Q:Bl→AH→Prop}{h:AH}(H:(FQ P t a k).wp P Q h):
 ∃v,(k v).wp P Q h∧Holds (Jh a v) h∧ ∀b,Holds (Jh a v) b→(FQ P t a Vn).wp P (QV v b) b:=by
 unfold FQ at H ⊢;split at H
 ·rename_i d i hd B
  split at H
  ·rename_i l n o
   split at H
   ·rename_i e
    have⟨r,C,q,u,w⟩:=Vp (P:=P) l a (f:=λcs k=>k (.agg cs)) (λ_ _=>rfl) 0 #[] k Q h H;refine⟨.agg (#[] ++r.toArray),q,?_,λb p=>?_⟩
    ·intro c g;simp only[Jh,pS]at g;obtain⟨⟨v,j⟩,y,rfl⟩:=g
     have:=qH.1 y
     simpa using u j v (by simpa using this)
    ·simp only[mZ e];refine w b λj v z=>?_
     have:=p (a.add j,v) (by
      simp only[Jh,pS];exact⟨(v,j),qH.2 (by simpa using z),rfl⟩)
     simpa using this
   ·exact H.elim
  ·rename_i s n o
   obtain⟨x,A,H⟩:=H;have g:Jh a (s.val x)= [(a,s.val x)]:=by
    have:=Bc.val_plain s x
    cases hv:s.val x<;>simp_all [Jh,Value.plain]
   refine⟨s.val x,H,?_,λb p=>?_⟩
   ·rw[g];intro c m;simp at m;subst m;exact A
   ·exact⟨x,p (a,s.val x) (by rw[g];simp),rfl,rfl⟩
  ·exact H.elim
 ·exact H.elim
theorem Vq{ρ:Operand→sG}{o:Oper}{k:sG→T}{Q:Bl→AH→Prop}{h:AH}(H:(DL true P ρ o k).wp P Q h):
 ∃v,(k v).wp P Q h∧Holds (NO ρ o v) h∧ ∀q,Holds (NO ρ o v) q→(DL true P ρ o Vn).wp P (QV v q) q:=by
 obtain⟨m,u,l,pos,i,j⟩:=o;have d:∀ {D:(sG→T)→T},FD P D→(∀k,DL true P ρ ⟨m,u,l,pos,i,j⟩ k=D k)→(∀v,NO ρ ⟨m,u,l,pos,i,j⟩ v= [])→
  ∃v,(k v).wp P Q h∧Holds (NO ρ ⟨m,u,l,pos,i,j⟩ v) h∧ ∀q,Holds (NO ρ ⟨m,u,l,pos,i,j⟩ v) q→(DL true P ρ ⟨m,u,l,pos,i,j⟩ Vn).wp P (QV v q) q:=by
  intro D C B E;rw[B]at H;have⟨v,z,A⟩:=C k Q h H;refine⟨v,z,?_,λq _=>?_⟩
  ·rw[E];intro c w;cases w
  ·rw[B];exact A q
 cases u<;>first | exact H.elim | skip
 case move x=>exact d (BW (ρ x)) (λ_=>rfl) (λ_=>rfl)
 case assign x=>exact d (BW (ρ x)) (λ_=>rfl) (λ_=>rfl)
 case pick c a b=>
  cases w:ρ c with
  |bool t=>exact d (Xr (b:=t) (BW (ρ a)) (BW (ρ b))) (λk=>by simp only[DL,w]) (λ_=>rfl)
  |_=>simp only[DL,w]at H;exact H.elim
 case alloc e=>exact d (CT _) (λ_=>rfl) (λ_=>rfl)
 case build t ps=>exact d (CT _) (λ_=>rfl) (λ_=>rfl)
 case buildSlice t n ps=>exact d (CT _) (λ_=>rfl) (λ_=>rfl)
 case load t x=>
  simp only[DL]at H;cases hx:ρ x with
  |pointer p=>
   cases p with
   |none=>rw[hx]at H;exact H.elim
   |some a=>
    rw[hx]at H;have⟨v,z,A,F⟩:=Xt H;refine⟨v,z,by simpa[NO,hx]using A,λq G=>?_⟩;simp only[DL,hx];exact F q (by simpa[NO,hx]using G)
  |_=>rw[hx]at H;exact H.elim
 case store t a x=>
  refine d (D:=λk=>DL true P ρ ⟨_,.store t a x,l,pos,i,j⟩ k) ?_ (λ_=>rfl) (λ_=>rfl);simp only[DL];split
  ·exact Jg (D:=λb k=>Bm true P (pY t (.pointer (some b)) (ρ x)) λ_=>k undef) λb=>Fv (pY t (.pointer (some b)) (ρ x)) (f:=λ_ k=>k undef) λ_=>BW undef
  ·exact Fv (pY t _ (ρ x)) (f:=λ_ k=>k undef) λ_=>BW undef
 case nilCheck x=>
  cases hx:ρ x with
  |pointer p=>exact d (Jg (p:=p) (D:=λa k=>k (.pointer (some a))) λa=>BW _) (λk=>by simp only[DL,hx]) (λ_=>rfl)
  |func f a b=>
   cases f with
   |func g=>exact d (BW (.func (.func g) a b)) (λk=>by simp only[DL,hx]) (λ_=>rfl)
   |_=>simp only[DL,hx]at H;exact H.elim
  |iface t v=>exact d (BW (.iface t v)) (λk=>by simp only[DL,hx]) (λ_=>rfl)
  |_=>simp only[DL,hx]at H;exact H.elim
 case binOp u xt x y yt=>exact d (ZA u xt x y (ρ x) (ρ y)) (λ_=>rfl) (λ_=>rfl)
 case unOp u xt x=>exact d (CT _) (λ_=>rfl) (λ_=>rfl)
 case convert src m x=>
  refine d (D:=λk=>DL true P ρ ⟨_,.convert src m x,l,pos,i,j⟩ k) ?_ (λ_=>rfl) (λ_=>rfl);simp only[DL];split
  ·exact CT _
  ·exact CT _
  ·exact Al
 case makeInterface t x=>exact d (CT _) (λ_=>rfl) (λ_=>rfl)
 case makeFunc fn first captured=>exact d (BW _) (λ_=>rfl) (λ_=>rfl)
 case makeMap t r=>exact d (CT _) (λ_=>rfl) (λ_=>rfl)
 case slice t x lo hi mx=>exact d (Vo t (ρ x) _ _ _) (λ_=>rfl) (λ_=>rfl)
 case fieldAddr s x f=>
  refine d (D:=λk=>DL true P ρ ⟨_,.fieldAddr s x f,l,pos,i,j⟩ k) ?_ (λ_=>rfl) (λ_=>rfl);simp only[DL];split
  ·exact Jg (D:=λa k=>Bm true P (rM s (.pointer (some a)) f) k) λa=>CT _
  ·exact CT _
 case field t x f=>exact d (CT _) (λ_=>rfl) (λ_=>rfl)
 case indexAddr t x ix=>
  refine d (D:=λk=>DL true P ρ ⟨_,.indexAddr t x ix,l,pos,i,j⟩ k) ?_ (λ_=>rfl) (λ_=>rfl);simp only[DL];split
  ·split
   ·exact Jg (D:=λa k=>chk _ (k (.pointer (some (a.add _))))) λa=>FE (BW _)
   ·exact Al
  ·split
   ·exact FE (BW _)
   ·exact Al
  ·exact Al
 case index t x ix=>
  refine d (D:=λk=>DL true P ρ ⟨_,.index t x ix,l,pos,i,j⟩ k) ?_ (λ_=>rfl) (λ_=>rfl);simp only[DL];split
  ·exact FE (BW _)
  ·exact CT _
 case extract t ix=>exact d (CT _) (λ_=>rfl) (λ_=>rfl)
 case call c=>exact d (Xs ρ c l) (λ_=>rfl) (λ_=>rfl)
 case panic x=>exact d (CT _) (λ_=>rfl) (λ_=>rfl)
theorem Xu{ρ:Operand→sG}{o:Oper}{v:sG}{h:AH}(H:(DL true P ρ o Vn).wp P (QV v h) h):iF P (execOp ρ o) v h:=by
 intro w i;subst i;rcases SR _ w (UV H) with⟨nx,c,d,e,a⟩|⟨u,c,d,e,a⟩
 ·cases nx<;>first | exact a.elim | skip
  case value u=>
   obtain⟨b,g⟩:=a;simp only[Bl.out.injEq,List.cons.injEq,and_true]at b;subst b;exact⟨c,.inl d,e,g⟩
  case skip=>
   obtain⟨b,g⟩:=a;simp only[Bl.out.injEq,List.cons.injEq,and_true]at b;exact⟨c,.inr ⟨d,b.symm⟩,e,g⟩
  case enter f args=>cases a.1
 ·cases a.1
end
def cJ(P:sI)(o:Oper):Bool:=match o.op with
 |.move _ | .assign _ | .pick _ _ _ | .load _ _ | .nilCheck _ | .binOp _ _ _ _ _ | .unOp _ _ _ | .slice _ _ _ _ _ | .index _ _ _ | .indexAddr _ _ _
 |.makeInterface _ _ | .makeFunc _ _ _ | .fieldAddr _ _ _ | .field _ _ _ | .extract _ _ | .build _ _=>true
 |.convert src dst _=>match P.underlying src,P.underlying dst with
  |some (.int _),some (.int _)=>true
  |some .string,some .string=>true
  |_,_=>false
 |.call c=>match c.callee with
  |.builtin .min | .builtin .max=>true
  |.builtin .len | .builtin .cap=>match c.argTypes[0]? with
   |some t=>match P.underlying t with
    |some .string | some (.slice _)|some (.array _ _)=>true
    |_=>false
   |none=>false
  |_=>false
 |_=>false
def cK(P:sI)(ops:Array Oper)(i:Nat):Bool:=match ops[i]? with
 |some o=>cJ P o
 |none=>false
def Vr:List (sK×sG)→T→T
 | [],t=>t
 |(a,v)::r,t=>.still a v (Vr r t)
def TO:List T→T
 | [] =>.stuck
 | [t] =>t
 |t::r=>.both t (TO r)
def Qu(ops:Array Oper):List Nat:=ops.toList.filterMap λo=>o.guard.map (·.1)
def Ji(P:sI)(ops:Array Oper)(a ms:List Nat):Nat→Array Bool→List (Nat×List (sK×sG))→Env→(Env→T)→T
 | 0,listed,_,e,k=>match Region.ready .any ops listed with
  | [] =>k e
  |_=>.stuck
 |n+1,listed,pend,e,k=>match Region.ready .any ops listed with
  | [] =>k e
  |r=>match r.find? λi=>cK P ops i && Region.free .any ops listed i with
   |some i=>match ops[i]? with
    |none=>.stuck
    |some o=>match Y5 ops e o with
     |none=>.stuck
     |some false=>Ji P ops a ms n (listed.setIfInBounds i true) ((i,[])::pend) (e.put o.dst undef) k
     |some true=>bif o.op.operands.toList.all e.has then
      DL true P e.ev o λv=>TM (a.contains i) v λv=>Ji P ops a ms n (listed.setIfInBounds i true) ((i,NO e.ev o v)::pend) (e.put o.dst v) k
      else .stuck
   |none=>TO (r.map λj=>Qd false P ops a e j λb=>
    Vr ((pend.filter λp=> !forced ms j p.1).flatMap (·.2)) (Ji P ops a ms n (listed.setIfInBounds j true) (pend.filter λp=> !forced ms j p.1) b k))
section
variable {P:sI}{ops:Array Oper}
theorem Xv{l:List (sK×sG)}{t:T}{Q:Bl→AH→Prop}{h:AH}(H:(Vr l t).wp P Q h):Holds l h∧t.wp P Q h:=by
 induction l with
 |nil=>exact⟨λc b=>(by cases b),H⟩
 |cons x r d=>
  obtain⟨a,v⟩:=x;obtain⟨e,f⟩:=H;obtain⟨g,i⟩:=d f;refine⟨λc b=>?_,i⟩;rcases qT.1 b with rfl | b
  ·exact e
  ·exact g c b
theorem Vs{l:List T}{Q:Bl→AH→Prop}{h:AH}(H:(TO l).wp P Q h):∀t∈l,t.wp P Q h:=by
 induction l with
 |nil=>exact H.elim
 |cons t r c=>
  cases r with
  |nil=>intro b a;simp at a;subst a;exact H
  |cons t2 r=>
   obtain⟨d,e⟩:=H;intro b a;rcases qT.1 a with rfl | a
   ·exact d
   ·exact c e b a
theorem Vt{gs:List Nat}{k:Env→T}{U:Bl→AH→Prop}{W:List Nat}{a0:Act}(z:Region.noSelect ops=true)(hW:∀o∈ops,∀d,o.dst=some d→d∈W):
 ∀(n:Nat) (f:Array Bool) (g:List (Nat×List (sK×sG))) (e:Env) (a:Act) (h:AH),Agrees e a.tmps→IL W a→Fr W a0 a→PK ops f→(∀p∈g,Holds p.2 h)→
  (Ji P ops gs (FU ops.toList) n f g e k).wp P U h→
  GH P ops (λN A=>∃O,Agrees O N.tmps∧Fr W a0 N∧(k O).wp P U A) (λc A=>U (.pan c) A) n f (g.map λp=>(p.1,Holds p.2)) a h:=by
 intro n
 induction n with
 |zero=>
  intro f g e a h m F r t G H;unfold Ji at H;split at H
  ·rename_i V;exact⟨V,e,m,r,H⟩
  ·exact H.elim
 |succ n X=>
  intro f g e a h m F r t G H;unfold Ji at H;split at H
  ·rename_i V
   refine⟨λ_=>⟨e,m,r,H⟩,λj I=>?_⟩;rw[V]at I;cases I
  ·rename_i C
   split at H
   ·rename_i i Q
    have q:=qO Q;have hq:=List.find?_some Q;rw[qU]at hq;split at H
    ·exact H.elim
    ·rename_i o S
     have D:∀d,o.dst=some d→d∈W:=hW o (oW S);have B:∀v,Agrees (e.put o.dst v) (a.put o.dst v).tmps:=λv=>m.put o.dst v λd hd=>F d (D d hd);have u:=λj oj Y C Z a1=>Region.free_spec S hq.2 j oj Y C Z a1;split at H
     ·exact H.elim
     ·rename_i hg
      have w:Fr W a (a.put o.dst undef):=Fr.put W a _ _ D;refine UZ (b:=false) (v:=undef) (s:=execOp a.eval o) (R:=Holds []) S (Region.noSelect_spec z) (λ_ _ J=>by cases J) (λ_=>rfl) n f _ a h t u q rfl (TL m hg)
       (λc K=>by cases K) (λp l=>?_) (X _ ((i,[])::g) _ _ h (B undef) (F.fr w) (r.trans w) (Jf t q) (λp l=>?_) H)
      ·obtain⟨L,y,rfl⟩:=pS.1 l;exact G L y
      ·rcases qT.1 l with rfl | l
       ·exact λc K=>by cases K
       ·exact G p l
     ·rename_i hg
      cases hall:o.op.operands.toList.all e.has with
      |false=>rw[hall]at H;exact H.elim
      |true=>
       rw[hall]at H;simp only[cond_true]at H;have E:execOp a.eval o=execOp e.ev o:=execOp_congr o (SV H) λx hx=>m.ev (pW.1 hall x (oZ.2 hx));have⟨v,h1,h2,h3⟩:=Vq H;have h1:=MO h1;have w:Fr W a (a.put o.dst v):=Fr.put W a _ _ D;refine UZ (b:=true) (v:=v) (s:=execOp e.ev o) (R:=Holds (NO e.ev o v)) S (Region.noSelect_spec z) (λA J _=>Xu (h3 A J)) (λJ=>by cases J) n f _ a h t u q E (TL m hg)
        h2 (λp l=>?_) (X _ ((i,NO e.ev o v)::g) _ _ h (B v) (F.fr w) (r.trans w) (Jf t q) (λp l=>?_) h1)
       ·obtain⟨L,y,rfl⟩:=pS.1 l;exact G L y
       ·rcases qT.1 l with rfl | l
        ·exact h2
        ·exact G p l
   ·refine⟨λh0=>nC h0 (by simpa using C),λj I=>?_⟩;have Hj:=Vs H _ (pS.2 ⟨j,I,rfl⟩);refine Na (λN A hx=>?_) (λ_ _ x=>x) (Qt m hW F Hj);obtain⟨O,g1,g2,g3⟩:=hx;have⟨g4,g5⟩:=Xv g3;have M:∀p∈g.filter (λp=> !forced (FU ops.toList) j p.1),Holds p.2 A:=λp l c K=>g4 c (List.mem_flatMap.2 ⟨p,l,K⟩);refine⟨λp l Q=>?_,?_⟩
    ·obtain⟨L,y,rfl⟩:=pS.1 l;exact M L (pL.2 ⟨y,by simpa using Q⟩)
    ·have:=X _ _ O N A g1 (F.fr g2) (r.trans g2) (Jf t I) M g5
     have e2:(g.filter λp=> !forced (FU ops.toList) j p.1).map (λp=>(p.1,Holds p.2))=(g.map λp=>(p.1,Holds p.2)).filter λp=> !forced (FU ops.toList) j p.1:=by
      rw[List.filter_map];rfl
     rw[←e2];exact this
def MQ(P:sI)(ops:Array Oper)(a:Bool)(e:Env)(k:Env→T):T:=match a with
 |false=>LT P ops (Qu ops) (List.range ops.size) e k
 |true=>bif Region.noSelect ops then Ji P ops (Qu ops) (FU ops.toList) ops.size (oV ops.size false) [] e k else .stuck
theorem OH{id:Nat}{i:Bool}{k:Env→T}{s:Bl→AH→Prop}{W:List Nat}{QC:Exit→Act→sJ→Prop}{e:Env}{a:Act}{w:sJ}(B:P.follows .mixedOrders=true)
 (t:∀o∈ops,∀d,o.dst=some d→d∈W) (m:Agrees e a.tmps) (x:IL W a) (H:(MQ P ops i e k).wp P s w.heap)
 (y:∀r h f,Agrees r h.tmps→Fr W a h→CB w f→(k r).wp P s f.heap→QC .normal h f)
 (z:∀c h f,Fr W a h→CB w f→s (.pan c) f.heap→QC (.panic c) h f):(Code.region id ops i).wp P QC a w:=by
 cases i with
 |false=>
  intro b C cs;obtain⟨D,h,f,n,q⟩:=Xq (QC:=QC) t (List.range ops.size) e a w m x H y z b C cs;exact⟨D,h,f,n,.of_steps (.one step_region) q⟩
 |true=>
  unfold MQ at H;cases hs:Region.noSelect ops with
  |false=>rw[hs]at H;exact H.elim
  |true=>
   rw[hs]at H;simp only[cond_true]at H;have E:∀j,(oV ops.size false).getD j false=false:=λj=>by
    rw[oL,Array.getElem?_replicate]
    split<;>rfl
   have g:=Vt (a0:=a) hs t ops.size (oV ops.size false) [] e a w.heap m x (.refl W a) (λj o J A=>by rw[E]at A;cases A) (λp u=>by cases u) H;have v:CB w {w with drawn:=w.drawn+1} :=⟨rfl,rfl,rfl,qC _⟩;refine wp_region_any B (Y8 (Q:=QC) (w0:=w) (a0:=a) t (λh f l n=>?_) (λc h f hd l n=>z c h f hd l n) _ _ _ _ _ (.refl W a) v g);obtain⟨r,F,G,I⟩:=n;exact y r h f F G l I
end
section
variable {e:Env}{W:List Nat}{w:sJ}{Q:Bl→AH→Prop}
def BI:Code→List Nat
 |.region _ ops _=>ops.toList.filterMap (·.dst)
 |.seq x y=>BI x++BI y
 |.cond _ x y=>BI x++BI y
 |.block _ x=>BI x
 |.loop x=>BI x
 |.scope x=>BI x
 |_=>[]
def OI(id:Nat):Code→Bool
 |.seq x y=>OI id x || OI id y
 |.cond _ x y=>OI id x || OI id y
 |.block _ x=>OI id x
 |.loop x=>OI id x
 |.scope x=>OI id x
 |.exit j=>oA j id
 |_=>false
def QA:Code→Bool
 |.seq x y=>QA x && QA y
 |.cond _ x y=>QA x || QA y
 |.block id x=>QA x || OI id x
 |.scope x=>QA x
 |.loop _=>false
 |.exit _=>false
 |.ret=>false
 |_=>true
def eW:Code→Bool
 |.skip=>true
 |_=>false
def Env.kill(e:Env)(W:List Nat):Env:=e.filter λp=> !W.contains p.1
def Env.puts(e:Env)(S:List Nat)(vs:List sG):Env:=S.zip vs++e
def Env.outs(e:Env)(S:List Nat):List sG:=S.map λt=>(e.get? t).getD undef
def Env.slots(e:Env)(W:List Nat):List Nat:=((e.map (·.1)).filter W.contains).eraseDups
def Env.shapes(e:Env)(S:List Nat):List Sh1:=(e.outs S).map P5
def Nc(P:sI)(ops:Array Oper):List (Nat×Sh1):=
 ops.toList.zipIdx.filterMap λ(o,i)=>match o.dst with
  |some d=>match o.op,oA (i+1) ops.size with
   |.assign _,_=>some (d,P5 (LL P o.type))
   |_,true=>some (d,P5 (LL P o.type))
   |_,_=>none
  |none=>none
def DS(P:sI)(a:Env→T):Code→List (Nat×List Nat)→Env→(Env→T)→T
 |.skip,_,e,k=>k e
 |.region _ ops draw,_,e,k=>match Qu ops with
  | [] =>MQ P ops draw e k
  |_=>.join ((Nc P ops).map (·.2)) (MQ P ops draw e λd=>.out (d.outs ((Nc P ops).map (·.1)))) λy=>
   k ((e.kill (ops.toList.filterMap (·.dst))).puts ((Nc P ops).map (·.1)) (Shs.vals _ y))
 |.seq x y,c,e,k=>DS P a x c e λd=>DS P a y c d k
 |.cond b x y,c,e,k=>bif e.has b then(match e.ev b with
  |.bool t=>match QA x && QA y && !(eW x && eW y) with
   |true=>
    .join (e.shapes (e.slots (BI x++BI y)))
     (cond t (DS P a x c e λd=>.out (d.outs (e.slots (BI x++BI y)))) (DS P a y c e λd=>.out (d.outs (e.slots (BI x++BI y))))) λz=>
     k ((e.kill (BI x++BI y)).puts (e.slots (BI x++BI y)) (Shs.vals _ z))
   |false=>cond t (DS P a x c e k) (DS P a y c e k)
  |_=>.stuck) else .stuck
 |.block id x,c,e,k=>match OI id x with
  |false=>DS P a x (c.filter λp=> !Nat.beq p.1 id) e k
  |true=>.block id (e.shapes (e.slots (BI x)))
   (DS P a x ((id,e.slots (BI x))::c) e λd=>.out (d.outs (e.slots (BI x)))) λz=>
   k ((e.kill (BI x)).puts (e.slots (BI x)) (Shs.vals _ z))
 |.loop x,c,e,_=>.loop (e.shapes (e.slots (BI x))) (e.outs (e.slots (BI x))) λz=>
  DS P a x c ((e.kill (BI x)).puts (e.slots (BI x)) (Shs.vals _ z)) λd=>.out (d.outs (e.slots (BI x)))
 |.exit id,c,e,_=>match c.find? λp=>oA p.1 id with
  |some p=>.brk id (e.outs p.2)
  |none=>.stuck
 |.ret,_,e,_=>a e
 |.scope x,c,e,k=>DS P a x c e k
 |.label _,_,e,k=>k e
 |_,_,_,_=>.stuck
section
variable {P:sI}
theorem Xw(s:Sh1):s.of undef=none:=by
 cases s with
 |atom a=>cases a<;>rfl
 |agg l=>rfl
theorem MR{tm:Array sG}(b:Agrees e tm):∀(S:List Nat) (ss:List Sh1) (y:Shs.Ty ss),Shs.of ss (e.outs S)=some y→
 S.map (λt=>tm[t]?)=(Shs.vals ss y).map some:=by
 intro S
 induction S with
 |nil=>
  intro ss y h;cases ss with
  |nil=>rfl
  |cons s r=>simp[Env.outs,Shs.of]at h
 |cons t r c=>
  intro ss y h;cases ss with
  |nil=>simp[Env.outs,Shs.of]at h
  |cons s ss=>
   simp only[Env.outs,pZ,Shs.of]at h;split at h
   ·rename_i x1 d a f
    cases h;cases hg:e.get? t with
    |none=>rw[hg]at a;simp only[Option.getD_none]at a;rw[Xw]at a;cases a
    |some v=>
     rw[hg]at a;simp only[Option.getD_some]at a
     have:=b t v hg
     simp only[pZ,Shs.vals,this,Sh1.of_val s v x1 a];rw[c ss d f]
   ·cases h
theorem Xx:∀ {t:Nat}{v:sG},(e.kill W).get? t=some v→t∉W∧e.get? t=some v:=by
 induction e with
 |nil=>intro t v h;simp[Env.kill,Env.get?]at h
 |cons p r c=>
  obtain⟨i,u⟩:=p;intro t v h;unfold Env.kill at h;by_cases b:W.contains i=true
  ·rw[qV (by simpa using b)]at h;obtain⟨d,f⟩:=c h;refine⟨d,?_⟩;rw[Env.get?_cons]
   have:i≠t:=λe=>d (e ▸ rF.1 b)
   simp[this,f]
  ·rw[pM (by simpa using b)]at h;rw[Env.get?_cons]at h ⊢;by_cases a:i=t
   ·subst a;simp only[if_true]at h ⊢;exact⟨λg=>b (rF.2 g),h⟩
   ·simp only[a,if_false]at h ⊢;exact c h
theorem QB{a c:Act}(b:Agrees e a.tmps)(d:Fr W a c):Agrees (e.kill W) c.tmps:=by intro t v h;have⟨f,g⟩:=Xx h;rw[d.2.2 t f];exact b t v g
theorem QD{tm:Array sG}(b:Agrees e tm):∀(S:List Nat) (vs:List sG),S.map (λt=>tm[t]?)=vs.map some→Agrees (e.puts S vs) tm:=by
 intro S
 induction S with
 |nil=>intro vs h;simpa[Env.puts]using b
 |cons t r f=>
  intro vs h;cases vs with
  |nil=>simp at h
  |cons v vs=>
   simp only[pZ,List.cons.injEq]at h;intro c g a;simp only[Env.puts,List.zip_cons_cons,List.cons_append,Env.get?_cons]at a;by_cases d:t=c
   ·subst d;simp only[if_true,Option.some.injEq]at a;subst a;exact h.1
   ·simp only[d,if_false]at a;exact f vs h.2 c g a
theorem Gh{f:Env}{a c:Act}{S:List Nat}{ss:List Sh1}{y:Shs.Ty ss}(d:Agrees e a.tmps)(g:Fr W a c)(b:Agrees f c.tmps)(h:Shs.of ss (f.outs S)=some y):
 Agrees ((e.kill W).puts S (Shs.vals ss y)) c.tmps:=QD (QB d g) S _ (MR b S ss y h)
theorem Ub{tm:Array sG}:∀(S:List Nat) (vs:List sG),S.map (λt=>tm[t]?)=vs.map some→S.map (λt=>tm.getD t undef)=vs:=by
 intro S
 induction S with
 |nil=>intro vs h;cases vs<;>simp_all
 |cons t r a=>
  intro vs h;cases vs with
  |nil=>simp at h
  |cons v vs=>
   simp only[pZ,List.cons.injEq]at h ⊢;refine⟨?_,a vs h.2⟩;rw[oL,h.1];rfl
structure Ends (P:sI) (rt:Env→T) (c:List (Nat×List Nat)) (QT:Bl→AH→Prop) (W:List Nat) (a:Act) (w:sJ) (QC:Exit→Act→sJ→Prop):Prop where
 brk:∀id p,c.find? (λp=>oA p.1 id)=some p→ ∀e' a' w',Agrees e' a'.tmps→Fr W a a'→CB w w'→QT (.brk id (e'.outs p.2)) w'.heap→QC (.exit id) a' w'
 ret:∀e' a' w',Agrees e' a'.tmps→Fr W a a'→CB w w'→(rt e').wp P QT w'.heap→QC .ret a' w'
 pan:∀ch a' w',Fr W a a'→CB w w'→QT (.pan ch) w'.heap→QC (.panic ch) a' w'
theorem Ends.step{m:Env→T}{c:List (Nat×List Nat)}{n:Bl→AH→Prop}{o:List Nat}{a q:Act}{r:sJ}{QC:Exit→Act→sJ→Prop}(E:Ends P m c n W a w QC)
 (h:Fr W a q) (i:CB w r) (j:∀t,t∈o→t∈W):Ends P m c n o q r QC:=
 ⟨λid p s k b d l e f g=>E.brk id p s k b d l (h.trans (e.mono j)) (i.trans f) g,
  λk b d l e f g=>E.ret k b d l (h.trans (e.mono j)) (i.trans f) g,
  λu b d e f g=>E.pan u b d (h.trans (e.mono j)) (i.trans f) g⟩
def fQ(P:sI)(a:Env→T):Prop:= ∀(e:Env) (Q Q':Bl→AH→Prop) (h:AH),(∀v h,Q (.ret v) h→Q' (.ret v) h)→(a e).wp P Q h→(a e).wp P Q' h
theorem Ends.inner{l:Env→T}{c:List (Nat×List Nat)}{j b:Bl→AH→Prop}{a:Act}{QC:Exit→Act→sJ→Prop}(E:Ends P l c j W a w QC)(m:fQ P l)
 (o:∀id vs h,b (.brk id vs) h→j (.brk id vs) h) (q:∀v h,b (.ret v) h→j (.ret v) h) (r:∀v h,b (.pan v) h→j (.pan v) h):Ends P l c b W a w QC:=
 ⟨λid p s k d e n f g i=>E.brk id p s k d e n f g (o _ _ _ i),
  λk d e n f g i=>E.ret k d e n f g (m k _ _ _ q i),
  λt d e f g i=>E.pan t d e f g (r _ _ i)⟩
theorem Uc{c:List (Nat×List Nat)}{id id':Nat}{p:Nat×List Nat}(h:(c.filter λp=> !Nat.beq p.1 id).find? (λp=>oA p.1 id')=some p):
 id'≠id∧c.find? (λp=>oA p.1 id')=some p:=by
 have d:=qO h;have i:=List.find?_some h;rw[pL]at d;have k:p.1=id':=oF i;have l:p.1≠id:=λe=>by have:=d.2;rw[e]at this;simp at this
 have b:id'≠id:=k ▸ l;refine⟨b,?_⟩;clear d i
 induction c with
 |nil=>simp at h
 |cons x r j=>
  by_cases f:x.1=id
  ·have:(!Nat.beq x.1 id)=false:=by rw[f];simp
   rw[qV (by simp[this])]at h;rw[rD];have g:oA x.1 id'=false:=by
    cases a:oA x.1 id' with
    |false=>rfl
    |true=>exact nC ((oF a).symm.trans f) b
   rw[g];exact j h
  ·have:(!Nat.beq x.1 id)=true:=by
    cases a:oA x.1 id with
    |false=>rfl
    |true=>exact nC (oF a) f
   rw[pM (by simp[this])]at h;rw[rD]at h ⊢;split
   ·rename_i a;rw[a]at h;exact h
   ·rename_i a;rw[a]at h;exact j h
theorem Vu{rt:Env→T}(hm:P.follows .mixedOrders=true)(Q:fQ P rt)(F:Code):
 ∀(c:List (Nat×List Nat)) (e:Env) (k:Env→T) (u:Bl→AH→Prop) (a:Act) (w:sJ) (QC:Exit→Act→sJ→Prop),
  Agrees e a.tmps→IL (BI F) a→(DS P rt F c e k).wp P u w.heap→
  (∀M n r,Agrees M n.tmps→Fr (BI F) a n→CB w r→(k M).wp P u r.heap→QC .normal n r)→
  Ends P rt c u (BI F) a w QC→F.wp P QC a w:=by
 induction F with
 |skip=>intro c e k u a w QC g C H v E;exact wp_skip (v e a w g (.refl _ a) (.refl w) H)
 |region id ops a9=>
  intro c e k u a w QC g C H v E;have hW:∀o∈ops,∀d,o.dst=some d→d∈ops.toList.filterMap (·.dst):=λo ho d hd=>List.mem_filterMap.2 ⟨o,oZ.2 ho,hd⟩;simp only[DS]at H;split at H
  ·exact OH hm hW g C H v (λR n r=>E.pan R n r)
  ·simp only[T.wp]at H;refine OH hm hW g C H (λM n r m j q i=>?_) (λR n r m j q=>E.pan R n r m j q);simp only[T.wp]at i;split at i
   ·rename_i y hy
    exact v _ n r (Gh g j m hy) j q i
   ·exact i.elim
 |seq x y N O=>
  intro c e k u a w QC g C H v E;refine wp_seq (N c e _ u a w _ g (λd hd=>C d (oC _ hd)) H (λM n r m j q i=>?_) ?_)
  ·have V:Fr (BI x++BI y) a n:=j.mono λt G=>oC _ G;exact O c M k u n r QC m ((show IL (BI y) a from λd hd=>C d (oQ _ hd)).fr V) i
    (λJ B A g1 g2 g3 g4=>v J B A g1 (V.trans (g2.mono λt G=>oQ _ G)) (q.trans g3) g4)
    (E.step V q λt G=>oQ _ G)
  ·exact⟨λid p K J B A m j q i=>E.brk id p K J B A m (j.mono λt G=>oC _ G) q i,λJ B A m j=>E.ret J B A m (j.mono λt G=>oC _ G),λR B A j=>E.pan R B A (j.mono λt G=>oC _ G)⟩
 |cond b x y N O=>
  intro c e k u a w QC g C H v E;simp only[DS]at H;cases hhas:e.has b with
  |false=>rw[hhas]at H;exact H.elim
  |true=>
   rw[hhas]at H;simp only[cond_true]at H;have a3:=g.ev hhas;split at H
   ·rename_i t G
    have hc:a.eval b= .bool t:=a3.trans G;have Z:IL (BI x) a:=λd hd=>C d (oC _ hd);have a0:IL (BI y) a:=λd hd=>C d (oQ _ hd);have hl:∀t,t∈BI x→t∈BI x++BI y:=λt G=>oC _ G;have hr:∀t,t∈BI y→t∈BI x++BI y:=λt G=>oQ _ G;split at H
    ·simp only[T.wp]at H;refine wp_cond hc ?_;cases t with
     |true=>
      simp only[cond_true]at H;simp only[if_true];refine N c e _ _ a w QC g Z H (λM n r m j q i=>?_) ((E.step (.refl _ a) (.refl w) hl).inner Q (λ_ _ _ h=>h) (λ_ _ h=>h) (λ_ _ h=>h));simp only[T.wp]at i;split at i
      ·rename_i z W
       exact v _ n r (Gh g (j.mono hl) m W) (j.mono hl) q i
      ·exact i.elim
     |false=>
      simp only[cond_false]at H;simp only[oG,if_false];refine O c e _ _ a w QC g a0 H (λM n r m j q i=>?_) ((E.step (.refl _ a) (.refl w) hr).inner Q (λ_ _ _ h=>h) (λ_ _ h=>h) (λ_ _ h=>h));simp only[T.wp]at i;split at i
      ·rename_i z W
       exact v _ n r (Gh g (j.mono hr) m W) (j.mono hr) q i
      ·exact i.elim
    ·refine wp_cond hc ?_;cases t with
     |true=>exact N c e k u a w QC g Z H (λM n r m j=>v M n r m (j.mono hl)) (E.step (.refl _ a) (.refl w) hl)
     |false=>exact O c e k u a w QC g a0 H (λM n r m j=>v M n r m (j.mono hr)) (E.step (.refl _ a) (.refl w) hr)
   ·exact H.elim
 |block id x Y=>
  intro c e k u a w QC g C H v E;simp only[DS]at H;refine wp_block ?_;split at H
  ·refine Y _ e k u a w _ g C H v ⟨λD p K J B A m j q i=>?_,E.ret,E.pan⟩;obtain⟨a4,a5⟩:=Uc K;simp only[Exit.inBlock,nA a4];exact E.brk D p a5 J B A m j q i
  ·simp only[T.wp]at H;refine Y _ e _ _ a w _ g C H (λM n r m j q i=>?_) ⟨λD p K J B A m j q i=>?_,λJ B A m j q i=>?_,λR B A j q i=>E.pan R B A j q i⟩
   ·simp only[T.wp]at i;split at i
    ·rename_i z W
     exact v _ n r (Gh g j m W) j q i
    ·exact i.elim
   ·rw[rD]at K;by_cases S:D=id
    ·subst S;have e1:oA D D=true:=nP
     simp only[e1,Option.some.injEq]at K;subst K;simp only[e1,cond_true]at i;simp only[Exit.inBlock,if_true];split at i
     ·rename_i z W
      exact v _ B A (Gh g j m W) j q i
     ·exact i.elim
    ·have e1:oA id D=false:=by
      cases hbq:oA id D with
      |false=>rfl
      |true=>exact nC (oF hbq).symm S
     have a6:oA D id=false:=by
      cases hbq:oA D id with
      |false=>rfl
      |true=>exact nC (oF hbq) S
     simp only[e1]at K;simp only[a6,cond_false]at i;simp only[Exit.inBlock,nA S];exact E.brk D p K J B A m j q i
   ·refine E.ret J B A m j q (Q J _ u A.heap ?_ i);exact λ_ _ h=>h
 |loop x Y=>
  intro c e k u a w QC g C H v E;simp only[DS,T.wp]at H;obtain⟨I,μ,⟨y0,X,a7⟩,U⟩:=H;refine wp_loop (λn r=>Fr (BI x) a n∧CB w r∧ ∃y,(e.slots (BI x)).map (λt=>n.tmps[t]?)=(Shs.vals _ y).map some∧
   Shs.of (e.shapes (e.slots (BI x))) (Shs.vals _ y)=some y∧I y r.heap)
   (λn r=>match Shs.of (e.shapes (e.slots (BI x))) ((e.slots (BI x)).map λt=>n.tmps.getD t undef) with
    |some y=>μ y r.heap
    |none=>0) ?_ ?_
  ·exact⟨.refl _ a,.refl w,y0,MR g _ _ y0 X,by rw[←Shs.of_vals _ _ _ X];exact X,a7⟩
  ·rintro n r ⟨V,hs,y,hv,a8,hI⟩;have a1:Agrees ((e.kill (BI x)).puts (e.slots (BI x)) (Shs.vals _ y)) n.tmps:=QD (QB g V) _ _ hv;refine Y c _ _ _ n r _ a1 (IL.fr C V) (U y r.heap hI) (λJ B A m j q i=>?_) ?_
   ·simp only[T.wp]at i;split at i
    ·rename_i y2 L
     refine⟨⟨V.trans j,hs.trans q,y2,MR m _ _ y2 L,by rw[←Shs.of_vals _ _ _ L];exact L,i.1⟩,?_⟩;have g1:=Ub _ _ (MR m _ _ y2 L);have g2:=Ub _ _ hv;have g3:Shs.of (e.shapes (e.slots (BI x))) (Shs.vals _ y2)=some y2:=by rw[←Shs.of_vals _ _ _ L];exact L
     simp only[g1,g2,g3,a8];exact i.2
    ·exact i.elim
   ·have E':Ends P rt c u (BI x) n r QC:=E.step V hs λt G=>G;refine⟨λid p K J B A m j q i=>E'.brk id p K J B A m j q i,λJ B A m j q i=>E'.ret J B A m j q (Q J _ u A.heap ?_ i),λR B A j q i=>E'.pan R B A j q i⟩;exact λ_ _ h=>h
 |exit id=>
  intro c e k u a w QC g C H v E;simp only[DS]at H;split at H
  ·rename_i p K
   exact wp_exit (E.brk id p K e a w g (.refl _ a) (.refl w) H)
  ·exact H.elim
 |ret=>intro c e k u a w QC g C H v E;exact wp_ret (E.ret e a w g (.refl _ a) (.refl w) H)
 |rangeFunc f ps x y N O=>intro c e k u a w QC g C H v E;exact H.elim
 |scope x Y=>
  intro c e k u a w QC g C H v E;exact wp_scope_straight (Y c e k u a w (Exit.noGoto QC) g C H v ⟨E.brk,E.ret,E.pan⟩)
 |label l=>intro c e k u a w QC g C H v E;exact wp_label (v e a w g (.refl _ a) (.refl w) H)
 |goto l=>intro c e k u a w QC g C H v E;exact H.elim
 |refuse s=>intro c e k u a w QC g C H v E;exact H.elim
def Fx(P:sI):List ResultVar→Env→List sG→(List sG→T)→T
 | [],_,acc,k=>k acc.reverse
 |.tmp t::r,e,acc,k=>match e.get? t with
  |some v=>Fx P r e (v::acc) k
  |none=>.stuck
 |.cell a t::r,e,acc,k=>match e.get? a with
  |some (.pointer (some ad))=>FQ P t ad λv=>Fx P r e (v::acc) k
  |_=>.stuck
def Qv:List sG→sG
 | [v] =>v
 |vs=>.tuple vs.toArray
def cN(P:sI)(fn:Func)(e:Env):T:=Fx P fn.results.toList e [] λvs=>.ret (Qv vs)
def SX:Nat→List sG→Env
 |_,[] =>[]
 |i,v::r=>(i,v)::SX (i+1) r
def Ab(P:sI)(fn:Func)(args:List sG):T:=match fn.body with
 |some c=>bif (BI c).all λd=>sE d fn.ntmps then DS P (cN P fn) c [] (SX 0 args) (cN P fn) else .stuck
 |none=>.stuck
theorem Ud(l:List Bc)(a:sK){f:Array sG→T}{c:Bl→AH→Prop}(d:∀cs h,(f cs).wp P Q h→(f cs).wp P c h):∀(i:Nat) (b:Array sG) (h:AH),
 (If l a i b f).wp P Q h→(If l a i b f).wp P c h:=by
 induction l with
 |nil=>intro i b h H;exact d _ _ H
 |cons s r e=>intro i b h H;obtain⟨x,g,H⟩:=H;exact⟨x,g,e _ _ _ H⟩
theorem TP{t:sH}{a:sK}{k:sG→T}{c:Bl→AH→Prop}{h:AH}(d:∀v h,(k v).wp P Q h→(k v).wp P c h)(H:(FQ P t a k).wp P Q h):(FQ P t a k).wp P c h:=by
 unfold FQ at H ⊢;split at H
 ·split at H
  ·split at H
   ·rename_i b;simp only[mZ b];exact Ud _ _ (λcs h=>d _ h) _ _ _ H
   ·exact H.elim
  ·obtain⟨x,e,H⟩:=H;exact⟨x,e,d _ _ H⟩
  ·exact H.elim
 ·exact H.elim
theorem Xy(fn:Func):fQ P (cN P fn):=by
 intro e Q f h g H;have c:∀(l:List ResultVar) (b:List sG) (h:AH),(Fx P l e b λvs=>.ret (Qv vs)).wp P Q h→(Fx P l e b λvs=>.ret (Qv vs)).wp P f h:=by
  intro l
  induction l with
  |nil=>intro b h H;exact g _ _ H
  |cons x r d=>
   intro b h H;cases x with
   |tmp t=>
    simp only[Fx]at H ⊢;split at H
    ·exact d _ _ H
    ·exact H.elim
   |cell a t=>
    simp only[Fx]at H ⊢;split at H
    ·exact TP (λv h=>d _ _) H
    ·exact H.elim
 exact c _ _ _ H
theorem Xz(l:List Bc)(a:sK){f:Array sG→T}(w:sJ):∀(i:Nat) (b:Array sG),(If l a i b f).wp P Q w.heap→
 ∃cs,(loadCellsFrom a i l.length b).run P w= .ok cs w∧(f cs).wp P Q w.heap:=by
 induction l with
 |nil=>intro i b H;exact⟨b,rfl,H⟩
 |cons s r d=>
  intro i b H;obtain⟨x,e,H⟩:=H;obtain⟨cs,g,h⟩:=d (i+1) _ H;refine⟨cs,?_,h⟩;have c:w.cell? (a.add i)=some (s.val x):=e;simp only[pX,loadCellsFrom,load,bind,bD,mE,c];exact g
theorem FF{α β:Type}(s:Sem α)(f:α→Sem β){i:sJ}{a:α}(h:s.run P w= .ok a i):(s.bind f).run P w=(f a).run P i:=by
  induction s generalizing w with
  | pure b=>cases h; rfl
  | load m j k d=>
    simp only[bD,mE] at h ⊢;split
    · rename_i v e; rw[e] at h; exact d _ h
    · rename_i e
      rw[e] at h;simp only at h;split
      · rename_i v t g; rw[g] at h; exact d _ h
      · rename_i x g; rw[g] at h; cases h
  | store m j v k d=>
    cases v<;>simp only[bD,mE] at h ⊢ <;>first
      | cases h
      | (split<;>rename_i e<;>rw[e] at h<;>simp only at h
         · split<;>rename_i l<;>simp only[l] at h<;>first
             | (simp only[if_true] at h; cases h)
             | (simp only[oG,if_false] at h; exact d h)
             | exact d (by simpa using h)
             | simp at h
         · split<;>rename_i g<;>rw[g] at h<;>first | exact d h | cases h)
  | new o k d=>simp only[bD,mE] at h ⊢; exact d _ h
  | shape r k d=>simp only[bD,mE] at h ⊢; exact d _ h
  | freeze a n k d=>simp only[bD,mE] at h ⊢; exact d h
  | frozen a k d=>simp only[bD,mE] at h ⊢; exact d _ h
  | getObj r k d=>
    simp only[bD,mE] at h ⊢
    split<;>rename_i e<;>rw[e] at h<;>simp only at h<;>first | cases h | exact d _ h
  | setObj r o k d=>
    simp only[bD,mE] at h ⊢
    split<;>rename_i e<;>rw[e] at h<;>simp only at h<;>first | cases h | exact d h
  | choose q k d=>
    simp only[bD,mE] at h ⊢
    split<;>rename_i e<;>simp only[e] at h
    · exact d _ (by simpa using h)
    · exact d _ (by simpa using h)
  | sys c k d=>simp only[bD,mE] at h ⊢; exact d _ h
  | program k d=>simp only[bD,mE] at h ⊢; exact d _ h
  | mark m k d=>simp only[bD,mE] at h ⊢; exact d h
  | halt x=>simp only[mE] at h; cases h
theorem Ue{t:sH}{a:sK}{k:sG→T}(w:sJ)(H:(FQ P t a k).wp P Q w.heap):
 ∃v,(loadVar t a).run P w= .ok v w∧(k v).wp P Q w.heap:=by
 unfold FQ at H;split at H
 ·rename_i d i hd h
  have g:(isAgg t).run P w= .ok (TK d) w:=by
   simp only[isAgg,underlying,program,bind,bD,hd,pure,mE];cases d<;>rfl
  have j:(Go.sizeOf t).run P w= .ok i.size w:=by simp only[Go.sizeOf,typeInfo,program,bind,bD,h,pure,mE]
  split at H
  ·rename_i l b e
   split at H
   ·rename_i c
    have⟨cs,m,n⟩:=Xz l a w 0 #[] H;refine⟨.agg cs,?_,n⟩;unfold loadVar;refine(FF _ _ g).trans ?_;rw[b];simp only[if_true];refine(FF _ _ j).trans ?_;rw[←c];exact(FF _ _ m).trans rfl
   ·exact H.elim
  ·rename_i s b e
   obtain⟨x,o,H⟩:=H;refine⟨s.val x,?_,H⟩;unfold loadVar;refine(FF _ _ g).trans ?_;rw[b];have f:w.cell? a=some (s.val x):=o;simp only[oG,if_false,load,mE,f]
  ·exact H.elim
 ·exact H.elim
def IM(tmps:Array sG):ResultVar→Sem sG
 |.tmp t=>pure (tmps.getD t undef)
 |.cell a t=>do loadVar t (←asAddr (tmps.getD a undef))
theorem Vv(fn:Func)(tmps:Array sG):results fn tmps=(fn.results.mapM (IM tmps)).bind λvs=>.pure (if h:vs.size=1 then vs[0] else .tuple vs):=rfl
theorem Wy{fn:Func}{a:Act}{i:Bl→AH→Prop}(d:Agrees e a.tmps)(H:(cN P fn e).wp P i w.heap):
 ∃v,(results fn a.tmps).run P w= .ok v w∧i (.ret v) w.heap:=by
 have j:∀(l:List ResultVar) (c:List sG),(Fx P l e c λvs=>.ret (Qv vs)).wp P i w.heap→
  ∃vs,(l.mapM (IM a.tmps)).run P w= .ok vs w∧i (.ret (Qv (c.reverse++vs))) w.heap:=by
  intro l
  induction l with
  |nil=>intro c H;exact⟨[],rfl,by simpa[Fx,T.wp]using H⟩
  |cons x r m=>
   intro c H;rw[List.mapM_cons];cases x with
   |tmp t=>
    simp only[Fx]at H;split at H
    ·rename_i v n
     obtain⟨vs,f,g⟩:=m _ H;refine⟨v::vs,?_,by simpa using g⟩;have h:(IM a.tmps (.tmp t)).run P w= .ok v w:=by
      have:=d t v n
      simp[IM,pure,oL,this]
     refine(FF _ _ h).trans ((FF _ _ f).trans rfl)
    ·exact H.elim
   |cell k t=>
    simp only[Fx]at H;split at H
    ·rename_i b o
     have⟨v,p,H⟩:=Ue w H;obtain⟨vs,f,g⟩:=m _ H;refine⟨v::vs,?_,by simpa using g⟩;have h:(IM a.tmps (.cell k t)).run P w= .ok v w:=by
      have:=d k _ o
      have q:a.tmps.getD k undef= .pointer (some b):=by rw[oL,this];rfl
      simp only[IM,q];exact p
     refine(FF _ _ h).trans ((FF _ _ f).trans rfl)
    ·exact H.elim
 have⟨vs,f,g⟩:=j fn.results.toList [] H;refine⟨Qv vs,?_,by simpa using g⟩;rw[Vv];have h:(fn.results.mapM (IM a.tmps)).run P w= .ok vs.toArray w:=by
  rw[Array.mapM_eq_mapM_toList];show(bD (fn.results.toList.mapM (IM a.tmps)) λl=>.pure l.toArray).run P w=_;exact(FF _ _ f).trans rfl
 refine(FF _ _ h).trans ?_;show Result.ok _ w=_;congr 1;cases vs with
 |nil=>rfl
 |cons v r=>
  cases r with
  |nil=>rfl
  |cons s r=>simp[Qv]
theorem TQ(args:List sG):∀(i:Nat) (a rest:List sG),a.length=i→Agrees (SX i args) (a++args++rest).toArray:=by
 induction args with
 |nil=>intro i a rest _ t v h;simp[SX,Env.get?]at h
 |cons x r d=>
  intro i a rest c t v h;simp only[SX,Env.get?_cons]at h;by_cases b:i=t
  ·subst b;simp only[if_true,Option.some.injEq]at h;subst h;simp[←c]
  ·simp only[b,if_false]at h
   have:=d (i+1) (a++ [x]) rest (by simp[c]) t v h
   simpa using this
def NP(R:Fin→AH→Prop):Bl→AH→Prop
 |.ret v,h=>R (.ret v) h
 |.pan c,h=>R (.pan c) h
 |_,_=>False
theorem A9{f:FuncId}{fn:Func}{args:List sG}{h:AH}{R:Fin→AH→Prop}(o:P.follows .mixedOrders=true)(q:P.funcs[f]? =some fn)
 (H:(Ab P fn args).wp P (NP R) h):nX P f args h R:=by
 intro w r;subst r;unfold Ab at H;split at H
 ·rename_i c s
  cases hall:(BI c).all λd=>sE d fn.ntmps with
  |false=>rw[hall]at H;exact H.elim
  |true=>
   rw[hall]at H;simp only[cond_true]at H;refine calls_of_wp q s ?_;have i:Agrees (SX 0 args) (args.toArray++oV (fn.ntmps - args.toArray.size) undef):=by
    have:=TQ args 0 [] (nY (fn.ntmps - args.toArray.size) undef) rfl
    have e:([] ++args++nY (fn.ntmps - args.toArray.size) undef).toArray=args.toArray++oV (fn.ntmps - args.toArray.size) undef:=by
     apply rQ;simp
    rw[←e];exact this
   have t:IL (BI c) {tmps:=args.toArray++oV (fn.ntmps - args.toArray.size) undef,defers:=[]} :=by
    intro d hd
    have:=pW.1 hall d hd
    have u:d<fn.ntmps:=by simpa[Nat.blt_eq]using this
    simp;omega
   refine Vu o (Xy fn) c [] _ _ (NP R) _ w _ i t H (λx m n a b g j=>?_) ⟨λid p y=>(by cases y),λx m n a b g j=>?_,λz m n a b g=>⟨a.2.1,b,g⟩⟩
   ·have⟨v,k,l⟩:=Wy a j;exact⟨b.2.1,v,k,g,l⟩
   ·have⟨v,k,l⟩:=Wy a j;exact⟨b.2.1,v,k,g,l⟩
 ·exact H.elim
end
end
section
variable {v:sG}{x y:T}
section
variable {P:sI}{Q:Bl→AH→Prop}{h:AH}
theorem PL{s:Bc}{a:sK}{k:s.Ty→T}(x:s.Ty)(b:Bb h a=some (s.val x))(H:(k x).wp P Q h):(T.load s a k).wp P Q h:=⟨x,b,H⟩
theorem TR{a:sK}{k:T}(b:Value.plain v=true)(c:(Bb h a).isSome=true)(d:HG h a=false)(H:k.wp P Q (Cm h a v)):(T.store a v k).wp P Q h:=⟨b,c,d,H⟩
theorem ZB{o:Obj}{k:Nat→T}(H:(k h.size).wp P Q (h.push o)):(T.new o k).wp P Q h:=H
theorem fR{f:FuncId}{args:List sG}{b:Sh}{k:b.Ty→T}{R:Fin→AH→Prop}(c:nX P f args h R)
 (d:∀e a,R e a→ ∃x,e= .ret (b.val x)∧(k x).wp P Q a):(T.call f args b k).wp P Q h:=by simp only[T.wp];refine c.mono λe a g=>?_;obtain⟨x,rfl,H⟩:=d e a g;exact⟨x,rfl,H⟩
theorem t_sem{s:Sem sG}{a:Sh}{k:a.Ty→T}(H:Ag P s (λv h'=>∃x:a.Ty,v=a.val x∧(k x).wp P Q h') (λ_ _=>False) h):(T.sem s a k).wp P Q h:=by simp only[T.wp];exact Bk s (λ_ _ x=>x) (λ_ _ x=>x.elim) H
theorem AP{a:sK}{k:T}(b:Bb h a=some v)(H:k.wp P Q h):(T.still a v k).wp P Q h:=⟨b,H⟩
theorem DP(a:x.wp P Q h)(b:y.wp P Q h):(T.both x y).wp P Q h:=⟨a,b⟩
theorem fS{b:Bool}(a:b=true→x.wp P Q h)(c:b=false→y.wp P Q h):(cond b x y).wp P Q h:=by
 cases b
 ·exact c rfl
 ·exact a rfl
theorem Ad{b:Bool}(a:b=true)(c:x.wp P Q h):(cond b x y).wp P Q h:=by subst a;exact c
theorem AW{b:Bool}(a:b=false)(c:y.wp P Q h):(cond b x y).wp P Q h:=by subst a;exact c
theorem AI{p:nG}{k:sK→T}(a:sK)(b:p=some a)(H:(k a).wp P Q h):(nW p k).wp P Q h:=by subst b;exact H
theorem Ai{p:Prop}[Decidable p]{k:T}(a:p)(H:k.wp P Q h):(chk p k).wp P Q h:=⟨a,H⟩
def iG(P:sI)(ss:List Sh1)(k:Shs.Ty ss→T)(Q:Bl→AH→Prop)(a:Bl)(b:AH):Prop:=match a with
 |.out vs=>(match Shs.of ss vs with
  |some y=>(k y).wp P Q b
  |none=>False)
 |a=>Q a b
theorem fT{ss:List Sh1}{k:Shs.Ty ss→T}(H:x.wp P (iG P ss k Q) h):(T.join ss x k).wp P Q h:=by simp only[T.wp];exact H
theorem cP{ss:List Sh1}{k:Shs.Ty ss→T}(M:Shs.Ty ss→AH→Prop) (H:x.wp P (λb a=>match b with
 |.out vs=>∃y,Shs.of ss vs=some y∧M y a
 |b=>Q b a) h) (e:∀y a,M y a→(k y).wp P Q a):(T.join ss x k).wp P Q h:=by
 refine fT (T.wp_mono x (λb a d=>?_) H);cases b with
 |out vs=>
  obtain⟨y,f,g⟩:=d;show(match Shs.of ss vs with | some y=>(k y).wp P Q a | none=>False)
  rw[f];exact e y a g
 |brk id vs=>exact d
 |ret v=>exact d
 |pan c=>exact d
def ZC(P:sI)(id:Nat)(ss:List Sh1)(k:Shs.Ty ss→T)(Q:Bl→AH→Prop)(b:Bl)(a:AH):Prop:=match b with
 |.out vs=>(match Shs.of ss vs with
  |some y=>(k y).wp P Q a
  |none=>False)
 |.brk id' vs=>bif oA id' id then(match Shs.of ss vs with
  |some y=>(k y).wp P Q a
  |none=>False) else Q (.brk id' vs) a
 |b=>Q b a
theorem cQ{id:Nat}{ss:List Sh1}{k:Shs.Ty ss→T}(H:x.wp P (ZC P id ss k Q) h):(T.block id ss x k).wp P Q h:=by simp only[T.wp];exact H
theorem ZD{id:Nat}{ss:List Sh1}{k:Shs.Ty ss→T}(M:Shs.Ty ss→AH→Prop) (H:x.wp P (λe a=>match e with
 |.out vs=>∃y,Shs.of ss vs=some y∧M y a
 |.brk b vs=>bif oA b id then(∃y,Shs.of ss vs=some y∧M y a) else Q (.brk b vs) a
 |e=>Q e a) h) (i:∀y a,M y a→(k y).wp P Q a):(T.block id ss x k).wp P Q h:=by
 refine cQ (T.wp_mono x (λe a d=>?_) H);cases e with
 |out vs=>
  obtain⟨y,f,g⟩:=d;show(match Shs.of ss vs with | some y=>(k y).wp P Q a | none=>False)
  rw[f];exact i y a g
 |brk b vs=>
  unfold ZC;dsimp only at d ⊢;cases hb:oA b id with
  |true=>
   rw[hb]at d;obtain⟨y,f,g⟩:=d;rw[f];exact i y a g
  |false=>rw[hb]at d;exact d
 |ret v=>exact d
 |pan c=>exact d
def eX(ss:List Sh1)(I:Shs.Ty ss→AH→Prop)(μ:Shs.Ty ss→AH→Nat)(m:Nat)(Q:Bl→AH→Prop)(a:Bl)(b:AH):Prop:=match a with
 |.out vs=>(match Shs.of ss vs with
  |some c=>I c b∧μ c b<m
  |none=>False)
 |a=>Q a b
theorem fU{ss:List Sh1}{a:List sG}{body:Shs.Ty ss→T}(I:Shs.Ty ss→AH→Prop)(μ:Shs.Ty ss→AH→Nat)(b:Shs.Ty ss)(c:Shs.of ss a=some b)(d:I b h)
 (e:∀y h,I y h→(body y).wp P (eX ss I μ (μ y h) Q) h):(T.loop ss a body).wp P Q h:=⟨I,μ,⟨b,c,d⟩,e⟩
theorem X2{ss:List Sh1}{I:Shs.Ty ss→AH→Prop}{μ:Shs.Ty ss→AH→Nat}{m:Nat}{vs:List sG}(y:Shs.Ty ss)(b:Shs.of ss vs=some y)(c:I y h)(d:μ y h<m):eX ss I μ m Q (.out vs) h:=by
 show(match Shs.of ss vs with | some a=>I a h∧μ a h<m | none=>False)
 rw[b];exact⟨c,d⟩
section
variable {id:Nat}{ss:List Sh1}{I:Shs.Ty ss→AH→Prop}{μ:Shs.Ty ss→AH→Nat}{m:Nat}{M:Shs.Ty ss→AH→Prop}
end
@[simp] theorem eY(a:Bc)(x:a.Ty):(Sh.one (Sh1.atom a)).val x=a.val x:=rfl
@[simp] theorem cS(a:Bc)(x:a.Ty):(Sh1.atom a).val x=a.val x:=rfl
@[simp] theorem iv(k:IntKind)(x:Int):(Bc.int k).val x= .int k x:=rfl
@[simp] theorem iH(x:Bool):Bc.bool.val x= .bool x:=rfl
@[simp] theorem fV(x:nI):Bc.string.val x= .string x:=rfl
@[simp] theorem eZ(x:nG):Bc.pointer.val x= .pointer x:=rfl
@[simp] theorem iD(x:Option sK×Nat×Nat):Bc.slice.val x= .slice x.1 x.2.1 x.2.2:=rfl
@[simp] theorem iw(x:Option Nat):Bc.map.val x= .map x:=rfl
theorem w64{n:Int}(a: -9223372036854775808≤n)(b:n≤9223372036854775807):pF .i64 n=n:=IntWalk.i64_in n ⟨a,b⟩
def An(S:sG→AH→Prop)(e:Fin)(a:AH):Prop:= ∃v,e= .ret v∧S v a
theorem cT{f:FuncId}{args:List sG}{b:Sh}{k:b.Ty→T}{S:sG→AH→Prop}(c:nX P f args h (An S))
 (d:∀v a,S v a→ ∃x,v=b.val x∧(k x).wp P Q a):(T.call f args b k).wp P Q h:=
 fR c λe a ⟨v,g,i⟩=>by
  have⟨x,j,H⟩:=d v a i;exact⟨x,by rw[g,j],H⟩
theorem AC{S:sG→AH→Prop}(H:S v h):NP (An S) (.ret v) h:=⟨v,rfl,H⟩
end
def Kf(M:List Nat)(h a:AH):Prop:=h.size≤a.size∧ ∀i,i<h.size→i∉M→a[i]? =h[i]?
theorem Kf.refl(M:List Nat)(h:AH):Kf M h h:=⟨qC _,λ_ _ _=>rfl⟩
theorem Kf.trans{M:List Nat}{a b c:AH}(h:Kf M a b)(k:Kf M b c):Kf M a c:=
 ⟨Nat.le_trans h.1 k.1,λi d e=>(k.2 i (Nat.lt_of_lt_of_le d h.1) e).trans (h.2 i d e)⟩
theorem Kf.mono{M c:List Nat}{a b:AH}(h:Kf M a b)(d:∀i,i∈M→i∈c):Kf c a b:=⟨h.1,λi e f=>h.2 i e λg=>f (d i g)⟩
theorem Kf.push(M:List Nat)(h:AH)(o:Obj):Kf M h (h.push o):=⟨nP,λi a _=>by rw[eE];simp;omega⟩
theorem IN{h:AH}{a:sK}{i:Nat}(b:i≠a.block):(Cm h a v)[i]? =h[i]? :=by unfold Cm E9 qQ;simp only[oX];rw[nA nJ]
theorem SD{h:AH}{a:sK}:(Cm h a v).size=h.size:=by unfold Cm E9 qQ;simp
theorem Kf.at{M:List Nat}{h c:AH}(k:Kf M h c){i:Nat}{o:Obj}(a:h[i]? =some o)(d:i∉M):c[i]? =some o:=by
 have b:i<h.size:=by
  rcases oH i h.size with g | g
  ·exact g
  ·rw[oT g]at a;cases a
 rw[k.2 i b d];exact a
theorem Gi{h:AH}{a:sK}{c:Array sG}{t:sH}{f:Nat×Nat}(b:h[a.block]? =some (.cells c t f))(d:a.spot=none):Bb h a=c[a.off]? :=by unfold Bb E9 World.cell?;simp[b,d]
theorem SY(a:sK)(n:Nat):(a.add n).block=a.block:=by unfold qX;split<;>rfl
theorem add_zero(a:sK):a.add 0=a:=by simp[qX]
theorem EN(b o n:Nat):(⟨b,o,none⟩:sK).add n=⟨b,o+n,none⟩:=by
 unfold qX;split
 ·rename_i h;subst h;rfl
 ·rfl
theorem Aj(a:sK)(m n:Nat):(a.add m).add n=a.add (m+n):=by
 unfold qX;by_cases b:m=0
 ·subst b;simp
 ·by_cases c:n=0
  ·subst c;simp
  ·simp[b,c,Nat.add_assoc]
def Cg(h:AH)(p:nG)(vs:List sG):Prop:= ∀i v,vs[i]? =some v→ ∃a,p=some a∧Bb h (a.add i)=some v
def blk:nG→List Nat
 |some a=>[a.block]
 |none=>[]
theorem Cg.nil(h:AH)(p:nG):Cg h p []:=λi v a=>by simp at a
def Own(sz:Nat)(ty:sH)(h:AH)(p:nG)(n c:Nat)(vs:List sG):Prop:=
 (p=none∧n=0∧c=0∧vs= [])∨
 (∃b off a,p=some ⟨b,off,none⟩∧h[b]? =some (.cells a ty (0,0))∧vs.length=n *sz∧n≤c∧off+c *sz≤a.size∧ ∀i v,vs[i]? =some v→a[off+i]? =some v)
theorem Own.cells{sz:Nat}{ty:sH}{h:AH}{p:nG}{n c:Nat}{vs:List sG}(o:Own sz ty h p n c vs):Cg h p vs:=by
 rcases o with⟨rfl,_,_,rfl⟩|⟨b,off,arr,rfl,hb,e,f,g,a⟩
 ·exact Cg.nil h none
 ·intro i v d;exact⟨_,rfl,by rw[EN,Gi hb rfl];exact a i v d⟩
theorem Own.length{sz:Nat}{ty:sH}{h:AH}{p:nG}{n c:Nat}{vs:List sG}(o:Own sz ty h p n c vs):vs.length=n *sz:=by
 rcases o with⟨_,rfl,_,rfl⟩|⟨b,off,arr,_,hb,a,_⟩
 ·simp
 ·exact a
theorem Own.nil(sz:Nat)(ty:sH)(h:AH):Own sz ty h none 0 0 []:=.inl ⟨rfl,rfl,rfl,rfl⟩
theorem Own.ty{sz:Nat}{ty:sH}{h:AH}{p:nG}{n c:Nat}{vs:List sG}(o:Own sz ty h p n c vs):∀i,i∈blk p→ ∃a,h[i]? =some (.cells a ty (0,0)):=by
 rcases o with⟨rfl,_⟩|⟨b,off,a,rfl,hb,_⟩
 ·intro i d;cases d
 ·intro i d;simp[blk]at d;subst d;exact⟨a,hb⟩
theorem Own.cap{sz:Nat}{ty:sH}{h:AH}{p:nG}{n c:Nat}{vs:List sG}(o:Own sz ty h p n c vs):n≤c:=by
 rcases o with⟨rfl,rfl,rfl,_⟩|⟨b,off,arr,rfl,hb,_,h,_⟩
 ·exact qC _
 ·exact h
theorem Own.old{sz:Nat}{ty:sH}{h:AH}{p:nG}{n c:Nat}{vs:List sG}(o:Own sz ty h p n c vs):∀i,i∈blk p→i<h.size:=by
 rcases o with⟨rfl,_⟩|⟨b,off,arr,rfl,hb,_⟩
 ·intro i a;cases a
 ·intro i a;simp[blk]at a;subst a;rcases oH i h.size with g | g
  ·exact g
  ·rw[oT g]at hb;cases hb
theorem OJ{P:sI}{X:sG→AH→Prop}{h:AH}{a:sK}:∀(vs:List sG) (i:Nat) (b:Array sG) {K:Array sG→AH→Prop},
 (∀j v,vs[j]? =some v→Bb h (a.add (i+j))=some v)→K (b++vs.toArray) h→Ag P (loadCellsFrom a i vs.length b) K X h:=by
 intro vs
 induction vs with
 |nil=>intro i b K _ c;simpa[loadCellsFrom,pure,Ag]using c
 |cons v r f=>
  intro i b K d c;refine⟨v,by simpa using d 0 v rfl,?_⟩;refine f (i+1) (b.push v) (λj u g=>?_) ?_
  ·have:=d (j+1) u (by simpa using g)
   rw[show i+1+j=i+(j+1) by omega];exact this
  ·have e:b++(v::r).toArray=b.push v++r.toArray:=by
    apply rQ;simp
   rw[←e];exact c
theorem IP{h:AH}{b off:Nat}{a:Array sG}{ty:sH}{f:Nat×Nat}(c:h[b]? =some (.cells a ty f)):
 (Cm h ⟨b,off,none⟩ v)[b]? =some (.cells (a.setIfInBounds off v) ty f):=by unfold Cm E9 qQ;simp[oX,c]
theorem SE{P:sI}{X:sG→AH→Prop}{b off:Nat}{ty:sH}:∀(vs:List sG) (i:Nat) (h:AH) (a:Array sG) {K:Unit→AH→Prop},
 (∀v∈vs,Value.plain v=true)→h[b]? =some (.cells a ty (0,0))→off+i+vs.length≤a.size→
 (∀h' d,h'[b]? =some (.cells d ty (0,0))→d.size=a.size→(∀j,(j<off+i∨off+i+vs.length≤j)→d[j]? =a[j]?)→(∀j v,vs[j]? =some v→d[off+i+j]? =some v)→
  h'.size=h.size→(∀k,k≠b→h'[k]? =h[k]?)→K () h')→Ag P (storeCells ⟨b,off,none⟩ vs i) K X h:=by
 intro vs
 induction vs with
 |nil=>intro i h a K _ l _ n;exact n h a l rfl (λ_ _=>rfl) (λj v e=>by simp at e) rfl (λ_ _=>rfl)
 |cons v r w=>
  intro i h a K q l o n;simp only[pX]at o;have g:Bb h (qX ⟨b,off,none⟩ i)=a[off+i]? :=by rw[EN,Gi (c:=a) (t:=ty) (f:=(0,0)) l rfl]
  refine⟨q v (rP ..),?_,?_,?_⟩
  ·rw[g];simp;omega
  ·rw[EN];unfold HG E9 qB;simp[l]
  ·rw[EN];have p:=IP (off:=off+i) (v:=v) l;refine w (i+1) (Cm h ⟨b,off+i,none⟩ v) (a.setIfInBounds (off+i) v) (λu x=>q u (pA _ x)) p nN ?_;intro h' d y z s A B C;refine n h' d y (by simpa using z) (λj e=>?_) (λj u e=>?_) (by rw[B,SD]) (λk m=>by rw[C k m];exact IN m)
   ·simp only[pX]at e;rw[s j nJ,bO nJ]
   ·cases j with
    |zero=>
     simp at e;subst e;rw[s (off+i+0) nJ,Nat.add_zero];rw[oK];simp only[if_true];rw[mZ nJ]
    |succ j=>
     have:=A j u (by simpa using e)
     rw[show off+i+(j+1)=off+(i+1)+j by omega];exact this
structure Fy (P:sI) (st xt elem:sH) (sz:Nat):Prop where
 st:P.underlying st=some (.slice elem)
 xt:P.underlying xt=some (.slice elem)∨P.underlying xt=some .string
 info:∃i,P.info? elem=some i∧i.size=sz∧(∃z,i.zero=some z∧z.cells.size=sz)∧0<i.bytes∧i.bytes≤120
 pos:0<sz
theorem X3(a:Nat):∀(r c:Nat),rJ a r c≤max c (a+(a+768) / 4):=by
 intro r
 induction r with
 |zero=>intro c;simp only[rJ];omega
 |succ r b=>
  intro c;simp only[rJ];split
  ·omega
  ·have:=b (c+(c+768) / 4)
   omega
theorem Vw(need c:Nat)(h:c<need):pB need c≤2 *need+200:=by
 unfold pB;split
 ·omega
 ·split
  ·omega
  ·have:=X3 need 4 c
   omega
def iI(sz:Nat)(a:sH)(h i:AH)(p:nG)(c:Nat)(j:nG)(g:Nat):Prop:=
 (j=p∧g=c∧ ∀b off,p=some ⟨b,off,none⟩→ ∀d f,h[b]? =some (.cells d a f)→ ∃e,i[b]? =some (.cells e a (0,0))∧e.size=d.size)∨
 (j=some ⟨h.size,0,none⟩∧g≤maxLen∧ ∃d,i[h.size]? =some (.cells d a (0,0))∧d.size=g *sz)
theorem Vx{P:sI}{h:AH}{st V rt l:sH}{sz:Nat}(A:Fy P st V l sz){p J:nG}{n c m M:Nat}{vs x:List sG}
 (o:Own sz l h p n c vs) (cx:Cg h J x) (F:x.length=m *sz) (W:∀v∈x,Value.plain v=true) (a9:n+m≤1099512676352)
 {K:sG→AH→Prop} {X:sG→AH→Prop}
 (N:∀E L D,Own sz l D E (n+m) L (vs++x)→Kf (blk p) h D→(∀i,i∈blk E→i∈blk p∨h.size≤i)→iI sz l h D p c E L→K (.slice E (n+m) L) D):
 Ag P (qD #[st,V] rt #[.slice p n c,.slice J m M]) K X h:=by
 obtain⟨i,C,Y,⟨z,hz,Z⟩,b0,hb⟩:=A.info;have a0:∃d,P.underlying V=some d∧(d matches .int _)=false:=by
  rcases A.xt with g | g<;>exact⟨_,g,rfl⟩
 obtain⟨d,hd,b1⟩:=a0;have first:∀ {U:Array sG→AH→Prop} (q:nG) (k kc:Nat) (us:List sG),Cg h q us→us.length=k *sz→U us.toArray h→
  Ag P (oO sz k (.slice q k kc)) U X h:=by
  intro U q k kc us hq hl O;cases q with
  |none=>
   cases us with
   |nil=>exact O
   |cons u r=>have⟨a,ha,_⟩:=hq 0 u rfl;cases ha
  |some a=>
   show Ag P (loadCellsFrom a 0 (k *sz) #[]) U X h;rw[←hl];refine OJ us 0 #[] (λj v hj=>?_) (by simpa using O);obtain⟨a',a1,hc⟩:=hq j v hj;cases a1;simpa using hc
 unfold qD;simp only[rG,oJ,pN];refine Am A.st<|Je C ?_;rw[Y];have a2:∀(K:sG→AH→Prop),(∀E L D,Own sz l D E (n+m) L (vs++x)→Kf (blk p) h D→(∀i,i∈blk E→i∈blk p∨h.size≤i)→iI sz l h D p c E L→K (.slice E (n+m) L) D)→
  (n+m≤c→Ag P ((oO sz m (oS J m M)).bind λnew=>
   match p with
   |some a=>(storeCells (a.add (n *sz)) new.toList).bind λa3=>pR (oS p (n+m) c)
   |_=>pR (oS p (n+m) c)) K X h)∧
  (¬n+m≤c→Ag P ((choose (Question.appendCap (n+m) c l)).bind λw=>
   (typeInfo l).bind λi=>
    (askRoom (w *i.bytes)).bind λa3=>
     (oO sz n (oS p n c)).bind λold=>
      (oO sz m (oS J m M)).bind λnew=>
       (zeroValue l).bind λz=>
        (newRow l (old++new++oY z.cells (w - (n+m)))).bind
         λa=>pR (oS (some a) (n+m) w)) K X h):=by
  intro K N;have B:=o.length;constructor
  ·intro s;refine Ao _ _ (first J m M x cx F ?_);rcases o with⟨rfl,rfl,rfl,rfl⟩|⟨b,off,arr,rfl,hbk,h1,h2,h3,h4⟩
   ·have:m=0:=nJ
    subst this
    have:x= []:=oI (by simpa using F)
    subst this;exact N none 0 h (Own.nil sz l h) (Kf.refl _ h) (λi C=>.inl C) (.inl ⟨rfl,rfl,λb off e=>by cases e⟩)
   ·dsimp only;refine Ao _ _ ?_;rw[EN];have Q:(n+m) *sz≤c *sz:=pC sz s;rw[oD]at Q;refine SE x 0 h arr W hbk (by rw[F];omega) ?_;intro D G g1 g2 g3 g4 g5 g6;refine N _ c D (.inr ⟨b,off,G,rfl,g1,?_,s,nJ,?_⟩) ⟨nJ,λi _ C=>g6 i (by simpa[blk]using C)⟩ (λi C=>.inl C) (.inl ⟨rfl,rfl,λb' a7 e a8 f e0=>by cases e;rw[hbk]at e0;cases e0;exact⟨G,g1,g2⟩⟩)
    ·rw[oU,h1,F,oD]
    ·intro i v H;rcases oH i vs.length with hi' | hi'
     ·rw[hM hi']at H;rw[g3 (off+i) nJ];exact h4 i v H
     ·rw[oN hi']at H
      have:=g4 (i - vs.length) v H
      rw[show off+i=off+n *sz+0+(i - vs.length) by omega];exact this
  ·intro a4;show Ag P (.choose _ _) K X h;simp only[Ag];rw[nA (by simp[Question.forced])];intro t;have I:n+m≤(Question.appendCap (n+m) c l).cut t:=by simp only[Question.cut];omega
   have R:(Question.appendCap (n+m) c l).cut t≤maxLen:=by
    simp only[Question.cut]
    have:=Nat.mod_lt t (y:=2 ^ 63 - (n+m)) nJ
    unfold maxLen;omega
   generalize (Question.appendCap (n+m) c l).cut t=nc at I R
   refine HI C ?_;have rest:Ag P ((oO sz n (oS p n c)).bind λold=>
    (oO sz m (oS J m M)).bind λnew=>
     (zeroValue l).bind λz=>
      (newRow l (old++new++oY z.cells (nc - (n+m)))).bind
       λa=>pR (oS (some a) (n+m) nc)) K X h:=by
    refine Ao _ _ (first p n c vs o.cells B ?_);refine Ao _ _ (first J m M x cx F ?_);have ez:(zeroValue l)=Sem.program fun P'=>((match P'.info? l with | some i=>Sem.pure i | none=>stuck "no such type").bind fun i=>match i.zero with | some v=>Sem.pure v | none=>unsupported (.resourceLimit "a value of more than 2^22 cells")):=rfl
    rw[ez];simp only[bD,Ag,C,hz];show Ag P (Sem.new _ _) K X h;have S:(oY z.cells (nc - (n+m))).size=(nc - (n+m)) *sz:=by simp[oY,Z]
    refine N _ nc _ (.inr ⟨h.size,0,vs.toArray++x.toArray++oY z.cells (nc - (n+m)),rfl,by rw[eE,mZ rfl],?_,I,?_,?_⟩) (Kf.push _ h _) (λi C=>.inr (by simp[blk]at C;omega)) (.inr ⟨rfl,R,_,by rw[eE,mZ rfl],?_⟩)
    ·rw[oU,B,F,oD]
    ·simp only[rU,rV,S,B,F];rw[←oD,←oD,show n+m+(nc - (n+m))=nc by omega];omega
    ·intro i v H;have a5:i< (vs++x).length:=by
      rcases oH i (vs++x).length with g | g
      ·exact g
      ·rw[oB g]at H;cases H
     have e:(vs.toArray++x.toArray:Array sG)=(vs++x).toArray:=nP
     rw[e,pT,pD (by simpa using a5)];simpa using H
    ·simp only[rU,rV,S,B,F];rw[←oD,←oD,show n+m+(nc - (n+m))=nc by omega]
   refine Ao _ _ ?_;unfold askRoom;split
   ·exact rest
   ·exact rest
 have⟨k1,k2⟩:=a2 K N;have a6:∀(b:Prop),¬(((n+m:Nat):Int) >IntKind.i64.max∧b):=by
  intro b hh
  have:((n+m:Nat):Int) ≤1099512676352:=nJ
  have e:IntKind.i64.max=9223372036854775807:=rfl;omega
 have T:¬n+m≤c→ ¬pB (n+m) c *i.bytes>2 ^ 48:=by
  intro hg;have h1:=Vw (n+m) c nJ;have h2:pB (n+m) c *i.bytes≤(2 *(n+m)+200) *120:=Nat.mul_le_mul h1 hb;omega
 rcases A.xt with g | g
 all_goals
  refine Am g ?_;simp only[bind,bD,pure,oG,if_false,Builtin.lenOf,Bool.not_false,if_true];by_cases s:n+m≤c
  ·rw[mZ s];exact k1 s
  ·rw[nA s];refine HI C ?_;rw[nA (a6 _)];refine HI C ?_;rw[nA (T s)];exact k2 s
end
theorem Vy{P:sI}{X:sG→AH→Prop}{h:AH}:∀(l:List UInt8) (a:nI) {K:nI→AH→Prop},K ⟨a.data++l.toArray⟩ h→
 Ag P (forIn (l.map λb=>pO .u8 (b.toNat:Int)) a λc s=>match c with
  |.int .u8 n=>(pure (ForInStep.yield (s.push (pP n.toNat))):Sem (ForInStep nI))
  | _=>stuck "bytesToString: byte expected") K X h:=by
 intro l
 induction l with
 |nil=>intro a K d;show K a h;simpa using d
 |cons b r f=>
  intro a K d;simp only[pZ,rC];have e:pP ((b.toNat:Int)).toNat=b:=nP
  rw[e];refine f (a.push b) ?_;simpa[ByteArray.push]using d
theorem TS{P:sI}{d f e:sH}{h:AH}{p:nG}{c:Nat}{l:List UInt8}(m:P.underlying d=some (.slice e))(n:P.underlying e=some (.int .u8))(hd:P.underlying f=some .string)
 (i:Cg h p (l.map λb=>pO .u8 (b.toNat:Int))) {K X:sG→AH→Prop} (k:K (.string ⟨l.toArray⟩) h):Ag P (convert d f (.slice p l.length c)) K X h:=by
 unfold convert;refine Am m (Am hd ?_);refine Am n ?_;dsimp only;unfold Conv.bytesToString;cases p with
 |none=>
  cases l with
  |nil=>exact k
  |cons b r=>have⟨a,o,_⟩:=i 0 _ rfl;cases o
 |some a=>
  dsimp only;refine Ao _ _ ?_;show Ag P (loadCellsFrom a 0 l.length #[]) _ X h;have q:l.length=(l.map λb=>pO .u8 (b.toNat:Int)).length:=nP
  rw[q];refine OJ (l.map λb=>pO .u8 (b.toNat:Int)) 0 #[] (λj v s=>by
   obtain⟨u,g,t⟩:=i j v s;cases g;simpa using t) ?_
  refine Ao _ _ ?_;have e0:(#[] ++(l.map λb=>pO .u8 (b.toNat:Int)).toArray:Array sG)=(l.map λb=>pO .u8 (b.toNat:Int)).toArray:=nP
  rw[e0,List.forIn_toArray];exact Vy l _ (show K _ h by simpa using k)
abbrev Slc:=Option sK×Nat×Nat
abbrev AD:=Nat→Option Obj
def Bo(h:AH):AD:=λi=>h[i]?
def Sub(φ ψ:AD):Prop:= ∀i o,φ i=some o→ψ i=some o
theorem Sub.refl(φ:AD):Sub φ φ:=λ_ _ h=>h
theorem Sub.trans{a b c:AD}(h:Sub a b)(k:Sub b c):Sub a c:=λi o d=>k i o (h i o d)
def Ef(φ:AD)(a:sK):Option sG:=match φ a.block with
 |some (.cells c _ _)=>if a.spot.isSome then none else c[a.off]?
 |_=>none
theorem Nd(h:AH)(a:sK):Ef (Bo h) a=Bb h a:=rfl
theorem Ar{φ ψ:AD}(c:Sub φ ψ){a:sK}{v:sG}(b:Ef φ a=some v):Ef ψ a=some v:=by
 unfold Ef at b ⊢;cases hb:φ a.block with
 |none=>rw[hb]at b;cases b
 |some o=>rw[c _ _ hb];rw[hb]at b;exact b
theorem AG{φ:AD}{h:AH}(b:Sub φ (Bo h)){a:sK}{v:sG}(c:Ef φ a=some v):Bb h a=some v:=by rw[←Nd];exact Ar b c
def Cv(φ:AD)(p:nG)(vs:List sG):Prop:= ∀i v,vs[i]? =some v→ ∃a,p=some a∧Ef φ (a.add i)=some v
theorem Cv.mono{φ ψ:AD}(b:Sub φ ψ){p:nG}{vs:List sG}(c:Cv φ p vs):Cv ψ p vs:=λi v d=>by
 have⟨a,e,h⟩:=c i v d;exact⟨a,e,Ar b h⟩
theorem Cv.heap{φ:AD}{h:AH}(b:Sub φ (Bo h)){p:nG}{vs:List sG}(c:Cv φ p vs):Cg h p vs:=λi v d=>by
 have⟨a,e,h⟩:=c i v d;exact⟨a,e,AG b h⟩
structure Ro (α:Type) where
 sz:Nat
 is:AD→List sG→α→Prop
 len:∀ {φ cs x},is φ cs x→cs.length=sz
 mono:∀ {φ ψ cs x},Sub φ ψ→is φ cs x→is ψ cs x
 plain:∀ {φ cs x},is φ cs x→ ∀v∈cs,Value.plain v=true
namespace Ro
def atom(a:Bc):Ro a.Ty where
 sz:=1
 is _ cs x:=cs= [a.val x]
 len h:=by rw[h];rfl
 mono _ h:=h
 plain h v hv:=by rw[h]at hv;simp at hv;rw[hv];exact Bc.val_plain _ _
abbrev int(k:IntKind):Ro Int:=atom (.int k)
abbrev bool:Ro Bool:=atom .bool
abbrev str:Ro nI:=atom .string
abbrev pt:Ro nG:=atom .pointer
def prod{α β:Type}(r:Ro α)(s:Ro β):Ro (α×β) where
 sz:=r.sz+s.sz
 is φ cs x:= ∃a b,cs=a++b∧r.is φ a x.1∧s.is φ b x.2
 len h:=by obtain⟨a,b,rfl,c,d⟩:=h;rw[oU,r.len c,s.len d]
 mono hs h:=by obtain⟨a,b,e,c,d⟩:=h;exact⟨a,b,e,r.mono hs c,s.mono hs d⟩
 plain h v hv:=by
  obtain⟨a,b,rfl,c,d⟩:=h;rcases rE.1 hv with h | h
  ·exact r.plain c v h
  ·exact s.plain d v h
inductive All {α:Type}(r:Ro α) (φ:AD):List sG→List α→Prop where
 |nil:All r φ [] []
 |cons {a b:List sG} {x:α} {l:List α} :r.is φ a x→All r φ b l→All r φ (a++b) (x::l)
theorem All.mono{α:Type}{r:Ro α}{φ ψ:AD}(a:Sub φ ψ){vs:List sG}{l:List α}(h:All r φ vs l):All r ψ vs l:=by
 induction h with
 |nil=>exact .nil
 |cons h _ b=>exact .cons (r.mono a h) b
theorem All.length{α:Type}{r:Ro α}{φ:AD}{vs:List sG}{l:List α}(h:All r φ vs l):vs.length=l.length *r.sz:=by
 induction h with
 |nil=>simp
 |cons h _ a=>rw[oU,r.len h,a,pX,oD,sD,rX]
theorem All.plain{α:Type}{r:Ro α}{φ:AD}{vs:List sG}{l:List α}(h:All r φ vs l):∀v∈vs,Value.plain v=true:=by
 induction h with
 |nil=>intro v a;cases a
 |cons h _ b=>intro v a;rcases rE.1 a with g | g;exact r.plain h v g;exact b v g
theorem All.append{α:Type}{r:Ro α}{φ:AD}{vs a:List sG}{l m:List α}(h:All r φ vs l)(k:All r φ a m):All r φ (vs++a) (l++m):=by
 induction h with
 |nil=>exact k
 |cons h _ b=>rw[List.append_assoc];exact .cons h b
theorem All.one{α:Type}{r:Ro α}{φ:AD}{vs:List sG}{x:α}(h:r.is φ vs x):All r φ vs [x]:=by
 have:=All.cons h (.nil (r:=r) (φ:=φ))
 rwa [List.append_nil]at this
theorem All.at{α:Type}{r:Ro α}{φ:AD}{vs:List sG}{l:List α}(h:All r φ vs l):∀ {i:Nat}{x:α},l[i]? =some x→ ∃cs,r.is φ cs x∧ ∀j v,cs[j]? =some v→vs[i *r.sz+j]? =some v:=by
 induction h with
 |nil=>intro i x c;simp at c
 | @cons a b y l h n f=>
  intro i x c;cases i with
  |zero=>
   simp at c;subst c;refine⟨a,h,λj v d=>?_⟩
   have:j<a.length:=by
    rcases oH j a.length with g | g
    ·exact g
    ·rw[oB g]at d;cases d
   rw[Nat.zero_mul,pT,hM this];exact d
  |succ i=>
   obtain⟨cs,k,m⟩:=f (by simpa using c);refine⟨cs,k,λj v d=>?_⟩;have e:(i+1) *r.sz+j=a.length+(i *r.sz+j):=by rw[r.len h,oD];omega
   rw[e,oN nJ,pQ];exact m j v d
theorem All.take{α:Type}{r:Ro α}{φ:AD}{vs:List sG}{l:List α}(h:All r φ vs l):∀n,All r φ (vs.take (n *r.sz)) (l.take n):=by
 induction h with
 |nil=>intro n;simp;exact .nil
 | @cons a b y l h d c=>
  intro n;cases n with
  |zero=>simp;exact .nil
  |succ n=>
   have e:(a++b).take ((n+1) *r.sz)=a++b.take (n *r.sz):=by
    rw[oD,sD,rX,←r.len h,List.take_length_add_append]
   rw[e,List.take_succ_cons];exact .cons h (c n)
theorem All.drop{α:Type}{r:Ro α}{φ:AD}{vs:List sG}{l:List α}(h:All r φ vs l):∀n,All r φ (vs.drop (n *r.sz)) (l.drop n):=by
 induction h with
 |nil=>intro n;simp;exact .nil
 | @cons a b y l h c d=>
  intro n;cases n with
  |zero=>simp;exact .cons h c
  |succ n=>
   have e:(a++b).drop ((n+1) *r.sz)=b.drop (n *r.sz):=by
    rw[oD,sD,rX,←r.len h,List.drop_append,List.drop_eq_nil_of_le nJ,List.nil_append];congr 1;omega
   rw[e,List.drop_succ_cons];exact d n
def SliceIs{α:Type}(r:Ro α)(φ:AD)(t:Slc)(l:List α):Prop:=l.length=t.2.1∧t.2.1≤t.2.2∧t.2.2≤maxLen∧(t.1=none→l= [])∧ ∃vs,All r φ vs l∧Cv φ t.1 vs
theorem SliceIs.mono{α:Type}{r:Ro α}{φ ψ:AD}{t:Slc}{l:List α}(h:SliceIs r φ t l)(a:Sub φ ψ):SliceIs r ψ t l:=by obtain⟨b,c,d,e,vs,f,g⟩:=h;exact⟨b,c,d,e,vs,f.mono a,g.mono a⟩
def list{α:Type}(r:Ro α):Ro (List α) where
 sz:=1
 is φ cs l:= ∃t:Slc,cs= [.slice t.1 t.2.1 t.2.2] ∧SliceIs r φ t l
 len h:=by obtain⟨t,rfl,_⟩:=h;rfl
 mono hs h:=by obtain⟨t,e,h⟩:=h;exact⟨t,e,h.mono hs⟩
 plain h v hv:=by obtain⟨t,rfl,_⟩:=h;simp at hv;subst hv;rfl
def via{α β:Type}(r:Ro α)(f:β→α):Ro β where
 sz:=r.sz
 is φ cs x:=r.is φ cs (f x)
 len h:=r.len h
 mono hs h:=r.mono hs h
 plain h:=r.plain h
def ptr{α:Type}(r:Ro α):Ro (Option α) where
 sz:=1
 is φ cs x:=match x with
  |none=>cs= [.pointer none]
  |some x=>∃a vs,cs= [.pointer (some a)] ∧r.is φ vs x∧Cv φ (some a) vs
 len {φ cs x} h:=by
  cases x with
  |none=>rw[h];rfl
  |some x=>obtain⟨a,vs,rfl,_⟩:=h;rfl
 mono {φ ψ cs x} hs h:=by
  cases x with
  |none=>exact h
  |some x=>obtain⟨a,vs,e,b,c⟩:=h;exact⟨a,vs,e,r.mono hs b,c.mono hs⟩
 plain {φ cs x} h v hv:=by
  cases x with
  |none=>rw[h]at hv;simp at hv;subst hv;rfl
  |some x=>obtain⟨a,vs,rfl,_⟩:=h;simp at hv;subst hv;rfl
end Ro
abbrev GE:=Nat→Prop
structure Rep (α:Type) where
 sz:Nat
 is:AD→AH→GE→List sG→α→Prop
 len:∀ {φ h F cs x},is φ h F cs x→cs.length=sz
 mono:∀ {φ ψ h F cs x},Sub φ ψ→is φ h F cs x→is ψ h F cs x
 loc:∀ {φ h h' F cs x},(∀i,F i→h'[i]? =h[i]?)→is φ h F cs x→is φ h' F cs x
 lt:∀ {φ h F cs x},is φ h F cs x→ ∀i,F i→i<h.size
 plain:∀ {φ h F cs x},is φ h F cs x→ ∀v∈cs,Value.plain v=true
theorem BH{h:AH}{i:Nat}{o:Obj}(a:h[i]? =some o):i<h.size:=by
 rcases oH i h.size with g | g
 ·exact g
 ·rw[oT g]at a;cases a
namespace Rep
def ro{α:Type}(r:Ro α):Rep α where
 sz:=r.sz
 is φ _ F cs x:=(∀i,¬F i)∧r.is φ cs x
 len h:=r.len h.2
 mono hs h:=⟨h.1,r.mono hs h.2⟩
 loc _ h:=h
 lt h i hi:=(h.1 i hi).elim
 plain h:=r.plain h.2
def prod{α β:Type}(r:Rep α)(s:Rep β):Rep (α×β) where
 sz:=r.sz+s.sz
 is φ h F cs x:= ∃a b A B,cs=a++b∧r.is φ h A a x.1∧s.is φ h B b x.2∧(∀i,A i→B i→False)∧(∀i,F i↔A i∨B i)
 len h:=by obtain⟨a,b,A,B,rfl,c,d,_⟩:=h;rw[oU,r.len c,s.len d]
 mono hs h:=by obtain⟨a,b,A,B,e,c,d,g⟩:=h;exact⟨a,b,A,B,e,r.mono hs c,s.mono hs d,g⟩
 loc hl h:=by
  obtain⟨a,b,A,B,e,c,d,g,f⟩:=h;exact⟨a,b,A,B,e,r.loc (λi j=>hl i ((f i).2 (.inl j))) c,s.loc (λi j=>hl i ((f i).2 (.inr j))) d,g,f⟩
 lt h i j:=by
  obtain⟨a,b,A,B,e,c,d,g,f⟩:=h;rcases(f i).1 j with g | g
  ·exact r.lt c i g
  ·exact s.lt d i g
 plain h v hv:=by
  obtain⟨a,b,A,B,rfl,c,d,_⟩:=h;rcases rE.1 hv with g | g
  ·exact r.plain c v g
  ·exact s.plain d v g
def via{α β:Type}(r:Rep α)(f:β→α):Rep β where
 sz:=r.sz
 is φ h F cs x:=r.is φ h F cs (f x)
 len h:=r.len h
 mono hs h:=r.mono hs h
 loc hl h:=r.loc hl h
 lt h:=r.lt h
 plain h:=r.plain h
def Nf(sz:Nat)(h:AH)(p:nG)(c:Nat):Prop:= ∀b off s,p=some ⟨b,off,s⟩→off=0∧ ∀a ty f,h[b]? =some (.cells a ty f)→a.size=c *sz
def row{α:Type}(ty:sH)(r:Ro α):Rep (List α) where
 sz:=1
 is φ h F cs l:= ∃p n c vs,cs= [.slice p n c] ∧l.length=n∧c≤maxLen∧Nf r.sz h p c∧Own r.sz ty h p n c vs∧r.All φ vs l∧(∀i,F i↔i∈blk p)
 len h:=by obtain⟨p,n,c,vs,rfl,_⟩:=h;rfl
 mono hs h:=by obtain⟨p,n,c,vs,e,m,o,q,a,t,d⟩:=h;exact⟨p,n,c,vs,e,m,o,q,a,t.mono hs,d⟩
 loc hl h:=by
  obtain⟨p,n,c,vs,e,m,o,q,a,t,d⟩:=h;refine⟨p,n,c,vs,e,m,o,?_,?_,t,d⟩
  ·intro b off s u;have⟨w,x⟩:=q b off s u;refine⟨w,λj ty f k=>x j ty f ?_⟩;rw[←hl b ((d b).2 (by rw[u];simp[blk]))];exact k
  ·rcases a with a | ⟨b,off,j,rfl,hb,g⟩
   ·exact .inl a
   ·exact .inr ⟨b,off,j,rfl,by rw[hl b ((d b).2 (by simp[blk]))];exact hb,g⟩
 lt h i hi:=by
  obtain⟨p,n,c,vs,e,m,o,q,a,t,d⟩:=h;exact a.old i ((d i).1 hi)
 plain h v hv:=by obtain⟨p,n,c,vs,rfl,_⟩:=h;simp at hv;subst hv;rfl
def raw(ty:sH):Rep (List sG) where
 sz:=1
 is _ h F cs vs:= ∃b,cs= [.pointer (some ⟨b,0,none⟩)] ∧h[b]? =some (.cells vs.toArray ty (0,0))∧(∀i,F i↔i=b)
 len h:=by obtain⟨b,rfl,_⟩:=h;rfl
 mono _ h:=h
 loc hl h:=by obtain⟨b,e,c,a⟩:=h;exact⟨b,e,by rw[hl b ((a b).2 rfl)];exact c,a⟩
 lt h i hi:=by obtain⟨b,e,c,a⟩:=h;rw[(a i).1 hi];exact BH c
 plain h v hv:=by obtain⟨b,rfl,_⟩:=h;simp at hv;subst hv;rfl
def obj{α:Type}(ty:sH)(R:Rep α):Rep α where
 sz:=1
 is φ h F cs x:= ∃b vs G,cs= [.pointer (some ⟨b,0,none⟩)] ∧h[b]? =some (.cells vs.toArray ty (0,0))∧R.is φ h G vs x∧ ¬G b∧(∀i,F i↔i=b∨G i)
 len h:=by obtain⟨b,vs,G,rfl,_⟩:=h;rfl
 mono hs h:=by obtain⟨b,vs,G,e,a,c,g⟩:=h;exact⟨b,vs,G,e,a,R.mono hs c,g⟩
 loc hl h:=by
  obtain⟨b,vs,G,e,a,c,g,d⟩:=h;exact⟨b,vs,G,e,by rw[hl b ((d b).2 (.inl rfl))];exact a,R.loc (λi f=>hl i ((d i).2 (.inr f))) c,g,d⟩
 lt h i f:=by
  obtain⟨b,vs,G,e,a,c,g,d⟩:=h;rcases(d i).1 f with rfl | g
  ·exact BH a
  ·exact R.lt c i g
 plain h v hv:=by obtain⟨b,vs,G,rfl,_⟩:=h;simp at hv;subst hv;rfl
end Rep
structure Chk where
 {α:Type}
 R:Rep α
 cs:List sG
 x:α
def Chk.on(φ:AD)(h:AH)(F:GE)(c:Chk):Prop:=c.R.is φ h F c.cs c.x
def StX(φ:AD)(h:AH):List Chk→GE→Prop
 | [],_=>Sub φ (Bo h)
 |c::Γ,X=>∃F,c.on φ h F∧(∀k,F k→φ k=none∧ ¬X k)∧StX φ h Γ (λk=>X k∨F k)
def St(φ:AD)(Γ:List Chk)(h:AH):Prop:=StX φ h Γ λ_=>False
theorem StX.sub{φ:AD}{h:AH}:∀ {Γ:List Chk}{X:GE},StX φ h Γ X→Sub φ (Bo h):=by
 intro Γ
 induction Γ with
 |nil=>intro X H;exact H
 |cons c Γ ih=>intro X ⟨F,_,_,H⟩;exact ih H
theorem StX.less{φ:AD}{h:AH}:∀ {Γ:List Chk}{X Y:GE},StX φ h Γ X→(∀k,Y k→X k)→StX φ h Γ Y:=by
 intro Γ
 induction Γ with
 |nil=>intro X Y H _;exact H
 |cons c Γ ih=>intro X Y ⟨F,d,b,H⟩ hY;exact⟨F,d,λk a=>⟨(b k a).1,λg=>(b k a).2 (hY k g)⟩,ih H λk a=>a.imp (hY k) id⟩
theorem StX.more{φ:AD}{h:AH}:∀ {Γ:List Chk}{X Y:GE},StX φ h Γ X→(∀k,Y k→h.size≤k∨X k∨φ k≠none)→StX φ h Γ Y:=by
 intro Γ
 induction Γ with
 |nil=>intro X Y H _;exact H
 |cons c Γ ih=>
  intro X Y ⟨F,d,b,H⟩ hY;refine⟨F,d,λk a=>⟨(b k a).1,λg=>?_⟩,ih H λk a=>?_⟩
  ·rcases hY k g with g | g | g
   ·have:=c.R.lt d k a;omega
   ·exact(b k a).2 g
   ·exact g (b k a).1
  ·rcases a with a | a
   ·rcases hY k a with g | g | g
    ·exact .inl g
    ·exact .inr (.inl (.inl g))
    ·exact .inr (.inr g)
   ·exact .inr (.inl (.inr a))
theorem StX.heap{φ:AD}{h a:AH}:∀ {Γ:List Chk}{X:GE},StX φ h Γ X→(∀k,k<h.size→ ¬X k→a[k]? =h[k]?)→Sub φ (Bo a)→StX φ a Γ X:=by
 intro Γ
 induction Γ with
 |nil=>intro X H _ b;exact b
 |cons c Γ ih=>
  intro X ⟨F,d,e,H⟩ hh b;exact⟨F,c.R.loc (λi f=>hh i (c.R.lt d i f) (e i f).2) d,e,ih H (λk j l=>hh k j λg=>l (.inl g)) b⟩
theorem StX.grow{φ ψ:AD}{h:AH}:∀ {Γ:List Chk}{X:GE},StX φ h Γ X→Sub φ ψ→Sub ψ (Bo h)→(∀k,ψ k≠none→φ k=none→X k)→StX ψ h Γ X:=by
 intro Γ
 induction Γ with
 |nil=>intro X H _ b _;exact b
 |cons c Γ ih=>
  intro X ⟨F,e,d,H⟩ b hs' hX;refine⟨F,c.R.mono b e,λk a=>⟨?_,(d k a).2⟩,ih H b hs' λk a f=>.inl (hX k a f)⟩;cases hψ:ψ k with
  |none=>rfl
  |some o=>exact((d k a).2 (hX k (by rw[hψ];simp) (d k a).1)).elim
theorem St.sub{φ:AD}{Γ:List Chk}{h:AH}(H:St φ Γ h):Sub φ (Bo h):=StX.sub H
theorem StX.swap{φ:AD}{h:AH}{a b:Chk}{Γ:List Chk}{X:GE}(H:StX φ h (a::b::Γ) X):StX φ h (b::a::Γ) X:=by
 obtain⟨A,f,e,B,i,d,H⟩:=H;refine⟨B,i,λk c=>⟨(d k c).1,λg=>(d k c).2 (.inl g)⟩,A,f,λk c=>⟨(e k c).1,λg=>?_⟩,H.less λk c=>?_⟩
 ·rcases g with g | g
  ·exact(e k c).2 g
  ·exact(d k g).2 (.inr c)
 ·rcases c with(c | c)|c
  ·exact .inl (.inl c)
  ·exact .inr c
  ·exact .inl (.inr c)
theorem StX.perm{φ:AD}{h:AH}{Γ Δ:List Chk}(p:Γ.Perm Δ):∀ {X:GE},StX φ h Γ X→StX φ h Δ X:=by
 induction p with
 |nil=>intro X H;exact H
 |cons c _ f=>intro X ⟨F,g,i,H⟩;exact⟨F,g,i,f H⟩
 |swap a b l=>intro X H;exact H.swap
 |trans _ _ d e=>intro X H;exact e (d H)
theorem StX.tail{φ:AD}{h:AH}{c:Chk}{Γ:List Chk}{X:GE}(H:StX φ h (c::Γ) X):StX φ h Γ X:=by obtain⟨F,_,_,H⟩:=H;exact H.less λk a=>.inl a
theorem St.tail{φ:AD}{h:AH}{c:Chk}{Γ:List Chk}(H:St φ (c::Γ) h):St φ Γ h:=StX.tail H
theorem St.perm{φ:AD}{h:AH}{Γ Δ:List Chk}(H:St φ Γ h)(p:Γ.Perm Δ):St φ Δ h:=StX.perm p H
def Wz(i:Nat)(Γ:List Chk):List Chk:=match Γ[i]? with
 |some c=>c::Γ.eraseIdx i
 |none=>Γ
theorem BP:∀(i:Nat) (Γ:List Chk),Γ.Perm (Wz i Γ):=by
 intro i
 induction i with
 |zero=>intro Γ;cases Γ<;>exact pU _
 |succ i b=>
  intro Γ;cases Γ with
  |nil=>exact pU _
  |cons a Γ=>
   unfold Wz;simp only[pN,List.eraseIdx_cons_succ]
   have:=b Γ
   unfold Wz at this;cases hc:Γ[i]? with
   |none=>exact pU _
   |some c=>
    rw[hc]at this;exact(rK a this).trans (qL c a _)
theorem St.at{φ:AD}{h:AH}{Γ:List Chk}(H:St φ Γ h)(i:Nat):St φ (Wz i Γ) h:=H.perm (BP i Γ)
section
variable {i i0 e0:Int}{t:Slc}{v:sG}
def idx{α:Type}(l:List α)(i:Int):Option α:=if 0≤i then l[i.toNat]? else none
def DQ{α:Type}(l:List α)(i:Int)(x:α):Option (List α):=if 0≤i∧i< (l.length:Int) then some (l.set i.toNat x) else none
def app{α:Type}(l m:List α):Option (List α):=if l.length+m.length≤1099512676352 then some (l++m) else none
def cut{α:Type}(l:List α)(a b:Int):Option (List α):=if 0≤a∧a≤b∧b≤(l.length:Int) then some ((l.take b.toNat).drop a.toNat) else none
inductive AX (σ β:Type) where
 |next (s:σ)
 |done (b:β)
def Ih{σ β:Type}(f:σ→Option (AX σ β)):Nat→σ→Option β
 | 0,_=>none
 |n+1,s=>match f s with
  |none=>none
  |some (.done b)=>some b
  |some (.next s')=>Ih f n s'
theorem MS{σ β:Type}{f:σ→Option (AX σ β)}{b:β}:∀ {n m:Nat}{s:σ},Ih f n s=some b→n≤m→Ih f m s=some b:=by
 intro n
 induction n with
 |zero=>intro m s h;cases h
 |succ n a=>
  intro m s h c;obtain⟨m,rfl⟩:∃k,m=k+1:=⟨m - 1,nJ⟩;simp only[Ih]at h ⊢;cases hf:f s with
  |none=>rw[hf]at h;cases h
  |some e=>
   rw[hf]at h;cases e with
   |done d=>exact h
   |next s'=>exact a h nJ
open Classical in
noncomputable def TU{σ β:Type}(s:σ)(f:σ→Option (AX σ β)):Option β:=if h:∃n b,Ih f n s=some b then Ih f h.choose s else none
noncomputable def loop{σ β:Type}(s:σ)(f:σ→Option (AX σ β)):Option β:=match Ih f 4096 s with
 |some b=>some b
 |none=>TU s f
theorem Uf{σ β:Type}{f:σ→Option (AX σ β)}{s:σ}{b:β}:TU s f=some b↔∃n,Ih f n s=some b:=by
 unfold TU;constructor
 ·intro h;split at h
  ·exact⟨_,h⟩
  ·cases h
 ·rintro⟨n,h⟩;have c:∃n b,Ih f n s=some b:=⟨n,b,h⟩;rw[dif_pos c];obtain⟨d,a⟩:=c.choose_spec;rw[a];rcases Nat.le_total n c.choose with g | g
  ·rw[←MS h g,a]
  ·rw[←h,MS a g]
theorem FG{σ β:Type}{f:σ→Option (AX σ β)}{s:σ}{b:β}:loop s f=some b↔∃n,Ih f n s=some b:=by
 unfold loop;split
 ·rename_i c a
  constructor
  ·rintro h;exact⟨4096,by rw[a,h]⟩
  ·rintro⟨n,h⟩;rcases Nat.le_total n 4096 with g | g
   ·rw[←MS h g,a]
   ·rw[←h,MS a g]
 ·exact Uf
theorem TV{σ β:Type}(s:σ)(f:σ→Option (AX σ β)):loop s f=(f s).bind λe=>match e with
 |.done b=>some b
 |.next s'=>loop s' f:=by
 apply Option.ext;intro b;constructor
 ·intro h;have⟨n,a⟩:=FG.1 h;cases n with
  |zero=>cases a
  |succ n=>
   simp only[Ih]at a;cases hf:f s with
   |none=>rw[hf]at a;cases a
   |some e=>
    rw[hf]at a;cases e with
    |done c=>exact a
    |next s'=>exact FG.2 ⟨n,a⟩
 ·intro h;cases hf:f s with
  |none=>rw[hf]at h;cases h
  |some e=>
   rw[hf]at h;cases e with
   |done c=>exact FG.2 ⟨1,by simp only[Ih,hf];exact h⟩
   |next s'=>
    have⟨n,a⟩:=FG.1 h;exact FG.2 ⟨n+1,by simp only[Ih,hf];exact a⟩
def Ka{σ β:Type}(f:Int→σ→Option (AX σ β)):Nat→Int→σ→Option (AX σ β)
 | 0,_,s=>some (.next s)
 |n+1,i,s=>(f i s).bind λe=>match e with
  |.next s'=>Ka f n (i+1) s'
  |.done b=>some (.done b)
def C6{σ β:Type}(i e:Int)(s:σ)(f:Int→σ→Option (AX σ β)):Option (AX σ β):=if 0≤i∧e≤9223372036854775807 then Ka f (e - i).toNat i s else none
def Ng{σ:Type}(f:Int→σ→Option σ):Nat→Int→σ→Option σ
 | 0,_,s=>some s
 |n+1,i,s=>(f i s).bind λs'=>Ng f n (i+1) s'
def forS{σ:Type}(i e:Int)(s:σ)(f:Int→σ→Option σ):Option σ:=if 0≤i∧e≤9223372036854775807 then Ng f (e - i).toNat i s else none
theorem B9{α:Type}{l:List α}{x:α}(h:idx l i=some x):0≤i∧i< (l.length:Int)∧l[i.toNat]? =some x:=by
 unfold idx at h;split at h
 ·rename_i a
  have:i.toNat<l.length:=by
   rcases oH i.toNat l.length with g | g
   ·exact g
   ·rw[oB g]at h;cases h
  exact⟨a,nJ,h⟩
 ·cases h
theorem JD{α:Type}{l m k:List α}(h:app l m=some k):l.length+m.length≤1099512676352∧k=l++m:=by
 unfold app at h;split at h
 ·rename_i g;exact⟨g,(Option.some.inj h).symm⟩
 ·cases h
theorem EL{α:Type}{l m:List α}{x:α}(h:DQ l i x=some m):0≤i∧i< (l.length:Int)∧m=l.set i.toNat x:=by
 unfold DQ at h;split at h
 ·rename_i g;exact⟨g.1,g.2,(Option.some.inj h).symm⟩
 ·cases h
theorem ZE{α:Type}{l m:List α}{a b:Int}(h:cut l a b=some m):0≤a∧a≤b∧b≤(l.length:Int)∧m=(l.take b.toNat).drop a.toNat:=by
 unfold cut at h;split at h
 ·rename_i g;exact⟨g.1,g.2.1,g.2.2,(Option.some.inj h).symm⟩
 ·cases h
theorem Ro.SliceIs.get{α:Type}{r:Ro α}{φ:AD}{l:List α}{x:α}(H:Ro.SliceIs r φ t l)(c:idx l i=some x):
 ∃a cs,t.1=some a∧(0≤i∧i< (t.2.1:Nat))∧r.is φ cs x∧ ∀j v,cs[j]? =some v→Ef φ (a.add (i.toNat *r.sz+j))=some v:=by
 have⟨g,p,c⟩:=B9 c;obtain⟨e,_,_,h,vs,k,m⟩:=H;have⟨cs,n,f⟩:=k.at c;cases hp:t.1 with
 |none=>rw[h hp]at c;simp at c
 |some a=>
  refine⟨a,cs,rfl,⟨g,nJ⟩,n,λj v o=>?_⟩;obtain⟨q,d,b⟩:=m _ v (f j v o);rw[hp]at d;cases d;exact b
theorem Ro.SliceIs.nil{α:Type}(r:Ro α)(φ:AD):Ro.SliceIs r φ (none,0,0) []:=⟨rfl,qC _,Nat.zero_le _,λ_=>rfl,[],.nil,λi v a=>by simp at a⟩
theorem Ro.SliceIs.length{α:Type}{r:Ro α}{φ:AD}{l:List α}(H:Ro.SliceIs r φ t l):t.2.1=l.length:=H.1.symm
theorem Ro.SliceIs.cut{α:Type}{r:Ro α}{φ:AD}{l m:List α}{a b:Int}{sz:Nat}(H:Ro.SliceIs r φ t l)(j:cut l a b=some m)(f:r.sz=sz):
 (0≤a∧a≤b∧b≤(t.2.2:Nat))∧Ro.SliceIs r φ ((if t.2.2=a.toNat then t.1 else rR (λx=>qX x (a.toNat *sz)) t.1),b.toNat - a.toNat,t.2.2 - a.toNat) m:=by
 obtain⟨n,o,y,rfl⟩:=ZE j;obtain⟨e,z,j,p,vs,k,g⟩:=H;subst f;refine⟨⟨n,o,nJ⟩,?_,?_,?_,?_,(vs.take (b.toNat *r.sz)).drop (a.toNat *r.sz),(k.take _).drop _,?_⟩
 ·simp only[List.length_drop,List.length_take];omega
 ·dsimp only;omega
 ·dsimp only;omega
 ·intro h;dsimp only at h;cases hp:t.1 with
  |none=>rw[p hp];simp
  |some x=>
   rw[hp]at h;split at h<;>cases h
 ·intro i v d;rw[List.getElem?_drop,List.getElem?_take]at d;split at d
  ·rename_i q
   have⟨x,s,c⟩:=g _ v d;rw[s];dsimp only;split
   ·rename_i u
    have w:=k.length
    have:vs[a.toNat *r.sz+i]? =none:=by
     rw[oB];rw[w]
     have:l.length *r.sz≤a.toNat *r.sz:=pC _ nJ
     omega
    rw[this]at d;cases d
   ·exact⟨_,rfl,by rw[Aj];exact c⟩
  ·cases d
section
variable {φ:AD}{h:AH}{Γ:List Chk}{X:GE}
theorem StX.ro{α:Type}{r:Ro α}{cs:List sG}{x:α}(H:StX φ h (⟨Rep.ro r,cs,x⟩::Γ) X):r.is φ cs x∧StX φ h Γ X:=by obtain⟨F,a,_,H⟩:=H;exact⟨a.2,H.less λk b=>.inl b⟩
theorem St.ro{α:Type}{r:Ro α}{cs:List sG}{x:α}(H:St φ (⟨Rep.ro r,cs,x⟩::Γ) h):r.is φ cs x∧St φ Γ h:=StX.ro H
theorem St.unro{α:Type}{r:Ro α}{cs:List sG}{x:α}(H:St φ Γ h)(b:r.is φ cs x):St φ (⟨Rep.ro r,cs,x⟩::Γ) h:=
 ⟨λ_=>False,⟨λ_ h=>h,b⟩,λ_ a=>a.elim,H.less λ_ a=>a.elim id id⟩
theorem St.pair{α β:Type}{R:Rep α}{S:Rep β}{cs:List sG}{x:α×β}(H:St φ (⟨Rep.prod R S,cs,x⟩::Γ) h):∃a b,cs=a++b∧a.length=R.sz∧St φ (⟨R,a,x.1⟩::⟨S,b,x.2⟩::Γ) h:=by
 obtain⟨F,⟨a,b,A,B,rfl,e,i,hd,d⟩,f,H⟩:=H;refine⟨a,b,rfl,R.len e,A,e,λk c=>f k ((d k).2 (.inl c)),B,i,λk c=>⟨(f k ((d k).2 (.inr c))).1,λg=>?_⟩,H.less λk c=>?_⟩
 ·rcases g with g | g
  ·exact g
  ·exact hd k g c
 ·rcases c with(c | c)|c
  ·exact c.elim
  ·exact .inr ((d k).2 (.inl c))
  ·exact .inr ((d k).2 (.inr c))
theorem St.unpair{α β:Type}{R:Rep α}{S:Rep β}{a b:List sG}{x:α}{y:β}(H:St φ (⟨R,a,x⟩::⟨S,b,y⟩::Γ) h):St φ (⟨Rep.prod R S,a++b,(x,y)⟩::Γ) h:=by
 obtain⟨A,e,f,B,j,d,H⟩:=H;refine⟨λk=>A k∨B k,⟨a,b,A,B,rfl,e,j,λi l m=>(d i m).2 (.inr l),λ_=>rL⟩,λk c=>?_,H.less λk c=>?_⟩
 ·rcases c with c | c
  ·exact f k c
  ·exact⟨(d k c).1,λg=>g⟩
 ·rcases c with c | c | c
  ·exact c.elim
  ·exact .inl (.inr c)
  ·exact .inr c
theorem St.open{α:Type}{ty:sH}{R:Rep α}{cs:List sG}{x:α}(H:St φ (⟨Rep.obj ty R,cs,x⟩::Γ) h):
 ∃b vs,cs= [.pointer (some ⟨b,0,none⟩)] ∧vs.length=R.sz∧St φ (⟨Rep.raw ty,[.pointer (some ⟨b,0,none⟩)],vs⟩::⟨R,vs,x⟩::Γ) h:=by
 obtain⟨F,⟨b,vs,G,rfl,f,d,j,c⟩,e,H⟩:=H;refine⟨b,vs,rfl,R.len d,λi=>i=b,⟨b,rfl,f,λ_=>rL⟩,λk a=>e k ((c k).2 (.inl a)),G,d,λk a=>⟨(e k ((c k).2 (.inr a))).1,λg=>?_⟩,H.less λk a=>?_⟩
 ·rcases g with g | g
  ·exact g
  ·subst g;exact j a
 ·rcases a with(a | a)|a
  ·exact a.elim
  ·exact .inr ((c k).2 (.inl a))
  ·exact .inr ((c k).2 (.inr a))
theorem St.shut{α:Type}{ty:sH}{R:Rep α}{cs vs:List sG}{x:α}(H:St φ (⟨Rep.raw ty,cs,vs⟩::⟨R,vs,x⟩::Γ) h):St φ (⟨Rep.obj ty R,cs,x⟩::Γ) h:=by
 obtain⟨A,⟨b,rfl,e,c⟩,f,B,i,d,H⟩:=H;refine⟨λk=>k=b∨B k,⟨b,vs,B,rfl,e,i,λa=>(d b a).2 (.inr ((c b).2 rfl)),λ_=>rL⟩,λk a=>?_,H.less λk a=>?_⟩
 ·rcases a with a | a
  ·exact f k ((c k).2 a)
  ·exact⟨(d k a).1,λg=>g⟩
 ·rcases a with a | a | a
  ·exact a.elim
  ·exact .inl (.inr ((c k).2 a))
  ·exact .inr a
theorem St.new{ty:sH}(vs:List sG)(H:St φ Γ h):St φ (⟨Rep.raw ty,[.pointer (some ⟨h.size,0,none⟩)],vs⟩::Γ) (h.push (.cells vs.toArray ty (0,0))):=by
 have b:=H.sub;refine⟨λi=>i=h.size,⟨h.size,rfl,by rw[eE,mZ rfl],λ_=>rL⟩,λk a=>⟨?_,λg=>g⟩,?_⟩
 ·subst a;cases hφ:φ h.size with
  |none=>rfl
  |some o=>have:=BH (b _ _ hφ);omega
 ·refine StX.heap (StX.more H λk a=>?_) (λk a _=>by rw[eE];simp;omega) λi o c=>?_
  ·rcases a with a | a
   ·exact a.elim
   ·left;omega
  ·have d:=BH (b i o c);show(h.push _)[i]? =some o;rw[eE,nA nJ];exact b i o c
theorem St.nil{α:Type}(ty:sH)(r:Ro α)(H:St φ Γ h):St φ (⟨Rep.row ty r,[.slice none 0 0],[]⟩::Γ) h:=
 ⟨λ_=>False,⟨none,0,0,[],rfl,rfl,Nat.zero_le _,(λ_ _ _ h=>by cases h),.inl ⟨rfl,rfl,rfl,rfl⟩,.nil,λi=>by simp[blk]⟩,λ_ a=>a.elim,H.less λ_ a=>a.elim id id⟩
theorem St.lit{α:Type}{ty:sH}{r:Ro α}{b n:Nat}{vs:List sG}{l:List α}(H:St φ (⟨Rep.raw ty,[.pointer (some ⟨b,0,none⟩)],vs⟩::Γ) h)(d:r.All φ vs l)(g:l.length=n)(j:n≤maxLen):
 St φ (⟨Rep.row ty r,[.slice (some ⟨b,0,none⟩) n n],l⟩::Γ) h:=by obtain⟨F,⟨k,e,a,m⟩,o,H⟩:=H;cases e;refine⟨F,⟨_,n,n,vs,rfl,g,j,(λk off s e=>by cases e;exact⟨rfl,λp ty f c=>by rw[a]at c;cases c;simp[d.length,g]⟩),.inr ⟨b,0,vs.toArray,rfl,a,by rw[d.length,g],qC _,by simp[d.length,g],λi v q=>by simpa using q⟩,d,λi=>by rw[m];simp[blk]⟩,o,H⟩
def Frz{α:Type}(R:Rep α)(r:Ro α):Prop:= ∀ {φ ψ:AD}{h:AH}{F:GE}{cs:List sG}{x:α},R.is φ h F cs x→Sub φ ψ→(∀i,F i→ψ i=h[i]?)→r.is ψ cs x
theorem St.freeze{α:Type}{R:Rep α}{r:Ro α}{cs:List sG}{x:α}(c:Frz R r)(H:St φ (⟨R,cs,x⟩::Γ) h):∃ψ,Sub φ ψ∧r.is ψ cs x∧St ψ Γ h:=by
 classical
 obtain⟨F,d,f,H⟩:=H;have g:=H.sub;have le:Sub φ (λi=>if F i then h[i]? else φ i):=λi o a=>by
  show(if F i then h[i]? else φ i)=some o;rw[nA]
  ·exact a
  ·intro j;have e:=(f i j).1;rw[e]at a;cases a
 refine⟨λi=>if F i then h[i]? else φ i,le,c d le λi l=>mZ l,?_⟩;refine StX.less (StX.grow H le (λi o a=>?_) λk b m=>?_) λk b=>b.elim
 ·split at a
  ·exact a
  ·exact g i o a
 ·split at b
  ·exact .inr (by assumption)
  ·exact nC m b
theorem Jj{α:Type}(r:Ro α):Frz (Rep.ro r) r:=λh a _=>r.mono a h.2
theorem Gj{α β:Type}{R:Rep α}{S:Rep β}{r:Ro α}{s:Ro β}(e:Frz R r)(f:Frz S s):Frz (Rep.prod R S) (Ro.prod r s):=by rintro φ ψ h F cs x ⟨a,b,A,B,rfl,g,j,_,d⟩ hsub hψ;exact⟨a,b,rfl,e g hsub λi c=>hψ i ((d i).2 (.inl c)),f j hsub λi c=>hψ i ((d i).2 (.inr c))⟩
theorem OK{ψ:AD}{p:nG}{vs:List sG}(c:Cg h p vs)(d:∀i,i∈blk p→ψ i=h[i]?):Cv ψ p vs:=λi v f=>by
 obtain⟨a,rfl,b⟩:=c i v f;refine⟨a,rfl,?_⟩;have e:=d a.block (by simp[blk]);unfold Ef;rw[SY,e]
 have:Ef (Bo h) (a.add i)=some v:=b
 unfold Ef at this;rw[SY]at this;exact this
theorem Qe{α:Type}(ty:sH)(r:Ro α):Frz (Rep.row ty r) (Ro.list r):=by
 rintro φ ψ h F cs l ⟨p,n,c,vs,rfl,d,e,f,a,g,j⟩ hsub hψ;refine⟨(p,n,c),rfl,d,a.cap,e,λk=>?_,vs,g.mono hsub,OK a.cells λi m=>hψ i ((j i).2 m)⟩;rcases a with⟨_,o,_,_⟩|⟨b,off,arr,rfl,_⟩
 ·exact oI nJ
 ·cases k
theorem cU{α:Type}{ty:sH}{R:Rep α}{r:Ro α}(e:Frz R r):Frz (Rep.obj ty R) (Ro.via (Ro.ptr r) some):=by
 rintro φ ψ h F cs x ⟨b,vs,G,rfl,g,j,n,d⟩ hsub hψ;have k:Cg h (some ⟨b,0,none⟩) vs:=λi v l=>by
  refine⟨⟨b,0,none⟩,rfl,?_⟩;rw[EN,Gi (c:=vs.toArray) (t:=ty) (f:=(0,0)) g rfl];simpa using l
 have m:∀i,i∈blk (some (⟨b,0,none⟩:sK))→ψ i=h[i]? :=λi a=>by
  simp[blk]at a;rw[a];exact hψ b ((d b).2 (.inl rfl))
 exact⟨⟨b,0,none⟩,vs,rfl,e j hsub λi a=>hψ i ((d i).2 (.inr a)),OK k m⟩
theorem St.cell{ty:sH}{b j:Nat}{vs:List sG}(H:St φ (⟨Rep.raw ty,[.pointer (some ⟨b,0,none⟩)],vs⟩::Γ) h)(a:vs[j]? =some v):Bb h ⟨b,j,none⟩=some v:=by obtain⟨F,⟨g,e,d,i⟩,k,H⟩:=H;cases e;rw[Gi (c:=vs.toArray) (t:=ty) (f:=(0,0)) d rfl];simpa using a
theorem St.cells{ty:sH}{b:Nat}{vs:List sG}(H:St φ (⟨Rep.raw ty,[.pointer (some ⟨b,0,none⟩)],vs⟩::Γ) h):Cg h (some ⟨b,0,none⟩) vs:=λi v a=>⟨_,rfl,by rw[EN,pT];exact H.cell a⟩
theorem St.put{ty:sH}{b j:Nat}{vs:List sG}(v:sG)(H:St φ (⟨Rep.raw ty,[.pointer (some ⟨b,0,none⟩)],vs⟩::Γ) h)(s:j<vs.length):
 (Bb h ⟨b,j,none⟩).isSome=true∧HG h ⟨b,j,none⟩=false∧St φ (⟨Rep.raw ty,[.pointer (some ⟨b,0,none⟩)],vs.set j v⟩::Γ) (Cm h ⟨b,j,none⟩ v):=by
 obtain⟨F,⟨u,e,d,m⟩,n,H⟩:=H;cases e;refine⟨?_,?_,F,⟨b,rfl,?_,m⟩,n,?_⟩
 ·rw[Gi (c:=vs.toArray) (t:=ty) (f:=(0,0)) d rfl];simp;omega
 ·unfold HG E9 qB;simp[d]
 ·rw[IP d];simp
 ·have p:=H.sub;have a:∀k,¬F k→(Cm h ⟨b,j,none⟩ v)[k]? =h[k]? :=λk q=>IN λe=>q ((m k).2 e);refine StX.heap H (λk _ r=>a k λg=>r (.inr g)) λi o l=>?_;show(Cm h _ v)[i]? =some o;rw[a i λg=>by rw[(n i g).1]at l;cases l];exact p i o l
theorem St.get{α:Type}{ty:sH}{r:Ro α}{l:List α}{x:α}(H:St φ (⟨Rep.row ty r,[.slice t.1 t.2.1 t.2.2],l⟩::Γ) h)(g:idx l i=some x):
 ∃a cs,t.1=some a∧(0≤i∧i< (t.2.1:Nat))∧r.is φ cs x∧ ∀j v,cs[j]? =some v→Bb h (a.add (i.toNat *r.sz+j))=some v:=by
 obtain⟨F,⟨p,n,c,vs,e,o,D,s,q,u,E⟩,G,H⟩:=H;have o:l.length=n:=o;simp only[List.cons.injEq,Value.slice.injEq,and_true]at e;obtain⟨w,y,I⟩:=e;have⟨z,J,g⟩:=B9 g;have⟨cs,A,k⟩:=u.at g;have d:=q.cells;rw[w];cases p with
 |none=>
  rcases q with⟨_,B,_,_⟩|⟨b,off,arr,hp,_⟩
  ·omega
  ·cases hp
 |some a=>
  refine⟨a,cs,rfl,⟨z,by rw[y];omega⟩,A,λj v C=>?_⟩;obtain⟨K,m,f⟩:=d _ v (k j v C);cases m;exact f
theorem St.rowLen{α:Type}{ty:sH}{r:Ro α}{l:List α}(H:St φ (⟨Rep.row ty r,[.slice t.1 t.2.1 t.2.2],l⟩::Γ) h):t.2.1=l.length:=by obtain⟨F,⟨p,n,c,vs,e,a,d,b,f,g,i⟩,j,H⟩:=H;have a:l.length=n:=a;simp only[List.cons.injEq,Value.slice.injEq,and_true]at e;omega
theorem St.rowMax{α:Type}{ty:sH}{r:Ro α}{l:List α}(H:St φ (⟨Rep.row ty r,[.slice t.1 t.2.1 t.2.2],l⟩::Γ) h):l.length≤maxLen:=by
 obtain⟨F,⟨p,n,c,vs,e,a,f,b,d,g,i⟩,j,H⟩:=H
 have:=d.cap
 have a:l.length=n:=a;omega
theorem St.all{α:Type}{ty:sH}{r:Ro α}{l:List α}(H:St φ (⟨Rep.row ty r,[.slice t.1 t.2.1 t.2.2],l⟩::Γ) h):∃vs,r.All φ vs l∧Cg h t.1 vs:=by obtain⟨F,⟨p,n,c,vs,e,a,g,b,d,f,i⟩,j,H⟩:=H;have a:l.length=n:=a;simp only[List.cons.injEq,Value.slice.injEq,and_true]at e;rw[e.1];exact⟨vs,f,d.cells⟩
end
section
variable {P:sI}{Q:Bl→AH→Prop}{φ:AD}{h:AH}{Γ:List Chk}
theorem AU{ty:sH}{vs:List sG}{k:Nat→T}(H:St φ Γ h)(a:∀r h',St φ (⟨Rep.raw ty,[.pointer (some ⟨r,0,none⟩)],vs⟩::Γ) h'→(k r).wp P Q h'):(T.new (.cells vs.toArray ty (0,0)) k).wp P Q h:=
 ZB (a _ _ (H.new vs))
theorem AF{s:Bc}{a:sK}{k:s.Ty→T}{x:s.Ty}(b:Bb h a=some v)(c:v=s.val x)(H:(k x).wp P Q h):(T.load s a k).wp P Q h:=PL x (by rw[b,c]) H
theorem AA{s:Bc}{ty:sH}{b j:Nat}{vs:List sG}{k:s.Ty→T}{x:s.Ty}(H:St φ (⟨Rep.raw ty,[.pointer (some ⟨b,0,none⟩)],vs⟩::Γ) h)(a:vs[j]? =some (s.val x))(c:(k x).wp P Q h):(T.load s ⟨b,j,none⟩ k).wp P Q h:=
 PL x (H.cell a) c
theorem Cr{ty:sH}{b j:Nat}{vs:List sG}{k:T}(H:St φ (⟨Rep.raw ty,[.pointer (some ⟨b,0,none⟩)],vs⟩::Γ) h)(a:Value.plain v=true)(c:j<vs.length)
 (d:∀h',St φ (⟨Rep.raw ty,[.pointer (some ⟨b,0,none⟩)],vs.set j v⟩::Γ) h'→k.wp P Q h'):(T.store ⟨b,j,none⟩ v k).wp P Q h:=by have⟨e,f,g⟩:=H.put v c;exact TR a e f (d _ g)
theorem FH{α:Type}{ty:sH}{r:Ro α}{l m:List α}{x:α}{k:T}{a:sK}(H:St φ (⟨Rep.row ty r,[.slice t.1 t.2.1 t.2.2],l⟩::Γ) h)(M:DQ l i x=some m)(I:r.is φ [v] x)(N:t.1=some a)
 (G:∀h',St φ (⟨Rep.row ty r,[.slice t.1 t.2.1 t.2.2],m⟩::Γ) h'→k.wp P Q h'):(T.store (a.add (i.toNat *1)) v k).wp P Q h:=by
 obtain⟨F,⟨p,n,c,vs,e,J,X,K,E,d,O⟩,R,H⟩:=H;have J:l.length=n:=J;simp only[List.cons.injEq,Value.slice.injEq,and_true]at e;obtain⟨S,Y,Z⟩:=e;obtain⟨h0,h1,rfl⟩:=EL M;have q:r.sz=1:=(r.len I).symm;rw[S]at N;subst N;rcases E with⟨L,_⟩|⟨b,off,arr,L,C,g1,g2,g3,g4⟩
 ·cases L
 ·cases L;rw[q]at g1 g3;have a0:off+i.toNat<arr.size:=nJ
  have z:(qX ⟨b,off,none⟩ (i.toNat *1))=⟨b,off+i.toNat,none⟩:=by rw[EN,Nat.mul_one]
  rw[z];have A:=IP (off:=off+i.toNat) (v:=v) C;refine TR (r.plain I v nP) ?_ ?_ (G _ ?_)
  ·rw[Gi (c:=arr) (t:=ty) (f:=(0,0)) C rfl];simp;omega
  ·unfold HG E9 qB;simp[C]
  ·have hs:=H.sub;have B:∀k,¬F k→(Cm h ⟨b,off+i.toNat,none⟩ v)[k]? =h[k]? :=λk G=>IN λe=>G ((O k).2 (by simp[blk];exact e));refine⟨F,⟨some ⟨b,off,none⟩,n,c,vs.set i.toNat v,by rw[S,Y,Z],by simp;exact J,X,(λb' U s' e=>by cases e;have⟨q1,q2⟩:=K _ _ _ rfl;exact⟨q1,λV a1 f' s=>by rw[A]at s;cases s;rw[pI];exact q2 _ _ _ C⟩),.inr ⟨b,off,_,rfl,A,by simp[q];omega,g2,by simp[q];omega,λj u D=>?_⟩,?_,O⟩,R,StX.heap H (λk _ hX=>B k λg=>hX (.inr g)) λj o E=>?_⟩
   ·rw[rY]at D;split at D
    ·rename_i hj
     subst hj;split at D
     ·cases D;rw[oK];simp;omega
     ·cases D
    ·rw[bO nJ];exact g4 j u D
   ·clear G A B M
    have:∀ {vs:List sG} {l:List α},r.All φ vs l→ ∀i:Nat,r.All φ (vs.set i v) (l.set i x):=by
     intro vs l d
     induction d with
     |nil=>intro i;simp;exact .nil
     | @cons a b y l W C ih=>
      intro i;have hl:a.length=1:=by rw[r.len W,q]
      match a,hl with
      | [w],_=>
       cases i with
       |zero=>exact .cons (a:=[v]) I C
       |succ i=>exact .cons (a:=[w]) W (ih i)
    exact this d i.toNat
   ·show(Cm h _ v)[j]? =some o;rw[B j λg=>by rw[(R j g).1]at E;cases E];exact hs j o E
theorem AV{α:Type}{st N W j:sH}{sz:Nat}{r:Ro α}{p O:nG}{n c m X:Nat}{l l':List α}{ms:List α}{B:List sG}{k:Slc→T}(A:Fy P st N j sz)
 (H:St φ (⟨Rep.row j r,[.slice p n c],l⟩::Γ) h) (C:r.sz=sz) (Y:Cg h O B) (D:r.All φ B ms) (Z:ms.length=m) (hD:app l ms=some l')
 (a:∀(t:Slc) u,St φ (⟨Rep.row j r,[.slice t.1 t.2.1 t.2.2],l'⟩::Γ) u→(k t).wp P Q u):
 (T.sem (qD #[st,N] W #[.slice p n c,.slice O m X]) (.one (.atom .slice)) k).wp P Q h:=by
 obtain⟨F,⟨y,z,E,vs,e,R,hc,G,q,v,I⟩,S,H⟩:=H;have R:l.length=z:=R;simp only[List.cons.injEq,Value.slice.injEq,and_true]at e;obtain⟨rfl,rfl,rfl⟩:=e;obtain⟨a0,rfl⟩:=JD hD;subst C;have J:=H.sub;refine t_sem (Vx A q Y (by rw[D.length,Z]) D.plain nJ λy E u o' k' z U=>⟨(y,n+m,E),rfl,a _ _ ?_⟩);have w:∀k,k<h.size→ ¬F k→u[k]? =h[k]? :=λk a K=>k'.2 k a λhb=>K ((I k).2 hb);refine⟨λi=>i∈blk y,⟨y,n+m,E,vs++B,rfl,nN,?_,?_,o',v.append D,λi=>rL⟩,λk a=>⟨?_,λg=>g⟩,?_⟩
 ·rcases U with⟨_,rfl,_⟩|⟨_,g,_⟩
  ·exact hc
  ·exact g
 ·intro b off s e;rcases U with⟨rfl,rfl,g⟩|⟨rfl,_,L,g1,g2⟩
  ·subst e;have⟨q1,q2⟩:=G _ _ _ rfl;refine⟨q1,λL ty f d=>?_⟩;rcases q with⟨M,_⟩|⟨b',off',x,M,hb',_⟩
   ·cases M
   ·cases M;have⟨V,e1,e2⟩:=g _ _ rfl _ _ hb';rw[e1]at d;cases d;rw[e2];exact q2 _ _ _ hb'
  ·cases e;refine⟨rfl,λx ty f d=>?_⟩;rw[g1]at d;cases d;exact g2
 ·rcases z k a with g | g
  ·exact(S k ((I k).2 g)).1
  ·cases hφ:φ k with
   |none=>rfl
   |some o=>have:=BH (J _ _ hφ);omega
 ·have H1:StX φ h Γ (λk=>F k∨h.size≤k):=StX.more H λk a=>by
   rcases a with a | a
   ·exact .inr (.inl (.inr a))
   ·exact .inl a
  have H2:StX φ u Γ (λk=>F k∨h.size≤k):=StX.heap H1 (λk a hX=>w k a λg=>hX (.inl g)) λi o q=>by
   show u[i]? =some o;rw[w i (BH (J i o q)) λg=>by rw[(S i g).1]at q;cases q];exact J i o q
  refine H2.less λk a=>?_;rcases a with a | a
  ·exact a.elim
  ·exact(z k a).imp (λg=>(I k).2 g) id
theorem AK{f:FuncId}{args:List sG}{a:Sh}{k:a.Ty→T}{S:sG→AH→Prop}(b:nX P f args h (An S))(c:∀v h',S v h'→ ∃x,v=a.val x∧(k x).wp P Q h'):(T.call f args a k).wp P Q h:=
 cT b c
theorem SZ{p:Nat→Prop}(h:∃n,p n):∃n,p n∧ ∀m,p m→n≤m:=by
 obtain⟨n,c⟩:=h
 induction n using Nat.strongRecOn with
 |ind n d=>
  by_cases b:∃m,m<n∧p m
  ·obtain⟨m,a,e⟩:=b;exact d m a e
  ·refine⟨n,c,λm a=>?_⟩;rcases oH m n with g | g
   ·exact nC ⟨m,g,a⟩ b
   ·exact g
def fW{γ:Type}(ss:List Sh1)(M:Shs.Ty ss→AH→γ→Prop)(g:γ)(Q:Bl→AH→Prop)(a:Bl)(b:AH):Prop:=match a with
 |.out vs=>∃y,Shs.of ss vs=some y∧M y b g
 |a=>Q a b
theorem AY{γ:Type}{ss:List Sh1}{x:T}{k:Shs.Ty ss→T}(M:Shs.Ty ss→AH→γ→Prop){g:γ}(H:x.wp P (fW ss M g Q) h)(b:∀y a,M y a g→(k y).wp P Q a):(T.join ss x k).wp P Q h:=
 cP (λy a=>M y a g) (T.wp_mono x (λc a d=>by cases c<;>exact d) H) b
theorem AN{γ:Type}{ss:List Sh1}{M:Shs.Ty ss→AH→γ→Prop}{g:γ}{vs:List sG}(y:Shs.Ty ss)(a:Shs.of ss vs=some y)(b:M y h g):(T.out vs).wp P (fW ss M g Q) h:=⟨y,a,b⟩
theorem ZF{γ:Type}{ss:List Sh1}{M:Shs.Ty ss→AH→γ→Prop}{g:γ}(H:Q (.ret v) h):fW ss M g Q (.ret v) h:=H
def IQ{γ:Type}(id:Nat)(ss:List Sh1)(M:Shs.Ty ss→AH→γ→Prop)(g:γ)(Q:Bl→AH→Prop)(b:Bl)(a:AH):Prop:=match b with
 |.out vs=>∃y,Shs.of ss vs=some y∧M y a g
 |.brk id' vs=>bif oA id' id then(∃y,Shs.of ss vs=some y∧M y a g) else Q (.brk id' vs) a
 |b=>Q b a
theorem Af{γ:Type}{id:Nat}{ss:List Sh1}{x:T}{k:Shs.Ty ss→T}(M:Shs.Ty ss→AH→γ→Prop){g:γ}(H:x.wp P (IQ id ss M g Q) h)(b:∀y a,M y a g→(k y).wp P Q a):(T.block id ss x k).wp P Q h:=
 ZD (λy a=>M y a g) (T.wp_mono x (λc a d=>by cases c<;>exact d) H) b
section
variable {γ:Type}{id:Nat}{ss:List Sh1}{M:Shs.Ty ss→AH→γ→Prop}{g:γ}
theorem FV{vs:List sG}(y:Shs.Ty ss)(a:Shs.of ss vs=some y)(b:M y h g):(T.out vs).wp P (IQ id ss M g Q) h:=⟨y,a,b⟩
theorem Qw{vs:List sG}(y:Shs.Ty ss)(a:Shs.of ss vs=some y)(b:M y h g):(T.brk id vs).wp P (IQ id ss M g Q) h:=by
 show IQ id ss M g Q (.brk id vs) h;unfold IQ
 have:oA id id=true:=nP
 simp only[this,cond_true];exact⟨y,a,b⟩
theorem AL{vs:List sG}(y:Shs.Ty ss)(a:Shs.of ss vs=some y)(b:M y h g):IQ id ss M g Q (.brk id vs) h:=by
 unfold IQ
 have:oA id id=true:=nP
 simp only[this,cond_true];exact⟨y,a,b⟩
theorem Ah(H:Q (.ret v) h):IQ id ss M g Q (.ret v) h:=H
theorem Fi{a:Nat}{vs:List sG}(b:oA a id=false)(H:Q (.brk a vs) h):IQ id ss M g Q (.brk a vs) h:=by unfold IQ;simp only[b,cond_false];exact H
end
def G7{σ:Type}(ss:List Sh1)(I:Shs.Ty ss→AH→σ→Prop)(e:Option σ)(Q:Bl→AH→Prop)(a:Bl)(b:AH):Prop:=match a with
 |.out vs=>∃y s,Shs.of ss vs=some y∧e=some s∧I y b s
 |a=>Q a b
def AX.go{σ β:Type}:AX σ β→Option σ
 |.next s=>some s
 |.done _=>none
theorem Bx{σ β:Type}{ss:List Sh1}{i:List sG}{body:Shs.Ty ss→T}{d:σ→Option (AX σ β)}{p:σ}{b:β}(x:loop p d=some b)(I:Shs.Ty ss→AH→σ→Prop){q:Shs.Ty ss}(z:Shs.of ss i=some q)(A:I q h p)
 (B:∀y h s e,I y h s→d s=some e→(∀m,e= .done m→m=b)→(body y).wp P (G7 ss I e.go Q) h):(T.loop ss i body).wp P Q h:=by
 have⟨C,r⟩:=FG.1 x
 classical
 let μ:Shs.Ty ss→AH→Nat:=λy h=>if j:∃n s,I y h s∧Ih d n s=some b then(SZ j).choose else 0
 refine fU (λy h=>∃n s,I y h s∧Ih d n s=some b) μ q z ⟨C,p,A,r⟩ λy g j=>?_;obtain⟨⟨s,D,a⟩,k⟩:=(SZ j).choose_spec;have E:μ y g=(SZ j).choose:=dif_pos j;rw[E]
 generalize (SZ j).choose=n at a k
 cases n with
 |zero=>cases a
 |succ n=>
  simp only[Ih]at a;cases hd:d s with
  |none=>rw[hd]at a;cases a
  |some e=>
   rw[hd]at a;refine T.wp_mono _ (λF u o=>?_) (B y g s e D hd λm G=>by subst G;exact Option.some.inj a);cases F with
   |out vs=>
    obtain⟨t,s',H,w,l⟩:=o;cases e with
    |done m=>cases w
    |next J=>
     cases w;have f:∃n s,I t u s∧Ih d n s=some b:=⟨n,_,l,a⟩;refine X2 t H f ?_;have K:μ t u=(SZ f).choose:=dif_pos f;have L:=(SZ f).choose_spec.2 n ⟨_,l,a⟩;omega
   |brk id vs=>exact o
   |ret v=>exact o
   |pan c=>exact o
theorem Ac{σ:Type}{ss:List Sh1}{I:Shs.Ty ss→AH→σ→Prop}{e:Option σ}{vs:List sG}(y:Shs.Ty ss)(s:σ)(a:Shs.of ss vs=some y)(b:e=some s)(c:I y h s):(T.out vs).wp P (G7 ss I e Q) h:=⟨y,s,a,b,c⟩
theorem AJ{σ:Type}{ss:List Sh1}{I:Shs.Ty ss→AH→σ→Prop}{e:Option σ}{id:Nat}{vs:List sG}(H:Q (.brk id vs) h):G7 ss I e Q (.brk id vs) h:=H
theorem Ak{σ:Type}{ss:List Sh1}{I:Shs.Ty ss→AH→σ→Prop}{e:Option σ}(H:Q (.ret v) h):G7 ss I e Q (.ret v) h:=H
theorem Vz{σ β:Type}{f:Int→σ→Option (AX σ β)}{e:Int}{r:AX σ β}:∀ {n:Nat}{i:Int}{s:σ},(e - i).toNat=n→Ka f n i s=some r→
 loop (i,s) (λx=>if x.1<e then(f x.1 x.2).bind λq=>match q with | .next s'=>some (.next (x.1+1,s'))|.done b=>some (.done (AX.done b)) else some (.done (.next x.2)))=some r:=by
 intro n
 induction n with
 |zero=>
  intro i s a h;rw[TV,nA nO];exact h
 |succ n c=>
  intro i s a h;rw[TV,mZ nO];simp only[Ka]at h;dsimp only;cases hf:f i s with
  |none=>rw[hf]at h;cases h
  |some q=>
   rw[hf]at h;cases q with
   |done b=>exact h
   |next s'=>exact c nJ h
theorem PM{σ β:Type}{ss:List Sh1}{b:List sG}{body:Shs.Ty ss→T}{f:Int→σ→Option (AX σ β)}{o:σ}{r:AX σ β}(k:C6 i0 e0 o f=some r)(I:Int→Shs.Ty ss→AH→σ→Prop){p:Shs.Ty ss}(z:Shs.of ss b=some p)(A:I i0 p h o)
 (B:∀i y h s e,I i y h s→f i s=some e→i0≤i→i<e0→pF .i64 (i+1)=i+1→(∀l,e= .done l→r= .done l)→(body y).wp P (G7 ss (I (i+1)) e.go Q) h)
 (C:∀i y h s,I i y h s→e0≤i→r= .next s→(body y).wp P (G7 ss (I i) (none:Option σ) Q) h):(T.loop ss b body).wp P Q h:=by
 unfold C6 at k;split at k
 ·rename_i F
  have a:=Vz rfl k;refine Bx a (λy h x=>i0≤x.1∧I x.1 y h x.2) z ⟨Int.le_refl _,A⟩ λy h x e ⟨m,t⟩ he hb=>?_;by_cases d:x.1<e0
  ·rw[mZ d]at he;cases hf:f x.1 x.2 with
   |none=>rw[hf]at he;cases he
   |some q=>
    rw[hf]at he;refine T.wp_mono _ (λn D a=>?_) (B x.1 y h x.2 q t hf m d (w64 nJ nJ) λl g=>?_)
    ·cases n with
     |out vs=>
      obtain⟨u,s',w,g,j⟩:=a;cases q with
      |done l=>cases g
      |next E=>
       cases g;cases he;exact⟨u,_,w,rfl,nO,j⟩
     |brk id vs=>exact a
     |ret v=>exact a
     |pan c=>exact a
    ·subst g;cases he;exact(hb _ rfl).symm
  ·rw[nA d]at he;cases he;refine T.wp_mono _ (λn D a=>?_) (C x.1 y h x.2 t nJ (hb _ rfl).symm);cases n with
   |out vs=>obtain⟨u,s',w,g,j⟩:=a;cases g
   |brk id vs=>exact a
   |ret v=>exact a
   |pan c=>exact a
 ·cases k
theorem X4{σ:Type}{f:Int→σ→Option σ}:∀ {n:Nat}{i:Int}{s r:σ},Ng f n i s=some r→Ka (β:=Empty) (λi s=>(f i s).map AX.next) n i s=some (.next r):=by
 intro n
 induction n with
 |zero=>intro i s r h;simp only[Ng]at h;simp only[Ka];cases h;rfl
 |succ n a=>
  intro i s r h;simp only[Ng]at h;simp only[Ka];cases hf:f i s with
  |none=>rw[hf]at h;cases h
  |some s'=>rw[hf]at h;exact a h
theorem By{σ:Type}{ss:List Sh1}{a:List sG}{body:Shs.Ty ss→T}{f:Int→σ→Option σ}{d r:σ}(c:forS i0 e0 d f=some r)(I:Int→Shs.Ty ss→AH→σ→Prop){k:Shs.Ty ss}(l:Shs.of ss a=some k)(m:I i0 k h d)
 (n:∀i y h s e,I i y h s→f i s=some e→i0≤i→i<e0→pF .i64 (i+1)=i+1→(body y).wp P (G7 ss (I (i+1)) (some e) Q) h)
 (o:∀i y h,I i y h r→e0≤i→(body y).wp P (G7 ss (I i) (none:Option σ) Q) h):(T.loop ss a body).wp P Q h:=by
 unfold forS at c;split at c
 ·rename_i p
  have g:C6 (β:=Empty) i0 e0 d (λi s=>(f i s).map AX.next)=some (.next r):=by
   unfold C6;rw[mZ p];exact X4 c
  refine PM g I l m (λi y h s e j b q t u w=>?_) λi y h s j b v=>?_
  ·cases hf:f i s with
   |none=>rw[hf]at b;cases b
   |some s'=>
    rw[hf]at b;cases b;exact n i y h s s' j hf q t u
  ·cases v;exact o i y h j b
 ·cases c
theorem BD{σ:Type}{id:Nat}{ss:List Sh1}{a:List sG}{body k:Shs.Ty ss→T}{f:Int→σ→Option σ}{b r:σ}(d:forS i0 e0 b f=some r)(I:Int→Shs.Ty ss→AH→σ→Prop){c:Shs.Ty ss}(j:Shs.of ss a=some c)(l:I i0 c h b)
 (m:∀i y h s e,I i y h s→f i s=some e→i0≤i→i<e0→pF .i64 (i+1)=i+1→(body y).wp P (G7 ss (I (i+1)) (some e) (IQ id ss (λy h g=>∃i,I i y h g) r Q)) h)
 (n:∀i y h,I i y h r→e0≤i→(body y).wp P (G7 ss (I i) (none:Option σ) (IQ id ss (λy h g=>∃i,I i y h g) r Q)) h)
 (o:∀y h',(∃i,I i y h' r)→(k y).wp P Q h'):(T.block id ss (T.loop ss a body) k).wp P Q h:=
 Af (λy h g=>∃i,I i y h g) (By d I j l m n) o
theorem BQ{σ β:Type}{id:Nat}{ss:List Sh1}{a:List sG}{body k:Shs.Ty ss→T}{f:Int→σ→Option (AX σ β)}{b:σ}{r:AX σ β}(d:C6 i0 e0 b f=some r)(I:Int→Shs.Ty ss→AH→σ→Prop){c:Shs.Ty ss}(j:Shs.of ss a=some c)(l:I i0 c h b)
 (m:∀i y h s e,I i y h s→f i s=some e→i0≤i→i<e0→pF .i64 (i+1)=i+1→(∀b',e= .done b'→r= .done b')→(body y).wp P (G7 ss (I (i+1)) e.go (IQ id ss (λy h g=>∃s,AX.next s=g∧ ∃i,I i y h s) r Q)) h)
 (n:∀i y h s,I i y h s→e0≤i→r= .next s→(body y).wp P (G7 ss (I i) (none:Option σ) (IQ id ss (λy h g=>∃s,AX.next s=g∧ ∃i,I i y h s) r Q)) h)
 (o:∀y h',(∃s,AX.next s=r∧ ∃i,I i y h' s)→(k y).wp P Q h'):(T.block id ss (T.loop ss a body) k).wp P Q h:=
 Af (λy h g=>∃s,AX.next s=g∧ ∃i,I i y h s) (PM d I j l m n) o
def need{α:Type}(p:Prop)[Decidable p](k:Option α):Option α:=if p then k else none
theorem CG{α:Type}{p:Prop}[Decidable p]{k:Option α}{x:α}(h:need p k=some x):p∧k=some x:=by
 unfold need at h;split at h
 ·exact⟨by assumption,h⟩
 ·cases h
def AX.get{σ:Type}:AX σ σ→σ
 |.next s=>s
 |.done s=>s
theorem AE{γ:Type}{b a:Bool}{x y:T}{c d:Option γ}{g:γ}(hd:cond a c d=some g)(e:b=a)(f:a=true→c=some g→x.wp P Q h)(i:a=false→d=some g→y.wp P Q h):(cond b x y).wp P Q h:=by
 subst e;cases b
 ·exact i rfl hd
 ·exact f rfl hd
theorem DM{γ:Type}{p a:Prop}[Decidable p][Decidable a]{k:T}{d:Option γ}{g:γ}(hd:need a d=some g)(e:a→p)(c:a→d=some g→k.wp P Q h):(chk p k).wp P Q h:=by have⟨b,f⟩:=CG hd;exact Ai (e b) (c b f)
theorem St.at1{a b:Chk}(H:St φ (a::b::Γ) h):St φ (b::a::Γ) h:=H.perm (qL b a Γ)
theorem St.at2{a b c:Chk}(H:St φ (a::b::c::Γ) h):St φ (c::a::b::Γ) h:=H.perm (BP 2 (a::b::c::Γ))
theorem St.at3{a b c d:Chk}(H:St φ (a::b::c::d::Γ) h):St φ (d::a::b::c::Γ) h:=H.perm (BP 3 (a::b::c::d::Γ))
theorem St.at4{a b c d e:Chk}(H:St φ (a::b::c::d::e::Γ) h):St φ (e::a::b::c::d::Γ) h:=H.perm (BP 4 (a::b::c::d::e::Γ))
theorem St.at5{a b c d e f:Chk}(H:St φ (a::b::c::d::e::f::Γ) h):St φ (f::a::b::c::d::e::Γ) h:=H.perm (BP 5 (a::b::c::d::e::f::Γ))
theorem St.at6{a b c d e f g:Chk}(H:St φ (a::b::c::d::e::f::g::Γ) h):St φ (g::a::b::c::d::e::f::Γ) h:=H.perm (BP 6 (a::b::c::d::e::f::g::Γ))
theorem St.at7{a b c d e f g i:Chk}(H:St φ (a::b::c::d::e::f::g::i::Γ) h):St φ (i::a::b::c::d::e::f::g::Γ) h:=H.perm (BP 7 (a::b::c::d::e::f::g::i::Γ))
theorem St.at8{a b c d e f g i j:Chk}(H:St φ (a::b::c::d::e::f::g::i::j::Γ) h):St φ (j::a::b::c::d::e::f::g::i::Γ) h:=H.perm (BP 8 (a::b::c::d::e::f::g::i::j::Γ))
theorem St.at9{a b c d e f g i j k:Chk}(H:St φ (a::b::c::d::e::f::g::i::j::k::Γ) h):St φ (k::a::b::c::d::e::f::g::i::j::Γ) h:=H.perm (BP 9 (a::b::c::d::e::f::g::i::j::k::Γ))
theorem Ro.SliceIs.heap{α:Type}{r:Ro α}{l:List α}(H:Ro.SliceIs r φ t l)(a:Sub φ (Bo h)):∃vs,r.All φ vs l∧Cg h t.1 vs:=by obtain⟨_,_,_,_,vs,b,c⟩:=H;exact⟨vs,b,c.heap a⟩
theorem St.rowCs{α:Type}{ty:sH}{r:Ro α}{cs:List sG}{l:List α}(H:St φ (⟨Rep.row ty r,cs,l⟩::Γ) h):∃t:Slc,cs= [.slice t.1 t.2.1 t.2.2]:=by obtain⟨F,⟨p,n,c,vs,e,_⟩,_⟩:=H;exact⟨(p,n,c),e⟩
theorem St.freezeRow{α:Type}{ty:sH}{r:Ro α}{l:List α}(H:St φ (⟨Rep.row ty r,[.slice t.1 t.2.1 t.2.2],l⟩::Γ) h):∃ψ,Sub φ ψ∧Ro.SliceIs r ψ t l∧St ψ Γ h:=by
 obtain⟨ψ,j,⟨d,e,k⟩,m⟩:=H.freeze (Qe ty r);simp only[List.cons.injEq,Value.slice.injEq,and_true]at e;obtain⟨f,g,i⟩:=e
 have:t=d:=by
  obtain⟨a,b,c⟩:=t;obtain⟨n,o,p⟩:=d;simp only at f g i;rw[f,g,i]
 subst this;exact⟨ψ,j,k,m⟩
theorem St.there{α:Type}{ty:sH}{r:Ro α}{l m:List α}{x:α}(H:St φ (⟨Rep.row ty r,[.slice t.1 t.2.1 t.2.2],l⟩::Γ) h)(d:DQ l i x=some m):∃a,t.1=some a∧(0≤i∧i< (t.2.1:Nat)):=by
 have⟨e,c,_⟩:=EL d;have b:i.toNat<l.length:=nJ
 have:idx l i=some l[i.toNat]:=by unfold idx;rw[mZ e];exact oR b
 have⟨a,_,c,f,_⟩:=H.get this;exact⟨a,c,f⟩
theorem Cv.at{a:sK}{vs:List sG}(H:Cv φ (some a) vs)(j:Nat)(b:vs[j]? =some v):Ef φ (a.add j)=some v:=by obtain⟨d,e,c⟩:=H j v b;cases e;exact c
theorem St.keep{a:AH}(H:St φ Γ h)(b:Sub (Bo h) (Bo a)):St φ Γ a:=by refine StX.heap H (λk c _=>?_) (H.sub.trans b);have d:Bo h k=some h[k]:=pH c;have e:=b _ _ d;show a[k]? =h[k]?;have f:a[k]? =some h[k]:=e;rw[f,pH c]
end
end
def defers(ops:Array Oper):Bool:=match ops[ops.size - 1]? with
 |some o=>match o.op with
  |.defer _=>true
  |_=>false
 |none=>false
section
variable {P:sI}{ops:Array Oper}
end
section
variable {P:sI}{Q:Bl→AH→Prop}{φ:AD}{h:AH}{Γ:List Chk}
theorem St.ptr{α:Type}{ty:sH}{R:Rep α}{p:nG}{x:α}(H:St φ (⟨Rep.obj ty R,[.pointer p],x⟩::Γ) h):∃b,p=some ⟨b,0,none⟩:=by obtain⟨b,vs,e,_⟩:=H.open;exact⟨b,by simpa using e⟩
end
end Go.Eng
namespace Go.Eng
open Go Go.Sort
theorem St.rowPut{α:Type}{φ:AD}{h y:AH}{Γ:List Chk}{ty:sH}{r:Ro α}{t:Slc}{l m:List α}{g:List sG}
 (H:St φ (⟨Rep.row ty r,[.slice t.1 t.2.1 t.2.2],l⟩::Γ) h) (q:r.All φ g m) (K:m.length=l.length)
 (hb:∀b off,t.1=some ⟨b,off,none⟩→ ∀arr,h[b]? =some (.cells arr ty (0,0))→ ∃a,y[b]? =some (.cells a ty (0,0))∧a.size=arr.size∧ ∀i v,g[i]? =some v→a[off+i]? =some v)
 (V:∀k,k<h.size→(∀b off,t.1=some ⟨b,off,none⟩→k≠b)→y[k]? =h[k]?):St φ (⟨Rep.row ty r,[.slice t.1 t.2.1 t.2.2],m⟩::Γ) y:=by
 have W:=H.sub;obtain⟨F,⟨p,n,c,vs,e,A,X,L,z,M,N⟩,O,H⟩:=H;have A:l.length=n:=A;simp only[List.cons.injEq,Value.slice.injEq,and_true]at e;obtain⟨J,Y,Z⟩:=e;have B:g.length=n *r.sz:=by rw[q.length,K,A]
 rcases z with⟨u,C,P,a0⟩|⟨b,off,arr,u,D,g1,g2,g3,g4⟩
 ·have Q:∀b off,t.1≠some ⟨b,off,none⟩:=λb off d=>by rw[J,u]at d;cases d
  have s:∀k,k<h.size→y[k]? =h[k]? :=λk f=>V k f λb off d=>nC d (Q b off);refine⟨F,⟨p,n,c,g,by rw[J,Y,Z],by rw[K];exact A,X,?_,.inl ⟨u,C,P,?_⟩,q,N⟩,O,StX.heap H (λk f _=>s k f) λj o z=>?_⟩
  ·intro b' w s' d;rw[u]at d;cases d
  ·exact oI (by rw[B,C];omega)
  ·have E:=W j o z
   have:=BH E
   show y[j]? =some o;rw[s j this];exact E
 ·have G:t.1=some ⟨b,off,none⟩:=by rw[J,u]
  obtain⟨a,a1,a2,a3⟩:=hb b off G arr D;have s:∀k,k<h.size→k≠b→y[k]? =h[k]? :=λk f R=>V k f λb' w d=>by rw[G]at d;cases d;exact R
  have I:F b:=(N b).2 (by rw[u];simp[blk]);refine⟨F,⟨p,n,c,g,by rw[J,Y,Z],by rw[K];exact A,X,?_,.inr ⟨b,off,a,u,a1,B,g2,by rw[a2];exact g3,a3⟩,q,N⟩,O,
   StX.heap H (λk f hX=>s k f λd=>hX (.inr (by rw[d];exact I))) λj o z=>?_⟩
  ·intro b' w s' d;rw[u]at d;cases d;have⟨q1,q2⟩:=L _ _ _ u;exact⟨q1,λS a4 f' x=>by rw[a1]at x;cases x;rw[a2];exact q2 _ _ _ D⟩
  ·have E:=W j o z;have T:=BH E;have U:j≠b:=λd=>by
    have:=(O b I).1
    rw[d,this]at z;cases z
   show y[j]? =some o;rw[s j T U];exact E
theorem St.rowHolds{α β:Type}[Inhabited β]{φ:AD}{w:sJ}{Γ:List Chk}{ty:sH}{r:Ro α}{t:Slc}{l:List α}(H:St φ (⟨Rep.row ty r,[.slice t.1 t.2.1 t.2.2],l⟩::Γ) w.heap)
 (i:r.sz=1) (d:β→sG) (k:∀vs,r.All φ vs l→ ∃a:List β,vs=a.map d):
 (l= [] ∧t.2.1=0)∨ ∃(b off:Nat) (a:List β),t.1=some ⟨b,off,none⟩∧r.All φ (a.map d) l∧t.2.1=a.length∧l.length=a.length∧b<w.heap.size∧(∀h,w.heap[b]? =some (.cells h ty (0,0))→off+l.length≤h.size)∧Sort.Holds d w b off a.toArray:=by
 obtain⟨F,⟨p,n,c,vs,e,o,q,z,A,g,K⟩,L,H⟩:=H;have o:l.length=n:=o;simp only[List.cons.injEq,Value.slice.injEq,and_true]at e;obtain⟨B,M,N⟩:=e;rcases A with⟨s,C,D,E⟩|⟨b,off,h,s,f,G,O,I,J⟩
 ·exact .inl ⟨oI nJ,nJ⟩
 ·right
  obtain⟨a,rfl⟩:=k vs g;have u:a.length=n:=by
   rw[List.length_map,i]at G;omega
  refine⟨b,off,a,by rw[B,s],g,nJ,nJ,BH f,λv x=>?_,λj y=>?_⟩
  ·rw[f]at x;cases x;rw[i]at I;omega
  have m:j<a.length:=by simpa using y
  have q:=J j (d a[j]) (by rw[rZ,oR m];rfl);refine⟨?_,?_⟩
  ·unfold World.cell?;dsimp only;rw[f];dsimp only;rw[getElem!_pos _ j y];simpa using q
  ·unfold qB;dsimp only;rw[f];simp
theorem St.rowSorted{α β:Type}[Inhabited β]{φ:AD}{w:sJ}{Γ:List Chk}{ty:sH}{r:Ro α}{t:Slc}{l m:List α}(H:St φ (⟨Rep.row ty r,[.slice t.1 t.2.1 t.2.2],l⟩::Γ) w.heap)
 {b off:Nat} (u:t.1=some ⟨b,off,none⟩) (a:β→sG) (ms:List β) (h:r.All φ (ms.map a) m) (B:m.length=l.length) (C:ms.length=l.length) (n:∀c,w.heap[b]? =some (.cells c ty (0,0))→off+l.length≤c.size) (k:Nat) (os:Array Obj):
 St φ (⟨Rep.row ty r,[.slice t.1 t.2.1 t.2.2],m⟩::Γ) (grow (putRow a (Sort.ahead w k) b off ms.toArray) os).heap:=by
 have f:(grow (putRow a (Sort.ahead w k) b off ms.toArray) os).heap=w.heap.modify b (onCells (putCells a off ms.toArray)) ++os:=rfl;rw[f];refine H.rowPut h B (λF y z c d=>?_) λj D p=>?_
 ·rw[u]at z;cases z;have q:=BH d;refine⟨putCells a off ms.toArray c,?_,by simp[putCells],λi v A=>?_⟩
  ·rw[pD (by simpa using q),oX,mZ rfl,d];rfl
  ·rw[rZ,Option.map_eq_some_iff]at A;obtain⟨x,o,rfl⟩:=A;have s:i<ms.length:=by
    rcases oH i ms.length with g | g
    ·exact g
    ·rw[oB g]at o;cases o
   have G:=n c d;unfold putCells;rw[Array.getElem?_mapIdx,pH nJ];have E:off≤off+i∧off+i<off+ms.toArray.size:=by simp;exact s
   simp only[Option.map_some];rw[mZ E,pQ,getElem!_pos _ i (by simpa using s)];rw[oR s]at o;cases o;simp
 ·rw[pD (by simpa using D),oX,nA λe=>p b off u e.symm]
end Go.Eng
namespace Go.Eng
open Go
section
variable {t kt mt vt:sH}{r:Nat}
theorem Sa(a b:nI):(a==b)=decide (a=b):=by
 cases a with | mk a=>cases b with | mk b=>
 have e:((sF a==sF b):Bool)=(a==b):=rfl;rw[e];by_cases h:a=b
 ·subst h;simp
 ·rw[mV (by intro g;exact h (ByteArray.mk.inj g))];exact beq_eq_false_iff_ne.2 h
structure Ky (κ:Type) [DecidableEq κ] where
 val:κ→sG
 on:sI→sH→Prop
 desc:∀ {P:sI} {kt:sH},on P kt→ ∃d,P.underlying kt=some d∧((∀k k',pJ d (val k) (val k')=some (decide (k=k')))∨
  ((∀k k',pJ d (val k) (val k')=none)∧ ∀(k k':κ) (h:AH) (K:Bool→AH→Prop) (X:sG→AH→Prop),K (decide (k=k')) h→Ag P (Op.equal kt (val k) (val k')) K X h))
 bits:∀k,qM 10000 (val k) (val k)=true
 ok:∀ {P:sI} {kt:sH} {b:Bool} {k:κ} {h:AH} {K:Unit→AH→Prop} {X:sG→AH→Prop},on P kt→K () h→Ag P (oP b 10000 kt (val k)) K X h
def kyS:Ky nI where
 val:=.string
 on P kt:=P.underlying kt=some .string
 desc h:=⟨_,h,.inl λk a=>by simp only[pJ,Sa]⟩
 bits k:=by unfold qM;rw[Sa];simp
 ok hk H:=by unfold oP;exact Am hk H
def kyI(j:IntKind):Ky Int where
 val:=.int j
 on P kt:=P.underlying kt=some (.int j)
 desc h:=⟨_,h,.inl λk a=>by
  simp only[pJ,if_true];by_cases e:k=a
  ·subst e;simp
  ·rw[mV e];simp[e]⟩
 bits k:=by unfold qM;simp
 ok hk H:=by unfold oP;exact Am hk H
structure TW (P:sI) (kt:sH):Prop where
 fl: ∃f g:Field,P.underlying kt=some (.struct #[f,g])∧P.stoodInHeld kt=false∧f.name ≠ "_" ∧g.name ≠ "_" ∧f.offset=0∧g.offset=1∧P.underlying f.type=some (.int .i64)∧P.underlying g.type=some (.int .i64)
theorem Ug{P:sI}(b:P.underlying t=some (.int .i64)){a:Array sG}{i:Nat}{v:sG}(c:a[i]? =some v){h:AH}{K:sG→AH→Prop}{X:sG→AH→Prop}(H:K v h):Ag P (part t a i) K X h:=by unfold part isAgg;simp only[bind,bD,underlying,program,Ag,b,c];exact H
theorem Uh{P:sI}(c:P.underlying t=some (TypeDesc.int .i64))(a b:Int):LM P t (.int .i64 a) (.int .i64 b)=some (a==b):=by unfold LM;rw[c];simp
theorem Sb{P:sI}(c:P.underlying t=some (TypeDesc.int .i64)){a:Int}{h:AH}{b:Bool}{K:Unit→AH→Prop}{X:sG→AH→Prop}(H:K () h):Ag P (oP b 9999 t (.int .i64 a)) K X h:=by unfold oP;exact Am c H
def DT:Ky (Int×Int) where
 val k:=.agg #[.int .i64 k.1,.int .i64 k.2]
 on:=TW
 desc h:=by
  obtain⟨f,g,e,p,l,m,of,n,i,j⟩:=h.fl;refine⟨_,e,.inr ⟨λk o=>rfl,λk o h K X H=>?_⟩⟩;refine MN (d:=9999) e p (P8 (d:=9998) _ _ _ [f,g] (r:=decide (k=o)) ?_ _ H);simp only[LN,l,m,of,n,if_false];simp only[rG,oJ,pN,Uh i,Uh j];obtain⟨a,b⟩:=k;obtain⟨c,d⟩:=o;simp only[Prod.mk.injEq,Option.some.injEq];by_cases q:a=c<;>by_cases s:b=d<;>simp[q,s]
 bits k:=by simp[qM]
 ok h H:=by
  obtain⟨f,g,e,p,l,m,of,n,i,j⟩:=h.fl;unfold oP;refine Am e ?_;dsimp only;rw[←rO];simp only[rC,List.forIn_nil,l,m,of,n,ne_eq,not_false_eq_true,if_true];refine Ao _ _ (Ao _ _ (Ao _ _ (Ug i rfl (Ao _ _ (Sb i ?_)))));dsimp only[pure,Ag];refine Ao _ _ (Ao _ _ (Ug j rfl (Ao _ _ (Sb j ?_))));exact H
section
variable {κ:Type}[DecidableEq κ]
def BZ{β:Type}(k:κ):List (κ×β)→Option β
 | [] =>none
 |(k',v)::m=>if k=k' then some v else BZ k m
def CK{β:Type}(k:κ)(v:β):List (κ×β)→List (κ×β)
 | [] =>[(k,v)]
 |(k',v')::m=>if k=k' then(k',v)::m else(k',v')::CK k v m
theorem DR{β:Type}(k:κ)(v:β)(b:κ):∀m:List (κ×β),BZ b (CK k v m)=if b=k then some v else BZ b m:=by
 intro m
 induction m with
 |nil=>simp only[CK,BZ]
 |cons a m c=>
  simp only[CK];split
  ·rename_i h;subst h;simp only[BZ];split<;>simp_all
  ·rename_i h
   simp only[BZ];split
   ·rename_i d;subst d;rw[nA λe=>h e.symm]
   ·exact c
inductive Kg {β:Type}(kk:Ky κ) (vv:Ro β) (φ:AD):List MapEntry→List (κ×β)→Prop where
 |nil:Kg kk vv φ [] []
 |cons {e:MapEntry} {es:List MapEntry} {k:κ} {x:β} {m:List (κ×β)} :e.key=kk.val k→vv.is φ [e.val] x→Kg kk vv φ es m→Kg kk vv φ (e::es) ((k,x)::m)
variable {kk:Ky κ}
theorem Kg.mono{β:Type}{a:Ro β}{φ ψ:AD}(b:Sub φ ψ){es:List MapEntry}{m:List (κ×β)}(H:Kg kk a φ es m):Kg kk a ψ es m:=by
 induction H with
 |nil=>exact .nil
 |cons c d _ e=>exact .cons c (a.mono b d) e
def Rep.kmap{β:Type}(kk:Ky κ)(g:Ro β):Rep (List (κ×β)) where
 sz:=1
 is φ h F cs m:= ∃r es a,cs= [.map (some r)] ∧h[r]? =some (.map es a)∧Kg kk g φ es.toList m∧(∀i,F i↔i=r)
 len h:=by obtain⟨r,es,c,rfl,_⟩:=h;rfl
 mono hs h:=by obtain⟨r,es,c,e,d,f,b⟩:=h;exact⟨r,es,c,e,d,f.mono hs,b⟩
 loc hl h:=by obtain⟨r,es,c,e,d,f,b⟩:=h;exact⟨r,es,c,e,by rw[hl r ((b r).2 rfl)];exact d,f,b⟩
 lt h i hi:=by obtain⟨r,es,c,e,d,f,b⟩:=h;rw[(b i).1 hi];exact BH d
 plain h v hv:=by obtain⟨r,es,c,rfl,_⟩:=h;simp at hv;subst hv;rfl
theorem TX{β:Type}{c:Ro β}{φ:AD}{k:κ}{d:TypeDesc}(f:∀k b,pJ d (kk.val k) (kk.val b)=some (decide (k=b))):∀ {es:List MapEntry}{m:List (κ×β)}(i:Nat),Kg kk c φ es m→BZ k m=none→oM d (kk.val k) es i=some none:=by
 intro es m i H
 induction H generalizing i with
 |nil=>intro _;rfl
 | @cons e es b x m g l _ h=>
  intro a;simp only[BZ]at a;split at a
  ·cases a
  ·rename_i j
   unfold oM;rw[g,f,mV j];exact h (i+1) a
theorem Ui{P:sI}{β:Type}{c:Ro β}{φ:AD}{k:κ}{h:AH}{X:sG→AH→Prop}(d:∀(k b:κ) (h:AH) (K:Bool→AH→Prop) (X:sG→AH→Prop),K (decide (k=b)) h→Ag P (Op.equal kt (kk.val k) (kk.val b)) K X h):
 ∀ {es:List MapEntry} {m:List (κ×β)} (i:Nat) {K:Option (Nat×sG)→AH→Prop},Kg kk c φ es m→BZ k m=none→K none h→Ag P (pG kt (kk.val k) es i) K X h:=by
 intro es m i K H
 induction H generalizing i with
 |nil=>intro _ H;exact H
 | @cons e es b x m f n _ g=>
  intro a j;simp only[BZ]at a;split at a
  ·cases a
  ·rename_i l
   unfold pG;rw[f];refine Ao _ _ (d _ _ _ _ _ ?_);rw[mV l];exact g (i+1) a j
theorem X5{β:Type}{g:Ro β}{φ:AD}{k:κ}{x:β}:∀ {es:List MapEntry}{m:List (κ×β)},Kg kk g φ es m→BZ k m=some x→
 ∃j e,es[j]? =some e∧e.key=kk.val k∧g.is φ [e.val] x∧
  (∀(y:β) (v:sG),g.is φ [v] y→Kg kk g φ (es.modify j λe=>{e with key:=kk.val k,val:=v}) (CK k y m))∧
  (∀d,(∀k a,pJ d (kk.val k) (kk.val a)=some (decide (k=a)))→ ∀i,oM d (kk.val k) es i=some (some (i+j,e.val)))∧
  (∀(P:sI) (kt:sH),(∀(k a:κ) (h:AH) (K:Bool→AH→Prop) (X:sG→AH→Prop),K (decide (k=a)) h→Ag P (Op.equal kt (kk.val k) (kk.val a)) K X h)→
   ∀(i:Nat) (h:AH) (K:Option (Nat×sG)→AH→Prop) (X:sG→AH→Prop),K (some (i+j,e.val)) h→Ag P (pG kt (kk.val k) es i) K X h):=by
 intro es m H
 induction H with
 |nil=>intro b;cases b
 | @cons e es a D m c q r s=>
  intro b;simp only[BZ]at b;split at b
  ·rename_i f
   cases b;subst f;refine⟨0,e,rfl,c,q,λy v o=>?_,λd l i=>?_,λP kt n i h K X p=>?_⟩
   ·simp only[CK,if_true,sB];exact .cons rfl o r
   ·unfold oM;rw[c,l,mW rfl];rfl
   ·unfold pG;rw[c];refine Ao _ _ (n _ _ _ _ _ ?_);rw[mW rfl];exact p
  ·rename_i f
   obtain⟨j,t,u,w,z,A,B,C⟩:=s b;refine⟨j+1,t,by simpa using u,w,z,λy v o=>?_,λd l i=>?_,λP kt n i h K X p=>?_⟩
   ·simp only[CK,nA f,sB];exact .cons c q (A y v o)
   ·unfold oM;rw[c,l,mV f];dsimp only;rw[B d l,show i+1+j=i+(j+1) by omega]
   ·unfold pG;rw[c];refine Ao _ _ (n _ _ _ _ _ ?_);rw[mV f];refine C P kt n (i+1) h K X ?_;rw[show i+1+j=i+(j+1) by omega];exact p
theorem OL{P:sI}{β:Type}{g:Ro β}{φ:AD}{k:κ}{es:List MapEntry}{m:List (κ×β)}{h:AH}{K:Option (Nat×sG)→AH→Prop}{X:sG→AH→Prop}(i:kk.on P kt)(b:Kg kk g φ es m)(c:BZ k m=none)(H:K none h):
 Ag P (pK kt (kk.val k) es) K X h:=by
 have⟨d,j,hd⟩:=kk.desc i;unfold pK;refine Am j ?_;rcases hd with hn | ⟨hn,ha⟩
 ·rw[TX hn 0 b c];exact H
 ·cases b with
  |nil=>exact H
  |cons f l n=>
   rename_i e a o p q
   have:oM d (kk.val k) (e::a) 0=none:=by unfold oM;rw[f,hn]
   rw[this];exact Ui ha 0 (.cons f l n) c H
theorem OM{P:sI}{β:Type}{a:Ro β}{φ:AD}{k:κ}{x:β}{es:List MapEntry}{m:List (κ×β)}(g:kk.on P kt)(c:Kg kk a φ es m)(f:BZ k m=some x):
 ∃j e,es[j]? =some e∧e.key=kk.val k∧a.is φ [e.val] x∧(∀(y:β) (v:sG),a.is φ [v] y→Kg kk a φ (es.modify j λe=>{e with key:=kk.val k,val:=v}) (CK k y m))∧
  ∀(h:AH) (K:Option (Nat×sG)→AH→Prop) (X:sG→AH→Prop),K (some (j,e.val)) h→Ag P (pK kt (kk.val k) es) K X h:=by
 have⟨d,i,hd⟩:=kk.desc g;have⟨j,e,l,n,o,p,q,r⟩:=X5 c f;refine⟨j,e,l,n,o,p,λh K X H=>?_⟩;unfold pK;refine Am i ?_;rcases hd with hn | ⟨hn,ha⟩
 ·rw[q d hn 0,pT];exact H
 ·cases c with
  |nil=>cases f
  |cons s u w=>
   rename_i t b z A B
   have:oM d (kk.val k) (t::b) 0=none:=by unfold oM;rw[s,hn]
   rw[this];refine r P kt ha 0 h K X ?_;rw[pT];exact H
theorem Kg.push{β:Type}{b:Ro β}{φ:AD}{k:κ}{y:β}{e:MapEntry}:∀ {es:List MapEntry}{m:List (κ×β)},Kg kk b φ es m→BZ k m=none→e.key=kk.val k→b.is φ [e.val] y→Kg kk b φ (es++ [e]) (CK k y m):=by
 intro es m H
 induction H with
 |nil=>intro _ c d;exact .cons c d .nil
 | @cons j es l x m f g _ h=>
  intro a c d;simp only[BZ]at a;split at a
  ·cases a
  ·rename_i i
   simp only[CK,nA i];exact .cons f g (h a c d)
section
variable {P:sI}{Q:Bl→AH→Prop}{φ:AD}{h:AH}{Γ:List Chk}
theorem EB{β:Type}(kk:Ky κ)(d:Ro β){k:Nat→T}(H:St φ Γ h)(a:∀r h',St φ (⟨Rep.kmap kk d,[.map (some r)],[]⟩::Γ) h'→(k r).wp P Q h'):(T.new (.map #[] 0) k).wp P Q h:=by
 refine ZB (a _ _ ?_);have b:=H.sub;refine⟨λi=>i=h.size,⟨h.size,#[],0,rfl,by rw[eE,mZ rfl],.nil,λ_=>rL⟩,λk a=>⟨?_,λg=>g⟩,?_⟩
 ·subst a;cases hφ:φ h.size with
  |none=>rfl
  |some o=>have:=BH (b _ _ hφ);omega
 ·refine StX.heap (StX.more H λk a=>?_) (λk a _=>by rw[eE];simp;omega) λi o c=>?_
  ·rcases a with a | a
   ·exact a.elim
   ·left;omega
  ·have e:=BH (b i o c);show(h.push _)[i]? =some o;rw[eE,nA nJ];exact b i o c
theorem NQ{i:TypeInfo}{z:sG}(a:P.info? t=some i)(b:i.zero=some z){K:sG→AH→Prop}{X:sG→AH→Prop}(H:K z h):Ag P (zeroValue t) K X h:=by
 have c:(zeroValue t)=Sem.program fun d=>((match d.info? t with | some i=>Sem.pure i | none=>stuck "no such type").bind fun i=>match i.zero with | some v=>Sem.pure v | none=>unsupported (.resourceLimit "a value of more than 2^22 cells")):=rfl
 rw[c];simp only[bD,Ag,a,b];exact H
theorem Qx{a:Bc}{k:κ}{m:List (κ×a.Ty)}{ok:Bool}{K:sG→AH→Prop}{X:sG→AH→Prop}(j:P.underlying mt=some (.map kt vt))(d:kk.on P kt)
 {i:TypeInfo} {z:a.Ty} (l:P.info? vt=some i) (n:i.zero=some (a.val z)) (H:St φ (⟨Rep.kmap kk (Ro.atom a),[.map (some r)],m⟩::Γ) h) (b:K (if ok then .tuple #[a.val ((BZ k m).getD z),.bool (BZ k m).isSome] else a.val ((BZ k m).getD z)) h):
 Ag P (qJ mt (.map (some r)) (kk.val k) ok) K X h:=by
 obtain⟨F,⟨u,es,c,e,o,f,v⟩,w,H⟩:=H;cases e;unfold qJ;refine Am j ?_;refine⟨_,o,(λ_ _ _ g=>by cases g),?_⟩;show Ag P (bD (oP _ 10000 kt (kk.val k)) λ_=>bD (pK kt (kk.val k) es.toList) λr=>_) _ _ h;refine Ao _ _ (kk.ok d (Ao _ _ ?_));cases hg:BZ k m with
 |none=>
  refine OL d f hg ?_;show Ag P (bD (zeroValue vt) λz=>_) _ _ h;rw[hg]at b;exact Ao _ _ (NQ l n b)
 |some x=>
  have⟨q,e,y,A,p,_,s⟩:=OM d f hg;refine s _ _ _ ?_;have t:e.val=a.val x:=by
   have: [e.val] = [a.val x]:=p
   simpa using this
  dsimp only;rw[hg]at b;rw[t];exact b
theorem X6{a:Bc}{k:κ}{m:List (κ×a.Ty)}{K:a.Ty×Bool×Unit→T}(z:a.Ty)(b:P.underlying mt=some (.map kt vt))(c:kk.on P kt)
 {i:TypeInfo} (d:P.info? vt=some i) (e:i.zero=some (a.val z)) (H:St φ (⟨Rep.kmap kk (Ro.atom a),[.map (some r)],m⟩::Γ) h) (f:∀y:a.Ty×Bool×Unit,y=((BZ k m).getD z,(BZ k m).isSome,())→(K y).wp P Q h):
 (T.sem (qJ mt (.map (some r)) (kk.val k) true) (.tuple [.atom a,.atom .bool]) K).wp P Q h:=
 t_sem (Qx b c d e H (ok:=true) ⟨((BZ k m).getD z,(BZ k m).isSome,()),rfl,f _ rfl⟩)
theorem Ha{a:Bc}{k:κ}{m:List (κ×a.Ty)}{K:a.Ty→T}(z:a.Ty)(b:P.underlying mt=some (.map kt vt))(c:kk.on P kt)
 {i:TypeInfo} (d:P.info? vt=some i) (e:i.zero=some (a.val z)) (H:St φ (⟨Rep.kmap kk (Ro.atom a),[.map (some r)],m⟩::Γ) h) (f:(K ((BZ k m).getD z)).wp P Q h):
 (T.sem (qJ mt (.map (some r)) (kk.val k) false) (.one (.atom a)) K).wp P Q h:=
 t_sem (Qx b c d e H (ok:=false) ⟨(BZ k m).getD z,rfl,f⟩)
theorem LU{β:Type}{f:Ro β}{k:κ}{m:List (κ×β)}{y:β}{v:sG}{K:Unit→T}(B:P.underlying mt=some (.map kt vt))(b:kk.on P kt)
 (H:St φ (⟨Rep.kmap kk f,[.map (some r)],m⟩::Γ) h) (w:f.is φ [v] y) (C:∀h',St φ (⟨Rep.kmap kk f,[.map (some r)],CK k y m⟩::Γ) h'→(K ()).wp P Q h'):
 (T.sem (bD (rA mt (.map (some r)) (kk.val k) v) λ_=>.pure undef) (.tuple []) K).wp P Q h:=by
 obtain⟨F,⟨N,es,c,e,j,n,z⟩,A,H⟩:=H;cases e;have D:=H.sub;have key:∀(a:Array MapEntry) (l:Nat),Kg kk f φ a.toList (CK k y m)→(K ()).wp P Q (h.setIfInBounds r (.map a l)):=λa l p=>by
  have s:=BH j;have d:∀k,¬F k→(h.setIfInBounds r (Obj.map a l))[k]? =h[k]? :=λk b=>bO λe=>b ((z k).2 e.symm);refine C _ ⟨F,⟨r,a,l,rfl,?_,p,z⟩,A,StX.heap H (λk _ E=>d k λg=>E (.inr g)) λi o t=>?_⟩
  ·rw[oK,mZ rfl,mZ s]
  ·show(h.setIfInBounds r _)[i]? =some o;rw[d i λg=>by rw[(A i g).1]at t;cases t];exact D i o t
 refine t_sem<|Ao _ _ ?_;unfold rA;refine Am B ?_;refine⟨_,j,(λ_ _ _ g=>by cases g),?_⟩;show Ag P (bD (oP _ 10000 kt (kk.val k)) λ_=>bD (pK kt (kk.val k) es.toList) λr=>_) _ _ h;refine Ao _ _ (kk.ok b (Ao _ _ ?_));cases hg:BZ k m with
 |none=>
  refine OL b n hg ?_;dsimp only;refine⟨⟨_,j,(λ_ _ _ g=>by cases g)⟩,(),rfl,key _ _ ?_⟩;rw[Array.toList_push];exact n.push hg rfl w
 |some x=>
  have⟨q,e,G,I,O,J,L⟩:=OM b n hg;refine L _ _ _ ?_;have M:es[q]? =some e:=by simpa using G
  have u:qN ((rR (λx=>x.key) es[q]?).getD (kk.val k)) (kk.val k)=pR (kk.val k):=by
   rw[M];dsimp only[rR,Option.getD];rw[I];unfold qN;rw[kk.bits];rfl
  show Ag P (bD (qN ((rR (λx=>x.key) es[q]?).getD (kk.val k)) (kk.val k)) λkey=>setObj r (Obj.map (es.modify q λe=>{e with key,val:=v}) c)) _ _ h;rw[u];refine⟨⟨_,j,(λ_ _ _ g=>by cases g)⟩,(),rfl,key _ _ ?_⟩;rw[Array.toList_modify];exact J y v w
end
end
section
variable {P:sI}{Q:Bl→AH→Prop}{φ:AD}{h:AH}{Γ:List Chk}
theorem Ds{a:Bc}{vs:List sG}{l:List a.Ty}(H:(Ro.atom a).All φ vs l):vs=l.map a.val:=by
 induction H with
 |nil=>rfl
 |cons h _ b=>have c:_= [_]:=h;rw[c,b];rfl
def LV(x:Int):Bool:=decide (0≤x) && decide (x<256)
def W0(l:nH):Option nI:=if l.all LV then some ⟨(l.map λx=>pP x.toNat).toArray⟩ else none
theorem St.bytes{ty:sH}{t:Slc}{l:nH}(H:St φ (⟨Rep.row ty (Ro.int .u8),[.slice t.1 t.2.1 t.2.2],l⟩::Γ) h):l.length=t.2.1∧Cg h t.1 (l.map (Bc.int .u8).val):=by have b:=H.rowLen;obtain⟨vs,c,a⟩:=H.all;rw[Ds c]at a;exact⟨b.symm,a⟩
theorem V0{c d e:sH}{t:Slc}{l:nH}{x:nI}{K:nI→T}(j:P.underlying c=some (.slice e))(k:P.underlying e=some (.int .u8))(hd:P.underlying d=some .string)
 (g:l.length=t.2.1∧Cg h t.1 (l.map (Bc.int .u8).val)) (a:W0 l=some x) (m:(K x).wp P Q h):(T.sem (convert c d (.slice t.1 t.2.1 t.2.2)) (.one (.atom .string)) K).wp P Q h:=by
 obtain⟨n,g⟩:=g;unfold W0 at a;split at a
 ·rename_i f
  cases a;have o:l.map (Bc.int .u8).val=(l.map λx=>pP x.toNat).map λb=>pO .u8 (b.toNat:Int):=by
   rw[List.map_map];refine List.map_congr_left λx a=>?_
   have:=pW.1 f x a
   simp only[LV,qU,nD]at this;show pO .u8 x=pO .u8 _;have e:(pP x.toNat).toNat=x.toNat:=nN
   rw[show((pP x.toNat).toNat:Int)=x by rw[e];omega]
  rw[o]at g;have i:t.2.1=(l.map λx=>pP x.toNat).length:=by simp[←n]
  refine t_sem ?_;rw[i];exact TS j k hd g ⟨_,rfl,m⟩
 ·cases a
end
end
theorem SF{α:Type}{r:Ro α}{φ:AD}{v:sG}{x:α}(h:r.is φ [v] x):∀n,r.All φ (nY n v) (nY n x):=by
 intro n
 induction n with
 |zero=>exact .nil
 |succ n b=>exact .cons (a:=[v]) h b
def EC{α:Type}(n:Int)(x:α):Option (List α):=if 0≤n∧n≤1073741824 then some (nY n.toNat x) else none
theorem Qy{α:Type}{n:Int}{x:α}{l:List α}(h:EC n x=some l):0≤n∧n≤1073741824∧l=nY n.toNat x:=by
 unfold EC at h;split at h
 ·rename_i g;exact⟨g.1,g.2,(Option.some.inj h).symm⟩
 ·cases h
structure Sc (P:sI) (t elem:sH) (z:sG):Prop where
 st:P.underlying t=some (.slice elem)
 info:∃i,P.info? elem=some i∧i.size=1∧(∃zv,i.zero=some zv∧zv.cells= #[z])∧i.bytes≤4096
section
variable {P:sI}{Q:Bl→AH→Prop}{φ:AD}{h:AH}{Γ:List Chk}
theorem FW{α:Type}{t b:sH}{z:sG}{r:Ro α}{x:α}{l:List α}{n m:Int}{k:Slc→T}(A:Sc P t b z)(H:St φ Γ h)(I:r.is φ [z] x)(u:m=n)(J:EC n x=some l)
 (K:∀(t:Slc) d,St φ (⟨Rep.row b r,[.slice t.1 t.2.1 t.2.2],l⟩::Γ) d→(k t).wp P Q d):
 (T.sem (qZ t (.int .i64 m) (.int .i64 m)) (.one (.atom .slice)) k).wp P Q h:=by
 subst u;obtain⟨L,F,rfl⟩:=Qy J;obtain⟨i,w,y,⟨B,M,C⟩,S⟩:=A.info;have N:IntKind.i64.wrap m=m:=by
  unfold pF;simp only[IntKind.bits,IntKind.signed];have e:m % 18446744073709551616=m:=nJ
  simp;omega
 have O:(i.bytes:Int) *m≤4096 *1073741824:=by
  have G:(i.bytes:Int) ≤4096:=nJ
  exact Int.mul_le_mul G F L nQ
 have p:¬(m<0∨(i.bytes:Int) *m>2 ^ 48):=by
  intro D;rcases D with D | D
  ·omega
  ·have e:(2:Int) ^ 48=281474976710656:=nQ
   omega
 have f:(k ((some ⟨h.size,0,none⟩,m.toNat,m.toNat):Slc)).wp P Q (h.push (.cells (nY m.toNat z).toArray b (0,0))):=by
  have g:r.All φ (nY m.toNat z) (nY m.toNat x):=SF I _;have R:=H.new (ty:=b) (nY m.toNat z);exact K (some ⟨h.size,0,none⟩,m.toNat,m.toNat) _ (St.lit (r:=r) (l:=nY m.toNat x) (n:=m.toNat) R g nP (by unfold maxLen;omega))
 have c:∀q:Nat,(qP q).map (λj=>(#[z]:Array sG)[j % (#[z]:Array sG).size]!)=(nY q z).toArray:=by
  intro q;apply Array.ext
  ·simp
  ·intro j F G;simp[Nat.mod_one]
 have rest:∀zero:Array sG,(zero= #[] ∧m.toNat=0)∨zero= #[z] →Ag P (do
  let a ←newRow b ((qP m.toNat).map (zero[· % zero.size]!))
  pure (.slice (some a) m.toNat m.toNat):Sem sG) (λv d=>∃x:Slc,v=((.one (.atom .slice)):Sh).val x∧(k x).wp P Q d) (λ_ _=>False) h:=by
  intro zero E;show Ag P (Sem.new _ _) _ _ h;rcases E with⟨rfl,o⟩|rfl
  ·have e:(qP m.toNat).map (λj=>(#[]:Array sG)[j % (#[]:Array sG).size]!)=(nY m.toNat z).toArray:=by rw[o];simp
   rw[e];exact⟨_,rfl,f⟩
  ·rw[c];exact⟨_,rfl,f⟩
 refine t_sem ?_;unfold qZ;refine Am A.st ?_;show Ag P ((typeInfo b).bind _) _ _ h;refine HI w ?_;simp only[N];rw[nA nN];show Ag P ((askRoom _).bind _) _ _ h;unfold askRoom;have go:Ag P ((sizeOf b).bind λs=>(if m.toNat *s=0 then(do
  let zero ← (pure #[]:Sem (Array sG))
  let a ←newRow b ((qP (m.toNat *s)).map (zero[· % zero.size]!))
  pure (.slice (some a) m.toNat m.toNat):Sem sG) else do
  let B ←zeroValue b
  let zero ← (pure B.cells:Sem (Array sG))
  let a ←newRow b ((qP (m.toNat *s)).map (zero[· % zero.size]!))
  pure (.slice (some a) m.toNat m.toNat))) (λv d=>∃x:Slc,v=((.one (.atom .slice)):Sh).val x∧(k x).wp P Q d) (λ_ _=>False) h:=by
  refine Je w ?_;rw[y,Nat.mul_one];by_cases o:m.toNat=0
  ·rw[mZ o];exact rest #[] (.inl ⟨rfl,o⟩)
  ·rw[nA o];show Ag P ((zeroValue b).bind _) _ _ h;refine Ao _ _ (NQ w M ?_)
   have:=rest B.cells (.inr C)
   exact this
 split
 ·exact go
 ·exact go
end
section
variable {P:sI}{Q:Bl→AH→Prop}{φ:AD}{h:AH}{Γ:List Chk}
end
section
variable {α:Type}
theorem bS{β:Type}{o:Option α}{f:α→Option β}{x:β}(h:o.bind f=some x):∃a,o=some a∧f a=some x:=Option.bind_eq_some_iff.1 h
theorem iS{a b:α}(h:some a=some b):a=b:=Option.some.inj h
abbrev sv(t:Slc):sG:=.slice t.1 t.2.1 t.2.2
abbrev pv(b:Nat):sG:=.pointer (some ⟨b,0,none⟩)
abbrev cR{α:Type}(e:sH)(r:Ro α)(t:Slc)(l:List α):Chk:=⟨Rep.row e r,[.slice t.1 t.2.1 t.2.2],l⟩
abbrev cO{α:Type}(e:sH)(R:Rep α)(p:nG)(x:α):Chk:=⟨Rep.obj e R,[.pointer p],x⟩
abbrev cW(e:sH)(b:Nat)(vs:List sG):Chk:=⟨Rep.raw e,[.pointer (some ⟨b,0,none⟩)],vs⟩
abbrev cM{κ β:Type}[DecidableEq κ](kk:Ky κ)(a:Ro β)(r:Nat)(m:List (κ×β)):Chk:=⟨Rep.kmap kk a,[.map (some r)],m⟩
abbrev Ro.slc:Ro Slc:=Ro.atom .slice
def Pt{α:Type}(r:Ro α)(φ:AD)(p:nG)(x:α):Prop:= ∃a vs,p=some a∧r.is φ vs x∧Cv φ (some a) vs
theorem Pt.mono{r:Ro α}{φ ψ:AD}{p:nG}{x:α}(H:Pt r φ p x)(b:Sub φ ψ):Pt r ψ p x:=by obtain⟨a,vs,e,c,d⟩:=H;exact⟨a,vs,e,r.mono b c,d.mono b⟩
def Np{α:Type}(r:Ro α)(φ:AD)(p:nG)(x:Option α):Prop:=match x with
 |none=>p=none
 |some x=>Pt r φ p x
theorem Np.mono{r:Ro α}{φ ψ:AD}{p:nG}{x:Option α}(H:Np r φ p x)(a:Sub φ ψ):Np r ψ p x:=by
 cases x with
 |none=>exact H
 |some x=>exact Pt.mono H a
theorem Np.nil{r:Ro α}{φ:AD}{p:nG}{x:Option α}(H:Np r φ p x):p.isNone=x.isNone:=by
 cases x with
 |none=>rw[show p=none from H];rfl
 |some x=>obtain⟨a,vs,rfl,_⟩:=H;rfl
theorem Np.get{r:Ro α}{φ:AD}{p:nG}{x:Option α}{y:α}(H:Np r φ p x)(e:x=some y):Pt r φ p y:=by subst e;exact H
theorem Np.none(r:Ro α)(φ:AD):Np r φ Option.none (Option.none:Option α):=rfl
section
variable {P:sI}{Q:Bl→AH→Prop}{φ:AD}{h:AH}{Γ:List Chk}
theorem AQ{ty:sH}{b j:Nat}{vs:List sG}{v:sG}{k:T}(H:St φ (⟨Rep.raw ty,[.pointer (some ⟨b,0,none⟩)],vs⟩::Γ) h)(a:Value.plain v=true)(c:sE j vs.length=true)
 (d:∀h',St φ (cW ty b (vs.set j v)::Γ) h'→k.wp P Q h'):(T.store ⟨b,j,none⟩ v k).wp P Q h:=
 Cr H a (rH c) d
theorem GP{ty:sH}{vs:List sG}{k:Nat→T}(H:St φ Γ h)(d:∀r h',(∀a v,Bb h a=some v→Bb h' a=some v)→St φ (cW ty r vs::Γ) h'→(k r).wp P Q h'):(T.new (.cells vs.toArray ty (0,0)) k).wp P Q h:=
 ZB (d _ _ (λa v b=>by
  rw[←Nd]at b ⊢;refine Ar (λi o c=>?_) b
  have:=BH c
  show(h.push _)[i]? =some o;rw[eE,nA nJ];exact c) (H.new vs))
theorem St.shutR{ty:sH}{r:Ro α}{cs vs:List sG}{x:α}(H:St φ (⟨Rep.raw ty,cs,vs⟩::Γ) h)(a:r.is φ vs x):St φ (⟨Rep.obj ty (Rep.ro r),cs,x⟩::Γ) h:=
 St.shut (St.at1 (St.unro (r:=r) H a))
theorem St.openR{ty:sH}{r:Ro α}{p:nG}{x:α}(H:St φ (⟨Rep.obj ty (Rep.ro r),[.pointer p],x⟩::Γ) h):
 ∃b vs,p=some ⟨b,0,none⟩∧r.is φ vs x∧St φ (cW ty b vs::Γ) h:=by obtain⟨b,vs,e,_,s⟩:=H.open;have⟨a,c⟩:=St.ro s.at1;exact⟨b,vs,by simpa using e,a,c⟩
theorem St.at10{b c d e f g i j k l a:Chk}(H:St φ (b::c::d::e::f::g::i::j::k::l::a::Γ) h):St φ (a::b::c::d::e::f::g::i::j::k::l::Γ) h:=H.perm (BP 10 (b::c::d::e::f::g::i::j::k::l::a::Γ))
theorem St.at11{c d e f g i j k l m a b:Chk}(H:St φ (c::d::e::f::g::i::j::k::l::m::a::b::Γ) h):St φ (b::c::d::e::f::g::i::j::k::l::m::a::Γ) h:=H.perm (BP 11 (c::d::e::f::g::i::j::k::l::m::a::b::Γ))
theorem St.at12{d e f g i j k l m n a b c:Chk}(H:St φ (d::e::f::g::i::j::k::l::m::n::a::b::c::Γ) h):St φ (c::d::e::f::g::i::j::k::l::m::n::a::b::Γ) h:=H.perm (BP 12 (d::e::f::g::i::j::k::l::m::n::a::b::c::Γ))
theorem St.at14{f g i j k l m n o p a b c d e:Chk}(H:St φ (f::g::i::j::k::l::m::n::o::p::a::b::c::d::e::Γ) h):St φ (e::f::g::i::j::k::l::m::n::o::p::a::b::c::d::Γ) h:=H.perm (BP 14 (f::g::i::j::k::l::m::n::o::p::a::b::c::d::e::Γ))
theorem St.at15{g i j k l m n o p q a b c d e f:Chk}(H:St φ (g::i::j::k::l::m::n::o::p::q::a::b::c::d::e::f::Γ) h):St φ (f::g::i::j::k::l::m::n::o::p::q::a::b::c::d::e::Γ) h:=H.perm (BP 15 (g::i::j::k::l::m::n::o::p::q::a::b::c::d::e::f::Γ))
theorem St.at16{i j k l m n o p q r a b c d e f g:Chk}(H:St φ (i::j::k::l::m::n::o::p::q::r::a::b::c::d::e::f::g::Γ) h):St φ (g::i::j::k::l::m::n::o::p::q::r::a::b::c::d::e::f::Γ) h:=H.perm (BP 16 (i::j::k::l::m::n::o::p::q::r::a::b::c::d::e::f::g::Γ))
theorem St.freezeR{ty:sH}{R:Rep α}{r:Ro α}{p:nG}{x:α}(b:Frz R r)(H:St φ (⟨Rep.obj ty R,[.pointer p],x⟩::Γ) h):∃ψ,Sub φ ψ∧Pt r ψ p x∧St ψ Γ h:=by obtain⟨ψ,c,⟨a,vs,e,d,f⟩,g⟩:=St.freeze (cU b) H;exact⟨ψ,c,⟨a,vs,by simpa using e,d,f⟩,g⟩
theorem Ro.All.setCell{r:Ro α}{x g:α}{j:Nat}{v:sG}(h:∀cs,r.is φ cs x→r.is φ (cs.set j v) g)(o:j<r.sz){vs:List sG}{l:List α}(c:r.All φ vs l):∀i:Nat,l[i]? =some x→r.All φ (vs.set (i *r.sz+j) v) (l.set i g):=by
 induction c with
 |nil=>intro i d;simp at d
 | @cons a b y l f k m=>
  intro i d;have n:=r.len f;cases i with
  |zero=>
   simp only[oJ,Option.some.injEq]at d;subst d;rw[Nat.zero_mul,pT,List.set_append_left _ _ nJ];exact .cons (h _ f) k
  |succ i=>
   have e:(i+1) *r.sz+j=a.length+(i *r.sz+j):=by rw[n,oD];omega
   rw[e,List.set_append_right _ _ nJ,pQ];exact .cons f (m i (by simpa using d))
theorem TY{ty:sH}{r:Ro α}{t:Slc}{l m:List α}{i:Int}{x L:α}{v:sG}{k:T}{a A:sK}{j:Nat}(H:St φ (⟨Rep.row ty r,[.slice t.1 t.2.1 t.2.2],l⟩::Γ) h)(W:idx l i=some x)(X:DQ l i L=some m)
 (Y:∀cs,r.is φ cs x→r.is φ (cs.set j v) L) (C:sE j r.sz=true) (D:Value.plain v=true) (M:t.1=some a) (Z:A=a.add (i.toNat *r.sz+j))
 (E:∀h',St φ (cR ty r t m::Γ) h'→k.wp P Q h'):(T.store A v k).wp P Q h:=by
 have C:j<r.sz:=rH C;obtain⟨F,⟨p,n,c,vs,e,G,hc,I,w,y,N⟩,O,H⟩:=H;have G:l.length=n:=G;simp only[List.cons.injEq,Value.slice.injEq,and_true]at e;obtain⟨R,e2,e3⟩:=e;obtain⟨h0,h1,rfl⟩:=EL X;obtain⟨_,_,J⟩:=B9 W;rw[R]at M;subst M;subst Z;rcases w with⟨K,_⟩|⟨b,off,arr,K,hb,g1,S,g3,g4⟩
 ·cases K
 ·cases K;have a0:i.toNat *r.sz+j<n *r.sz:=by
   have:i.toNat+1≤n:=nJ
   have:=pC r.sz this
   rw[oD]at this;omega
  have a1:n *r.sz≤c *r.sz:=pC _ S;have a2:off+(i.toNat *r.sz+j) <arr.size:=nJ
  rw[EN];have z:=IP (off:=off+(i.toNat *r.sz+j)) (v:=v) hb;refine TR D ?_ ?_ (E _ ?_)
  ·rw[Gi (c:=arr) (t:=ty) (f:=(0,0)) hb rfl];simp;omega
  ·unfold HG E9 qB;simp[hb]
  ·have hs:=H.sub;have B:∀k,¬F k→(Cm h ⟨b,off+(i.toNat *r.sz+j),none⟩ v)[k]? =h[k]? :=λk E=>IN λe=>E ((N k).2 (by simp[blk];exact e));refine⟨F,⟨some ⟨b,off,none⟩,n,c,vs.set (i.toNat *r.sz+j) v,by dsimp only;rw[R,e2,e3],by simp;exact G,hc,(λb' U s' e=>by cases e;have⟨q1,q2⟩:=I _ _ _ rfl;exact⟨q1,λV a3 f' d=>by rw[z]at d;cases d;rw[pI];exact q2 _ _ _ hb⟩),.inr ⟨b,off,_,rfl,z,by rw[List.length_set];exact g1,S,by rw[pI];exact g3,λq u s=>?_⟩,Ro.All.setCell Y C y i.toNat J,N⟩,O,StX.heap H (λk _ hX=>B k λg=>hX (.inr g)) λq o w=>?_⟩
   ·rw[rY]at s;split at s
    ·rename_i hq
     subst hq;split at s
     ·cases s;rw[oK];simp;omega
     ·cases s
    ·rw[bO nJ];exact g4 q u s
   ·show(Cm h _ v)[q]? =some o;rw[B q λg=>by rw[(O q g).1]at w;cases w];exact hs q o w
end
end
section
variable {t:Slc}{i:Int}
def Hi(φ:AD)(h:AH):List Chk→GE→Prop
 | [],F=>∀k,¬F k
 |c::Γ,F=>∃A B:GE,c.on φ h A∧Hi φ h Γ B∧(∀k,A k→B k→False)∧ ∀k,F k↔A k∨B k
theorem Hi.mono{φ ψ:AD}{h:AH}(a:Sub φ ψ):∀ {Γ:List Chk}{F:GE},Hi φ h Γ F→Hi ψ h Γ F:=by
 intro Γ
 induction Γ with
 |nil=>intro F H;exact H
 |cons c Γ ih=>intro F ⟨A,B,b,d,e,f⟩;exact⟨A,B,c.R.mono a b,ih d,e,f⟩
theorem Hi.loc{φ:AD}{h d:AH}:∀ {Γ:List Chk}{F:GE},(∀k,F k→d[k]? =h[k]?)→Hi φ h Γ F→Hi φ d Γ F:=by
 intro Γ
 induction Γ with
 |nil=>intro F _ H;exact H
 |cons c Γ ih=>
  intro F e ⟨A,B,f,g,i,a⟩;exact⟨A,B,c.R.loc (λk b=>e k ((a k).2 (.inl b))) f,ih (λk b=>e k ((a k).2 (.inr b))) g,i,a⟩
theorem Hi.lt{φ:AD}{h:AH}:∀ {Γ:List Chk}{F:GE},Hi φ h Γ F→ ∀k,F k→k<h.size:=by
 intro Γ
 induction Γ with
 |nil=>intro F H k a;exact(H k a).elim
 |cons c Γ ih=>
  intro F ⟨A,B,b,d,f,e⟩ k a;rcases(e k).1 a with g | g
  ·exact c.R.lt b k g
  ·exact ih d k g
structure Pk (α:Type) where
 sz:Nat
 L:AD→List sG→α→List Chk→Prop
 len:∀ {φ cs x Γ},L φ cs x Γ→cs.length=sz
 mono:∀ {φ ψ cs x Γ},Sub φ ψ→L φ cs x Γ→L ψ cs x Γ
 plain:∀ {φ cs x Γ},L φ cs x Γ→ ∀v∈cs,Value.plain v=true
def Rep.pack{α:Type}(p:Pk α):Rep α where
 sz:=p.sz
 is φ h F cs x:= ∃Γ,p.L φ cs x Γ∧Hi φ h Γ F
 len h:=by obtain⟨Γ,a,_⟩:=h;exact p.len a
 mono hs h:=by obtain⟨Γ,a,b⟩:=h;exact⟨Γ,p.mono hs a,b.mono hs⟩
 loc hl h:=by obtain⟨Γ,a,b⟩:=h;exact⟨Γ,a,b.loc hl⟩
 lt h:=by obtain⟨Γ,a,b⟩:=h;exact b.lt
 plain h:=by obtain⟨Γ,a,_⟩:=h;exact p.plain a
theorem StX.pieces{φ:AD}{h:AH}{Δ:List Chk}:∀ {Γ:List Chk}{X:GE},StX φ h (Γ++Δ) X↔∃F,Hi φ h Γ F∧(∀k,F k→φ k=none∧ ¬X k)∧StX φ h Δ (λk=>X k∨F k):=by
 intro Γ
 induction Γ with
 |nil=>
  intro X;constructor
  ·intro H;exact⟨λ_=>False,λk a=>a,λk a=>a.elim,StX.less H λk a=>a.elim id False.elim⟩
  ·rintro⟨F,_,_,H⟩;exact StX.less H λk a=>.inl a
 |cons c Γ ih=>
  intro X;constructor
  ·rintro⟨A,g,e,H⟩;have⟨B,i,f,b⟩:=ih.1 H;refine⟨λk=>A k∨B k,⟨A,B,g,i,λk j l=>(f k l).2 (.inr j),λk=>rL⟩,λk a=>?_,StX.less b λk a=>?_⟩
   ·rcases a with a | a
    ·exact e k a
    ·exact⟨(f k a).1,λd=>(f k a).2 (.inl d)⟩
   ·rcases a with a | a | a
    ·exact .inl (.inl a)
    ·exact .inl (.inr a)
    ·exact .inr a
  ·rintro⟨F,⟨A,B,g,i,f,b⟩,e,H⟩;refine⟨A,g,λk a=>e k ((b k).2 (.inl a)),ih.2 ⟨B,i,λk a=>⟨(e k ((b k).2 (.inr a))).1,λd=>?_⟩,StX.less H λk a=>?_⟩⟩
   ·rcases d with d | d
    ·exact(e k ((b k).2 (.inr a))).2 d
    ·exact f k d a
   ·rcases a with(a | a)|a
    ·exact .inl a
    ·exact .inr ((b k).2 (.inl a))
    ·exact .inr ((b k).2 (.inr a))
theorem St.unpack{α:Type}{p:Pk α}{φ:AD}{h:AH}{cs:List sG}{x:α}{Δ:List Chk}(H:St φ (⟨Rep.pack p,cs,x⟩::Δ) h):∃Γ,p.L φ cs x Γ∧St φ (Γ++Δ) h:=by obtain⟨F,⟨Γ,a,b⟩,c,H⟩:=H;exact⟨Γ,a,StX.pieces.2 ⟨F,b,c,H⟩⟩
theorem St.pack{α:Type}{p:Pk α}{φ:AD}{h:AH}{cs:List sG}{x:α}{Γ Δ:List Chk}(a:p.L φ cs x Γ)(H:St φ (Γ++Δ) h):St φ (⟨Rep.pack p,cs,x⟩::Δ) h:=by have⟨F,b,c,H⟩:=StX.pieces.1 H;exact⟨F,⟨Γ,a,b⟩,c,H⟩
def Ro.at{α:Type}(r:Ro α):Ro α where
 sz:=1
 is φ cs x:= ∃p,cs= [.pointer p] ∧Pt r φ p x
 len h:=by obtain⟨p,rfl,_⟩:=h;rfl
 mono hs h:=by obtain⟨p,e,h⟩:=h;exact⟨p,e,h.mono hs⟩
 plain h v hv:=by obtain⟨p,rfl,_⟩:=h;simp at hv;subst hv;rfl
abbrev Ro.map:Ro (Option Nat):=Ro.atom .map
theorem MT{α β:Type}{f:α→β→Chk}:∀ {ps:List α}{ss:List β}{i:Nat}{p:α}{s:β},ps[i]? =some p→ss[i]? =some s→
 ∃rest,(qY f ps ss).Perm (f p s::rest)∧ ∀a s',(qY f (ps.set i a) (ss.set i s')).Perm (f a s'::rest):=by
 intro ps
 induction ps with
 |nil=>intro ss i p s h;simp at h
 |cons q ps d=>
  intro ss i p s c b;cases ss with
  |nil=>simp at b
  |cons t ss=>
   cases i with
   |zero=>
    simp only[oJ,Option.some.injEq]at c b;subst c b;exact⟨qY f ps ss,pU _,λa s'=>pU _⟩
   |succ i=>
    obtain⟨rest,e,g⟩:=d (by simpa using c) (by simpa using b);exact⟨f q t::rest,(rK _ e).trans (qL _ _ _),λa s'=>(rK _ (g a s')).trans (qL _ _ _)⟩
abbrev QE{α:Type}(e:sH)(r:Ro α)(ts:List Slc)(ls:List (List α)):List Chk:=qY (cR e r) ts ls
theorem St.freezeRows{α:Type}{e:sH}{r:Ro α}:∀ {ts:List Slc}{ls:List (List α)}{φ:AD}{h:AH}{F:List Chk},ts.length=ls.length→St φ (QE e r ts ls++F) h→
 ∃ψ,Sub φ ψ∧(∀(i:Nat) t l,ts[i]? =some t→ls[i]? =some l→Ro.SliceIs r ψ t l)∧St ψ F h:=by
 intro ts
 induction ts with
 |nil=>
  intro ls φ h F b H;cases ls with
  |nil=>exact⟨φ,Sub.refl _,λi t l h=>by simp at h,H⟩
  |cons _ _=>cases b
 |cons t ts g=>
  intro ls φ h F b H;cases ls with
  |nil=>cases b
  |cons l ls=>
   have⟨q,c,j,k⟩:=St.freezeRow (t:=t) H;obtain⟨m,a,n,o⟩:=g (by simpa using b) k;refine⟨m,c.trans a,λi p l' d f=>?_,o⟩;cases i with
   |zero=>
    simp only[oJ,Option.some.injEq]at d f;subst d f;exact j.mono a
   |succ i=>exact n i p l' (by simpa using d) (by simpa using f)
section
variable {P:sI}{Q:Bl→AH→Prop}{h:AH}{φ ψ:AD}{Γ:List Chk}
theorem NR{a:Bc}{l:List a.Ty}{x:a.Ty}{K:a.Ty→T}(k:Ro.SliceIs (Ro.atom a) φ t l)(b:idx l i=some x)(c:Sub φ (Bo h))(d:(K x).wp P Q h):
 (nW t.1 λA=>chk (0≤i∧i< (t.2.1:Nat))<|T.load a (A.add (nZ i *1)) K).wp P Q h:=by have⟨g,cs,e,f,r1,cl⟩:=k.get b;refine AI _ e (Ai f ?_);obtain rfl:cs= [a.val x]:=r1;exact AF (x:=x) (AG c (cl 0 _ rfl)) rfl d
theorem TZ{α:Type}{r:Ro α}{l:List (List α)}{x:List α}{K:Slc→T}(k:Ro.SliceIs (Ro.list r) φ t l)(a:idx l i=some x)(b:Sub φ (Bo h))(c:∀u,Ro.SliceIs r φ u x→(K u).wp P Q h):
 (nW t.1 λA=>chk (0≤i∧i< (t.2.1:Nat))<|T.load .slice (A.add (nZ i *1)) K).wp P Q h:=by have⟨g,cs,d,e,r1,cl⟩:=k.get a;refine AI _ d (Ai e ?_);obtain⟨u,rfl,f⟩:=r1;exact AF (x:=u) (AG b (cl 0 _ rfl)) rfl (c u f)
theorem PN{a:Bc}{ty:sH}{l:List a.Ty}{x:a.Ty}{K:a.Ty→T}(H:St φ (cR ty (Ro.atom a) t l::Γ) h)(b:idx l i=some x)(c:(K x).wp P Q h):
 (nW t.1 λA=>chk (0≤i∧i< (t.2.1:Nat))<|T.load a (A.add (nZ i *1)) K).wp P Q h:=by have⟨f,cs,d,e,r1,cl⟩:=St.get H b;refine AI _ d (Ai e ?_);obtain rfl:cs= [a.val x]:=r1;exact AF (x:=x) (cl 0 _ rfl) rfl c
end
theorem sb{φ ψ:AD}(le:Sub φ ψ:=by repeat first | exact Sub.refl _ | assumption | refine Sub.trans ?_ (by assumption)):Sub φ ψ:=le
theorem Ro.SliceIs.up{α:Type}{r:Ro α}{φ ψ:AD}{l:List α}(k:Ro.SliceIs r φ t l)(le:Sub φ ψ:=by repeat first | exact Sub.refl _ | assumption | refine Sub.trans ?_ (by assumption)):Ro.SliceIs r ψ t l:=k.mono le
theorem Pt.up{α:Type}{r:Ro α}{φ ψ:AD}{p:nG}{x:α}(k:Pt r φ p x)(le:Sub φ ψ:=by repeat first | exact Sub.refl _ | assumption | refine Sub.trans ?_ (by assumption)):Pt r ψ p x:=k.mono le
theorem Np.up{α:Type}{r:Ro α}{φ ψ:AD}{p:nG}{x:Option α}(k:Np r φ p x)(le:Sub φ ψ:=by repeat first | exact Sub.refl _ | assumption | refine Sub.trans ?_ (by assumption)):Np r ψ p x:=k.mono le
def Lf{α:Type}(ro:Ro α)(j:Nat)(a:Bc)(R:AD→a.Ty→α→Prop):Prop:= ∀φ cs x,ro.is φ cs x→ ∃v:a.Ty,cs[j]? =some (a.val v)∧R φ v x
theorem Lf.tl{α β:Type}{b:Ro β}{ro:Ro α}{j:Nat}{a:Bc}{R:AD→a.Ty→α→Prop}(L:Lf ro j a R)(c:b.sz=1:=by rfl):Lf (Ro.prod b ro) (j+1) a (λφ v x=>R φ v x.2):=λφ cs x h=>by
 obtain⟨l,d,rfl,e,f⟩:=h;have⟨v,g,i⟩:=L φ d x.2 f;have k:=b.len e;exact⟨v,by rw[oN nJ,k,c];exact g,i⟩
theorem Lf.hd{α β:Type}{b:Ro β}{ro:Ro α}{a:Bc}{R:AD→a.Ty→β→Prop}(L:Lf b 0 a R):Lf (Ro.prod b ro) 0 a (λφ v x=>R φ v x.1):=λφ cs x h=>by
 obtain⟨d,g,rfl,e,i⟩:=h;have⟨v,c,f⟩:=L φ d x.1 e;exact⟨v,by rw[hM (List.getElem?_eq_some_iff.1 c).1];exact c,f⟩
theorem Lf.a(a:Bc):Lf (Ro.atom a) 0 a (λ_ v x=>v=x):=λφ cs x h=>⟨x,by obtain rfl:cs=_:=h;rfl,rfl⟩
theorem Lf.l{α:Type}(r:Ro α):Lf (Ro.list r) 0 .slice (λφ v x=>Ro.SliceIs r φ v x):=λφ cs x h=>by
 obtain⟨t,rfl,k⟩:=h;exact⟨t,rfl,k⟩
theorem Lf.p{α:Type}(r:Ro α):Lf (Ro.at r) 0 .pointer (λφ v x=>Pt r φ v x):=λφ cs x h=>by
 obtain⟨t,rfl,k⟩:=h;exact⟨t,rfl,k⟩
section
variable {P:sI}{Q:Bl→AH→Prop}{h:AH}{φ ψ:AD}{Γ:List Chk}{α β:Type}{ro:Ro α}{j:Nat}{a:Bc}
theorem ixR{R:AD→a.Ty→α→Prop}(L:Lf ro j a R){l:List α}{f:α→Option β}{r:β}{K:a.Ty→T}(k:Ro.SliceIs ro φ t l)(hd:(idx l i).bind f=some r)(s:St ψ Γ h)(b:∀x v,R φ v x→f x=some r→(K v).wp P Q h)(le:Sub φ ψ:=by repeat first | exact Sub.refl _ | assumption | refine Sub.trans ?_ (by assumption)):
 (nW t.1 λA=>chk (0≤i∧i< (t.2.1:Nat))<|T.load a ((A.add (nZ i *ro.sz)).add j) K).wp P Q h:=by have⟨x,c,hd⟩:=bS hd;have⟨A,cs,d,e,q,cl⟩:=k.get c;have⟨v,g,m⟩:=L φ cs x q;exact AI _ d (Ai e (AF (x:=v) (by rw[Aj];exact AG (le.trans s.sub) (cl j _ g)) rfl (b x v m hd)))
theorem ixS{g:α→a.Ty}(L:Lf ro j a (λ_ v x=>v=g x)){l:List α}{f:α→Option β}{r:β}{K:a.Ty→T}(k:Ro.SliceIs ro φ t l)(hd:(idx l i).bind f=some r)(s:St ψ Γ h)(b:∀x,f x=some r→(K (g x)).wp P Q h)(le:Sub φ ψ:=by repeat first | exact Sub.refl _ | assumption | refine Sub.trans ?_ (by assumption)):
 (nW t.1 λA=>chk (0≤i∧i< (t.2.1:Nat))<|T.load a ((A.add (nZ i *ro.sz)).add j) K).wp P Q h:=ixR L k hd s (λx v e hd=>by rw[e];exact b x hd) le
theorem Ik{g:α→a.Ty}(L:Lf ro 0 a (λ_ v x=>v=g x)){l:List α}{f:α→Option β}{r:β}{K:a.Ty→T}(k:Ro.SliceIs ro φ t l)(hd:(idx l i).bind f=some r)(s:St ψ Γ h)(b:∀x,f x=some r→(K (g x)).wp P Q h)(le:Sub φ ψ:=by repeat first | exact Sub.refl _ | assumption | refine Sub.trans ?_ (by assumption)):
 (nW t.1 λA=>chk (0≤i∧i< (t.2.1:Nat))<|T.load a (A.add (nZ i *ro.sz)) K).wp P Q h:=ixS L k hd s b le
theorem ioR{ty:sH}{R:AD→a.Ty→α→Prop}(L:Lf ro j a R){l:List α}{f:α→Option β}{r:β}{K:a.Ty→T}(s:St φ (cR ty ro t l::Γ) h)(hd:(idx l i).bind f=some r)(b:∀x v,R φ v x→f x=some r→(K v).wp P Q h):
 (nW t.1 λA=>chk (0≤i∧i< (t.2.1:Nat))<|T.load a ((A.add (nZ i *ro.sz)).add j) K).wp P Q h:=by have⟨x,c,hd⟩:=bS hd;have⟨A,cs,d,e,q,cl⟩:=s.get c;have⟨v,g,k⟩:=L φ cs x q;exact AI _ d (Ai e (AF (x:=v) (by rw[Aj];exact cl j _ g) rfl (b x v k hd)))
theorem ioS{ty:sH}{g:α→a.Ty}(L:Lf ro j a (λ_ v x=>v=g x)){l:List α}{f:α→Option β}{r:β}{K:a.Ty→T}(s:St φ (cR ty ro t l::Γ) h)(hd:(idx l i).bind f=some r)(b:∀x,f x=some r→(K (g x)).wp P Q h):
 (nW t.1 λA=>chk (0≤i∧i< (t.2.1:Nat))<|T.load a ((A.add (nZ i *ro.sz)).add j) K).wp P Q h:=ioR L s hd λx v e hd=>by rw[e];exact b x hd
theorem iz{ty:sH}{g:α→a.Ty}(L:Lf ro 0 a (λ_ v x=>v=g x)){l:List α}{f:α→Option β}{r:β}{K:a.Ty→T}(s:St φ (cR ty ro t l::Γ) h)(hd:(idx l i).bind f=some r)(b:∀x,f x=some r→(K (g x)).wp P Q h):
 (nW t.1 λA=>chk (0≤i∧i< (t.2.1:Nat))<|T.load a (A.add (nZ i *ro.sz)) K).wp P Q h:=ioS L s hd b
theorem QQ{a b:Bc}{l:List (a.Ty×b.Ty)}{f:a.Ty×b.Ty→Option β}{r:β}{K:a.Ty→b.Ty→T}(k:Ro.SliceIs (Ro.prod (Ro.atom a) (Ro.atom b)) φ t l)(hd:(idx l i).bind f=some r)(s:St ψ Γ h)(c:∀x,f x=some r→(K x.1 x.2).wp P Q h)(le:Sub φ ψ:=by repeat first | exact Sub.refl _ | assumption | refine Sub.trans ?_ (by assumption)):
 (nW t.1 λA=>chk (0≤i∧i< (t.2.1:Nat))<|T.load a (A.add (nZ i *2)) λu=>T.load b ((A.add (nZ i *2)).add 1) λv=>K u v).wp P Q h:=by have⟨x,d,hd⟩:=bS hd;obtain⟨A,_,e,g,⟨_,_,rfl,rfl,rfl⟩,cl⟩:=k.get d;exact AI _ e (Ai g (AF (x:=x.1) (AG (le.trans s.sub) (cl 0 _ rfl)) rfl (AF (x:=x.2) (by rw[Aj];exact AG (le.trans s.sub) (cl 1 _ rfl)) rfl (c x hd))))
theorem ZG{a b c:Bc}{l:List (a.Ty×b.Ty×c.Ty)}{f:a.Ty×b.Ty×c.Ty→Option β}{r:β}{K:a.Ty→b.Ty→c.Ty→T}(k:Ro.SliceIs (Ro.prod (Ro.atom a) (Ro.prod (Ro.atom b) (Ro.atom c))) φ t l)(hd:(idx l i).bind f=some r)(s:St ψ Γ h)(d:∀x,f x=some r→(K x.1 x.2.1 x.2.2).wp P Q h)(le:Sub φ ψ:=by repeat first | exact Sub.refl _ | assumption | refine Sub.trans ?_ (by assumption)):
 (nW t.1 λA=>chk (0≤i∧i< (t.2.1:Nat))<|T.load a (A.add (nZ i *3)) λu=>T.load b ((A.add (nZ i *3)).add 1) λv=>T.load c ((A.add (nZ i *3)).add 2) λw=>K u v w).wp P Q h:=by have⟨x,e,hd⟩:=bS hd;obtain⟨A,_,g,m,⟨_,_,rfl,rfl,⟨_,_,rfl,rfl,rfl⟩⟩,cl⟩:=k.get e;have q:=λj v n=>AG (le.trans s.sub) (cl j v n);exact AI _ g (Ai m (AF (x:=x.1) (q 0 _ rfl) rfl (AF (x:=x.2.1) (by rw[Aj];exact q 1 _ rfl) rfl (AF (x:=x.2.2) (by rw[Aj];exact q 2 _ rfl) rfl (d x hd)))))
theorem iJ{ty:sH}{a b:Bc}{l:List (a.Ty×b.Ty)}{f:a.Ty×b.Ty→Option β}{r:β}{K:a.Ty→b.Ty→T}(s:St φ (cR ty (Ro.prod (Ro.atom a) (Ro.atom b)) t l::Γ) h)(hd:(idx l i).bind f=some r)(c:∀x,f x=some r→(K x.1 x.2).wp P Q h):
 (nW t.1 λA=>chk (0≤i∧i< (t.2.1:Nat))<|T.load a (A.add (nZ i *2)) λu=>T.load b ((A.add (nZ i *2)).add 1) λv=>K u v).wp P Q h:=by have⟨x,d,hd⟩:=bS hd;obtain⟨A,_,e,g,⟨_,_,rfl,rfl,rfl⟩,cl⟩:=s.get d;exact AI _ e (Ai g (AF (x:=x.1) (cl 0 _ rfl) rfl (AF (x:=x.2) (by rw[Aj];exact cl 1 _ rfl) rfl (c x hd))))
theorem jA{ty:sH}{a b c:Bc}{l:List (a.Ty×b.Ty×c.Ty)}{f:a.Ty×b.Ty×c.Ty→Option β}{r:β}{K:a.Ty→b.Ty→c.Ty→T}(s:St φ (cR ty (Ro.prod (Ro.atom a) (Ro.prod (Ro.atom b) (Ro.atom c))) t l::Γ) h)(hd:(idx l i).bind f=some r)(d:∀x,f x=some r→(K x.1 x.2.1 x.2.2).wp P Q h):
 (nW t.1 λA=>chk (0≤i∧i< (t.2.1:Nat))<|T.load a (A.add (nZ i *3)) λu=>T.load b ((A.add (nZ i *3)).add 1) λv=>T.load c ((A.add (nZ i *3)).add 2) λw=>K u v w).wp P Q h:=by have⟨x,e,hd⟩:=bS hd;obtain⟨A,_,g,j,⟨_,_,rfl,rfl,⟨_,_,rfl,rfl,rfl⟩⟩,cl⟩:=s.get e;exact AI _ g (Ai j (AF (x:=x.1) (cl 0 _ rfl) rfl (AF (x:=x.2.1) (by rw[Aj];exact cl 1 _ rfl) rfl (AF (x:=x.2.2) (by rw[Aj];exact cl 2 _ rfl) rfl (d x hd)))))
theorem gx{l:List a.Ty}{f:a.Ty→Option β}{r:β}{K:a.Ty→T}(k:Ro.SliceIs (Ro.atom a) φ t l)(hd:(idx l i).bind f=some r)(s:St ψ Γ h)(b:∀x,f x=some r→(K x).wp P Q h)(le:Sub φ ψ:=by repeat first | exact Sub.refl _ | assumption | refine Sub.trans ?_ (by assumption)):
 (nW t.1 λA=>chk (0≤i∧i< (t.2.1:Nat))<|T.load a (A.add (nZ i *1)) K).wp P Q h:=by have⟨x,c,hd⟩:=bS hd;exact NR k c (le.trans s.sub) (b x hd)
theorem gxS{a:Ro α}{l:List (List α)}{f:List α→Option β}{r:β}{K:Slc→T}(k:Ro.SliceIs (Ro.list a) φ t l)(hd:(idx l i).bind f=some r)(s:St ψ Γ h)(b:∀x u,Ro.SliceIs a φ u x→f x=some r→(K u).wp P Q h)(le:Sub φ ψ:=by repeat first | exact Sub.refl _ | assumption | refine Sub.trans ?_ (by assumption)):
 (nW t.1 λA=>chk (0≤i∧i< (t.2.1:Nat))<|T.load .slice (A.add (nZ i *1)) K).wp P Q h:=by have⟨x,c,hd⟩:=bS hd;exact TZ k c (le.trans s.sub) λu d=>b x u d hd
theorem gxO{ty:sH}{l:List a.Ty}{f:a.Ty→Option β}{r:β}{K:a.Ty→T}(s:St φ (cR ty (Ro.atom a) t l::Γ) h)(hd:(idx l i).bind f=some r)(b:∀x,f x=some r→(K x).wp P Q h):
 (nW t.1 λA=>chk (0≤i∧i< (t.2.1:Nat))<|T.load a (A.add (nZ i *1)) K).wp P Q h:=by have⟨x,c,hd⟩:=bS hd;exact PN s c (b x hd)
theorem pfR{R:AD→a.Ty→α→Prop}(L:Lf ro j a R){p:nG}{x:α}{K:a.Ty→T}(k:Pt ro φ p x)(s:St ψ Γ h)(b:∀v,R φ v x→(K v).wp P Q h)(le:Sub φ ψ:=by repeat first | exact Sub.refl _ | assumption | refine Sub.trans ?_ (by assumption)):(nW p λA=>T.load a (A.add j) K).wp P Q h:=by obtain⟨A,vs,e,q,c⟩:=k;have⟨v,d,f⟩:=L φ vs x q;exact AI _ e (AF (x:=v) (AG (le.trans s.sub) (c.at j d)) rfl (b v f))
theorem Ta{R:AD→a.Ty→α→Prop}(L:Lf ro 0 a R){p:nG}{x:α}{K:a.Ty→T}(k:Pt ro φ p x)(s:St ψ Γ h)(b:∀v,R φ v x→(K v).wp P Q h)(le:Sub φ ψ:=by repeat first | exact Sub.refl _ | assumption | refine Sub.trans ?_ (by assumption)):(nW p λA=>T.load a A K).wp P Q h:=pfR L k s b le
theorem AT{f:FuncId}{fn:Func}{args:List sG}{R:Fin→AH→Prop}{t:T}(a:P.follows .mixedOrders=true)(b:P.funcs[f]? =some fn)(hd:Ab P fn args=t)(H:t.wp P (NP R) h):nX P f args h R:=A9 a b (by rw[hd];exact H)
theorem D5{t:Slc×Slc×Slc×Slc×Slc×Slc×Unit}{ty:sH}{k:Nat→T}(H:St φ Γ h)(a:∀r h',St φ (cW ty r [sv t.1,sv t.2.1,sv t.2.2.1,sv t.2.2.2.1,sv t.2.2.2.2.1,sv t.2.2.2.2.2.1]::Γ) h'→(k r).wp P Q h'):(T.new (.cells #[.slice t.1.1 t.1.2.1 t.1.2.2,.slice t.2.1.1 t.2.1.2.1 t.2.1.2.2,.slice t.2.2.1.1 t.2.2.1.2.1 t.2.2.1.2.2,.slice t.2.2.2.1.1 t.2.2.2.1.2.1 t.2.2.2.1.2.2,.slice t.2.2.2.2.1.1 t.2.2.2.2.1.2.1 t.2.2.2.2.1.2.2,.slice t.2.2.2.2.2.1.1 t.2.2.2.2.2.1.2.1 t.2.2.2.2.2.1.2.2] ty (0,0)) k).wp P Q h:=
 AU (vs:=[sv t.1,sv t.2.1,sv t.2.2.1,sv t.2.2.2.1,sv t.2.2.2.2.1,sv t.2.2.2.2.2.1]) H a
theorem BS{t:Slc×Slc×Slc×Slc×Slc×Slc×Unit}{ty:sH}{b:Nat}{K:Slc→Slc→Slc→Slc→Slc→Slc→T}(H:St φ (⟨Rep.raw ty,[.pointer (some ⟨b,0,none⟩)],[sv t.1,sv t.2.1,sv t.2.2.1,sv t.2.2.2.1,sv t.2.2.2.2.1,sv t.2.2.2.2.2.1]⟩::Γ) h)(a:(K t.1 t.2.1 t.2.2.1 t.2.2.2.1 t.2.2.2.2.1 t.2.2.2.2.2.1).wp P Q h):
 (T.load .slice ⟨b,0,none⟩ λt0=>T.load .slice ⟨b,1,none⟩ λt1=>T.load .slice ⟨b,2,none⟩ λt2=>T.load .slice ⟨b,3,none⟩ λt3=>T.load .slice ⟨b,4,none⟩ λt4=>T.load .slice ⟨b,5,none⟩ λt5=>K t0 t1 t2 t3 t4 t5).wp P Q h:=
 AA (x:=t.1) H rfl (AA (x:=t.2.1) H rfl (AA (x:=t.2.2.1) H rfl (AA (x:=t.2.2.2.1) H rfl (AA (x:=t.2.2.2.2.1) H rfl (AA (x:=t.2.2.2.2.2.1) H rfl a)))))
end
abbrev aI:Sh1:=.atom (.int .i64)
abbrev aB:Sh1:=.atom .bool
abbrev aS:Sh1:=.atom .slice
abbrev aP:Sh1:=.atom .pointer
abbrev wN(x:Int):Int:=pF .i64 (x+(1:Int))
theorem dT{a b:Nat}(n:a=b)(h:i< ((b:Nat):Int)):decide (i< ((a:Nat):Int))=true:=by rw[n];exact mW h
theorem dF{a b:Nat}(n:a=b)(h:((b:Nat):Int) ≤i):decide (i< ((a:Nat):Int))=false:=by rw[n];exact mV (Int.not_lt.2 h)
abbrev Pl6:Type:=Slc×Slc×Slc×Slc×Slc×Slc×Unit
abbrev aH(a b c d e f:Slc):sG:=.agg #[sv a,sv b,sv c,sv d,sv e,sv f]
abbrev aG(p:Pl6):sG:=.agg #[sv p.1,sv p.2.1,sv p.2.2.1,sv p.2.2.2.1,sv p.2.2.2.2.1,sv p.2.2.2.2.2.1]
noncomputable abbrev L6(r:Nat)(k:Slc→Slc→Slc→Slc→Slc→Slc→T):T:=T.load .slice ⟨r,0,none⟩ λ(a:Slc)=>T.load .slice ⟨r,1,none⟩ λ(b:Slc)=>T.load .slice ⟨r,2,none⟩ λ(c:Slc)=>T.load .slice ⟨r,3,none⟩ λ(d:Slc)=>T.load .slice ⟨r,4,none⟩ λ(e:Slc)=>T.load .slice ⟨r,5,none⟩ λ(f:Slc)=>k a b c d e f
noncomputable abbrev M6(r:sK)(k:Slc→Slc→Slc→Slc→Slc→Slc→T):T:=T.load .slice r λ(a:Slc)=>T.load .slice (r.add 1) λ(b:Slc)=>T.load .slice (r.add 2) λ(c:Slc)=>T.load .slice (r.add 3) λ(d:Slc)=>T.load .slice (r.add 4) λ(e:Slc)=>T.load .slice (r.add 5) λ(f:Slc)=>k a b c d e f
noncomputable abbrev S6(r:Nat)(a b c d e f:Slc)(k:T):T:=T.still ⟨r,0,none⟩ (sv a)<|T.still ⟨r,1,none⟩ (sv b)<|T.still ⟨r,2,none⟩ (sv c)<|T.still ⟨r,3,none⟩ (sv d)<|T.still ⟨r,4,none⟩ (sv e)<|T.still ⟨r,5,none⟩ (sv f)<|k
end
end Go.Eng
namespace Go.Proofs.YtfnppeejaimnbaaGreatDoor
open Go Go.Eng
section
variable {φ:AD}{h:AH}{Γ:List Chk}{b:Nat}{t1:Slc}
abbrev Aq:Type:=(Int×Int)
abbrev Au:Ro Aq:=(Ro.prod (Ro.int .i64) (Ro.int .i64))
theorem W2:Lf Au 0 (.int .i64) (λ_ v x=>v=x.1):=Lf.hd (Lf.a _)
theorem cV:Lf Au 1 (.int .i64) (λ_ v x=>v=x.2):=Lf.tl (Lf.a _)
abbrev JE:Type:=(Int×Int)
abbrev ED:Ro JE:=(Ro.prod (Ro.int .i64) (Ro.int .i64))
theorem cY:Lf ED 0 (.int .i64) (λ_ v x=>v=x.1):=Lf.hd (Lf.a _)
theorem cZ:Lf ED 1 (.int .i64) (λ_ v x=>v=x.2):=Lf.tl (Lf.a _)
abbrev JF:Type:=(nI×nI×Bool)
abbrev ON:Ro JF:=(Ro.prod Ro.str (Ro.prod Ro.str Ro.bool))
abbrev Hk:Type:=(nI×nI×nI×Bool)
abbrev Hl:Ro Hk:=(Ro.prod Ro.str (Ro.prod Ro.str (Ro.prod Ro.str Ro.bool)))
theorem Qf:Lf Hl 0 .string (λ_ v x=>v=x.1):=Lf.hd (Lf.a _)
abbrev Fz:Type:=(Int×List nI)
abbrev HB:Ro Fz:=(Ro.prod (Ro.int .i64) (Ro.list Ro.str))
theorem ca:Lf HB 0 (.int .i64) (λ_ v x=>v=x.1):=Lf.hd (Lf.a _)
theorem cb:Lf HB 1 .slice (λφ v x=>Ro.SliceIs Ro.str φ v x.2):=Lf.tl (Lf.l _)
abbrev Dy:Type:=(nI×List nI×nI×nI)
abbrev Gk:Ro Dy:=(Ro.prod Ro.str (Ro.prod (Ro.list Ro.str) (Ro.prod Ro.str Ro.str)))
theorem Tb:Lf Gk 0 .string (λ_ v x=>v=x.1):=Lf.hd (Lf.a _)
theorem cc:Lf Gk 3 .string (λ_ v x=>v=x.2.2.2):=Lf.tl (Lf.tl (Lf.tl (Lf.a _)))
abbrev Ap:Type:=(Int×nH×Int)
abbrev BL:Ro Ap:=(Ro.prod (Ro.int .i64) (Ro.prod (Ro.list (Ro.int .i64)) (Ro.int .i64)))
theorem Jk:Lf BL 0 (.int .i64) (λ_ v x=>v=x.1):=Lf.hd (Lf.a _)
theorem Gf:Lf BL 1 .slice (λφ v x=>Ro.SliceIs (Ro.int .i64) φ v x.2.1):=Lf.tl (Lf.hd (Lf.l _))
theorem W4:Lf BL 2 (.int .i64) (λ_ v x=>v=x.2.2):=Lf.tl (Lf.tl (Lf.a _))
abbrev As:Type:=(List nI×List nI×List Ap×nH×nH×List nI)
abbrev GF:Type:=(List Hk×List JF×List Fz×nI×List Dy)
abbrev PO:Type:=(Int×Int×nH×List nH×nH×nH×nH)
abbrev eb:Type:=(List Aq×List Aq×List JE×Int×Int)
abbrev W5:Ro eb:=(Ro.prod (Ro.list Au) (Ro.prod (Ro.list Au) (Ro.prod (Ro.list ED) (Ro.prod (Ro.int .i64) (Ro.int .i64)))))
abbrev GQ:Type:=(List nI×List nI×List Ap×nH×nH×List nI×List eb×Int)
abbrev Jl:Ro GQ:=(Ro.prod (Ro.list Ro.str) (Ro.prod (Ro.list Ro.str) (Ro.prod (Ro.list BL) (Ro.prod (Ro.list (Ro.int .i64)) (Ro.prod (Ro.list (Ro.int .i64)) (Ro.prod (Ro.list Ro.str) (Ro.prod (Ro.list W5) (Ro.int .i64))))))))
theorem Tc:Lf Jl 6 .slice (λφ v x=>Ro.SliceIs W5 φ v x.2.2.2.2.2.2.1):=Lf.tl (Lf.tl (Lf.tl (Lf.tl (Lf.tl (Lf.tl (Lf.hd (Lf.l _)))))))
abbrev NS:Type:=(List nI×List nI×List Ap×nH×nH×List nI×Slc×Int)
abbrev Dz:Ro NS:=(Ro.prod (Ro.list Ro.str) (Ro.prod (Ro.list Ro.str) (Ro.prod (Ro.list BL) (Ro.prod (Ro.list (Ro.int .i64)) (Ro.prod (Ro.list (Ro.int .i64)) (Ro.prod (Ro.list Ro.str) (Ro.prod Ro.slc (Ro.int .i64))))))))
abbrev DA:Type:=(Int×Int×Int)
abbrev Gl:Ro DA:=(Ro.prod (Ro.int .i64) (Ro.prod (Ro.int .i64) (Ro.int .i64)))
abbrev EO:Type:=(Int×Int)
abbrev FI:Ro EO:=(Ro.prod (Ro.int .i64) (Ro.int .i64))
abbrev Cn:Type:=(Int×Int×Int×nH×Int×Int×Bool)
abbrev Fp:Ro Cn:=(Ro.prod (Ro.int .i64) (Ro.prod (Ro.int .i64) (Ro.prod (Ro.int .i64) (Ro.prod (Ro.list (Ro.int .i64)) (Ro.prod (Ro.int .i64) (Ro.prod (Ro.int .i64) Ro.bool))))))
theorem ZH:Lf Fp 0 (.int .i64) (λ_ v x=>v=x.1):=Lf.hd (Lf.a _)
theorem ZI:Lf Fp 1 (.int .i64) (λ_ v x=>v=x.2.1):=Lf.tl (Lf.hd (Lf.a _))
theorem ZJ:Lf Fp 2 (.int .i64) (λ_ v x=>v=x.2.2.1):=Lf.tl (Lf.tl (Lf.hd (Lf.a _)))
theorem ZK:Lf Fp 3 .slice (λφ v x=>Ro.SliceIs (Ro.int .i64) φ v x.2.2.2.1):=Lf.tl (Lf.tl (Lf.tl (Lf.hd (Lf.l _))))
theorem Qz:Lf Fp 6 .bool (λ_ v x=>v=x.2.2.2.2.2.2):=Lf.tl (Lf.tl (Lf.tl (Lf.tl (Lf.tl (Lf.tl (Lf.a _))))))
abbrev ZL:Type:=(Int×Int)
abbrev Uj:Ro ZL:=(Ro.prod (Ro.int .i64) (Ro.int .i64))
abbrev iK:Type:=(Int×Int)
abbrev ec:Type:=(List Bool×List nH×List nH×Int)
abbrev Q0:Type:=(List Bool×List (List Bool)×List (List Bool)×Int)
abbrev W6:Ro Q0:=(Ro.prod (Ro.list Ro.bool) (Ro.prod (Ro.list (Ro.list Ro.bool)) (Ro.prod (Ro.list (Ro.list Ro.bool)) (Ro.int .i64))))
theorem W7:Lf W6 0 .slice (λφ v x=>Ro.SliceIs Ro.bool φ v x.1):=Lf.hd (Lf.l _)
theorem cd:Lf W6 1 .slice (λφ v x=>Ro.SliceIs (Ro.list Ro.bool) φ v x.2.1):=Lf.tl (Lf.hd (Lf.l _))
abbrev Se:Type:=(List nI×List nI×List Ap×nH×nH×List nI×GQ×List Bool×List nH×List nH×Int×List ZL×Option Nat×Option Nat)
abbrev Uk:Ro Se:=(Ro.prod (Ro.list Ro.str) (Ro.prod (Ro.list Ro.str) (Ro.prod (Ro.list BL) (Ro.prod (Ro.list (Ro.int .i64)) (Ro.prod (Ro.list (Ro.int .i64)) (Ro.prod (Ro.list Ro.str) (Ro.prod (Ro.at Jl) (Ro.prod (Ro.list Ro.bool) (Ro.prod (Ro.list (Ro.list (Ro.int .i64))) (Ro.prod (Ro.list (Ro.list (Ro.int .i64))) (Ro.prod (Ro.int .i64) (Ro.prod (Ro.list Uj) (Ro.prod Ro.map Ro.map)))))))))))))
theorem W8:Lf Uk 2 .slice (λφ v x=>Ro.SliceIs BL φ v x.2.2.1):=Lf.tl (Lf.tl (Lf.hd (Lf.l _)))
theorem W9:Lf Uk 6 .pointer (λφ v x=>Pt Jl φ v x.2.2.2.2.2.2.1):=Lf.tl (Lf.tl (Lf.tl (Lf.tl (Lf.tl (Lf.tl (Lf.hd (Lf.p _)))))))
abbrev DU:Type:=(List nI×List nI×List Ap×nH×nH×List nI×List (List EO)×List nH×List Cn)
abbrev OO:Ro DU:=(Ro.prod (Ro.list Ro.str) (Ro.prod (Ro.list Ro.str) (Ro.prod (Ro.list BL) (Ro.prod (Ro.list (Ro.int .i64)) (Ro.prod (Ro.list (Ro.int .i64)) (Ro.prod (Ro.list Ro.str) (Ro.prod (Ro.list (Ro.list FI)) (Ro.prod (Ro.list (Ro.list (Ro.int .i64))) (Ro.list Fp)))))))))
theorem fX:Lf OO 0 .slice (λφ v x=>Ro.SliceIs Ro.str φ v x.1):=Lf.hd (Lf.l _)
theorem fY:Lf OO 1 .slice (λφ v x=>Ro.SliceIs Ro.str φ v x.2.1):=Lf.tl (Lf.hd (Lf.l _))
theorem V1:Lf OO 6 .slice (λφ v x=>Ro.SliceIs (Ro.list FI) φ v x.2.2.2.2.2.2.1):=Lf.tl (Lf.tl (Lf.tl (Lf.tl (Lf.tl (Lf.tl (Lf.hd (Lf.l _)))))))
theorem ZM:Lf OO 7 .slice (λφ v x=>Ro.SliceIs (Ro.list (Ro.int .i64)) φ v x.2.2.2.2.2.2.2.1):=Lf.tl (Lf.tl (Lf.tl (Lf.tl (Lf.tl (Lf.tl (Lf.tl (Lf.hd (Lf.l _))))))))
theorem ZN:Lf OO 8 .slice (λφ v x=>Ro.SliceIs Fp φ v x.2.2.2.2.2.2.2.2):=Lf.tl (Lf.tl (Lf.tl (Lf.tl (Lf.tl (Lf.tl (Lf.tl (Lf.tl (Lf.l _))))))))
abbrev DN:Type:=(Int×nH)
abbrev QR:Type:=(List nI×List nI×List Ap×nH×nH×List nI×List (List Aq)×List (List Aq)×List (List JE)×nH×nH×Int)
abbrev QS:Ro QR:=(Ro.prod (Ro.list Ro.str) (Ro.prod (Ro.list Ro.str) (Ro.prod (Ro.list BL) (Ro.prod (Ro.list (Ro.int .i64)) (Ro.prod (Ro.list (Ro.int .i64)) (Ro.prod (Ro.list Ro.str) (Ro.prod (Ro.list (Ro.list Au)) (Ro.prod (Ro.list (Ro.list Au)) (Ro.prod (Ro.list (Ro.list ED)) (Ro.prod (Ro.list (Ro.int .i64)) (Ro.prod (Ro.list (Ro.int .i64)) (Ro.int .i64))))))))))))
theorem Td:Lf QS 6 .slice (λφ v x=>Ro.SliceIs (Ro.list Au) φ v x.2.2.2.2.2.2.1):=Lf.tl (Lf.tl (Lf.tl (Lf.tl (Lf.tl (Lf.tl (Lf.hd (Lf.l _)))))))
theorem V2:Lf QS 7 .slice (λφ v x=>Ro.SliceIs (Ro.list Au) φ v x.2.2.2.2.2.2.2.1):=Lf.tl (Lf.tl (Lf.tl (Lf.tl (Lf.tl (Lf.tl (Lf.tl (Lf.hd (Lf.l _))))))))
theorem Te:Lf QS 8 .slice (λφ v x=>Ro.SliceIs (Ro.list ED) φ v x.2.2.2.2.2.2.2.2.1):=Lf.tl (Lf.tl (Lf.tl (Lf.tl (Lf.tl (Lf.tl (Lf.tl (Lf.tl (Lf.hd (Lf.l _)))))))))
abbrev Av:Type:=(Int×Int×Int)
abbrev BA:Ro Av:=(Ro.prod (Ro.int .i64) (Ro.prod (Ro.int .i64) (Ro.int .i64)))
theorem XA:Lf BA 0 (.int .i64) (λ_ v x=>v=x.1):=Lf.hd (Lf.a _)
theorem XB:Lf BA 1 (.int .i64) (λ_ v x=>v=x.2.1):=Lf.tl (Lf.hd (Lf.a _))
theorem ce:Lf BA 2 (.int .i64) (λ_ v x=>v=x.2.2):=Lf.tl (Lf.tl (Lf.a _))
abbrev Hm:Type:=(List nI×List nI×List Ap×nH×nH×List nI×QR×List (List (List Bool)))
abbrev OP:Ro Hm:=(Ro.prod (Ro.list Ro.str) (Ro.prod (Ro.list Ro.str) (Ro.prod (Ro.list BL) (Ro.prod (Ro.list (Ro.int .i64)) (Ro.prod (Ro.list (Ro.int .i64)) (Ro.prod (Ro.list Ro.str) (Ro.prod (Ro.at QS) (Ro.list (Ro.list (Ro.list Ro.bool))))))))))
theorem XC:Lf OP 2 .slice (λφ v x=>Ro.SliceIs BL φ v x.2.2.1):=Lf.tl (Lf.tl (Lf.hd (Lf.l _)))
theorem Tf:Lf OP 6 .pointer (λφ v x=>Pt QS φ v x.2.2.2.2.2.2.1):=Lf.tl (Lf.tl (Lf.tl (Lf.tl (Lf.tl (Lf.tl (Lf.hd (Lf.p _)))))))
theorem XD:Lf OP 7 .slice (λφ v x=>Ro.SliceIs (Ro.list (Ro.list Ro.bool)) φ v x.2.2.2.2.2.2.2):=Lf.tl (Lf.tl (Lf.tl (Lf.tl (Lf.tl (Lf.tl (Lf.tl (Lf.l _)))))))
abbrev Kh:Type:=(List nI×List nI×List Ap×nH×nH×List nI×QR×Hm)
abbrev PP:Ro Kh:=(Ro.prod (Ro.list Ro.str) (Ro.prod (Ro.list Ro.str) (Ro.prod (Ro.list BL) (Ro.prod (Ro.list (Ro.int .i64)) (Ro.prod (Ro.list (Ro.int .i64)) (Ro.prod (Ro.list Ro.str) (Ro.prod (Ro.at QS) (Ro.at OP))))))))
theorem PQ:Lf PP 0 .slice (λφ v x=>Ro.SliceIs Ro.str φ v x.1):=Lf.hd (Lf.l _)
theorem ZO:Lf PP 1 .slice (λφ v x=>Ro.SliceIs Ro.str φ v x.2.1):=Lf.tl (Lf.hd (Lf.l _))
theorem Nh:Lf PP 6 .pointer (λφ v x=>Pt QS φ v x.2.2.2.2.2.2.1):=Lf.tl (Lf.tl (Lf.tl (Lf.tl (Lf.tl (Lf.tl (Lf.hd (Lf.p _)))))))
theorem ZP:Lf PP 7 .pointer (λφ v x=>Pt OP φ v x.2.2.2.2.2.2.2):=Lf.tl (Lf.tl (Lf.tl (Lf.tl (Lf.tl (Lf.tl (Lf.tl (Lf.p _)))))))
structure G8 (φ:AD) (t:(Option sK×Nat×Nat)×(Option sK×Nat×Nat)×(Option sK×Nat×Nat)×(Option sK×Nat×Nat)×(Option sK×Nat×Nat)×(Option sK×Nat×Nat)×Unit) (d:As):Prop where
 k0:Ro.SliceIs Ro.str φ t.1 d.1
 k1:Ro.SliceIs Ro.str φ t.2.1 d.2.1
 k2:Ro.SliceIs BL φ t.2.2.1 d.2.2.1
 k3:Ro.SliceIs (Ro.int .i64) φ t.2.2.2.1 d.2.2.2.1
 k4:Ro.SliceIs (Ro.int .i64) φ t.2.2.2.2.1 d.2.2.2.2.1
 k5:Ro.SliceIs Ro.str φ t.2.2.2.2.2.1 d.2.2.2.2.2
theorem G8.mono{ψ:AD}{t:(Option sK×Nat×Nat)×(Option sK×Nat×Nat)×(Option sK×Nat×Nat)×(Option sK×Nat×Nat)×(Option sK×Nat×Nat)×(Option sK×Nat×Nat)×Unit}{d:As}(H:G8 φ t d)(a:Sub φ ψ):G8 ψ t d:=
 ⟨H.k0.mono a,H.k1.mono a,H.k2.mono a,H.k3.mono a,H.k4.mono a,H.k5.mono a⟩
theorem G8.up{ψ:AD}{t:(Option Addr×Nat×Nat)×(Option Addr×Nat×Nat)×(Option Addr×Nat×Nat)×(Option Addr×Nat×Nat)×(Option Addr×Nat×Nat)×(Option Addr×Nat×Nat)×Unit}{d:As}(H:G8 φ t d)(le:Sub φ ψ:=by repeat first | exact Sub.refl _ | assumption | refine Sub.trans ?_ (by assumption)):G8 ψ t d:=H.mono le
abbrev Il:Rep As:=(Rep.prod (Rep.row 9 Ro.str) (Rep.prod (Rep.row 9 Ro.str) (Rep.prod (Rep.row 156 BL) (Rep.prod (Rep.row 3 (Ro.int .i64)) (Rep.prod (Rep.row 3 (Ro.int .i64)) (Rep.row 9 Ro.str))))))
theorem GR{p:nG}{x:As}(H:St φ (cO 32 Il p x::Γ) h):∃(b:Nat) (t0:Slc) (t1:Slc) (t2:Slc) (t3:Slc) (t4:Slc) (t5:Slc),p=some ⟨b,0,none⟩∧St φ (cR 9 Ro.str t5 x.2.2.2.2.2::cR 3 (Ro.int .i64) t4 x.2.2.2.2.1::cR 3 (Ro.int .i64) t3 x.2.2.2.1::cR 156 BL t2 x.2.2.1::cR 9 Ro.str t1 x.2.1::cR 9 Ro.str t0 x.1::cW 32 b [sv t0,sv t1,sv t2,sv t3,sv t4,sv t5]::Γ) h:=by obtain⟨b,vs,e,_,H⟩:=H.open;have H:=H.at1;obtain⟨_,_,rfl,_,H⟩:=H.pair;obtain⟨t0,e0⟩:=H.rowCs;subst e0;have H:=H.at1;obtain⟨_,_,rfl,_,H⟩:=H.pair;obtain⟨t1,a⟩:=H.rowCs;subst a;have H:=H.at1;obtain⟨_,_,rfl,_,H⟩:=H.pair;obtain⟨t2,c⟩:=H.rowCs;subst c;have H:=H.at1;obtain⟨_,_,rfl,_,H⟩:=H.pair;obtain⟨t3,d⟩:=H.rowCs;subst d;have H:=H.at1;obtain⟨_,_,rfl,_,H⟩:=H.pair;obtain⟨t4,f⟩:=H.rowCs;subst f;have H:=H.at1;obtain⟨t5,g⟩:=H.rowCs;subst g;exact⟨b,t0,t1,t2,t3,t4,t5,by simpa using e,H⟩
theorem Jm{t0:Slc}{t2:Slc}{t3:Slc}{t4:Slc}{t5:Slc}{x0:List nI}{x1:List nI}{x2:List Ap}{x3:nH}{x4:nH}{x5:List nI}(H:St φ (cR 9 Ro.str t5 x5::cR 3 (Ro.int .i64) t4 x4::cR 3 (Ro.int .i64) t3 x3::cR 156 BL t2 x2::cR 9 Ro.str t1 x1::cR 9 Ro.str t0 x0::cW 32 b [sv t0,sv t1,sv t2,sv t3,sv t4,sv t5]::Γ) h):St φ (cO 32 Il (some ⟨b,0,none⟩) (x0,x1,x2,x3,x4,x5)::Γ) h:=by have H:=H.at1;have H:=St.unpair H;have H:=H.at1;have H:=St.unpair H;have H:=H.at1;have H:=St.unpair H;have H:=H.at1;have H:=St.unpair H;have H:=H.at1;have H:=St.unpair H;exact St.shut H.at1
abbrev Jn:Rep GF:=(Rep.prod (Rep.row 169 Hl) (Rep.prod (Rep.ro (Ro.list ON)) (Rep.prod (Rep.row 172 HB) (Rep.prod (Rep.ro Ro.str) (Rep.row 165 Gk)))))
theorem Jo{p:nG}{x:GF}(H:St φ (cO 98 Jn p x::Γ) h):∃(b:Nat) (t0:Slc) (t1:Slc) (t2:Slc) (t4:Slc),p=some ⟨b,0,none⟩∧Ro.SliceIs ON φ t1 x.2.1∧St φ (cR 165 Gk t4 x.2.2.2.2::cR 172 HB t2 x.2.2.1::cR 169 Hl t0 x.1::cW 98 b [sv t0,sv t1,sv t2,.string x.2.2.2.1,sv t4]::Γ) h:=by obtain⟨b,vs,e,_,H⟩:=H.open;have H:=H.at1;obtain⟨_,_,rfl,_,H⟩:=H.pair;obtain⟨t0,e0⟩:=H.rowCs;subst e0;have H:=H.at1;obtain⟨_,_,rfl,_,H⟩:=H.pair;obtain⟨g,H⟩:=H.ro;obtain⟨t1,a,c⟩:=g;subst a;obtain⟨_,_,rfl,_,H⟩:=H.pair;obtain⟨t2,d⟩:=H.rowCs;subst d;have H:=H.at1;obtain⟨_,_,rfl,_,H⟩:=H.pair;obtain⟨g,H⟩:=H.ro;subst g;obtain⟨t4,f⟩:=H.rowCs;subst f;exact⟨b,t0,t1,t2,t4,by simpa using e,c,H⟩
theorem G9{t0:Slc}{t2:Slc}{t4:Slc}{x0:List Hk}{x1:List JF}{x2:List Fz}{x3:nI}{x4:List Dy}(H:St φ (cR 165 Gk t4 x4::cR 172 HB t2 x2::cR 169 Hl t0 x0::cW 98 b [sv t0,sv t1,sv t2,.string x3,sv t4]::Γ) h)(a:Ro.SliceIs ON φ t1 x1):St φ (cO 98 Jn (some ⟨b,0,none⟩) (x0,x1,x2,x3,x4)::Γ) h:=by have H:=St.unro (r:=Ro.str) (cs:=[.string x3]) (x:=x3) H rfl;have H:=St.unpair H;have H:=H.at1;have H:=St.unpair H;have H:=St.unro (r:=(Ro.list ON)) (cs:=[.slice t1.1 t1.2.1 t1.2.2]) (x:=x1) H ⟨t1,rfl,a⟩;have H:=St.unpair H;have H:=H.at1;have H:=St.unpair H;exact St.shut H.at1
abbrev E7:Rep DN:=(Rep.prod (Rep.ro (Ro.int .i64)) (Rep.row 223 (Ro.int .u64)))
theorem OQ{p:nG}{x:DN}(H:St φ (cO 226 E7 p x::Γ) h):∃(b:Nat) (t1:Slc),p=some ⟨b,0,none⟩∧St φ (cR 223 (Ro.int .u64) t1 x.2::cW 226 b [.int .i64 x.1,sv t1]::Γ) h:=by obtain⟨b,vs,e,_,H⟩:=H.open;have H:=H.at1;obtain⟨_,_,rfl,_,H⟩:=H.pair;obtain⟨g,H⟩:=H.ro;subst g;obtain⟨t1,a⟩:=H.rowCs;subst a;exact⟨b,t1,by simpa using e,H⟩
theorem Jp{x0:Int}{x1:nH}(H:St φ (cR 223 (Ro.int .u64) t1 x1::cW 226 b [.int .i64 x0,sv t1]::Γ) h):St φ (cO 226 E7 (some ⟨b,0,none⟩) (x0,x1)::Γ) h:=by have H:=St.unro (r:=(Ro.int .i64)) (cs:=[.int .i64 x0]) (x:=x0) H rfl;have H:=St.unpair H;exact St.shut H.at1
abbrev SG:Rep DU:=(Rep.prod (Rep.ro (Ro.list Ro.str)) (Rep.prod (Rep.ro (Ro.list Ro.str)) (Rep.prod (Rep.ro (Ro.list BL)) (Rep.prod (Rep.ro (Ro.list (Ro.int .i64))) (Rep.prod (Rep.ro (Ro.list (Ro.int .i64))) (Rep.prod (Rep.ro (Ro.list Ro.str)) (Rep.prod (Rep.row 81 (Ro.list FI)) (Rep.prod (Rep.row 30 (Ro.list (Ro.int .i64))) (Rep.row 62 Fp)))))))))
theorem V3{p:nG}{x:DU}(H:St φ (cO 80 SG p x::Γ) h):∃(b:Nat) (t0:Slc) (t1:Slc) (t2:Slc) (t3:Slc) (t4:Slc) (t5:Slc) (t6:Slc) (t7:Slc) (t8:Slc),p=some ⟨b,0,none⟩∧Ro.SliceIs Ro.str φ t0 x.1∧Ro.SliceIs Ro.str φ t1 x.2.1∧Ro.SliceIs BL φ t2 x.2.2.1∧Ro.SliceIs (Ro.int .i64) φ t3 x.2.2.2.1∧Ro.SliceIs (Ro.int .i64) φ t4 x.2.2.2.2.1∧Ro.SliceIs Ro.str φ t5 x.2.2.2.2.2.1∧St φ (cR 62 Fp t8 x.2.2.2.2.2.2.2.2::cR 30 (Ro.list (Ro.int .i64)) t7 x.2.2.2.2.2.2.2.1::cR 81 (Ro.list FI) t6 x.2.2.2.2.2.2.1::cW 80 b [sv t0,sv t1,sv t2,sv t3,sv t4,sv t5,sv t6,sv t7,sv t8]::Γ) h:=by obtain⟨b,vs,e,_,H⟩:=H.open;have H:=H.at1;obtain⟨_,_,rfl,_,H⟩:=H.pair;obtain⟨g,H⟩:=H.ro;obtain⟨t0,e0,k0⟩:=g;subst e0;obtain⟨_,_,rfl,_,H⟩:=H.pair;obtain⟨g,H⟩:=H.ro;obtain⟨t1,a,c⟩:=g;subst a;obtain⟨_,_,rfl,_,H⟩:=H.pair;obtain⟨g,H⟩:=H.ro;obtain⟨t2,d,f⟩:=g;subst d;obtain⟨_,_,rfl,_,H⟩:=H.pair;obtain⟨g,H⟩:=H.ro;obtain⟨t3,i,j⟩:=g;subst i;obtain⟨_,_,rfl,_,H⟩:=H.pair;obtain⟨g,H⟩:=H.ro;obtain⟨t4,k,l⟩:=g;subst k;obtain⟨_,_,rfl,_,H⟩:=H.pair;obtain⟨⟨t5,m,n⟩,H⟩:=H.ro;subst m;obtain⟨_,_,rfl,_,H⟩:=H.pair;obtain⟨t6,o⟩:=H.rowCs;subst o;have H:=H.at1;obtain⟨_,_,rfl,_,H⟩:=H.pair;obtain⟨t7,q⟩:=H.rowCs;subst q;have H:=H.at1;obtain⟨t8,r⟩:=H.rowCs;subst r;exact⟨b,t0,t1,t2,t3,t4,t5,t6,t7,t8,by simpa using e,k0,c,f,j,l,n,H⟩
theorem PR{t0:Slc}{t2:Slc}{t3:Slc}{t4:Slc}{t5:Slc}{t6:Slc}{t7:Slc}{t8:Slc}{x0:List nI}{x1:List nI}{x2:List Ap}{x3:nH}{x4:nH}{x5:List nI}{a:List (List EO)}{c:List nH}{d:List Cn}(H:St φ (cR 62 Fp t8 d::cR 30 (Ro.list (Ro.int .i64)) t7 c::cR 81 (Ro.list FI) t6 a::cW 80 b [sv t0,sv t1,sv t2,sv t3,sv t4,sv t5,sv t6,sv t7,sv t8]::Γ) h)(k0:Ro.SliceIs Ro.str φ t0 x0)(e:Ro.SliceIs Ro.str φ t1 x1)(f:Ro.SliceIs BL φ t2 x2)(g:Ro.SliceIs (Ro.int .i64) φ t3 x3)(i:Ro.SliceIs (Ro.int .i64) φ t4 x4)(j:Ro.SliceIs Ro.str φ t5 x5):St φ (cO 80 SG (some ⟨b,0,none⟩) (x0,x1,x2,x3,x4,x5,a,c,d)::Γ) h:=by have H:=H.at1;have H:=St.unpair H;have H:=H.at1;have H:=St.unpair H;have H:=St.unro (r:=(Ro.list Ro.str)) (cs:=[.slice t5.1 t5.2.1 t5.2.2]) (x:=x5) H ⟨t5,rfl,j⟩;have H:=St.unpair H;have H:=St.unro (r:=(Ro.list (Ro.int .i64))) (cs:=[.slice t4.1 t4.2.1 t4.2.2]) (x:=x4) H ⟨t4,rfl,i⟩;have H:=St.unpair H;have H:=St.unro (r:=(Ro.list (Ro.int .i64))) (cs:=[.slice t3.1 t3.2.1 t3.2.2]) (x:=x3) H ⟨t3,rfl,g⟩;have H:=St.unpair H;have H:=St.unro (r:=(Ro.list BL)) (cs:=[.slice t2.1 t2.2.1 t2.2.2]) (x:=x2) H ⟨t2,rfl,f⟩;have H:=St.unpair H;have H:=St.unro (r:=(Ro.list Ro.str)) (cs:=[.slice t1.1 t1.2.1 t1.2.2]) (x:=x1) H ⟨t1,rfl,e⟩;have H:=St.unpair H;have H:=St.unro (r:=(Ro.list Ro.str)) (cs:=[.slice t0.1 t0.2.1 t0.2.2]) (x:=x0) H ⟨t0,rfl,k0⟩;have H:=St.unpair H;exact St.shut H.at1
end
end Go.Proofs.YtfnppeejaimnbaaGreatDoor
