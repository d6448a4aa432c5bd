/-
  EngA, EngB, EngC, EngD, EngE, EngF, EngG, EngH, EngI, EngU, EngV, EngW, EngS, EngX, EngJ, EngT, EngZ, EngM, EngK, EngY, EngN, EngL, Ty, put together.
  Conditions: none; each part tells its own.
-/
import Derived.Calls
import Derived.Defers
import Derived.Orders
import Derived.Laws.StructEq
import Derived.Conc.LoneSelect
import Derived.Scope
import Derived.Below
import Derived.IntWalk
import Derived.Recover
import Derived.Sort.Grow
open Go.Sem renaming bind → gO,run → gT,pure → jK,bind_assoc' → jW
open Array renaming getElem?_setIfInBounds_ne → gP,getElem?_push → gQ,getElem?_toList → hO,getElem?_setIfInBounds → iC,getD_eq_getD_getElem? → iD,getElem?_eq_none → iL,replicate → iN,mem_of_getElem? → iO,getElem?_modify → iP,mem_toList_iff → iR,getElem?_append_left → iW,getElem?_eq_getElem → jA,size_setIfInBounds → jB,range → kH,forIn_toList → lL,ext' → lN,size_append → lR
open List renaming getD_eq_getElem?_getD → gR,getElem?_append_left → gS,replicate → gU,getElem?_eq_none → gW,mem_append_left → gY,eq_nil_of_length_eq_zero → iA,getElem?_cons_zero → iB,getElem?_append_right → iF,mem_append_right → iI,getElem?_eq_getElem → iJ,length_append → iM,mem_cons_of_mem → iT,mem_filter → jE,filter_cons_of_pos → jF,getElem?_cons_succ → jG,mem_map → jL,all_eq_true → jP,length_cons → jQ,map_cons → jS,mem_zipIdx_iff_getElem? → jX,mem_of_find?_eq_some → kG,mem_cons → kO,filter_cons_of_neg → kT,zipWith → kV,forIn_cons → kY,find?_cons → kZ,mem_append → lA,contains_iff_mem → lB,getElem?_toArray → lC,mem_cons_self → lM,size_toArray → lS,getElem?_set → lU,getElem?_map → lV,modify_cons → lW
open Int renaming toNat → gV
open Nat renaming beq → gX,add_mul → gZ,eq_of_beq_eq_true → hQ,lt_or_ge → hZ,mul_le_mul_right → iV,add_sub_cancel_left → jJ,zero_add → jM,le_refl → jU,le_of_ble_eq_true → lD,add_comm → lT,one_mul → lY,blt → lZ
open Bool renaming false_eq_true → hU,and_eq_true → kQ,or_eq_false_iff → lF
open Go.Instr renaming findNow → iE,checkKey → iH,findAsking → iZ,sameNow → jC,findKey → jD,sliceBound → jO,storeAt → jR,lookup → jY,sameBits → kD,keyThatStays → kF,sliceAt → kN,makeSlice → kW,mapUpdate → kX,fieldAt → lJ,indexAt → lK,sliceBounds → lQ,index → lX
open Go.Builtin renaming firstCells → iG,zeroCells → iQ,nextslicecap → iU,len_ → iX,append_ → jV,growBy → lG,cap_ → lP
open Go.Value renaming slice → iK,int → jH
open Go.IntKind renaming wrap → iY
open UInt8 renaming ofNat → jI
open List.Perm renaming refl → jN,swap → jZ,cons → lH
open Go.World renaming frozen? → jT,setCell → kJ
open Option renaming isSome_iff_exists → kM,map → lO
open Go.Addr renaming add → kU
open Iff renaming rfl → lI
open ByteArray renaming mk → mA
namespace Go.Eng
open Go
abbrev gB:=@decide_eq_false
abbrev gC:=@decide_eq_true
abbrev gD:=@of_decide_eq_true
abbrev gE:=@of_decide_eq_false
abbrev gF:=@if_pos
abbrev gG:=@if_neg
abbrev gH:=@congrArg
abbrev gI:=@absurd
abbrev gJ:=@decide_eq_true_eq
abbrev gK:=@decide_eq_false_iff_not
abbrev gL:=Option Addr
abbrev gM:=List Int
abbrev gN:=ByteArray
abbrev AE:=Array Obj
def EX (h:AE):World:={heap:=h,tape:=λ_ _=>0,drawn:=0,os:=default,output:=#[]}
def BW (h:AE) (a:Addr):Option Value:=(EX h).cell? a
def aU (h:AE) (r:Nat):Option (TypeId×Nat):=(EX h).shape? r
def GQ (h:AE) (a:Addr):Bool:=(EX h).frozen? a
def Qv (h:AE) (a:Addr) (n:Nat):AE:=((EX h).freeze a n).heap
def Cb (h:AE) (a:Addr) (v:Value):AE:=((EX h).setCell a v).heap
theorem TS (w:World) (a:Addr):w.cell? a=BW w.heap a:=rfl
theorem Rv (w:World) (a:Addr) (n:Nat):(w.freeze a n).heap=Qv w.heap a n:=by
 unfold Qv World.freeze
 split<;>rfl
structure B8 (w w':World):Prop where
 os:w'.os=w.os
 tape:w'.tape=w.tape
 output:w'.output=w.output
 size:w.heap.size≤w'.heap.size
theorem B8.refl (w:World):B8 w w:=⟨rfl,rfl,rfl,jU _⟩
theorem B8.trans {a b c:World}(h:B8 a b) (k:B8 b c):B8 a c:=⟨k.os.trans h.os,k.tape.trans h.tape,k.output.trans h.output,Nat.le_trans h.size k.size⟩
theorem B8.freeze (w:World) (a:Addr) (n:Nat):B8 w (w.freeze a n):=by
 unfold World.freeze;split
 all_goals exact⟨rfl,rfl,rfl,by simp⟩
theorem B8.setCell (w:World) (a:Addr) (v:Value):B8 w (w.setCell a v):=⟨rfl,rfl,rfl,by unfold kJ;simp⟩
theorem B8.push (w:World) (o:Obj):B8 w {w with heap:=w.heap.push o} :=⟨rfl,rfl,rfl,by simp⟩
theorem B8.setObj (w:World) (r:Nat) (o:Obj):B8 w {w with heap:=w.heap.setIfInBounds r o} :=⟨rfl,rfl,rfl,by simp⟩
def Value.plain:Value→Bool
 |.agg _ | .tuple _=>false
 |_=>true
def Ae (P:Program) {α:Type}:Sem α→(α→AE→Prop)→(Value→AE→Prop)→AE→Prop
 |.pure a,K,_,h=>K a h
 |.load _ a k,K,X,h=>∃v,BW h a=some v∧Ae P (k v) K X h
 |.store _ a v k,K,X,h=>Value.plain v=true∧(BW h a).isSome=true∧GQ h a=false∧Ae P k K X (Cb h a v)
 |.new o k,K,X,h=>Ae P (k h.size) K X (h.push o)
 |.shape r k,K,X,h=>Ae P (k (aU h r)) K X h
 |.freeze a n k,K,X,h=>Ae P k K X (Qv h a n)
 |.frozen a k,K,X,h=>Ae P (k (GQ h a)) K X h
 |.getObj r k,K,X,h=>∃o,h[r]? =some o∧(∀c e f,o≠.cells c e f)∧Ae P (k o) K X h
 |.setObj r o k,K,X,h=>(∃o',h[r]? =some o'∧(∀c e f,o'≠.cells c e f))∧Ae P k K X (h.setIfInBounds r o)
 |.choose q k,K,X,h=>if q.forced=true then Ae P (k 0) K X h else ∀t,Ae P (k (q.cut t)) K X h
 |.sys _ _,_,_,_=>False
 |.program k,K,X,h=>Ae P (k P) K X h
 |.mark _ k,K,X,h=>Ae P k K X h
 |.halt (.panic v),_,X,h=>X v h
 |.halt _,_,_,_=>False
theorem QD {P:Program}{α:Type}(s:Sem α):∀ {K:α→AE→Prop}{X:Value→AE→Prop}(w:World),Ae P s K X w.heap→
 (∃a w',s.run P w= .ok a w'∧B8 w w'∧K a w'.heap)∨(∃v w',s.run P w= .halt (.panic v) w'∧B8 w w'∧X v w'.heap):=by
 induction s with
 |pure a=>intro K X w h;exact .inl ⟨a,w,rfl,.refl w,h⟩
 |load m a k ih=>
  intro K X w h;obtain⟨v,hv,hk⟩:=h
  have:w.cell? a=some v:=hv
  simp only[gT,this];exact ih v w hk
 |store m a v k ih=>
  intro K X w h;obtain⟨hp,hs,hf,hk⟩:=h;have⟨x,hx⟩:=kM.1 hs;have hx':w.cell? a=some x:=hx;have hf':w.frozen? a=false:=hf;have key:gT P (.store m a v k) w=k.run P (w.setCell a v):=by
   cases v<;>simp_all [Value.plain,gT]
  rw[key];rcases ih (w.setCell a v) hk with⟨b,w',e,d,f⟩|⟨b,w',e,d,f⟩
  ·exact .inl ⟨b,w',e,(B8.setCell w a v).trans d,f⟩
  ·exact .inr ⟨b,w',e,(B8.setCell w a v).trans d,f⟩
 |new o k ih=>
  intro K X w h;simp only[gT];rcases ih w.heap.size {w with heap:=w.heap.push o} h with⟨b,w',e,d,f⟩|⟨b,w',e,d,f⟩
  ·exact .inl ⟨b,w',e,(B8.push w o).trans d,f⟩
  ·exact .inr ⟨b,w',e,(B8.push w o).trans d,f⟩
 |shape r k ih=>intro K X w h;simp only[gT];exact ih _ w h
 |freeze a n k ih=>
  intro K X w h;simp only[gT];rcases ih (w.freeze a n) (by rw[Rv];exact h) with⟨b,w',e,d,f⟩|⟨b,w',e,d,f⟩
  ·exact .inl ⟨b,w',e,(B8.freeze w a n).trans d,f⟩
  ·exact .inr ⟨b,w',e,(B8.freeze w a n).trans d,f⟩
 |frozen a k ih=>intro K X w h;simp only[gT];exact ih _ w h
 |getObj r k ih=>
  intro K X w h;obtain⟨o,ho,hn,hk⟩:=h;have key:gT P (.getObj r k) w=(k o).run P w:=by
   cases o<;>simp_all [gT]
  rw[key];exact ih o w hk
 |setObj r o k ih=>
  intro K X w h;obtain⟨⟨o',ho,hn⟩,hk⟩:=h;have key:gT P (.setObj r o k) w=k.run P {w with heap:=w.heap.setIfInBounds r o} :=by
   cases o'<;>simp_all [gT]
  rw[key];rcases ih {w with heap:=w.heap.setIfInBounds r o} hk with⟨b,w',e,d,f⟩|⟨b,w',e,d,f⟩
  ·exact .inl ⟨b,w',e,(B8.setObj w r o).trans d,f⟩
  ·exact .inr ⟨b,w',e,(B8.setObj w r o).trans d,f⟩
 |choose q k ih=>
  intro K X w h;simp only[Ae]at h;simp only[gT];split at h
  ·rename_i hq;simp only[hq,if_true];exact ih _ w h
  ·rename_i hq
   simp only[hq];rcases ih (q.cut (w.tape w.drawn q)) {w with drawn:=w.drawn+1} (h _) with⟨b,w',e,d,f⟩|⟨b,w',e,d,f⟩
   ·exact .inl ⟨b,w',e,⟨d.os,d.tape,d.output,d.size⟩,f⟩
   ·exact .inr ⟨b,w',e,⟨d.os,d.tape,d.output,d.size⟩,f⟩
 |sys c k ih=>intro K X w h;exact h.elim
 |program k ih=>intro K X w h;simp only[gT];exact ih _ w h
 |mark m k ih=>intro K X w h;simp only[gT];exact ih w h
 |halt x=>
  intro K X w h;cases x<;>first | exact h.elim | exact .inr ⟨_,w,rfl,.refl w,h⟩
theorem Bf {P:Program}{α:Type}(s:Sem α):∀ {K K':α→AE→Prop}{X X':Value→AE→Prop}{h:AE},
 (∀a h,K a h→K' a h)→(∀a h,X a h→X' a h)→Ae P s K X h→Ae P s K' X' h:=by
 induction s with
 |pure a=>intro K K' X X' h hK hX H;exact hK _ _ H
 |load m a k ih=>intro K K' X X' h hK hX ⟨v,hv,H⟩;exact⟨v,hv,ih v hK hX H⟩
 |store m a v k ih=>intro K K' X X' h hK hX ⟨a,b,c,H⟩;exact⟨a,b,c,ih hK hX H⟩
 |new o k ih=>intro K K' X X' h hK hX H;exact ih _ hK hX H
 |shape r k ih=>intro K K' X X' h hK hX H;exact ih _ hK hX H
 |freeze a n k ih=>intro K K' X X' h hK hX H;exact ih hK hX H
 |frozen a k ih=>intro K K' X X' h hK hX H;exact ih _ hK hX H
 |getObj r k ih=>intro K K' X X' h hK hX ⟨o,a,b,H⟩;exact⟨o,a,b,ih o hK hX H⟩
 |setObj r o k ih=>intro K K' X X' h hK hX ⟨a,H⟩;exact⟨a,ih hK hX H⟩
 |choose q k ih=>
  intro K K' X X' h hK hX H;simp only[Ae]at H ⊢;split at H
  ·rename_i hq;simp only[hq,if_true];exact ih _ hK hX H
  ·rename_i hq;simp only[hq];exact λt=>ih _ hK hX (H t)
 |sys c k ih=>intro K K' X X' h hK hX H;exact H
 |program k ih=>intro K K' X X' h hK hX H;exact ih _ hK hX H
 |mark m k ih=>intro K K' X X' h hK hX H;exact ih hK hX H
 |halt x=>intro K K' X X' h hK hX H;cases x<;>first | exact H | exact hX _ _ H
theorem Am {P:Program}{α β:Type}(s:Sem α) (f:α→Sem β):∀ {K:β→AE→Prop}{X:Value→AE→Prop}{h:AE},
 Ae P s (λa h'=>Ae P (f a) K X h') X h→Ae P (s.bind f) K X h:=by
 induction s with
 |pure a=>intro K X h H;exact H
 |load m a k ih=>intro K X h ⟨v,hv,H⟩;exact⟨v,hv,ih v H⟩
 |store m a v k ih=>intro K X h ⟨a,b,c,H⟩;exact⟨a,b,c,ih H⟩
 |new o k ih=>intro K X h H;exact ih _ H
 |shape r k ih=>intro K X h H;exact ih _ H
 |freeze a n k ih=>intro K X h H;exact ih H
 |frozen a k ih=>intro K X h H;exact ih _ H
 |getObj r k ih=>intro K X h ⟨o,a,b,H⟩;exact⟨o,a,b,ih o H⟩
 |setObj r o k ih=>intro K X h ⟨a,H⟩;exact⟨a,ih H⟩
 |choose q k ih=>
  intro K X h H;simp only[Ae,gO]at H ⊢;split at H
  ·rename_i hq;simp only[hq,if_true];exact ih _ H
  ·rename_i hq;simp only[hq];exact λt=>ih _ (H t)
 |sys c k ih=>intro K X h H;exact H
 |program k ih=>intro K X h H;exact ih _ H
 |mark m k ih=>intro K X h H;exact ih H
 |halt x=>intro K X h H;cases x<;>exact H
inductive BX where
 |int (k:IntKind)|bool | string | pointer | slice | map | chan | func | iface
 deriving DecidableEq,Inhabited
abbrev BX.Ty:BX→Type
 |.int _=>Int
 |.bool=>Bool
 |.string=>gN
 |.pointer=>gL
 |.slice=>Option Addr×Nat×Nat
 |.map=>Option Nat
 |.chan=>Option Nat
 |.func=>Option (Fn×Array Value×Array Value)
 |.iface=>Option (TypeId×Value)
def BX.val:(a:BX)→a.Ty→Value
 |.int k,n=>.int k n
 |.bool,b=>.bool b
 |.string,s=>.string s
 |.pointer,p=>.pointer p
 |.slice,x=>.slice x.1 x.2.1 x.2.2
 |.map,r=>.map r
 |.chan,r=>.chan r
 |.func,none=>.nilFunc
 |.func,some x=>.func x.1 x.2.1 x.2.2
 |.iface,none=>.nilIface
 |.iface,some x=>.iface x.1 x.2
def BX.of:(a:BX)→Value→Option a.Ty
 |.int k,.int k' n=>if k'=k then some n else none
 |.bool,.bool b=>some b
 |.string,.string s=>some s
 |.pointer,.pointer p=>some p
 |.slice,.slice p n c=>some (p,n,c)
 |.map,.map r=>some r
 |.chan,.chan r=>some r
 |.func,.nilFunc=>some none
 |.func,.func f a b=>some (some (f,a,b))
 |.iface,.nilIface=>some none
 |.iface,.iface t v=>some (some (t,v))
 |_,_=>none
theorem BX.of_val:∀(a:BX) (v:Value) (x:a.Ty),a.of v=some x→v=a.val x:=by
 intro a v x h;cases a<;>cases v<;>simp only[BX.of]at h<;>first
  |(split at h<;>simp_all [BX.val];done)
  |(cases h<;>rfl)
theorem BX.val_plain (a:BX) (x:a.Ty):Value.plain (a.val x)=true:=by
 cases a<;>first | rfl | (cases x<;>rfl)
abbrev Atoms.Ty:List BX→Type
 | [] =>Unit
 |a::r=>a.Ty×Atoms.Ty r
def Atoms.vals:(l:List BX)→Atoms.Ty l→List Value
 | [],_=>[]
 |a::r,x=>a.val x.1::Atoms.vals r x.2
def Atoms.of:(l:List BX)→List Value→Option (Atoms.Ty l)
 | [],[] =>some ()
 |a::r,v::vs=>match a.of v,Atoms.of r vs with
  |some x,some y=>some (x,y)
  |_,_=>none
 |_,_=>none
theorem Atoms.of_vals:∀(l:List BX) (vs:List Value) (x:Atoms.Ty l),Atoms.of l vs=some x→vs=Atoms.vals l x:=by
 intro l
 induction l with
 |nil=>intro vs x h;cases vs<;>simp_all [Atoms.of,Atoms.vals]
 |cons a r ih=>
  intro vs x h;cases vs with
  |nil=>simp[Atoms.of]at h
  |cons v vs=>
   simp only[Atoms.of]at h;split at h
   ·rename_i x1 b c d
    cases h;rw[BX.of_val a v x1 c,ih vs b d];rfl
   ·cases h
inductive Sh1 where
 |atom (a:BX)
 |agg (l:List BX)
 deriving Inhabited
abbrev Sh1.Ty:Sh1→Type
 |.atom a=>a.Ty
 |.agg l=>Atoms.Ty l
def Sh1.val:(s:Sh1)→s.Ty→Value
 |.atom a,x=>a.val x
 |.agg l,x=>.agg (Atoms.vals l x).toArray
def Sh1.of:(s:Sh1)→Value→Option s.Ty
 |.atom a,v=>a.of v
 |.agg l,.agg cs=>Atoms.of l cs.toList
 |.agg _,_=>none
theorem Sh1.of_val (s:Sh1) (v:Value) (x:s.Ty) (h:s.of v=some x):v=s.val x:=by
 cases s with
 |atom a=>exact BX.of_val a v x h
 |agg l=>
  cases v<;>simp only[Sh1.of]at h<;>first | cases h | skip
  rename_i cs
  have:=Atoms.of_vals l cs.toList x h
  simp only[Sh1.val,←this]
abbrev Shs.Ty:List Sh1→Type
 | [] =>Unit
 |s::r=>s.Ty×Shs.Ty r
def Shs.vals:(l:List Sh1)→Shs.Ty l→List Value
 | [],_=>[]
 |a::r,x=>a.val x.1::Shs.vals r x.2
def Shs.of:(l:List Sh1)→List Value→Option (Shs.Ty l)
 | [],[] =>some ()
 |a::r,v::vs=>match a.of v,Shs.of r vs with
  |some x,some y=>some (x,y)
  |_,_=>none
 |_,_=>none
theorem Shs.of_vals:∀(l:List Sh1) (vs:List Value) (x:Shs.Ty l),Shs.of l vs=some x→vs=Shs.vals l x:=by
 intro l
 induction l with
 |nil=>intro vs x h;cases vs<;>simp_all [Shs.of,Shs.vals]
 |cons a r ih=>
  intro vs x h;cases vs with
  |nil=>simp[Shs.of]at h
  |cons v vs=>
   simp only[Shs.of]at h;split at h
   ·rename_i x1 b c d
    cases h;rw[Sh1.of_val a v x1 c,ih vs b d];rfl
   ·cases h
inductive Sh where
 |one (s:Sh1)
 |tuple (l:List Sh1)
 deriving Inhabited
abbrev Sh.Ty:Sh→Type
 |.one s=>s.Ty
 |.tuple l=>Shs.Ty l
def Sh.val:(s:Sh)→s.Ty→Value
 |.one s,x=>s.val x
 |.tuple l,x=>.tuple (Shs.vals l x).toArray
inductive Bh where
 |out (vs:List Value)
 |brk (id:Nat) (vs:List Value)
 |ret (v:Value)
 |pan (chain:List PanicEntry)
inductive T:Type 1 where
 |out (vs:List Value)
 |brk (id:Nat) (vs:List Value)
 |ret (v:Value)
 |pan (v:Value)
 |stuck
 |load (s:BX) (a:Addr) (k:s.Ty→T)
 |store (a:Addr) (v:Value) (k:T)
 |new (o:Obj) (k:Nat→T)
 |sem (s:Sem Value) (sh:Sh) (k:sh.Ty→T)
 |call (f:FuncId) (args:List Value) (sh:Sh) (k:sh.Ty→T)
 |still (a:Addr) (v:Value) (k:T)
 |both (x y:T)
 |join (ss:List Sh1) (x:T) (k:Shs.Ty ss→T)
 |block (id:Nat) (ss:List Sh1) (x:T) (k:Shs.Ty ss→T)
 |loop (ss:List Sh1) (init:List Value) (body:Shs.Ty ss→T)
 |sel (c:Nat) (send:Option Value) (zero:Value) (k:Int→Bool→Value→T)
 |later (f:FuncId) (args:List Value) (x k:T)
 |must (p:Prop) (k:T)
def deref (p:gL) (k:Addr→T):T:=match p with
 |some a=>k a
 |none=>.stuck
abbrev chk (p:Prop) [Decidable p] (k:T):T:=.must p k
inductive Fin where
 |ret (v:Value)
 |pan (chain:List PanicEntry)
def CallsH (P:Program) (f:FuncId) (args:List Value) (h:AE) (R:Fin→AE→Prop):Prop:=
 ∀w,w.heap=h→Calls P f args.toArray w λe w'=>B8 w w'∧match e with
  |.returned v=>R (.ret v) w'.heap
  |.panicked chain=>R (.pan chain) w'.heap
  |.outgrown=>False
theorem CallsH.mono {P:Program}{f:FuncId}{args:List Value}{h:AE}{R R':Fin→AE→Prop}(H:CallsH P f args h R)
 (hr:∀e h',R e h'→R' e h'):CallsH P f args h R':=λw hw=>(H w hw).mono λe w' hw'=>⟨hw'.1,by
 have a:=hw'.2;cases e<;>first | exact hr _ _ a | exact a⟩
def IK (P:Program) (f:FuncId) (args:List Value) (u:FrameMode) (h:AE) (R:Fin→FrameMode→AE→Prop):Prop:=
 ∀w,w.heap=h→CallsD P f args.toArray u w λe u' w'=>B8 w w'∧match e with
  |.returned v=>R (.ret v) u' w'.heap
  |.panicked chain=>R (.pan chain) u' w'.heap
  |.outgrown=>False
theorem IK.mono {P:Program}{f:FuncId}{args:List Value}{u:FrameMode}{h:AE}{R R':Fin→FrameMode→AE→Prop}(H:IK P f args u h R)
 (hr:∀e u' h',R e u' h'→R' e u' h'):IK P f args u h R':=λw hw=>(H w hw).mono λe u' w' hw'=>⟨hw'.1,by
 have a:=hw'.2;cases e<;>first | exact hr _ _ _ a | exact a⟩
def WT (c:Nat) (send:Option Value) (zero:Value) (k:Int→Bool→Value→AE→Prop) (h:AE):Prop:=
 ∃cap buf s r,h[c]? =some (.chan cap buf false s r false)∧match send with
  |some v=>if buf.size<cap then k 0 false zero (h.setIfInBounds c (.chan cap (buf.push v) false (s+1) r false)) else k (-1) false zero h
  |none=>if 0<buf.size then k 0 true (buf.getD 0 undef) (h.setIfInBounds c (.chan cap (buf.extract 1 buf.size) false s (r+1) false)) else k (-1) false zero h
def T.wp (P:Program):T→(Bh→AE→Prop)→AE→Prop
 |.out vs,Q,h=>Q (.out vs) h
 |.brk id vs,Q,h=>Q (.brk id vs) h
 |.ret v,Q,h=>Q (.ret v) h
 |.pan v,Q,h=>Q (.pan [{v,recovered:=false}]) h
 |.stuck,_,_=>False
 |.load s a k,Q,h=>∃x:s.Ty,BW h a=some (s.val x)∧(k x).wp P Q h
 |.store a v k,Q,h=>Value.plain v=true∧(BW h a).isSome=true∧GQ h a=false∧k.wp P Q (Cb h a v)
 |.new o k,Q,h=>(k h.size).wp P Q (h.push o)
 |.sem s sh k,Q,h=>Ae P s (λv h'=>∃x:sh.Ty,v=sh.val x∧(k x).wp P Q h') (λv h'=>Q (.pan [{v,recovered:=false}]) h') h
 |.call f args sh k,Q,h=>CallsH P f args h λe h'=>match e with
  |.ret v=>∃x:sh.Ty,v=sh.val x∧(k x).wp P Q h'
  |.pan chain=>Q (.pan chain) h'
 |.still a v k,Q,h=>BW h a=some v∧k.wp P Q h
 |.both x y,Q,h=>x.wp P Q h∧y.wp P Q h
 |.join ss x k,Q,h=>x.wp P (λlf h'=>match lf with
  |.out vs=>(match Shs.of ss vs with
   |some y=>(k y).wp P Q h'
   |none=>False)
  |lf=>Q lf h') h
 |.block id ss x k,Q,h=>x.wp P (λlf h'=>match lf with
  |.out vs=>(match Shs.of ss vs with
   |some y=>(k y).wp P Q h'
   |none=>False)
  |.brk id' vs=>bif gX id' id then(match Shs.of ss vs with
   |some y=>(k y).wp P Q h'
   |none=>False) else Q (.brk id' vs) h'
  |lf=>Q lf h') h
 |.loop ss init body,Q,h=>∃(I:Shs.Ty ss→AE→Prop) (μ:Shs.Ty ss→AE→Nat),
  (∃y,Shs.of ss init=some y∧I y h)∧
  ∀y h,I y h→(body y).wp P (λlf h'=>match lf with
   |.out vs=>(match Shs.of ss vs with
    |some y'=>I y' h'∧μ y' h'<μ y h
    |none=>False)
   |lf=>Q lf h') h
 |.sel c send zero k,Q,h=>WT c send zero (λi ok v h'=>(k i ok v).wp P Q h') h
 |.must p k,Q,h=>p∧k.wp P Q h
 |.later f args x k,Q,h=>x.wp P (λlf h'=>match lf with
  |.ret _=>IK P f args .returning h' λe u h''=>match e with
   |.ret _=>settle u= .returning∧k.wp P Q h''
   |.pan _=>False
  |.pan chain=>IK P f args (.panicking chain) h' λe u h''=>match e with
   |.ret _=>(match settle u with
    |.returning=>k.wp P Q h''
    |.panicking c=>Q (.pan c) h''
    |.run=>False)
   |.pan _=>False
  |_=>False) h
theorem T.wp_mono {P:Program}(t:T):∀ {Q Q':Bh→AE→Prop}{h:AE},(∀l h,Q l h→Q' l h)→t.wp P Q h→t.wp P Q' h:=by
 induction t with
 |out vs=>intro Q Q' h hq H;exact hq _ _ H
 |brk id vs=>intro Q Q' h hq H;exact hq _ _ H
 |ret v=>intro Q Q' h hq H;exact hq _ _ H
 |pan v=>intro Q Q' h hq H;exact hq _ _ H
 |stuck=>intro Q Q' h hq H;exact H
 |load s a k ih=>intro Q Q' h hq ⟨x,hx,H⟩;exact⟨x,hx,ih x hq H⟩
 |store a v k ih=>intro Q Q' h hq ⟨a,b,c,H⟩;exact⟨a,b,c,ih hq H⟩
 |new o k ih=>intro Q Q' h hq H;exact ih _ hq H
 |sem s sh k ih=>intro Q Q' h hq H;exact Bf s (λv h' ⟨x,hx,hk⟩=>⟨x,hx,ih x hq hk⟩) (λv h' hk=>hq _ _ hk) H
 |call f args sh k ih=>
  intro Q Q' h hq H;simp only[T.wp]at H ⊢;refine CallsH.mono H λe h' he=> ?_;cases e with
  |ret v=>obtain⟨x,hx,hk⟩:=he;exact⟨x,hx,ih x hq hk⟩
  |pan c=>exact hq _ _ he
 |still a v k ih=>intro Q Q' h hq ⟨x,H⟩;exact⟨x,ih hq H⟩
 |both x y ihx ihy=>intro Q Q' h hq ⟨a,b⟩;exact⟨ihx hq a,ihy hq b⟩
 |join ss x k ihx ihk=>
  intro Q Q' h hq H;simp only[T.wp]at H ⊢;refine ihx (λlf h' hl=> ?_) H;cases lf with
  |out vs=>
   dsimp only at hl ⊢;split at hl
   ·exact ihk _ hq hl
   ·exact hl
  |brk id vs=>exact hq _ _ hl
  |ret v=>exact hq _ _ hl
  |pan v=>exact hq _ _ hl
 |block id ss x k ihx ihk=>
  intro Q Q' h hq H;simp only[T.wp]at H ⊢;refine ihx (λlf h' hl=> ?_) H;cases lf with
  |out vs=>
   dsimp only at hl ⊢;split at hl
   ·exact ihk _ hq hl
   ·exact hl
  |brk id' vs=>
   dsimp only at hl ⊢;cases hb:gX id' id with
   |true=>
    simp only[hb,cond_true]at hl ⊢;split at hl
    ·exact ihk _ hq hl
    ·exact hl
   |false=>simp only[hb,cond_false]at hl ⊢;exact hq _ _ hl
  |ret v=>exact hq _ _ hl
  |pan v=>exact hq _ _ hl
 |loop ss init body ih=>
  intro Q Q' h hq ⟨I,μ,d,hr⟩;refine⟨I,μ,d,λy h hI=>ih y (λlf h' hl=> ?_) (hr y h hI)⟩;cases lf with
  |out vs=>exact hl
  |brk id vs=>exact hq _ _ hl
  |ret v=>exact hq _ _ hl
  |pan v=>exact hq _ _ hl
 |sel c send zero k ih=>
  intro Q Q' h hq H;obtain⟨cap,buf,s,r,hc,H⟩:=H;refine⟨cap,buf,s,r,hc,?_⟩;cases send with
  |none=>
   by_cases hh:0<buf.size
   ·simp only[gF hh]at H ⊢;exact ih _ _ _ hq H
   ·simp only[gG hh]at H ⊢;exact ih _ _ _ hq H
  |some v=>
   by_cases hh:buf.size<cap
   ·simp only[gF hh]at H ⊢;exact ih _ _ _ hq H
   ·simp only[gG hh]at H ⊢;exact ih _ _ _ hq H
 |must p k ih=>intro Q Q' h hq H;exact⟨H.1,ih hq H.2⟩
 |later f args x k ihx ihk=>
  intro Q Q' h hq H;simp only[T.wp]at H ⊢;refine ihx (λlf h' hl=> ?_) H;cases lf with
  |out vs=>exact hl
  |brk id vs=>exact hl
  |ret v=>
   exact IK.mono hl λe u h'' he=>by
    cases e with
    |ret v=>exact⟨he.1,ihk hq he.2⟩
    |pan c=>exact he
  |pan chain=>
   exact IK.mono hl λe u h'' he=>by
    cases e with
    |ret v=>
     dsimp only at he ⊢
     generalize settle u=m at he ⊢
     cases m with
     |run=>exact he
     |returning=>exact ihk hq he
     |panicking c=>exact hq _ _ he
    |pan c=>exact he
def Bi (q:Bool) (P:Program) {α:Type}:Sem α→(α→T)→T
 |.pure a,k=>k a
 |.program f,k=>Bi q P (f P) k
 |.new o f,k=>bif q then .stuck else .new o λr=>Bi q P (f r) k
 |.store _ a v f,k=>bif q then .stuck else .store a v (Bi q P f k)
 |.mark _ f,k=>Bi q P f k
 |.halt (.panic v),_=>bif q then .stuck else .pan v
 |_,_=>.stuck
theorem Bm {q:Bool}{P:Program}{α:Type}(s:Sem α):∀ {k:α→T}{Q:Bh→AE→Prop}{h:AE},(Bi q P s k).wp P Q h→
 Ae P s (λa h'=>(k a).wp P Q h') (λv h'=>Q (.pan [{v,recovered:=false}]) h') h:=by
 induction s with
 |pure a=>intro k Q h H;exact H
 |load m a k ih=>intro k Q h H;exact H.elim
 |store m a v k ih=>
  intro k Q h H;cases q with
  |true=>exact H.elim
  |false=>exact⟨H.1,H.2.1,H.2.2.1,ih H.2.2.2⟩
 |new o k ih=>
  intro k Q h H;cases q with
  |true=>exact H.elim
  |false=>exact ih _ H
 |shape r k ih=>intro k Q h H;exact H.elim
 |freeze a n k ih=>intro k Q h H;exact H.elim
 |frozen a k ih=>intro k Q h H;exact H.elim
 |getObj r k ih=>intro k Q h H;exact H.elim
 |setObj r o k ih=>intro k Q h H;exact H.elim
 |choose q k ih=>intro k Q h H;exact H.elim
 |sys c k ih=>intro k Q h H;exact H.elim
 |program k ih=>intro k Q h H;exact ih _ H
 |mark m k ih=>intro k Q h H;exact ih H
 |halt x=>intro k Q h H;cases q<;>cases x<;>first | exact H | exact H.elim
def WU:Value→BX
 |.int k _=>.int k
 |.bool _=>.bool
 |.string _=>.string
 |.pointer _=>.pointer
 |.slice _ _ _=>.slice
 |.map _=>.map
 |.chan _=>.chan
 |.func _ _ _=>.func
 |.nilFunc=>.func
 |_=>.iface
def N0:Value→Sh1
 |.agg cs=>.agg (cs.toList.map WU)
 |v=>.atom (WU v)
def Yj:Value→Sh
 |.tuple vs=>.tuple (vs.toList.map N0)
 |v=>.one (N0 v)
def Jq (P:Program) (t:TypeId):Value:=((P.info? t).bind (·.zero)).getD .nilIface
def Uh (P:Program) (fn:Func):Sh:=match fn.resultTypes.toList with
 | [t] =>.one (N0 (Jq P t))
 |ts=>.tuple (ts.map λt=>N0 (Jq P t))
def HU:List BX→Addr→Nat→Array Value→(Array Value→T)→T
 | [],_,_,acc,k=>k acc
 |s::r,a,i,acc,k=>.load s (a.add i) λx=>HU r a (i+1) (acc.push (s.val x)) k
def Qw:TypeDesc→Bool
 |.struct _ | .array _ _=>true
 |_=>false
def Em (P:Program) (t:TypeId) (a:Addr) (k:Value→T):T:=
 match P.underlying t,P.info? t with
 |some d,some i=>
  match Qw d,N0 (i.zero.getD .nilIface) with
  |true,.agg l=>if l.length=i.size then HU l a 0 #[] λcs=>k (.agg cs) else .stuck
  |false,.atom s=>.load s a λx=>k (s.val x)
  |_,_=>.stuck
 |_,_=>.stuck
def Lw (q:Bool) (s:Sem Value) (sh:Sh) (k:sh.Ty→T):T:=bif q then .stuck else .sem s sh k
def Px (q:Bool) (P:Program) (s:Sem Value) (t:TypeId) (k:Value→T):T:=
 Lw q s (Yj (Jq P t)) λx=>k ((Yj (Jq P t)).val x)
def cT (q:Bool) (s:Sem Unit) (k:Value→T):T:=
 Lw q (s.bind λ_=>.pure undef) (.tuple []) λ_=>k undef
def En (s:gN) (i:Nat):UInt8:=s.data.toList.getD i 0
def Jr (P:Program) (t:TypeId):Value→Value→Option Bool
 |.int j m,.int j' n=>match P.underlying t with
  |some (.int _)=>if j=j' then some (m==n) else none
  |_=>none
 |.string m,.string n=>match P.underlying t with
  |some .string=>some (m==n)
  |_=>none
 |.bool m,.bool n=>match P.underlying t with
  |some .bool=>some (m==n)
  |_=>none
 |_,_=>none
def Js (P:Program) (xs ys:Array Value):List Field→Option Bool
 | [] =>some true
 | f::fs=>if f.name= "_" then none else match xs[f.offset]?,ys[f.offset]? with
  |some a,some b=>match Jr P f.type a b,Js P xs ys fs with
   |some r,some r'=>some (r && r')
   |_,_=>none
  |_,_=>none
def WV (P:Program) (t:TypeId) (xs ys:Array Value) (i:Nat):Option Bool:=match P.underlying t,P.info? t,P.stoodInHeld t with
 |some (.struct gs),some inf,false=>Js P (xs.extract i (i+inf.size)) (ys.extract i (i+inf.size)) gs.toList
 |_,_,_=>none
def Ui (P:Program) (f:Field) (xs ys:Array Value):Option Bool:=match xs[f.offset]?,ys[f.offset]? with
 |some a,some b=>match Jr P f.type a b with
  |some r=>some r
  |none=>WV P f.type xs ys f.offset
 |_,_=>none
def Kl (P:Program) (xs ys:Array Value):List Field→Option Bool
 | [] =>some true
 | f::fs=>if f.name= "_" then none else match Ui P f xs ys,Kl P xs ys fs with
  |some r,some r'=>some (r && r')
  |_,_=>none
def N1 (P:Program) (t:TypeId) (xs ys:Array Value) (k:Bool→T) (old:T):T:=match P.underlying t with
 |some (.struct fs)=>match P.eqGuardType P.depth t || P.stoodInHeld t,Kl P xs ys fs.toList with
  |false,some r=>k r
  |_,_=>old
 |_=>old
def Od (q:Bool) (P:Program) (op:BinOp) (t:TypeId) (x y:Operand) (a b:Value) (k:Value→T):T:=
 match op,a,b with
 |.add,.int j m,.int j' n=>if j=j' then k (.int j (j.wrap (m+n))) else .stuck
 |.sub,.int j m,.int j' n=>if j=j' then k (.int j (j.wrap (m - n))) else .stuck
 |.mul,.int j m,.int j' n=>if j=j' then k (.int j (j.wrap (m *n))) else .stuck
 |.quo,.int j m,.int j' n=>if j=j' then chk (n≠0) (k (.int j (j.wrap (m.tdiv n)))) else .stuck
 |.rem,.int j m,.int j' n=>if j=j' then chk (n≠0) (k (.int j (m.tmod n))) else .stuck
 |.shl,.int j m,.int _ n=>chk (0≤n) (k (.int j (j.wrap (m *2 ^ (min n.toNat j.bits)))))
 |.shr,.int j m,.int _ n=>chk (0≤n) (k (.int j (m.fdiv (2 ^ (min n.toNat j.bits)))))
 |.eql,.int j m,.int j' n=>if j=j' then k (.bool (m==n)) else .stuck
 |.neq,.int j m,.int j' n=>if j=j' then k (.bool (m !=n)) else .stuck
 |.lss,.int j m,.int j' n=>if j=j' then k (.bool (m<n)) else .stuck
 |.leq,.int j m,.int j' n=>if j=j' then k (.bool (m≤n)) else .stuck
 |.gtr,.int j m,.int j' n=>if j=j' then k (.bool (m>n)) else .stuck
 |.geq,.int j m,.int j' n=>if j=j' then k (.bool (m≥n)) else .stuck
 |.add,.string m,.string n=>chk (((m.size+n.size:Nat):Int) ≤IntKind.i64.max) (k (.string (m++n)))
 |.eql,.string m,.string n=>k (.bool (m.toList==n.toList))
 |.neq,.string m,.string n=>k (.bool !(m.toList==n.toList))
 |.eql,.pointer p,.pointer none=>Bi q P (underlying t) fun | .pointer _=>k (.bool p.isNone)|_=>.stuck
 |.neq,.pointer p,.pointer none=>Bi q P (underlying t) fun | .pointer _=>k (.bool !p.isNone)|_=>.stuck
 |.eql,.slice p _ _,.slice none _ _=>Bi q P (underlying t) fun | .slice _=>k (.bool p.isNone)|_=>.stuck
 |.neq,.slice p _ _,.slice none _ _=>Bi q P (underlying t) fun | .slice _=>k (.bool !p.isNone)|_=>.stuck
 |.eql,.bool m,.bool n=>Bi q P (underlying t) fun | .bool=>k (.bool (m==n))|_=>.stuck
 |.neq,.bool m,.bool n=>Bi q P (underlying t) fun | .bool=>k (.bool !(m==n))|_=>.stuck
 |.eql,.agg a,.agg b=>N1 P t a b (λr=>k (.bool r)) (Lw q (do eqGuard .eql t x y (.agg a) (.agg b);binOp .eql t (.agg a) (.agg b)) (.one (.atom .bool)) λr=>k (.bool r))
 |.neq,.agg a,.agg b=>N1 P t a b (λr=>k (.bool !r)) (Lw q (do eqGuard .neq t x y (.agg a) (.agg b);binOp .neq t (.agg a) (.agg b)) (.one (.atom .bool)) λr=>k (.bool r))
 |.eql,a,b=>Lw q (do eqGuard .eql t x y a b;binOp .eql t a b) (.one (.atom .bool)) λr=>k (.bool r)
 |.neq,a,b=>Lw q (do eqGuard .neq t x y a b;binOp .neq t a b) (.one (.atom .bool)) λr=>k (.bool r)
 |op,a,b=>Bi q P (do eqGuard op t x y a b;binOp op t a b) k
def MV (d:Int):Option Value→Option Int
 |none=>some d
 |some (.int _ n)=>some n
 |_=>none
def Jt (q:Bool) (P:Program) (t:TypeId) (x:Value) (lo hi mx:Option Value) (k:Value→T):T:=
 match mx,P.underlying t,x with
 |none,some .string,.string s=>match MV 0 lo,MV s.size hi with
  |some l,some h=>chk (0≤l∧l≤h∧h≤s.size) (k (.string (s.extract l.toNat h.toNat)))
  |_,_=>.stuck
 |none,some (.slice e),.slice p n c=>match MV 0 lo,MV n hi,P.info? e with
  |some l,some h,some i=>chk (0≤l∧l≤h∧h≤c) (k (.slice (if c=l.toNat then p else p.map (·.add (l.toNat *i.size))) (h.toNat - l.toNat) (c - l.toNat)))
  |_,_,_=>.stuck
 |_,_,_=>Px q P (kN t x lo hi mx) t k
def Ju (q:Bool) (P:Program) (f:Value) (args:Array Value) (k:Value→T):T:=match f with
 |.func (.func g) first cap=>match P.funcs[g]? with
  | some fn=>match fn.name== "runtime.NumGoroutine",fn.body.isNone with
   |false,false=>bif q then .stuck else .call g ((first++args) ++cap).toList (Uh P fn) λx=>k ((Uh P fn).val x)
   |_,_=>.stuck
  |none=>.stuck
 |_=>.stuck
def MW (q:Bool) (P:Program) (ρ:Operand→Value) (c:Call) (t:TypeId) (k:Value→T):T:=
 match c.callee with
 |.builtin b=>
  let args:=c.args.map ρ
  match b with
  |.len=>match c.argTypes.toList,args.toList with
   |at0::_,x::_=>match P.underlying at0,x with
    |some .string,.string s=>k (goInt s.size)
    |some (.slice _),.slice _ n _=>k (goInt n)
    |some (.array n _),_=>k (goInt n)
    |_,_=>Px q P (iX c.argTypes t args) t k
   |_,_=>.stuck
  |.cap=>match c.argTypes.toList,args.toList with
   |at0::_,x::_=>match P.underlying at0,x with
    |some (.slice _),.slice _ _ n=>k (goInt n)
    |_,_=>Px q P (lP c.argTypes t args) t k
   |_,_=>.stuck
  |.max=>Bi q P (Builtin.max_ c.argTypes t args) k
  |.min=>Bi q P (Builtin.min_ c.argTypes t args) k
  |.append=>Px q P (jV c.argTypes t args) t k
  |.copy=>Lw q (Builtin.copy_ c.argTypes t args) (.one (.atom (.int .i64))) λn=>k (.int .i64 n)
  |.delete=>Lw q (Builtin.delete_ c.argTypes t args) (.tuple []) λ_=>k undef
  |.clear=>Lw q (Builtin.clear_ c.argTypes t args) (.tuple []) λ_=>k undef
  |_=>.stuck
 |.value f=>Ju q P (ρ f) (c.args.map ρ) k
 |_=>.stuck
def C6 (q:Bool) (P:Program) (ρ:Operand→Value) (o:Oper) (k:Value→T):T:=
 match o.op with
 |.move x | .assign x=>k (ρ x)
 |.pick c a b=>match ρ c with
  |.bool t=>cond t (k (ρ a)) (k (ρ b))
  |_=>.stuck
 |.load t a=>match ρ a with
  |.pointer p=>deref p λa=>Em P t a k
  |_=>.stuck
 |.nilCheck x=>match ρ x with
  |.pointer p=>deref p λa=>k (.pointer (some a))
  |.func (.func f) a b=>k (.func (.func f) a b)
  |.iface t v=>k (.iface t v)
  |_=>.stuck
 |.binOp op t x y _=>Od q P op t x y (ρ x) (ρ y) k
 |.slice t x lo hi mx=>Jt q P t (ρ x) (lo.map ρ) (hi.map ρ) (mx.map ρ) k
 |.index t x ix=>match P.underlying t,ρ x,ρ ix with
  |some .string,.string s,.int _ i=>chk (0≤i∧i<s.size) (k (.int .u8 (En s i.toNat).toNat))
  |_,x,ix=>Bi q P (lX t x ix) k
 |.indexAddr t x ix=>match P.underlying t,ρ x,ρ ix with
  |some (.slice e),.slice p n _,.int _ i=>match P.info? e with
   |some info=>deref p λa=>chk (0≤i∧i<n) (k (.pointer (some (a.add (i.toNat *info.size)))))
   |none=>.stuck
  |some (.array n e),.pointer (some a),.int _ i=>match P.info? e with
   |some info=>chk (0≤i∧i<n) (k (.pointer (some (a.add (i.toNat *info.size)))))
   |none=>.stuck
  |_,_,_=>.stuck
 |.call c=>MW q P ρ c o.type k
 |.alloc elem=>Bi q P (Instr.alloc elem true (.tuple #[])) k
 |.box elem x=>Bi q P (Instr.box elem (ρ x)) k
 |.build t parts=>Bi q P (Instr.build t (parts.map λ(i,x)=>(i,ρ x))) k
 |.buildSlice t len parts=>Bi q P (Instr.buildSlice t len (parts.map λ(i,x)=>(i,ρ x))) k
 |.store t a x=>match ρ a with
  |.pointer p=>deref p λa=>Bi q P (jR t (.pointer (some a)) (ρ x)) λ_=>k undef
  |v=>Bi q P (jR t v (ρ x)) λ_=>k undef
 |.unOp op _ x=>Bi q P (Op.unary op (ρ x)) k
 |.convert src dst x=>match P.underlying src,P.underlying dst with
  |some (.int _),some (.int _)=>Bi q P (convert src dst (ρ x)) k
  |some .string,some .string=>Bi q P (convert src dst (ρ x)) k
  |_,_=>Px q P (convert src dst (ρ x)) dst k
 |.makeInterface t x=>Bi q P (Instr.makeInterface t (ρ x)) k
 |.makeFunc fn first captured=>k (.func fn (first.map ρ) (captured.map ρ))
 |.makeMap t r=>Bi q P (Instr.makeMap t (r.map ρ)) k
 |.makeChan t s=>Px q P (Instr.makeChan t (ρ s)) t k
 |.makeSlice t l c=>Px q P (kW t (ρ l) (ρ c)) t k
 |.fieldAddr s x f=>match ρ x with
  |.pointer p=>deref p λa=>Bi q P (lJ s (.pointer (some a)) f) k
  |v=>Bi q P (lJ s v f) k
 |.field t x f=>Bi q P (Instr.field t (ρ x) f) k
 |.extract t ix=>Bi q P (Instr.extract (ρ t) ix) k
 |.lookup t x ix ok=>Px q P (jY t (ρ x) (ρ ix) ok) o.type k
 |.mapUpdate t m key x | .insert t m key x=>cT q (kX t (ρ m) (ρ key) (ρ x)) k
 |.range t x=>Lw q (Instr.range t (ρ x)) (.one (.atom .pointer)) λp=>k (.pointer p)
 |.next it isString=>Lw q (Instr.next (ρ it) isString o.type) (Yj (Jq P o.type)) λx=>k ((Yj (Jq P o.type)).val x)
 |.typeAssert x xt at_ ok=>Px q P (Instr.typeAssert (ρ x) xt at_ ok) o.type k
 |.panic x=>Bi q P (Instr.panic (ρ x)) k
 |_=>.stuck
def Zy (q:Bool) (P:Program) (k:Value→T) (Q:Bh→AE→Prop):Next→AE→Prop
 |.value v,h=>(k v).wp P Q h
 |.skip,h=>(k undef).wp P Q h
 |.enter f args,h=>q=false∧CallsH P f args.toList h λe h'=>match e with
  |.ret v=>(k v).wp P Q h'
  |.pan c=>Q (.pan c) h'
 |_,_=>False
def OpOk (q:Bool) (P:Program) (s:Sem Next) (k:Value→T) (Q:Bh→AE→Prop) (h:AE):Prop:=
 Ae P s (Zy q P k Q) (λv h'=>Q (.pan [{v,recovered:=false}]) h') h
section
variable {q:Bool}{P:Program}{ρ:Operand→Value}{k:Value→T}{Q:Bh→AE→Prop}{h:AE}
theorem Eo {s:Sem Value}(H:Ae P s (λv h'=>(k v).wp P Q h') (λv h'=>Q (.pan [{v,recovered:=false}]) h') h):
 OpOk q P (do pure (.value (←s))) k Q h:=Am s _ H
theorem aV {s:Sem Unit}(H:Ae P s (λ_ h'=>(k undef).wp P Q h') (λv h'=>Q (.pan [{v,recovered:=false}]) h') h):
 OpOk q P (do s;pure .skip) k Q h:=Am s _ H
theorem Jv {p:gL}{f:Addr→T}(H:(deref p f).wp P Q h):∃a,p=some a∧(f a).wp P Q h:=by
 cases p with
 |none=>exact H.elim
 |some a=>exact⟨a,rfl,H⟩
theorem HV {p:Prop}[Decidable p] {t:T}(H:(chk p t).wp P Q h):p∧t.wp P Q h:=by
 exact H
theorem Fc {s:Sem Value}{sh:Sh}{f:sh.Ty→T}(H:(Lw q s sh f).wp P Q h):
 Ae P s (λv h'=>∃x:sh.Ty,v=sh.val x∧(f x).wp P Q h') (λv h'=>Q (.pan [{v,recovered:=false}]) h') h:=by
 cases q with
 |true=>exact H.elim
 |false=>
  simp only[Lw,cond_false]at H;simpa only[T.wp]using H
theorem GR {s:Sem Value}{t:TypeId}(H:(Px q P s t k).wp P Q h):
 Ae P s (λv h'=>(k v).wp P Q h') (λv h'=>Q (.pan [{v,recovered:=false}]) h') h:=
 Bf s (λ_ _ ⟨_,hx,hk⟩=>hx ▸ hk) (λ_ _ hx=>hx) (Fc H)
theorem Oe (s:Sem Unit):∀ {K:Value→AE→Prop}{X:Value→AE→Prop}{h:AE},Ae P (s.bind λ_=>.pure undef) K X h→
 Ae P s (λ_ h'=>K undef h') X h:=by
 induction s with
 |pure a=>intro K X h H;exact H
 |load m a k ih=>intro K X h ⟨v,hv,H⟩;exact⟨v,hv,ih v H⟩
 |store m a v k ih=>intro K X h ⟨a,b,c,H⟩;exact⟨a,b,c,ih H⟩
 |new o k ih=>intro K X h H;exact ih _ H
 |shape r k ih=>intro K X h H;exact ih _ H
 |freeze a n k ih=>intro K X h H;exact ih H
 |frozen a k ih=>intro K X h H;exact ih _ H
 |getObj r k ih=>intro K X h ⟨o,a,b,H⟩;exact⟨o,a,b,ih o H⟩
 |setObj r o k ih=>intro K X h ⟨a,H⟩;exact⟨a,ih H⟩
 |choose q k ih=>
  intro K X h H;simp only[Ae,gO]at H ⊢;split at H
  ·rename_i hq;simp only[hq,if_true];exact ih _ H
  ·rename_i hq;simp only[hq];exact λt=>ih _ (H t)
 |sys c k ih=>intro K X h H;exact H
 |program k ih=>intro K X h H;exact ih _ H
 |mark m k ih=>intro K X h H;exact ih H
 |halt x=>intro K X h H;cases x<;>exact H
theorem Uj {s:Sem Unit}(H:(cT q s k).wp P Q h):
 Ae P s (λ_ h'=>(k undef).wp P Q h') (λv h'=>Q (.pan [{v,recovered:=false}]) h') h:=
 Bf s (λ_ _ ⟨_,_,hk⟩=>hk) (λ_ _ hx=>hx) (Oe s (Fc H))
theorem VN (l:List BX):∀(a:Addr) (i:Nat) (acc:Array Value) {f:Array Value→T},(HU l a i acc f).wp P Q h→
 Ae P (loadCellsFrom a i l.length acc) (λcs h'=>h'=h∧(f cs).wp P Q h') (λ_ _=>False) h:=by
 induction l with
 |nil=>intro a i acc f H;exact⟨rfl,H⟩
 |cons s r ih=>
  intro a i acc f H;obtain⟨x,hx,H⟩:=H;exact⟨s.val x,hx,ih a (i+1) (acc.push (s.val x)) H⟩
theorem Ak {t:TypeId}{d:TypeDesc}(hd:P.underlying t=some d) {α:Type}{f:TypeDesc→Sem α}{K:α→AE→Prop}{X:Value→AE→Prop}
 (H:Ae P (f d) K X h):Ae P (do let d ←underlying t;f d) K X h:=by
 show Ae P (gO (underlying t) f) K X h;simp only[underlying,program,bind,gO,Ae,hd,pure];exact H
theorem GS {t:TypeId}{i:TypeInfo}(hi:P.info? t=some i) {α:Type}{f:TypeInfo→Sem α}{K:α→AE→Prop}{X:Value→AE→Prop}
 (H:Ae P (f i) K X h):Ae P (do let i ←typeInfo t;f i) K X h:=by
 show Ae P (gO (typeInfo t) f) K X h;simp only[typeInfo,program,bind,gO,Ae,hi,pure];exact H
theorem QE {t:TypeId}{d:TypeDesc}(hd:P.underlying t=some d) {α:Type}{f:Bool→Sem α}{K:α→AE→Prop}{X:Value→AE→Prop}
 (H:Ae P (f (Qw d)) K X h):Ae P (do let b ←isAgg t;f b) K X h:=by
 show Ae P (gO (isAgg t) f) K X h;simp only[isAgg,underlying,program,bind,gO,Ae,hd,pure];cases d<;>exact H
theorem IL {t:TypeId}{i:TypeInfo}(hi:P.info? t=some i) {α:Type}{f:Nat→Sem α}{K:α→AE→Prop}{X:Value→AE→Prop}
 (H:Ae P (f i.size) K X h):Ae P (do let n ←Go.sizeOf t;f n) K X h:=by
 show Ae P (gO (Go.sizeOf t) f) K X h;simp only[Go.sizeOf,typeInfo,program,bind,gO,Ae,hi,pure];exact H
theorem TU {t:TypeId}{a:Addr}(H:(Em P t a k).wp P Q h):
 Ae P (loadVar t a) (λv h'=>h'=h∧(k v).wp P Q h') (λ_ _=>False) h:=by
 unfold Em at H;split at H
 ·rename_i d i hd hi
  split at H
  ·rename_i l hag hsh
   split at H
   ·rename_i hlen
    unfold loadVar;refine QE hd ?_;rw[hag];simp only[if_true];refine IL hi ?_;rw[←hlen];show Ae P (gO (loadCellsFrom a 0 l.length #[]) _) _ _ _;refine Am _ _ (Bf _ (λcs h' hc=> ?_) (λ_ _ x=>x) (VN l a 0 #[] H));exact⟨hc.1,hc.2⟩
   ·exact H.elim
  ·rename_i s hag hsh
   unfold loadVar;refine QE hd ?_;rw[hag];obtain⟨x,hx,H⟩:=H;exact⟨_,hx,rfl,H⟩
  ·exact H.elim
 ·exact H.elim
end
section
variable {q:Bool}{P:Program}{ρ:Operand→Value}{k:Value→T}{Q:Bh→AE→Prop}{h:AE}
def BinOk (P:Program) (op:BinOp) (t:TypeId) (x y:Operand) (a b:Value) (k:Value→T) (Q:Bh→AE→Prop) (h:AE):Prop:=
 Ae P (do eqGuard op t x y a b;binOp op t a b) (λv h'=>(k v).wp P Q h') (λv h'=>Q (.pan [{v,recovered:=false}]) h') h
theorem FC {op:BinOp}{t:TypeId}{x y:Operand}{j:IntKind}{m n:Int}{s:Sem Value}(he:op≠.shl) (he':op≠.shr) (hs:(match op with
 |.add | .sub | .mul=>Op.intArith op j m n
 |.quo | .rem=>Op.intDiv op j m n
 |.and | .or | .xor | .andNot=>Op.intBits op j m n
 |_=>Op.intCmp op m n)=s)
 (H:Ae P s (λv h'=>(k v).wp P Q h') (λv h'=>Q (.pan [{v,recovered:=false}]) h') h):BinOk P op t x y (.int j m) (.int j n) k Q h:=by
 subst hs;unfold BinOk;cases op<;>first | exact gI rfl he | exact gI rfl he' | (simpa[eqGuard,binOp,bind,gO,Ae,pure]using H)
theorem Gf {p:Prop}[Decidable p] {t:T}(H:(if p then t else T.stuck).wp P Q h):p∧t.wp P Q h:=by
 by_cases hp:p
 ·rw[gF hp]at H;exact⟨hp,H⟩
 ·rw[gG hp]at H;exact H.elim
theorem Ho {t:TypeId}{f:TypeDesc→T}(H:(Bi q P (underlying t) f).wp P Q h):∃d,P.underlying t=some d∧(f d).wp P Q h:=by
 simp only[underlying,program,bind,gO,Bi]at H;cases hd:P.underlying t with
 |none=>rw[hd]at H;exact H.elim
 |some d=>rw[hd]at H;exact⟨d,rfl,H⟩
theorem aW {t:TypeId}{x y:Operand}{j j':IntKind}{m n:Int}(hn:0≤n) (H:(k (.int j (j.wrap (m *2 ^ (min n.toNat j.bits))))).wp P Q h):
 BinOk P .shl t x y (.int j m) (.int j' n) k Q h:=by
 show Ae P (Op.shift .shl j m j' n) _ _ h;unfold Op.shift;rw[gG (show ¬n<0 by omega)];exact H
theorem aX {t:TypeId}{x y:Operand}{j j':IntKind}{m n:Int}(hn:0≤n) (H:(k (.int j (m.fdiv (2 ^ (min n.toNat j.bits))))).wp P Q h):
 BinOk P .shr t x y (.int j m) (.int j' n) k Q h:=by
 show Ae P (Op.shift .shr j m j' n) _ _ h;unfold Op.shift;rw[gG (show ¬n<0 by omega)];exact H
theorem Yk {t:TypeId}{x y:Operand}{m n:gN}(hn:((m.size+n.size:Nat):Int) ≤IntKind.i64.max) (H:(k (.string (m++n))).wp P Q h):
 BinOk P .add t x y (.string m) (.string n) k Q h:=by
 show Ae P (Op.stringOp .add m n) _ _ h;simp only[Op.stringOp];rw[gG (show ¬((m.size+n.size:Nat):Int) >IntKind.i64.max by omega)];exact H
theorem TV {t:TypeId}{x y:Operand}{a b:Value}{r:Bool}(hg:eqGuard .eql t x y a b=pure ()) (hb:binOp .eql t a b=(do pure (.bool (←Op.equal t a b))))
 (he:∀K X,K r h→Ae P (Op.equal t a b) K X h) (H:(k (.bool r)).wp P Q h):BinOk P .eql t x y a b k Q h:=by
 unfold BinOk;rw[hg,hb];exact Am (Op.equal t a b) _ (he _ _ H)
theorem TW {t:TypeId}{x y:Operand}{a b:Value}{r:Bool}(hg:eqGuard .neq t x y a b=pure ()) (hb:binOp .neq t a b=(do pure (.bool (!(←Op.equal t a b)))))
 (he:∀K X,K r h→Ae P (Op.equal t a b) K X h) (H:(k (.bool !r)).wp P Q h):BinOk P .neq t x y a b k Q h:=by
 unfold BinOk;rw[hg,hb];exact Am (Op.equal t a b) _ (he _ _ H)
theorem QF {t e:TypeId}(hd:P.underlying t=some (.pointer e)) (p:gL) (K:Bool→AE→Prop) (X:Value→AE→Prop) (H:K p.isNone h):
 Ae P (Op.equal t (.pointer p) (.pointer none)) K X h:=by
 show Ae P (Op.equalIn (9999+1) t _ _) K X h;rw[Op.equalIn];refine Ak hd ?_;cases p<;>exact H
theorem N2 {t e:TypeId}(hd:P.underlying t=some (.slice e)) (p:gL) (n c:Nat) (n' c':Nat) (K:Bool→AE→Prop) (X:Value→AE→Prop) (H:K p.isNone h):
 Ae P (Op.equal t (.slice p n c) (.slice none n' c')) K X h:=by
 show Ae P (Op.equalIn (9999+1) t _ _) K X h;rw[Op.equalIn];refine Ak hd ?_;cases p<;>exact H
theorem Of {t:TypeId}(hd:P.underlying t=some .bool) (a b:Bool) (K:Bool→AE→Prop) (X:Value→AE→Prop) (H:K (a==b) h):
 Ae P (Op.equal t (.bool a) (.bool b)) K X h:=by
 show Ae P (Op.equalIn (9999+1) t _ _) K X h;rw[Op.equalIn];refine Ak hd<|H
theorem QG {d:Nat}{t:TypeId}{a b:Value}{r:Bool}(hl:Jr P t a b=some r) (K:Bool→AE→Prop) (X:Value→AE→Prop) (H:K r h):Ae P (Op.equalIn (d+1) t a b) K X h:=by
 unfold Jr at hl;split at hl
 ·split at hl
  ·rename_i hu
   split at hl
   ·rename_i hj
    cases hl;subst hj;rw[Op.equalIn];refine Ak hu ?_;simp only[if_true];exact H
   ·cases hl
  ·cases hl
 ·split at hl
  ·rename_i hu
   cases hl;rw[Op.equalIn];exact Ak hu H
  ·cases hl
 ·split at hl
  ·rename_i hu
   cases hl;rw[Op.equalIn];exact Ak hu H
  ·cases hl
 ·cases hl
theorem MX {t:TypeId}{a b:Value}{r:Bool}(hl:Jr P t a b=some r) {xs:Array Value}{i:Nat}{v:Value}(hv:xs[i]? =some v) {K:Value→AE→Prop}{X:Value→AE→Prop}(H:K v h):Ae P (part t xs i) K X h:=by
 have key:∀d,P.underlying t=some d→Qw d=false→Ae P (part t xs i) K X h:=λd hu hd=>by
  unfold part isAgg;simp only[bind,gO,underlying,program,Ae,hu];cases d<;>first | (cases hd;done)|(simp only[hv];exact H)
 unfold Jr at hl;split at hl
 ·split at hl
  ·rename_i hu;exact key _ hu rfl
  ·cases hl
 ·split at hl
  ·rename_i hu;exact key _ hu rfl
  ·cases hl
 ·split at hl
  ·rename_i hu;exact key _ hu rfl
  ·cases hl
 ·cases hl
theorem N3 {d:Nat}(xs ys:Array Value) (X:Value→AE→Prop):∀(fs:List Field) {r:Bool},Js P xs ys fs=some r→ ∀(K:Bool→AE→Prop),K r h→Ae P (Op.eqFields (d+1) xs ys fs) K X h:=by
 intro fs
 induction fs with
 |nil=>intro r hr K H;cases hr;exact H
 |cons f fs ih=>
  intro r hr K H;unfold Js at hr;split at hr
  ·cases hr
  ·rename_i hn
   split at hr
   ·rename_i a b ha hb
    split at hr
    ·rename_i r1 g c e
     cases hr;unfold Op.eqFields;rw[gF hn];refine Am _ _ (MX c ha ?_);refine Am _ _ (MX c hb ?_);refine Am _ _ (QG c _ _ ?_);cases r1 with
     |false=>exact H
     |true=>exact ih e _ H
    ·cases hr
   ·cases hr
theorem Km {d:Nat}{t:TypeId}{fs:Array Field}(hu:P.underlying t=some (.struct fs)) (hp:P.stoodInHeld t=false) {xs ys:Array Value}{K:Bool→AE→Prop}{X:Value→AE→Prop}
 (H:Ae P (Op.eqFields d xs ys fs.toList) K X h):Ae P (Op.equalIn (d+1) t (.agg xs) (.agg ys)) K X h:=by
 rw[Op.equalIn];refine Ak hu ?_;simp only[program,bind,gO,Ae,hp,hU,if_false];rw[←lL];refine Eq.mpr (gH (λs=>Ae P s K X h) ?_) H
 generalize fs.toList=l
 clear H hu
 induction l with
 |nil=>rfl
 |cons f l ih=>
  rw[kY];unfold Op.eqFields;refine(jW _ _ _).trans ?_;split
  ·refine(jW _ _ _).trans ?_;show gO _ _=gO _ _;congr 1;funext a;refine(jW _ _ _).trans ?_;show gO _ _=gO _ _;congr 1;funext b;refine(jW _ _ _).trans ?_;show gO _ _=gO _ _;congr 1;funext r;cases r with
   |false=>rfl
   |true=>exact ih
  ·exact ih
theorem Uk {t:TypeId}{gs:Array Field}{inf:TypeInfo}(hu:P.underlying t=some (.struct gs)) (hi:P.info? t=some inf) {xs:Array Value}{i:Nat}{K:Value→AE→Prop}{X:Value→AE→Prop}(H:K (.agg (xs.extract i (i+inf.size))) h):Ae P (part t xs i) K X h:=by
 unfold part isAgg;simp only[bind,gO,underlying,program,Ae,hu,pure,Go.sizeOf,typeInfo,hi,if_true];exact H
theorem MY {d:Nat}(xs ys:Array Value) (X:Value→AE→Prop):∀(fs:List Field) {r:Bool},Kl P xs ys fs=some r→ ∀(K:Bool→AE→Prop),K r h→Ae P (Op.eqFields (d+2) xs ys fs) K X h:=by
 intro fs
 induction fs with
 |nil=>intro r hr K H;cases hr;exact H
 |cons f fs ih=>
  intro r hr K H;unfold Kl at hr;split at hr
  ·cases hr
  ·rename_i hn
   split at hr
   ·rename_i r1 j c i
    cases hr;unfold Op.eqFields;rw[gF hn];have last:∀K2:Bool→AE→Prop,(K2=λr h=>Ae P (if(!r)=true then pure false else Op.eqFields (d+2) xs ys fs) K X h)→K2 r1 h:=λK2 e=>by
     subst e;cases r1 with
     |false=>exact H
     |true=>exact ih i _ H
    unfold Ui at c;split at c
    ·rename_i a b ha hb
     split at c
     ·rename_i r3 g
      cases c;exact Am _ _ (MX g ha (Am _ _ (MX g hb (Am _ _ (QG g _ _ (last _ rfl))))))
     ·unfold WV at c;split at c
      ·rename_i gs inf hu hi hs
       exact Am _ _ (Uk hu hi (Am _ _ (Uk hu hi (Am _ _ (Km hu hs (N3 _ _ _ _ c _ (last _ rfl)))))))
      ·cases c
    ·cases c
   ·cases hr
theorem N4 {op:BinOp}{t:TypeId}{x y:Operand}{xs ys:Array Value}{α:Type}{f:Unit→Sem α}{K:α→AE→Prop}{X:Value→AE→Prop}(hg:P.eqGuardType P.depth t=false) (ho:op= .eql∨op= .neq) (H:Ae P (f ()) K X h):
 Ae P ((eqGuard op t x y (.agg xs) (.agg ys)).bind f) K X h:=by
 have key:Ae P (eqGuard op t x y (.agg xs) (.agg ys)) (λ_ h'=>h'=h) X h:=by
  rcases ho with rfl | rfl
  ·show Ae P (if(!P.eqGuardType P.depth t)=true then pure () else _) _ X h;rw[hg];rfl
  ·show Ae P (if(!P.eqGuardType P.depth t)=true then pure () else _) _ X h;rw[hg];rfl
 exact Am _ _ (Bf _ (λa h' e=>by subst e;exact H) (λ_ _ x=>x) key)
theorem WW {t:TypeId}{x y:Operand}{xs ys:Array Value}(H:(N1 P t xs ys (λr=>k (.bool r)) (Lw q (do eqGuard .eql t x y (.agg xs) (.agg ys);binOp .eql t (.agg xs) (.agg ys)) (.one (.atom .bool)) λr=>k (.bool r))).wp P Q h):BinOk P .eql t x y (.agg xs) (.agg ys) k Q h:=by
 unfold N1 at H;split at H
 ·rename_i fs hu
  split at H
  ·rename_i r hg hf
   rw[lF]at hg;refine N4 hg.1 (.inl rfl)<|Am (Op.equal t (.agg xs) (.agg ys)) _ (Km (d:=9999) hu hg.2 (MY (d:=9997) xs ys _ _ hf _ H))
  ·exact Bf _ (λv h' ⟨r,hr,hk⟩=>hr ▸ hk) (λ_ _ x=>x) (Fc H)
 ·exact Bf _ (λv h' ⟨r,hr,hk⟩=>hr ▸ hk) (λ_ _ x=>x) (Fc H)
theorem WX {t:TypeId}{x y:Operand}{xs ys:Array Value}(H:(N1 P t xs ys (λr=>k (.bool !r)) (Lw q (do eqGuard .neq t x y (.agg xs) (.agg ys);binOp .neq t (.agg xs) (.agg ys)) (.one (.atom .bool)) λr=>k (.bool r))).wp P Q h):BinOk P .neq t x y (.agg xs) (.agg ys) k Q h:=by
 unfold N1 at H;split at H
 ·rename_i fs hu
  split at H
  ·rename_i r hg hf
   rw[lF]at hg;refine N4 hg.1 (.inr rfl)<|Am (Op.equal t (.agg xs) (.agg ys)) _ (Km (d:=9999) hu hg.2 (MY (d:=9997) xs ys _ _ hf _ H))
  ·exact Bf _ (λv h' ⟨r,hr,hk⟩=>hr ▸ hk) (λ_ _ x=>x) (Fc H)
 ·exact Bf _ (λv h' ⟨r,hr,hk⟩=>hr ▸ hk) (λ_ _ x=>x) (Fc H)
theorem VO {op:BinOp}{t:TypeId}{x y:Operand}{a b:Value}(H:(Od q P op t x y a b k).wp P Q h):BinOk P op t x y a b k Q h:=by
 unfold Od at H;split at H
 case h_1=>have⟨hj,H2⟩:=Gf H;subst hj;exact FC (by simp) (by simp) rfl H2
 case h_2=>have⟨hj,H2⟩:=Gf H;subst hj;exact FC (by simp) (by simp) rfl H2
 case h_3=>have⟨hj,H2⟩:=Gf H;subst hj;exact FC (by simp) (by simp) rfl H2
 case h_4=>
  have⟨hj,H2⟩:=Gf H;subst hj;have⟨hn,H3⟩:=HV H2;refine FC (by simp) (by simp) rfl ?_;simp only[Op.intDiv,gG hn];exact H3
 case h_5=>
  have⟨hj,H2⟩:=Gf H;subst hj;have⟨hn,H3⟩:=HV H2;refine FC (by simp) (by simp) rfl ?_;simp only[Op.intDiv,gG hn];exact H3
 case h_6=>
  have⟨hn,H2⟩:=HV H;exact aW hn H2
 case h_7=>
  have⟨hn,H2⟩:=HV H;exact aX hn H2
 case h_8=>have⟨hj,H2⟩:=Gf H;subst hj;exact FC (by simp) (by simp) rfl H2
 case h_9=>have⟨hj,H2⟩:=Gf H;subst hj;exact FC (by simp) (by simp) rfl H2
 case h_10=>have⟨hj,H2⟩:=Gf H;subst hj;exact FC (by simp) (by simp) rfl H2
 case h_11=>have⟨hj,H2⟩:=Gf H;subst hj;exact FC (by simp) (by simp) rfl H2
 case h_12=>have⟨hj,H2⟩:=Gf H;subst hj;exact FC (by simp) (by simp) rfl H2
 case h_13=>have⟨hj,H2⟩:=Gf H;subst hj;exact FC (by simp) (by simp) rfl H2
 case h_14=>
  have⟨hn,H2⟩:=HV H;exact Yk hn H2
 case h_15=>exact H
 case h_16=>exact H
 case h_17=>
  have⟨d,hd,H2⟩:=Ho H;cases d<;>first | exact H2.elim | exact TV rfl rfl (QF hd _) H2
 case h_18=>
  have⟨d,hd,H2⟩:=Ho H;cases d<;>first | exact H2.elim | exact TW rfl rfl (QF hd _) H2
 case h_19=>
  have⟨d,hd,H2⟩:=Ho H;cases d<;>first | exact H2.elim | exact TV rfl rfl (N2 hd _ _ _ _ _) H2
 case h_20=>
  have⟨d,hd,H2⟩:=Ho H;cases d<;>first | exact H2.elim | exact TW rfl rfl (N2 hd _ _ _ _ _) H2
 case h_21=>
  have⟨d,hd,H2⟩:=Ho H;cases d<;>first | exact H2.elim | exact TV rfl rfl (Of hd _ _) H2
 case h_22=>
  have⟨d,hd,H2⟩:=Ho H;cases d<;>first | exact H2.elim | exact TW rfl rfl (Of hd _ _) H2
 case h_23=>exact WW H
 case h_24=>exact WX H
 case h_25=>exact Bf _ (λv h' ⟨r,hr,hk⟩=>hr ▸ hk) (λ_ _ x=>x) (Fc H)
 case h_26=>exact Bf _ (λv h' ⟨r,hr,hk⟩=>hr ▸ hk) (λ_ _ x=>x) (Fc H)
 case h_27=>exact Bm _ H
theorem Rw {v:Option Value}{d l:Int}(hb:MV d v=some l):(v=none∧l=d)∨ ∃j,v=some (.int j l):=by
 cases v with
 |none=>simp[MV]at hb;exact .inl ⟨rfl,hb.symm⟩
 |some v=>
  cases v<;>simp[MV]at hb
  subst hb;exact .inr ⟨_,rfl⟩
theorem Fp {α:Type}{j:IntKind}{l:Int}{y:Nat}{code:BoundsCode}{f:Nat→Sem α}{K:α→AE→Prop}{X:Value→AE→Prop}
 (a:0≤l) (b:l≤y) (H:Ae P (f l.toNat) K X h):Ae P (do let n ←jO (.int j l) y code;f n) K X h:=by
 show Ae P (gO (jO (.int j l) y code) f) K X h;have e:jO (.int j l) y code= .pure l.toNat:=by
  show(if 0≤l∧l≤y then jK l.toNat else boundsPanic j l y code)=_;rw[gF ⟨a,b⟩]
 rw[e];exact H
theorem Jw {b:Bool}{len cap:Nat}{lo hi:Option Value}{l hh:Int}(hl:MV 0 lo=some l) (hhi:MV len hi=some hh)
 (c:0≤l) (e:l≤hh) (d:hh≤cap) {α:Type} {f:Nat×Nat×Nat→Sem α} {K:α→AE→Prop} {X:Value→AE→Prop}
 (H:Ae P (f (l.toNat,hh.toNat,cap)) K X h):
 Ae P (do let r ←lQ b len cap lo hi none;f r) K X h:=by
 show Ae P (gO (lQ b len cap lo hi none) f) K X h;refine Am _ _ ?_;have a:l≤(hh.toNat:Int):=by omega
 rcases Rw hl with⟨rfl,rfl⟩|⟨j,rfl⟩ <;>rcases Rw hhi with⟨rfl,rfl⟩|⟨j',rfl⟩
 ·exact H
 ·exact Fp (f:=λn=>jK (0,n,cap)) (by omega) d H
 ·refine Fp (f:=λn=>jK (n,len,cap)) c (by omega) H
 ·refine Fp (f:=λm=>gO (jO (.int j l) m .sliceB) λn=>jK (n,m,cap)) (by omega) d<|Fp (f:=λn=>jK (n,hh.toNat,cap)) c a H
theorem Rx {t:TypeId}{x:Value}{lo hi mx:Option Value}(H:(Jt q P t x lo hi mx k).wp P Q h):
 Ae P (kN t x lo hi mx) (λv h'=>(k v).wp P Q h') (λv h'=>Q (.pan [{v,recovered:=false}]) h') h:=by
 unfold Jt at H;split at H
 ·rename_i s hd
  split at H
  ·rename_i l hh hl hhh
   obtain⟨⟨a,b,d⟩,H2⟩:=HV H;unfold kN;refine Ak hd ?_;unfold Instr.slice;refine Ak hd<|Jw hl hhh a b d H2
  ·exact H.elim
 ·rename_i e p n c hd
  split at H
  ·rename_i l hh i hl hhh hi
   obtain⟨⟨a,b,d⟩,H2⟩:=HV H;unfold kN;refine Ak hd ?_;unfold Instr.slice;refine Ak hd<|Jw hl hhh a b d<|IL hi H2
  ·exact H.elim
 ·exact GR H
theorem TX {c:Call}{t:TypeId}(H:(MW q P ρ c t k).wp P Q h):
 OpOk q P (do let d ←resolve ρ c t;invoke d.target d.args) k Q h:=by
 unfold MW at H;split at H
 ·rename_i b hc
  have e:resolve ρ c t= .pure {target:=.builtin b c.argTypes t (c.args.map fun | .const _=>true | _=>false),args:=c.args.map ρ} :=by
   unfold resolve;rw[hc];rfl
  rw[e];show OpOk q P (builtin b c.argTypes t _ (c.args.map ρ)) k Q h;cases b<;>first | exact H.elim | skip
  case append=>exact Eo (GR H)
  case cap=>
   dsimp only at H;split at H<;>first | exact H.elim | skip
   rename_i at0 _ x _ j l
   refine Eo ?_;have a:c.argTypes[0]? =some at0:=by rw[←hO,j];rfl
   have i:(c.args.map ρ)[0]? =some x:=by rw[←hO,l];rfl
   split at H
   ·rename_i hd
    show Ae P (lP c.argTypes t (c.args.map ρ)) _ _ _;unfold lP;rw[a,i];exact Ak hd H
   ·exact GR H
  case clear=>exact Eo (Bf _ (λ_ _ ⟨_,hx,hk⟩=>by subst hx;exact hk) (λ_ _ x=>x) (Fc H))
  case copy=>exact Eo (Bf _ (λ_ _ ⟨_,hx,hk⟩=>by subst hx;exact hk) (λ_ _ x=>x) (Fc H))
  case delete=>exact Eo (Bf _ (λ_ _ ⟨_,hx,hk⟩=>by subst hx;exact hk) (λ_ _ x=>x) (Fc H))
  case len=>
   dsimp only at H;split at H<;>first | exact H.elim | skip
   rename_i at0 _ x _ j l
   refine Eo ?_;have a:c.argTypes[0]? =some at0:=by rw[←hO,j];rfl
   have i:(c.args.map ρ)[0]? =some x:=by rw[←hO,l];rfl
   split at H
   ·rename_i hd
    show Ae P (iX c.argTypes t (c.args.map ρ)) _ _ _;unfold iX;rw[a,i];exact Ak hd H
   ·rename_i hd
    show Ae P (iX c.argTypes t (c.args.map ρ)) _ _ _;unfold iX;rw[a,i];exact Ak hd H
   ·rename_i x _ _ n e hd
    show Ae P (iX c.argTypes t (c.args.map ρ)) _ _ _;unfold iX;rw[a,i];refine Ak hd ?_;cases x<;>exact H
   ·exact GR H
  case max=>exact Eo (Bm _ H)
  case min=>exact Eo (Bm _ H)
 ·rename_i f hc
  unfold Ju at H;split at H
  ·rename_i g first cap hf
   split at H
   ·rename_i fn hfn
    split at H
    ·rename_i hname hbody
     have e:resolve ρ c t= .pure {target:=.fn (.func g) cap,args:=first++c.args.map ρ} :=by
      unfold resolve;rw[hc];simp only[hf,Deferred.ofValue];rfl
     rw[e];show OpOk q P (callFunc g ((first++c.args.map ρ) ++cap)) k Q h;unfold OpOk callFunc;simp only[program,bind,gO,Ae,hfn,hname,hbody,hU,if_false];cases q with
     |true=>exact H.elim
     |false=>
     simp only[cond_false,T.wp]at H;simp only[pure,Ae,Zy];refine⟨trivial,CallsH.mono H λe h' he=> ?_⟩;cases e with
     |ret v=>obtain⟨x,hx,hk⟩:=he;subst hx;exact hk
     |pan c=>exact he
    ·exact H.elim
   ·exact H.elim
  ·exact H.elim
 ·exact H.elim
theorem Ry {o:Oper}(H:(C6 q P ρ o k).wp P Q h):OpOk q P (execOp ρ o) k Q h:=by
 obtain⟨dst,op,type,pos,after,guard⟩:=o;cases op<;>simp only[C6]at H<;>first | exact H.elim | skip
 case move x=>exact H
 case assign x=>exact H
 case pick c a b=>
  split at H
  ·rename_i t ht
   show OpOk q P (do pure (.value (if ←asBool (ρ c) then ρ a else ρ b))) k Q h;rw[ht];cases t<;>exact H
  ·exact H.elim
 case alloc e=>exact Eo (Bm _ H)
 case box e x=>exact Eo (Bm _ H)
 case build t ps=>exact Eo (Bm _ H)
 case buildSlice t n ps=>exact Eo (Bm _ H)
 case insert t m key x=>exact aV (Uj H)
 case load t a=>
  split at H
  ·rename_i p ha
   obtain⟨a',rfl,H2⟩:=Jv H;refine Eo ?_;show Ae P (Instr.loadAt t (ρ a)) _ _ _;rw[ha];exact Bf _ (λ_ _ ⟨d,g⟩=>d ▸ g) (λ_ _ hx=>hx.elim) (TU H2)
  ·exact H.elim
 case store t a x=>
  refine aV ?_;split at H
  ·rename_i p ha
   obtain⟨a',rfl,H2⟩:=Jv H;rw[ha];exact Bm _ H2
  ·exact Bm _ H
 case nilCheck x=>
  split at H
  ·rename_i p hp
   obtain⟨a,rfl,H2⟩:=Jv H;simp only[execOp,hp];exact H2
  ·rename_i f a b hp
   simp only[execOp,hp];exact H
  ·rename_i t v hp
   simp only[execOp,hp];exact H
  ·exact H.elim
 case binOp op xt x y yt=>exact Eo (VO H)
 case unOp op xt x=>exact Eo (Bm _ H)
 case convert src dst x=>
  refine Eo ?_;split at H
  ·exact Bm _ H
  ·exact Bm _ H
  ·exact GR H
 case makeInterface t x=>exact Eo (Bm _ H)
 case makeFunc fn first captured=>exact H
 case makeMap t r=>exact Eo (Bm _ H)
 case makeChan t s=>exact Eo (GR H)
 case makeSlice t l c=>exact Eo (GR H)
 case slice t x lo hi mx=>exact Eo (Rx H)
 case fieldAddr s x f=>
  refine Eo ?_;split at H
  ·rename_i p hp
   obtain⟨a,rfl,H2⟩:=Jv H;rw[hp];exact Bm _ H2
  ·exact Bm _ H
 case field t x f=>exact Eo (Bm _ H)
 case indexAddr t x ix=>
  refine Eo ?_;show Ae P (lK t (ρ x) (ρ ix)) _ _ _;split at H
  ·rename_i e p n c j i hd hx hix
   split at H
   ·rename_i info hinfo
    obtain⟨a,rfl,H2⟩:=Jv H;have⟨hb,H3⟩:=HV H2;rw[hx,hix];simp only[lK,Instr.sureAddr,asIntOf,underlying,program,bind,gO,Ae,hd,pure,Go.sizeOf,typeInfo,hinfo,gF hb];exact H3
   ·exact H.elim
  ·rename_i n e a j i hd hx hix
   split at H
   ·rename_i info hinfo
    have⟨hb,H3⟩:=HV H;rw[hx,hix];simp only[lK,Instr.sureAddr,asIntOf,underlying,program,bind,gO,Ae,hd,pure,Go.sizeOf,typeInfo,hinfo,gF hb];exact H3
   ·exact H.elim
  ·exact H.elim
 case index t x ix=>
  refine Eo ?_;show Ae P (lX t (ρ x) (ρ ix)) _ _ _;split at H
  ·rename_i s j i hd hx hix
   have⟨hb,H3⟩:=HV H;rw[hx,hix];unfold lX;simp only[asIntOf];refine Ak hd ?_;have e:(if 0≤i then s[i.toNat]? else none)=some (En s i.toNat):=by
    rw[gF hb.1];have hlt:i.toNat<s.size:=by omega
    rw[getElem?_pos s i.toNat hlt];unfold En
    have:i.toNat<s.data.toList.length:=by simpa using hlt
    rw[gR,iJ this];rfl
   dsimp only;rw[e];exact H3
  ·exact Bm _ H
 case lookup t x ix ok=>exact Eo (GR H)
 case mapUpdate t m key x=>exact aV (Uj H)
 case range t x=>exact Eo (Bf _ (λ_ _ ⟨_,hx,hk⟩=>by subst hx;exact hk) (λ_ _ x=>x) (Fc H))
 case next it b=>exact Eo (Bf _ (λ_ _ ⟨_,hx,hk⟩=>by subst hx;exact hk) (λ_ _ x=>x) (Fc H))
 case typeAssert x xt at_ ok=>exact Eo (GR H)
 case extract t ix=>exact Eo (Bm _ H)
 case call c=>exact TX H
 case panic x=>exact Eo (Bm _ H)
end
abbrev Env:=List (Nat×Value)
def Env.get?:Env→Nat→Option Value
 | [],_=>none
 |(i,v)::r,t=>bif gX i t then some v else Env.get? r t
def Env.put (e:Env) (dst:Option Tmp) (v:Value):Env:=match dst with
 |some d=>(d,v)::e
 |none=>e
def Env.ev (e:Env):Operand→Value
 |.tmp t=>(e.get? t).getD undef
 |.const v=>v
 |.global g=>.pointer (some ⟨g,0,none⟩)
 |.func f=>.func (.func f) #[] #[]
def Env.has (e:Env):Operand→Bool
 |.tmp t=>(e.get? t).isSome
 |_=>true
def Agrees (e:Env) (tm:Array Value):Prop:= ∀t v,e.get? t=some v→tm[t]? =some v
theorem Env.get?_cons (i:Nat) (v:Value) (r:Env) (t:Nat):Env.get? ((i,v)::r) t=if i=t then some v else Env.get? r t:=by
 show(bif gX i t then some v else Env.get? r t)=_;by_cases h:i=t
 ·subst h;simp
 ·have:gX i t=false:=by
   cases hb:gX i t with
   |false=>rfl
   |true=>exact gI (hQ hb) h
  simp[this,h]
theorem Agrees.ev {e:Env}{a:Act}(h:Agrees e a.tmps) {x:Operand}(hx:e.has x=true):a.eval x=e.ev x:=by
 cases x with
 |tmp t=>
  have⟨v,hv⟩:=kM.1 hx
  have:=h t v hv
  simp[Act.eval,Env.ev,hv,this]
 |const v=>rfl
 |global g=>rfl
 |func f=>rfl
theorem Agrees.put {e:Env}{a:Act}(h:Agrees e a.tmps) (dst:Option Tmp) (v:Value) (hd:∀d,dst=some d→d<a.tmps.size):Agrees (e.put dst v) (a.put dst v).tmps:=by
 cases dst with
 |none=>exact h
 |some d=>
  intro t u hu;simp only[Env.put,Env.get?_cons]at hu;have hlt:=hd d rfl;by_cases hdt:d=t
  ·subst hdt;simp only[if_true,Option.some.injEq]at hu;subst hu;simp[Act.put,hlt]
  ·simp only[hdt,if_false]at hu;simp only[Act.put,gP hdt];exact h t u hu
theorem Act.put_size (a:Act) (dst:Option Tmp) (v:Value):(a.put dst v).tmps.size=a.tmps.size:=by
 cases dst<;>simp[Act.put]
theorem Act.put_defers' (a:Act) (dst:Option Tmp) (v:Value):(a.put dst v).defers=a.defers:=by
 cases dst<;>rfl
def Fr (W:List Nat) (a a':Act):Prop:=a'.tmps.size=a.tmps.size∧a'.defers=a.defers∧ ∀t,t∉W→a'.tmps[t]? =a.tmps[t]?
theorem Fr.refl (W:List Nat) (a:Act):Fr W a a:=⟨rfl,rfl,λ_ _=>rfl⟩
theorem Fr.trans {W:List Nat}{a b c:Act}(h:Fr W a b) (k:Fr W b c):Fr W a c:=⟨k.1.trans h.1,k.2.1.trans h.2.1,λt ht=>(k.2.2 t ht).trans (h.2.2 t ht)⟩
theorem Fr.mono {W W':List Nat}{a b:Act}(h:Fr W a b) (hW:∀t,t∈W→t∈W'):Fr W' a b:=⟨h.1,h.2.1,λt ht=>h.2.2 t (λh'=>ht (hW t h'))⟩
theorem Fr.put (W:List Nat) (a:Act) (dst:Option Tmp) (v:Value) (h:∀d,dst=some d→d∈W):Fr W a (a.put dst v):=by
 refine⟨Act.put_size a dst v,Act.put_defers' a dst v,λt ht=> ?_⟩;cases dst with
 |none=>rfl
 |some d=>
  have:d≠t:=λe=>ht (e ▸ h d rfl)
  simp[Act.put,gP this]
def IR (P:Program) (ops:Array Oper) (l:List Nat) (Q:Exit→Act→World→Prop) (a:Act) (w:World):Prop:=
 ∀(b:Frame) (k:List Item) (cs:List Frame),
  ∃e a' w',Q e a' w'∧Arrives P (lone (b.at a (.inRegion ops l::k)) cs w) b k cs e a' w'
section
variable {P:Program}{ops:Array Oper}{Q:Exit→Act→World→Prop}{a:Act}{w:World}
theorem aY (h:Q .normal a w):IR P ops [] Q a w:=λ_ _ _=>⟨.normal,a,w,h,.one step_region_end⟩
theorem Ul {i:Nat}{rest:List Nat}(h:((ops[i]?).map (Region.wanted · (yielded ops a.tmps))).getD false=false)
 (H:IR P ops rest Q (a.put ((ops[i]?).bind (·.dst)) undef) w):IR P ops (i::rest) Q a w:=λb k cs=>by
 obtain⟨e,a',w',hq,harr⟩:=H b k cs;exact⟨e,a',w',hq,.of_steps (.one (step_op_skip h)) harr⟩
theorem WY {i:Nat}{rest:List Nat}{o:Oper}{v:Value}{w':World}(ho:ops[i]? =some o) (hw:Region.wanted o (yielded ops a.tmps)=true)
 (hr:(execOp a.eval o).run P w= .ok (.value v) w') (H:IR P ops rest Q (a.put o.dst v) w'):IR P ops (i::rest) Q a w:=λb k cs=>by
 obtain⟨e,a',w'',hq,harr⟩:=H b k cs;refine⟨e,a',w'',hq,.of_steps (.one (step_lone_go ?_)) harr⟩;have hfin:(b.at a (.inRegion ops (i::rest)::k)).finish v=b.at (a.put o.dst v) (.inRegion ops rest::k):=by rw[Frame.finish_at,ho];rfl
 rw[stepG_op ho hw,←hfin];simp[stepG.apply,hr]
theorem Yl {i:Nat}{rest:List Nat}{o:Oper}{w':World}(ho:ops[i]? =some o) (hw:Region.wanted o (yielded ops a.tmps)=true)
 (hr:(execOp a.eval o).run P w= .ok .skip w') (H:IR P ops rest Q (a.put o.dst undef) w'):IR P ops (i::rest) Q a w:=λb k cs=>by
 obtain⟨e,a',w'',hq,harr⟩:=H b k cs;refine⟨e,a',w'',hq,.of_steps (.one (step_lone_go ?_)) harr⟩;have hfin:(b.at a (.inRegion ops (i::rest)::k)).finish undef=b.at (a.put o.dst undef) (.inRegion ops rest::k):=by rw[Frame.finish_at,ho];rfl
 rw[stepG_op ho hw,←hfin];simp[stepG.apply,hr]
theorem WZ {i:Nat}{rest:List Nat}{o:Oper}{v:Value}{w':World}(ho:ops[i]? =some o) (hw:Region.wanted o (yielded ops a.tmps)=true)
 (hr:(execOp a.eval o).run P w= .halt (.panic v) w') (H:Q (.panic [{v,recovered:=false}]) a w'):IR P ops (i::rest) Q a w:=λb k cs=>by
 refine⟨_,a,w',H,.inRegion ops (i::rest)::k,.one (step_lone_go ?_)⟩;rw[stepG_op ho hw,←Frame.raise_at];simp[stepG.apply,hr]
theorem Wa {i:Nat}{rest:List Nat}{o:Oper}{f:FuncId}{args:Array Value}{w':World}(ho:ops[i]? =some o) (hw:Region.wanted o (yielded ops a.tmps)=true)
 (hr:(execOp a.eval o).run P w= .ok (.enter f args) w')
 (H:Calls P f args w' λe w''=>match e with
  |.returned v=>IR P ops rest Q (a.put o.dst v) w''
  |.panicked chain=>Q (.panic chain) a w''
  |.outgrown=>False):IR P ops (i::rest) Q a w:=λb k cs=>by
 obtain⟨e,w'',fr,hR,hsteps,_,hleave⟩:=H (b.at a (.inRegion ops (i::rest)::k)::cs);have henter:step P (lone (b.at a (.inRegion ops (i::rest)::k)) cs w)=
  .next (lone (Frame.enter P f args .normal) (b.at a (.inRegion ops (i::rest)::k)::cs) w'):=
  step_lone_go (by rw[stepG_op ho hw];simp[stepG.apply,hr,Frame.at])
 cases e with
 |returned v=>
  obtain⟨e,a',w₃,hq,harr⟩:=hR b k cs;refine⟨e,a',w₃,hq,.of_steps (.head henter (hsteps.trans (.one ?_))) harr⟩;have hfin:(b.at a (.inRegion ops (i::rest)::k)).finish v=b.at (a.put o.dst v) (.inRegion ops rest::k):=by rw[Frame.finish_at,ho];rfl
  rw[←hfin];exact step_leave_returned hleave
 |panicked chain=>
  refine⟨.panic chain,a,w'',hR,.inRegion ops (i::rest)::k,.head henter (hsteps.trans (.one ?_))⟩;rw[←Frame.raise_at];exact step_leave_panicked hleave
 |outgrown=>exact hR.elim
theorem Rz {b:Frame}{k:List Item}{cs:List Frame}{i:Nat}{rest:List Nat}{o:Oper}{cases_:Array CommCase}{blocking:Bool}{shape:CommShape}(ho:ops[i]? =some o)
 (hw:Region.wanted o (yielded ops a.tmps)=true) (hr:(execOp a.eval o).run P w= .ok (.comm cases_ blocking shape) w):
 ∃es,stepG P true (Conc.G (b.at a (.inRegion ops (i::rest)::k)) cs) w= .comm (Conc.G (b.at a (.inRegion ops (i::rest)::k)) cs) cases_ blocking shape w es:=by
 have hg:=stepG_op (P:=P) (b:=b) (k:=k) (cs:=cs) (w:=w) (rest:=rest) ho hw
 have:stepG P true (Conc.G (b.at a (.inRegion ops (i::rest)::k)) cs) w=stepG.apply P true (b.at a (.inRegion ops (i::rest)::k)) cs none (execOp a.eval o) w:=hg
 rw[this];refine⟨(stepG.apply P true (b.at a (.inRegion ops (i::rest)::k)) cs none (execOp a.eval o) w).es,?_⟩;simp[stepG.apply,hr,Conc.G,Frame.at,GStep.after,GStep.es]
def NO (send:Option Value) (i:Int) (ok:Bool) (v:Value):Value:=match send with
 |some _=>.tuple #[goInt i,.bool ok]
 |none=>.tuple #[goInt i,.bool ok,v]
theorem VQ {i:Nat}{rest:List Nat}{o:Oper}{c:Nat}{send:Option Value}{zero:Value}(ho:ops[i]? =some o) (hw:Region.wanted o (yielded ops a.tmps)=true)
 (hr:(execOp a.eval o).run P w= .ok (.comm #[{chan:=.chan (some c),send,zero}] false .select) w)
 (H:WT c send zero (λj ok v h'=>∀w',B8 w w'→w'.heap=h'→IR P ops rest Q (a.put o.dst (NO send j ok v)) w') w.heap):IR P ops (i::rest) Q a w:=by
 intro b k cs;have⟨es,hst⟩:=Rz (b:=b) (k:=k) (cs:=cs) (rest:=rest) ho hw hr;obtain⟨cap,buf,s,r,hc,H⟩:=H;have fin:∀v,(b.at a (.inRegion ops (i::rest)::k)).finish v=b.at (a.put o.dst v) (.inRegion ops rest::k):=λv=>by rw[Frame.finish_at,ho];rfl
 cases send with
 |none=>
  by_cases hh:0<buf.size
  ·simp only[gF hh]at H;have hs:=Conc.step_lone_select_recv_buf hst hc hh;obtain⟨e,a',w',hq,harr⟩:=H (w.setChan c cap (buf.extract 1 buf.size) false s (r+1) false) ⟨rfl,rfl,rfl,by unfold World.setChan;simp⟩ rfl b k cs;refine⟨e,a',w',hq,.of_steps (.one ?_) harr⟩;rw[←fin];exact hs
  ·simp only[gG hh]at H;have hb:buf= #[]:=by
    have:buf.size=0:=by omega
    exact Array.eq_empty_of_size_eq_zero this
   subst hb;have hs:=Conc.step_lone_select_default hst hc;obtain⟨e,a',w',hq,harr⟩:=H w (.refl w) rfl b k cs;refine⟨e,a',w',hq,.of_steps (.one ?_) harr⟩;rw[←fin];exact hs
 |some v=>
  by_cases hh:buf.size<cap
  ·simp only[gF hh]at H;have hs:=Conc.step_lone_select_send_room hst hc hh;obtain⟨e,a',w',hq,harr⟩:=H (w.setChan c cap (buf.push v) false (s+1) r false) ⟨rfl,rfl,rfl,by unfold World.setChan;simp⟩ rfl b k cs;refine⟨e,a',w',hq,.of_steps (.one ?_) harr⟩;rw[←fin];exact hs
  ·simp only[gG hh]at H;have hs:=Conc.step_lone_select_send_full hst hc (by omega);obtain⟨e,a',w',hq,harr⟩:=H w (.refl w) rfl b k cs;refine⟨e,a',w',hq,.of_steps (.one ?_) harr⟩;rw[←fin];exact hs
end
section
variable {P:Program}{ops:Array Oper}
def FD (P:Program) (ops:Array Oper) (i:Nat) (a:Act) (w:World) (K:Act→World→Prop) (X:List PanicEntry→World→Prop):Prop:=
 match ops[i]? with
 |none=>K a w
 |some o=>
  (Region.wanted o (yielded ops a.tmps)=false∧K (a.put o.dst undef) w)∨
  (Region.wanted o (yielded ops a.tmps)=true∧
   ((∃v w',(execOp a.eval o).run P w= .ok (.value v) w'∧K (a.put o.dst v) w')∨
    (∃w',(execOp a.eval o).run P w= .ok .skip w'∧K (a.put o.dst undef) w')∨
    (∃f args w',(execOp a.eval o).run P w= .ok (.enter f args) w'∧Calls P f args w' λe w''=>match e with
     |.returned v=>K (a.put o.dst v) w''
     |.panicked ch=>X ch w''
     |.outgrown=>False)∨
    (∃v w',(execOp a.eval o).run P w= .halt (.panic v) w'∧X [{v,recovered:=false}] w')))
theorem Jy {i:Nat}{a:Act}{w:World}{K K':Act→World→Prop}{X X':List PanicEntry→World→Prop}(hK:∀a w,K a w→K' a w) (hX:∀c w,X c w→X' c w)
 (H:FD P ops i a w K X):FD P ops i a w K' X':=by
 unfold FD at *;split
 ·rename_i h;simp only[h]at H;exact hK _ _ H
 ·rename_i o h
  simp only[h]at H;rcases H with⟨g,j⟩|⟨g,j⟩
  ·exact .inl ⟨g,hK _ _ j⟩
  ·refine .inr ⟨g,?_⟩;rcases j with⟨v,w',b,d⟩|⟨w',b,d⟩|⟨f,args,w',b,d⟩|⟨v,w',b,d⟩
   ·exact .inl ⟨v,w',b,hK _ _ d⟩
   ·exact .inr (.inl ⟨w',b,hK _ _ d⟩)
   ·refine .inr (.inr (.inl ⟨f,args,w',b,d.mono λe w'' he=> ?_⟩));cases e<;>first | exact hK _ _ he | exact hX _ _ he | exact he
   ·exact .inr (.inr (.inr ⟨v,w',b,hX _ _ d⟩))
theorem VR {W:List Nat}(hW:∀o∈ops,∀d,o.dst=some d→d∈W) {i:Nat}{a:Act}{w:World}{K:Act→World→Prop}{X:List PanicEntry→World→Prop}
 (H:FD P ops i a w K X):FD P ops i a w (λa' w'=>Fr W a a'∧K a' w') X:=by
 unfold FD at *;split
 ·rename_i h;simp only[h]at H;exact⟨.refl W a,H⟩
 ·rename_i o h
  simp only[h]at H;have hd:∀v,Fr W a (a.put o.dst v):=λv=>Fr.put W a o.dst v (hW o (iO h));rcases H with⟨g,j⟩|⟨g,j⟩
  ·exact .inl ⟨g,hd _,j⟩
  ·refine .inr ⟨g,?_⟩;rcases j with⟨v,w',b,c⟩|⟨w',b,c⟩|⟨f,args,w',b,c⟩|⟨v,w',b,c⟩
   ·exact .inl ⟨v,w',b,hd _,c⟩
   ·exact .inr (.inl ⟨w',b,hd _,c⟩)
   ·refine .inr (.inr (.inl ⟨f,args,w',b,c.mono λe w'' he=> ?_⟩));cases e<;>first | exact⟨hd _,he⟩|exact he
   ·exact .inr (.inr (.inr ⟨v,w',b,c⟩))
theorem VS {i:Nat}{rest:List Nat}{a:Act}{w:World}{Q:Exit→Act→World→Prop}(H:FD P ops i a w (IR P ops rest Q) (λc w=>Q (.panic c) a w)):
 IR P ops (i::rest) Q a w:=by
 unfold FD at H;split at H
 ·rename_i h
  refine Ul (by simp[h]) ?_;simpa[h,Act.put]using H
 ·rename_i o h
  rcases H with⟨e,g⟩|⟨e,g⟩
  ·exact Ul (by simp[h,e]) (by simpa[h]using g)
  ·rcases g with⟨v,w',b,d⟩|⟨w',b,d⟩|⟨f,args,w',b,d⟩|⟨v,w',b,d⟩
   ·exact WY h e b d
   ·exact Yl h e b d
   ·exact Wa h e b d
   ·exact WZ h e b d
theorem R0 {i:Nat}{a:Act}{w:World}{K:Act→World→Prop}{Q:Exit→Act→World→Prop}(H:FD P ops i a w K (λc w=>Q (.panic c) a w)):
 wpOp P ops Q i K a w:=by
 unfold FD at H;unfold wpOp;split at H
 ·rename_i h;simp only[h];exact H
 ·rename_i o h
  simp only[h];rcases H with⟨g,j⟩|⟨g,j⟩
  ·simp only[g,hU,if_false];exact j
  ·simp only[g,if_true];refine .inl ?_;unfold Oper.wp;rcases j with⟨v,w',b,d⟩|⟨w',b,d⟩|⟨f,args,w',b,d⟩|⟨v,w',b,d⟩
   ·rw[b];exact d
   ·rw[b];exact d
   ·rw[b];exact Calls.mono d λe w'' he=>by cases e<;>first | exact he | exact he.elim
   ·rw[b];exact d
def StepH (P:Program) (ops:Array Oper) (i:Nat) (K:Act→AE→Prop) (X:List PanicEntry→AE→Prop) (a:Act) (h:AE):Prop:=
 ∀w,w.heap=h→FD P ops i a w (λa' w'=>B8 w w'∧K a' w'.heap) (λc w'=>B8 w w'∧X c w'.heap)
theorem Lx {i:Nat}{a:Act}{h:AE}{K K':Act→AE→Prop}{X X':List PanicEntry→AE→Prop}(hK:∀a h,K a h→K' a h) (hX:∀c h,X c h→X' c h)
 (H:StepH P ops i K X a h):StepH P ops i K' X' a h:=λw hw=>Jy (λ_ _ ⟨x,y⟩=>⟨x,hK _ _ y⟩) (λ_ _ ⟨x,y⟩=>⟨x,hX _ _ y⟩) (H w hw)
def Wb (ops:Array Oper) (e:Env) (o:Oper):Option Bool:=match o.guard with
 |none=>some true
 |some (j,want)=>match (ops[j]?).bind (·.dst) with
  |none=>none
  |some d=>match e.get? d with
   |some (.bool b)=>some (b==want)
   |some _=>some false
   |none=>none
theorem Qx {e:Env}{a:Act}{o:Oper}{b:Bool}(h:Agrees e a.tmps) (hg:Wb ops e o=some b):Region.wanted o (yielded ops a.tmps)=b:=by
 unfold Wb at hg;unfold Region.wanted;split at hg
 ·rename_i c;cases hg;simp[c]
 ·rename_i j want c
  simp only[c];split at hg
  ·cases hg
  ·rename_i d g
   split at hg
   ·rename_i b' f
    cases hg
    have:=h d _ f
    simp[yielded,g,this]
   ·rename_i v f i
    cases hg
    have:=h d _ i
    have hy:yielded ops a.tmps j=none:=by
     unfold yielded;rw[g];simp only[Option.bind_some,this];cases v<;>first | rfl | exact gI rfl (f _)
    simp[hy]
   ·cases hg
def Qy (g:Bool) (v:Value) (k:Value→T):T:=match g,v with
 |true,.bool b=>cond b (k (.bool true)) (k (.bool false))
 |_,v=>k v
theorem Ko {g:Bool}{v:Value}{k:Value→T}{Q:Bh→AE→Prop}{h:AE}(H:(Qy g v k).wp P Q h):(k v).wp P Q h:=by
 unfold Qy at H;split at H
 ·rename_i b;cases b<;>exact H
 ·exact H
def OU (q:Bool) (P:Program) (ops:Array Oper) (gs:List Nat) (e:Env) (i:Nat) (k:Env→T):T:=match ops[i]? with
 |none=>k e
 |some o=>match Wb ops e o with
  |none=>.stuck
  |some false=>k (e.put o.dst undef)
  |some true=>bif o.op.operands.toList.all e.has then C6 q P e.ev o λv=>Qy (gs.contains i) v λv=>k (e.put o.dst v) else .stuck
theorem QH {q:Bool}{P:Program}{ρ:Operand→Value}{o:Oper}{k:Value→T}{Q:Bh→AE→Prop}{h:AE}(H:(C6 q P ρ o k).wp P Q h) (cs:Array SelectCase) (b:Bool):o.op≠.select cs b:=by
 intro he;simp only[C6,he]at H;exact H
def HD (W:List Nat) (a:Act):Prop:= ∀d∈W,d<a.tmps.size
theorem HD.fr {W W':List Nat}{a a':Act}(h:HD W a) (f:Fr W' a a'):HD W a':=λd hd=>by rw[f.1];exact h d hd
theorem Og {q:Bool}{gs:List Nat}{e:Env}{i:Nat}{k:Env→T}{QT:Bh→AE→Prop}{a:Act}{h:AE}{W:List Nat}(hag:Agrees e a.tmps) (hW:∀o∈ops,∀d,o.dst=some d→d∈W) (hb:HD W a)
 (H:(OU q P ops gs e i k).wp P QT h):
 StepH P ops i (λa' h'=>∃e',Agrees e' a'.tmps∧Fr W a a'∧(k e').wp P QT h') (λc h'=>QT (.pan c) h') a h:=by
 intro w hw;subst hw;unfold OU at H;unfold FD;cases ho:ops[i]? with
 |none=>rw[ho]at H;exact⟨.refl w,e,hag,.refl W a,H⟩
 |some o=>
  rw[ho]at H;have hdW:∀d,o.dst=some d→d∈W:=hW o (iO ho);have hput:∀v,Agrees (e.put o.dst v) (a.put o.dst v).tmps:=λv=>hag.put o.dst v λd hd=>hb d (hdW d hd);dsimp only at H ⊢;cases hg:Wb ops e o with
  |none=>rw[hg]at H;exact H.elim
  |some b=>
   rw[hg]at H;have hwt:=Qx hag hg;cases b with
   |false=>exact .inl ⟨hwt,.refl w,_,hput undef,Fr.put W a o.dst undef hdW,H⟩
   |true=>
    refine .inr ⟨hwt,?_⟩;dsimp only at H;cases hall:o.op.operands.toList.all e.has with
    |false=>rw[hall]at H;exact H.elim
    |true=>
     rw[hall]at H;simp only[cond_true]at H;have hcong:execOp a.eval o=execOp e.ev o:=execOp_congr o (QH H) λx hx=>hag.ev (jP.1 hall x (iR.2 hx));rw[hcong];rcases QD _ w (Ry H) with⟨nx,w',l,g,j⟩|⟨v,w',l,g,j⟩
     ·cases nx<;>first | exact j.elim | skip
      case value v=>exact .inl ⟨v,w',l,g,_,hput v,Fr.put W a o.dst v hdW,Ko j⟩
      case skip=>exact .inr (.inl ⟨w',l,g,_,hput undef,Fr.put W a o.dst undef hdW,Ko j⟩)
      case enter f args=>
       refine .inr (.inr (.inl ⟨f,args,w',l,(by simpa using j.2 w' rfl:Calls P f args w' _).mono λm w'' he=> ?_⟩));cases m with
       |returned v=>exact⟨g.trans he.1,_,hput v,Fr.put W a o.dst v hdW,Ko he.2⟩
       |panicked ch=>exact⟨g.trans he.1,he.2⟩
       |outgrown=>exact he.2
     ·exact .inr (.inr (.inr ⟨v,w',l,g,j⟩))
def Zz (ops:Array Oper) (i:Nat):Option (Oper×SelectCase):=match ops[i]? with
 |some o=>match o.guard,o.op with
  |none,.select cs false=>match cs.toList with
   | [c] =>some (o,c)
   |_=>none
  |_,_=>none
 |none=>none
def aZ (p:Option Nat) (k:Nat→T):T:=match p with
 |some r=>k r
 |none=>.stuck
def Wc (P:Program) (e:Env) (c:SelectCase) (k:Value→T):T:=
 bif e.has c.chan && c.send.toList.all e.has then
  match e.ev c.chan,(P.info? c.elem).bind (·.zero) with
  |.chan p,some z=>aZ p λr=>.sel r (c.send.map e.ev) z λj ok v=>k (NO (c.send.map e.ev) j ok v)
  |_,_=>.stuck
 else .stuck
def Jz (P:Program) (ops:Array Oper) (gs:List Nat):List Nat→Env→(Env→T)→T
 | [],e,k=>k e
 |i::r,e,k=>match Zz ops i with
  |some (o,c)=>Wc P e c λv=>Jz P ops gs r (e.put o.dst v) k
  |none=>OU false P ops gs e i λe'=>Jz P ops gs r e' k
theorem TY {gs:List Nat}{QT:Bh→AE→Prop}{W:List Nat}{QC:Exit→Act→World→Prop}{k:Env→T}(hW:∀o∈ops,∀d,o.dst=some d→d∈W) (t:List Nat) (l:List Nat):
 ∀(e:Env) (a:Act) (w:World),Agrees e a.tmps→HD W a→(Jz P ops gs l e k).wp P QT w.heap→
  (∀e' a' w',Agrees e' a'.tmps→Fr W a a'→B8 w w'→(k e').wp P QT w'.heap→IR P ops t QC a' w')→
  (∀c a' w',Fr W a a'→B8 w w'→QT (.pan c) w'.heap→QC (.panic c) a' w')→IR P ops (l++t) QC a w:=by
 induction l with
 |nil=>intro e a w hag hb H hn hp;exact hn e a w hag (.refl W a) (.refl w) H
 |cons i r ih=>
  intro e a w hag hb H hn hp;unfold Jz at H;split at H
  ·rename_i o c hs
   unfold Zz at hs;split at hs
   ·rename_i o' ho
    split at hs
    ·rename_i cs hgd hop
     split at hs
     ·rename_i c' hcs
      simp only[Option.some.injEq,Prod.mk.injEq]at hs;obtain⟨rfl,rfl⟩:=hs;unfold Wc at H;cases hk:(e.has c'.chan && c'.send.toList.all e.has) with
      |false=>rw[hk]at H;exact H.elim
      |true=>
       rw[hk]at H;simp only[cond_true]at H;split at H
       ·rename_i p z hch hz
        cases p with
        |none=>exact H.elim
        |some rr=>
         have hdW:∀d,o'.dst=some d→d∈W:=hW o' (iO ho);rw[kQ]at hk;have B:a.eval c'.chan= .chan (some rr):=by rw[hag.ev hk.1];exact hch
         have m:c'.send.map a.eval=c'.send.map e.ev:=by
          cases hsd:c'.send with
          |none=>rfl
          |some x=>
           have:=hk.2
           simp only[hsd,Option.toList_some,List.all_cons,List.all_nil,Bool.and_true]at this;simp[hag.ev this]
         have C:cs= #[c']:=by cases cs;simp at hcs;subst hcs;rfl
         obtain⟨inf,hinf,hzero⟩:∃i,P.info? c'.elem=some i∧i.zero=some z:=by
          cases hi:P.info? c'.elem with
          |none=>simp[hi]at hz
          |some i=>exact⟨i,rfl,by simpa[hi]using hz⟩
         have hrun:(execOp a.eval o').run P w= .ok (.comm #[{chan:=.chan (some rr),send:=c'.send.map e.ev,zero:=z}] false .select) w:=by
          simp[execOp,hop,C,zeroValue,typeInfo,program,bind,gO,pure,hinf,hzero,gT,B,m,Functor.map]
         refine VQ ho (by simp[Region.wanted,hgd]) hrun ?_;have H':WT rr (c'.send.map e.ev) z (λj ok v h'=>(Jz P ops gs r (e.put o'.dst (NO (c'.send.map e.ev) j ok v)) k).wp P QT h') w.heap:=H;obtain⟨cap,buf,s,rc,hc,H'⟩:=H';refine⟨cap,buf,s,rc,hc,?_⟩;have go:∀j ok v h',(Jz P ops gs r (e.put o'.dst (NO (c'.send.map e.ev) j ok v)) k).wp P QT h'→ ∀w',B8 w w'→w'.heap=h'→
          IR P ops (r++t) QC (a.put o'.dst (NO (c'.send.map e.ev) j ok v)) w':=λj ok v h' hh w' hs hw'=>by
          subst hw';have hf:Fr W a (a.put o'.dst (NO (c'.send.map e.ev) j ok v)):=Fr.put W a _ _ hdW;exact ih _ _ _ (hag.put o'.dst _ λd hd=>hb d (hdW d hd)) (hb.fr hf) hh
           (λe' a' w'' h f b g=>hn e' a' w'' h (hf.trans f) (hs.trans b) g) (λc a' w'' f b g=>hp c a' w'' (hf.trans f) (hs.trans b) g)
         cases hsd:c'.send.map e.ev with
         |none=>
          rw[hsd]at H' go;by_cases hh:0<buf.size
          ·simp only[gF hh]at H' ⊢;exact go _ _ _ _ H'
          ·simp only[gG hh]at H' ⊢;exact go _ _ _ _ H'
         |some x=>
          rw[hsd]at H' go;by_cases hh:buf.size<cap
          ·simp only[gF hh]at H' ⊢;exact go _ _ _ _ H'
          ·simp only[gG hh]at H' ⊢;exact go _ _ _ _ H'
       ·exact H.elim
     ·cases hs
    ·cases hs
   ·cases hs
  ·refine VS (Jy (λa' w' hx=> ?_) (λc w' hx=> ?_) (Og hag hW hb H w rfl))
   ·obtain⟨h,e',f,b,g⟩:=hx;exact ih e' a' w' f (hb.fr b) g (λm n q D u y A=>hn m n q D (b.trans u) (h.trans y) A) (λc n q u y A=>hp c n q (b.trans u) (h.trans y) A)
   ·exact hp c a w' (.refl W a) hx.1 hx.2
theorem VT {gs:List Nat}{QT:Bh→AE→Prop}{W:List Nat}{QC:Exit→Act→World→Prop}{k:Env→T}(hW:∀o∈ops,∀d,o.dst=some d→d∈W) (l:List Nat)
 (e:Env) (a:Act) (w:World) (hag:Agrees e a.tmps) (hb:HD W a) (H:(Jz P ops gs l e k).wp P QT w.heap)
 (hn:∀e' a' w',Agrees e' a'.tmps→Fr W a a'→B8 w w'→(k e').wp P QT w'.heap→QC .normal a' w')
 (hp:∀c a' w',Fr W a a'→B8 w w'→QT (.pan c) w'.heap→QC (.panic c) a' w'):IR P ops l QC a w:=by
 have:=TY (QC:=QC) hW [] l e a w hag hb H (λe' a' w' b f g h=>aY (hn e' a' w' b f g h)) hp
 rwa [List.append_nil]at this
end
section
variable {P:Program}{ops:Array Oper}
def Ly (m:List Nat) (o:Oper):Nat:=o.after.toList.foldl (λs e=>bif Region.binds .any e then s ||| 2 ^ e.on ||| m.getD e.on 0 else s) 0
def Ep (l:List Oper):List Nat:=l.foldl (λm o=>m++ [Ly m o]) []
def forced (ms:List Nat) (j i:Nat):Bool:=(ms.getD j 0).testBit i
theorem R1 (m:List Nat) (o:Oper) (i:Nat) (h:(Ly m o).testBit i=true):
 ∃e∈o.after,Region.binds .any e=true∧(e.on=i∨(m.getD e.on 0).testBit i=true):=by
 unfold Ly at h;have key:∀(l:List Edge) (s:Nat),(l.foldl (λs e=>bif Region.binds .any e then s ||| 2 ^ e.on ||| m.getD e.on 0 else s) s).testBit i=true→
  s.testBit i=true∨ ∃e∈l,Region.binds .any e=true∧(e.on=i∨(m.getD e.on 0).testBit i=true):=by
  intro l
  induction l with
  |nil=>intro s h;exact .inl h
  |cons x r ih=>
   intro s h;rcases ih _ h with a | ⟨e,he,a⟩
   ·dsimp only at a;cases hx:Region.binds .any x with
    |false=>rw[hx]at a;exact .inl a
    |true=>
     rw[hx]at a;simp only[cond_true,Nat.testBit_or,Bool.or_eq_true,Nat.testBit_two_pow,gJ]at a;rcases a with(a | a)|a
     ·exact .inl a
     ·exact .inr ⟨x,by simp,hx,.inl a⟩
     ·exact .inr ⟨x,by simp,hx,.inr a⟩
   ·exact .inr ⟨e,by simp[he],a⟩
 rcases key o.after.toList 0 h with a | ⟨e,he,a⟩
 ·simp at a
 ·exact⟨e,iR.1 he,a⟩
theorem Um {α:Type}{p:List α→Prop}(b:p []) (hs:∀l a,p l→p (l++ [a])) (l:List α):p l:=by
 have key:∀r:List α,p r.reverse:=by
  intro r
  induction r with
  |nil=>exact b
  |cons a r ih=>rw[List.reverse_cons];exact hs _ _ ih
 simpa using key l.reverse
theorem Kp (l:List Oper) (o:Oper):Ep (l++ [o])=Ep l++ [Ly (Ep l) o]:=by
 simp[Ep]
theorem D9 (l:List Oper):(Ep l).length=l.length:=by
 refine Um (p:=λl=>(Ep l).length=l.length) rfl (λl o ih=> ?_) l;rw[Kp];simp[ih]
theorem QI (l:List Oper):∀(j i:Nat),((Ep l).getD j 0).testBit i=true→
 ∃o,l[j]? =some o∧ ∃e∈o.after,Region.binds .any e=true∧(e.on=i∨(e.on<j∧((Ep l).getD e.on 0).testBit i=true)):=by
 refine Um (p:=λl=>∀(j i:Nat),((Ep l).getD j 0).testBit i=true→
  ∃o,l[j]? =some o∧ ∃e∈o.after,Region.binds .any e=true∧(e.on=i∨(e.on<j∧((Ep l).getD e.on 0).testBit i=true))) (λj i h=> ?_) (λl o ih=> ?_) l
 ·simp[Ep]at h
 ·intro j i h;rw[Kp]at h;rcases Nat.lt_trichotomy j l.length with hj | hj | hj
  ·have b:(Ep l++ [Ly (Ep l) o]).getD j 0=(Ep l).getD j 0:=by
    simp only[gR];rw[gS (by rw[D9];exact hj)]
   rw[b]at h;obtain⟨o',ho',e,he,hb,hh⟩:=ih j i h;refine⟨o',by rw[gS hj];exact ho',e,he,hb,hh.imp id λ⟨d,a⟩=>⟨d,?_⟩⟩;rw[Kp];simp only[gR]at a ⊢;rw[gS (by rw[D9];omega)];exact a
  ·subst hj;have b:(Ep l++ [Ly (Ep l) o]).getD l.length 0=Ly (Ep l) o:=by
    simp only[gR];rw[iF (by rw[D9];omega),D9];simp
   rw[b]at h;have⟨e,he,hb,hh⟩:=R1 _ _ _ h;refine⟨o,by simp,e,he,hb,hh.imp id λa=> ?_⟩;have hlt:e.on<l.length:=by
    rcases hZ e.on l.length with c | c
    ·exact c
    ·rw[gR,gW (by rw[D9];exact c)]at a;simp at a
   refine⟨hlt,?_⟩;rw[Kp];simp only[gR]at a ⊢;rw[gS (by rw[D9];exact hlt)];exact a
  ·rw[gR,gW (by simp[D9];omega)]at h;simp at h
def NP (ops:Array Oper) (listed:Array Bool):Prop:= ∀j o,ops[j]? =some o→listed.getD j false=true→ ∀e∈o.after,Region.binds .any e=true→listed.getD e.on false=true
theorem Py {listed:Array Bool}(hc:NP ops listed):∀(j i:Nat),listed.getD j false=true→forced (Ep ops.toList) j i=true→listed.getD i false=true:=by
 intro j
 induction j using Nat.strongRecOn with
 |_ j ih=>
  intro i hj hf;have⟨o,ho,e,he,hb,hh⟩:=QI ops.toList j i hf;have ho':ops[j]? =some o:=by rw[←hO];exact ho
  have a:=hc j o ho' hj e he hb;rcases hh with rfl | ⟨hlt,b⟩
  ·exact a
  ·exact ih e.on hlt i a b
theorem Qz {listed:Array Bool}(hc:NP ops listed) {j i:Nat}(hr:j∈Region.ready .any ops listed) (hf:forced (Ep ops.toList) j i=true):listed.getD i false=true:=by
 have⟨o,ho,e,he,hb,hh⟩:=QI ops.toList j i hf;have ho':ops[j]? =some o:=by rw[←hO];exact ho
 have⟨_,o2,a,hall⟩:=mem_ready.1 hr;rw[ho']at a;cases a;have b:=hall e he hb;rcases hh with rfl | ⟨_,c⟩
 ·exact b
 ·exact Py hc e.on i b c
theorem IM {listed:Array Bool}{j:Nat}(hc:NP ops listed) (hr:j∈Region.ready .any ops listed):NP ops (listed.setIfInBounds j true):=by
 intro m o ho hm e he hb;by_cases hjm:j=m
 ·subst hjm;have⟨_,o2,a,hall⟩:=mem_ready.1 hr;rw[ho]at a;cases a;exact getD_set_true (hall e he hb)
 ·rw[getD_set_ne false hjm]at hm;exact getD_set_true (hc m o ho hm e he hb)
abbrev Wd:=List (Nat×(AE→Prop))
def GH (P:Program) (ops:Array Oper) (Qh:Act→AE→Prop) (X:List PanicEntry→AE→Prop):Nat→Array Bool→Wd→Act→AE→Prop
 | 0,listed,_,a,h=>Region.ready .any ops listed= [] ∧Qh a h
 |n+1,listed,pend,a,h=>(Region.ready .any ops listed= [] →Qh a h)∧
  ∀j∈Region.ready .any ops listed,StepH P ops j (λa' h'=>(∀p∈pend,forced (Ep ops.toList) j p.1=false→p.2 h')∧
   GH P ops Qh X n (listed.setIfInBounds j true) (pend.filter λp=> !forced (Ep ops.toList) j p.1) a' h') X a h
variable {Qh:Act→AE→Prop}{X:List PanicEntry→AE→Prop}
theorem We {Q:Exit→Act→World→Prop}{w0:World}{a0:Act}{W:List Nat}(hW:∀o∈ops,∀d,o.dst=some d→d∈W) (hn:∀a w,B8 w0 w→Qh a w.heap→Q .normal a w) (hp:∀c a w,Fr W a0 a→B8 w0 w→X c w.heap→Q (.panic c) a w):
 ∀(n:Nat) (listed:Array Bool) (pend:Wd) (a:Act) (w:World),Fr W a0 a→B8 w0 w→GH P ops Qh X n listed pend a w.heap→wpAny P .any ops Q n listed a w:=by
 intro n
 induction n with
 |zero=>intro listed pend a w hd hs H;exact⟨H.1,hn a w hs H.2⟩
 |succ n ih=>
  intro listed pend a w hd hs H;refine⟨λb=>hn a w hs (H.1 b),λj hj=>R0 (Jy (λa' w' hx=> ?_) (λc w' hx=> ?_) (VR hW (H.2 j hj w rfl)))⟩
  ·exact ih _ _ a' w' (hd.trans hx.1) (hs.trans hx.2.1) hx.2.2.2
  ·exact hp c a w' hd (hs.trans hx.1) hx.2
theorem Ym:∀(n:Nat) (listed:Array Bool) (pend pend':Wd) (a:Act) (h:AE),(∀p∈pend',p∈pend)→GH P ops Qh X n listed pend a h→GH P ops Qh X n listed pend' a h:=by
 intro n
 induction n with
 |zero=>intro listed pend pend' a h hs H;exact H
 |succ n ih=>
  intro listed pend pend' a h hs H;refine⟨H.1,λj hj=>Lx (λa' h' ⟨b,c⟩=>⟨λp hp hf=>b p (hs p hp) hf,ih _ _ _ a' h' (λp hp=> ?_) c⟩) (λ_ _ x=>x) (H.2 j hj)⟩;rw[jE]at hp ⊢;exact⟨hs p hp.1,hp.2⟩
def cU (P:Program) (s:Sem Next) (v:Value) (h:AE):Prop:=
 ∀w,w.heap=h→ ∃w',(s.run P w= .ok (.value v) w'∨(s.run P w= .ok .skip w'∧v=undef))∧B8 w w'∧w'.heap=h
theorem Wf {j:Nat}{oi oj:Oper}{v:Value}{a:Act}{h:AE}{K:Act→AE→Prop}(hj:ops[j]? =some oj) (hap:oi.apart ops oj=true)
 (hsj:∀cs b,oj.op≠.select cs b) (H:StepH P ops j K X (a.put oi.dst v) h):
 StepH P ops j (λa' h'=>(∃u,a'=a.put oj.dst u)∧K (a'.put oi.dst v) h') X a h:=by
 have⟨l,m,g⟩:=Oper.apart_spec hap;intro w hw;have H:=H w hw;unfold FD at *;simp only[hj]at H ⊢;rw[wanted_put oj a oi.dst v l,execOp_put oj hsj a oi.dst v l]at H;have cm:∀u,(a.put oi.dst v).put oj.dst u=(a.put oj.dst u).put oi.dst v:=λu=>Act.put_comm a v u m;rcases H with⟨k,i⟩|⟨k,i⟩
 ·exact .inl ⟨k,i.1,⟨_,rfl⟩,by rw[←cm];exact i.2⟩
 ·refine .inr ⟨k,?_⟩;rcases i with⟨u,w',g,d⟩|⟨w',g,d⟩|⟨f,args,w',g,d⟩|⟨u,w',g,d⟩
  ·exact .inl ⟨u,w',g,d.1,⟨_,rfl⟩,by rw[←cm];exact d.2⟩
  ·exact .inr (.inl ⟨w',g,d.1,⟨_,rfl⟩,by rw[←cm];exact d.2⟩)
  ·refine .inr (.inr (.inl ⟨f,args,w',g,d.mono λe w'' he=> ?_⟩));cases e with
   |returned u=>exact⟨he.1,⟨_,rfl⟩,by rw[←cm];exact he.2⟩
   |panicked c=>exact he
   |outgrown=>exact he
  ·exact .inr (.inr (.inr ⟨u,w',g,d⟩))
theorem R4 {i:Nat}{oi:Oper}{v:Value}{s:Sem Next}{b:Bool}{R:AE→Prop}(hi:ops[i]? =some oi) (hsel:∀(j:Nat) (o:Oper) cs b,ops[j]? =some o→o.op≠.select cs b)
 (hR:∀h,R h→b=true→cU P s v h) (hv:b=false→v=undef):
 ∀(n:Nat) (listed:Array Bool) (pend:Wd) (a:Act) (h:AE),NP ops listed→
  (∀j oj,ops[j]? =some oj→j≠i→listed.getD j true=false→(∀e∈oj.after,Region.binds .any e=true→e.on≠i)→oi.apart ops oj=true)→
  i∈Region.ready .any ops listed→execOp a.eval oi=s→Region.wanted oi (yielded ops a.tmps)=b→R h→(∀p∈pend,p.2 h)→
  GH P ops Qh X n (listed.setIfInBounds i true) ((i,R)::pend) (a.put oi.dst v) h→GH P ops Qh X (n+1) listed pend a h:=by
 intro n;have own:∀(n:Nat) (listed:Array Bool) (pend:Wd) (a:Act) (h:AE),execOp a.eval oi=s→Region.wanted oi (yielded ops a.tmps)=b→R h→(∀p∈pend,p.2 h)→
  GH P ops Qh X n (listed.setIfInBounds i true) ((i,R)::pend) (a.put oi.dst v) h→
  StepH P ops i (λa' h'=>(∀p∈pend,forced (Ep ops.toList) i p.1=false→p.2 h')∧
   GH P ops Qh X n (listed.setIfInBounds i true) (pend.filter λp=> !forced (Ep ops.toList) i p.1) a' h') X a h:=by
  intro n listed pend a h he hb hr hpend H w hw;unfold FD;simp only[hi];have H':=Ym n _ _ (pend.filter λp=> !forced (Ep ops.toList) i p.1) _ h (λp hp=>iT _ (jE.1 hp).1) H;cases b with
  |false=>
   refine .inl ⟨hb,.refl w,?_⟩;rw[hw]
   have:=hv rfl
   subst this;exact⟨λp hp _=>hpend p hp,H'⟩
  |true=>
   refine .inr ⟨hb,?_⟩;obtain⟨w',c,g,d⟩:=hR h hr rfl w hw;rw[he];rcases c with c | ⟨c,rfl⟩
   ·refine .inl ⟨v,w',c,g,?_⟩;rw[d];exact⟨λp hp _=>hpend p hp,H'⟩
   ·refine .inr (.inl ⟨w',c,g,?_⟩);rw[d];exact⟨λp hp _=>hpend p hp,H'⟩
 induction n with
 |zero=>
  intro listed pend a h hcl hfree hr he hb hRh hpend H;refine⟨λf=>(by rw[f]at hr;cases hr),λj hj=> ?_⟩;by_cases hji:j=i
  ·subst hji;exact own 0 listed pend a h he hb hRh hpend H
  ·have:=ready_mono hj hji
   rw[H.1]at this;cases this
 |succ n ih=>
  intro listed pend a h hcl hfree hr he hb hRh hpend H;refine⟨λf=>(by rw[f]at hr;cases hr),λj hj=> ?_⟩;by_cases hji:j=i
  ·subst hji;exact own (n+1) listed pend a h he hb hRh hpend H
  ·have c:=H.2 j (ready_mono hj hji);have⟨hjun,oj,hoj,hall⟩:=mem_ready.1 hj;have hiun:listed.getD i false=false:=by
    have f:=(mem_ready.1 hr).1;rcases hZ i listed.size with h' | h'
    ·simpa[h']using f
    ·simp[iL h']
   have hnot:∀e∈oj.after,Region.binds .any e=true→e.on≠i:=λe he hb heq=>by
    have c:=hall e he hb;rw[heq,hiun]at c;cases c
   have hnf:forced (Ep ops.toList) j i=false:=by
    cases hf:forced (Ep ops.toList) j i with
    |false=>rfl
    |true=>have:=Qz hcl hj hf;rw[hiun]at this;cases this
   have hap:=hfree j oj hoj hji hjun hnot;have⟨q,r,l⟩:=Oper.apart_spec hap;have g:=Wf hoj hap (λcs b=>hsel j oj cs b hoj) c;have hfree':∀k ok,ops[k]? =some ok→k≠i→(listed.setIfInBounds j true).getD k true=false→
    (∀e∈ok.after,Region.binds .any e=true→e.on≠i)→oi.apart ops ok=true:=λk ok hk hki hun hno=>by
    refine hfree k ok hk hki ?_ hno;by_cases hjk:j=k
    ·subst hjk;exact hjun
    ·rw[getD_set_ne true hjk]at hun;exact hun
   refine Lx (λa' h' hx=> ?_) (λ_ _ x=>x) g;obtain⟨⟨u,rfl⟩,d,m⟩:=hx;refine⟨λp hp hf=>d p (iT _ hp) hf,?_⟩;refine ih (listed.setIfInBounds j true) _ (a.put oj.dst u) h' (IM hcl hj) hfree' (ready_mono hr (Ne.symm hji)) ?_ ?_ (d (i,R) (lM ..) hnf) ?_ ?_
   ·rw[execOp_put oi (λcs b=>hsel i oi cs b hi) a oj.dst u l];exact he
   ·rw[wanted_put oi a oj.dst u l];exact hb
   ·intro p hp;rw[jE]at hp;exact d p (iT _ hp.1) (by simpa using hp.2)
   ·rw[Array.setIfInBounds_comm _ _ hji];rw[jF (by simp[hnf])]at m;exact m
end
section
variable {P:Program}{ops:Array Oper}
def TZ (u:Value):T:=.out [u]
def QV (v:Value) (h':AE) (l:Bh) (hh:AE):Prop:=l= .out [v] ∧hh=h'
def Eb (P:Program) (D:(Value→T)→T):Prop:= ∀(k:Value→T) (Q:Bh→AE→Prop) (h:AE),(D k).wp P Q h→ ∃v,(k v).wp P Q h∧ ∀h',(D TZ).wp P (QV v h') h'
theorem BQ (v:Value):Eb P (λk=>k v):=λ_ _ _ H=>⟨v,H,λ_=>⟨rfl,rfl⟩⟩
theorem Ai:Eb P (λ_=>.stuck):=λ_ _ _ H=>H.elim
theorem IN {p:gL}{D:Addr→(Value→T)→T}(hD:∀a,Eb P (D a)):Eb P (λk=>deref p λa=>D a k):=by
 cases p with
 |none=>exact Ai
 |some a=>exact hD a
theorem Ec {c:Prop}[Decidable c] {D:(Value→T)→T}(hD:Eb P D):Eb P (λk=>chk c (D k)):=by
 intro k Q h H;have⟨v,a,b⟩:=hD k Q h H.2;exact⟨v,a,λh'=>⟨H.1,b h'⟩⟩
theorem EA {c:Prop}[Decidable c] {D D':(Value→T)→T}(hD:Eb P D) (hD':Eb P D'):Eb P (λk=>if c then D k else D' k):=by
 by_cases hc:c
 ·simp only[gF hc];exact hD
 ·simp only[gG hc];exact hD'
theorem VU {b:Bool}{D D':(Value→T)→T}(hD:Eb P D) (hD':Eb P D'):Eb P (λk=>cond b (D k) (D' k)):=by
 cases b
 ·exact hD'
 ·exact hD
theorem FE {α:Type}(s:Sem α) {f:α→(Value→T)→T}(hf:∀a,Eb P (f a)):Eb P (λk=>Bi true P s λa=>f a k):=by
 induction s with
 |pure a=>exact hf a
 |program g ih=>exact ih _
 |mark m g ih=>exact ih
 |halt x=>cases x<;>exact Ai
 |load m a g ih=>exact Ai
 |store m a v g ih=>exact Ai
 |new o g ih=>exact Ai
 |shape r g ih=>exact Ai
 |freeze a n g ih=>exact Ai
 |frozen a g ih=>exact Ai
 |getObj r g ih=>exact Ai
 |setObj r o g ih=>exact Ai
 |choose q g ih=>exact Ai
 |sys c g ih=>exact Ai
theorem CR (s:Sem Value):Eb P (λk=>Bi true P s k):=FE s (f:=λa k=>k a) λa=>BQ a
theorem R5 {t:TypeId}{xs ys:Array Value}{f:Bool→(Value→T)→T}(hf:∀r,Eb P (f r)):Eb P (λk=>N1 P t xs ys (λr=>f r k) .stuck):=by
 unfold N1;split
 ·split
  ·exact hf _
  ·exact Ai
 ·exact Ai
theorem Wg (op:BinOp) (t:TypeId) (x y:Operand) (a b:Value):Eb P (λk=>Od true P op t x y a b k):=by
 unfold Od;split
 case h_1=>exact EA (BQ _) Ai
 case h_2=>exact EA (BQ _) Ai
 case h_3=>exact EA (BQ _) Ai
 case h_4=>exact EA (Ec (BQ _)) Ai
 case h_5=>exact EA (Ec (BQ _)) Ai
 case h_6=>exact Ec (BQ _)
 case h_7=>exact Ec (BQ _)
 case h_8=>exact EA (BQ _) Ai
 case h_9=>exact EA (BQ _) Ai
 case h_10=>exact EA (BQ _) Ai
 case h_11=>exact EA (BQ _) Ai
 case h_12=>exact EA (BQ _) Ai
 case h_13=>exact EA (BQ _) Ai
 case h_14=>exact Ec (BQ _)
 case h_15=>exact BQ _
 case h_16=>exact BQ _
 case h_17 p=>exact FE _ (f:=λ(d:TypeDesc) (k:Value→T)=>match d with | .pointer _=>k (.bool p.isNone)|_=>.stuck) λd=>by cases d<;>first | exact BQ _ | exact Ai
 case h_18 p=>exact FE _ (f:=λ(d:TypeDesc) (k:Value→T)=>match d with | .pointer _=>k (.bool !p.isNone)|_=>.stuck) λd=>by cases d<;>first | exact BQ _ | exact Ai
 case h_19 p _ _ _ _=>exact FE _ (f:=λ(d:TypeDesc) (k:Value→T)=>match d with | .slice _=>k (.bool p.isNone)|_=>.stuck) λd=>by cases d<;>first | exact BQ _ | exact Ai
 case h_20 p _ _ _ _=>exact FE _ (f:=λ(d:TypeDesc) (k:Value→T)=>match d with | .slice _=>k (.bool !p.isNone)|_=>.stuck) λd=>by cases d<;>first | exact BQ _ | exact Ai
 case h_21 m n=>exact FE _ (f:=λ(d:TypeDesc) (k:Value→T)=>match d with | .bool=>k (.bool (m==n))|_=>.stuck) λd=>by cases d<;>first | exact BQ _ | exact Ai
 case h_22 m n=>exact FE _ (f:=λ(d:TypeDesc) (k:Value→T)=>match d with | .bool=>k (.bool !(m==n))|_=>.stuck) λd=>by cases d<;>first | exact BQ _ | exact Ai
 case h_23=>exact R5 (f:=λr k=>k (.bool r)) λr=>BQ _
 case h_24=>exact R5 (f:=λr k=>k (.bool !r)) λr=>BQ _
 case h_25=>exact Ai
 case h_26=>exact Ai
 case h_27=>exact CR _
theorem Ta (t:TypeId) (x:Value) (lo hi mx:Option Value):Eb P (λk=>Jt true P t x lo hi mx k):=by
 unfold Jt;split
 ·split
  ·exact Ec (BQ _)
  ·exact Ai
 ·split
  ·exact Ec (BQ _)
  ·exact Ai
 ·exact Ai
theorem VW (ρ:Operand→Value) (c:Call) (t:TypeId):Eb P (λk=>MW true P ρ c t k):=by
 unfold MW;split
 ·rename_i b hc
  cases b<;>first | exact Ai | exact CR _ | skip
  case len=>
   dsimp only;split
   ·split<;>first | exact BQ _ | exact Ai
   ·exact Ai
  case cap=>
   dsimp only;split
   ·split<;>first | exact BQ _ | exact Ai
   ·exact Ai
 ·unfold Ju;split
  ·split
   ·split<;>exact Ai
   ·exact Ai
  ·exact Ai
 ·exact Ai
def IP (a:Addr) (v:Value):List (Addr×Value):=match v with
 |.agg cs=>cs.toList.zipIdx.map λc=>(a.add c.2,c.1)
 |v=>[(a,v)]
def Lm (ρ:Operand→Value) (o:Oper) (v:Value):List (Addr×Value):=match o.op with
 |.load _ x=>match ρ x with
  |.pointer (some a)=>IP a v
  |_=>[]
 |_=>[]
def Holds (l:List (Addr×Value)) (h:AE):Prop:= ∀c∈l,BW h c.1=some c.2
theorem Tb (l:List BX) (a:Addr) {f:Array Value→(Value→T)→T}(hf:∀cs k,f cs k=k (.agg cs)):∀(i:Nat) (acc:Array Value) (k:Value→T) (Q:Bh→AE→Prop) (h:AE),
 (HU l a i acc λcs=>f cs k).wp P Q h→ ∃r:List Value,r.length=l.length∧(k (.agg (acc++r.toArray))).wp P Q h∧(∀j v,r[j]? =some v→BW h (a.add (i+j))=some v)∧
  ∀h',(∀j v,r[j]? =some v→BW h' (a.add (i+j))=some v)→(HU l a i acc λcs=>f cs TZ).wp P (QV (.agg (acc++r.toArray)) h') h':=by
 induction l with
 |nil=>
  intro i acc k Q h H;refine⟨[],rfl,?_,?_,?_⟩
  ·simpa[HU,hf]using H
  ·intro j v hj;simp at hj
  ·intro h' _;simp[HU,hf,TZ,T.wp,QV]
 |cons s r ih=>
  intro i acc k Q h H;obtain⟨x,hx,H⟩:=H;obtain⟨rr,b,c,d,g⟩:=ih (i+1) (acc.push (s.val x)) k Q h H;refine⟨s.val x::rr,by simp[b],?_,?_,?_⟩
  ·have e:acc++(s.val x::rr).toArray=acc.push (s.val x) ++rr.toArray:=by
    apply lN;simp
   rw[e];exact c
  ·intro j v hj;cases j with
   |zero=>simp at hj;subst hj;exact hx
   |succ j=>
    simp at hj
    have:=d j v hj
    rw[show i+(j+1)=i+1+j by omega];exact this
  ·intro h' hh;refine⟨x,by simpa using hh 0 (s.val x) (by simp),?_⟩;have e:acc++(s.val x::rr).toArray=acc.push (s.val x) ++rr.toArray:=by
    apply lN;simp
   rw[e];refine g h' λj v hj=> ?_
   have:=hh (j+1) v (by simpa using hj)
   rw[show i+1+j=i+(j+1) by omega];exact this
theorem VX {t:TypeId}{a:Addr}{k:Value→T}{Q:Bh→AE→Prop}{h:AE}(H:(Em P t a k).wp P Q h):
 ∃v,(k v).wp P Q h∧Holds (IP a v) h∧ ∀h',Holds (IP a v) h'→(Em P t a TZ).wp P (QV v h') h':=by
 unfold Em at H ⊢;split at H
 ·rename_i d i hd hi
  split at H
  ·rename_i l hag hsh
   split at H
   ·rename_i hlen
    have⟨r,m,b,e,g⟩:=Tb (P:=P) l a (f:=λcs k=>k (.agg cs)) (λ_ _=>rfl) 0 #[] k Q h H;refine⟨.agg (#[] ++r.toArray),b,?_,λh' hh=> ?_⟩
    ·intro c hc;simp only[IP,jL]at hc;obtain⟨⟨v,j⟩,hm,rfl⟩:=hc
     have:=jX.1 hm
     simpa using e j v (by simpa using this)
    ·simp only[gF hlen];refine g h' λj v hj=> ?_
     have:=hh (a.add j,v) (by
      simp only[IP,jL];exact⟨(v,j),jX.2 (by simpa using hj),rfl⟩)
     simpa using this
   ·exact H.elim
  ·rename_i s hag hsh
   obtain⟨x,hx,H⟩:=H;have hc:IP a (s.val x)= [(a,s.val x)]:=by
    have:=BX.val_plain s x
    cases hv:s.val x<;>simp_all [IP,Value.plain]
   refine⟨s.val x,H,?_,λh' hh=> ?_⟩
   ·rw[hc];intro c hcm;simp at hcm;subst hcm;exact hx
   ·exact⟨x,hh (a,s.val x) (by rw[hc];simp),rfl,rfl⟩
  ·exact H.elim
 ·exact H.elim
theorem Tc {ρ:Operand→Value}{o:Oper}{k:Value→T}{Q:Bh→AE→Prop}{h:AE}(H:(C6 true P ρ o k).wp P Q h):
 ∃v,(k v).wp P Q h∧Holds (Lm ρ o v) h∧ ∀h',Holds (Lm ρ o v) h'→(C6 true P ρ o TZ).wp P (QV v h') h':=by
 obtain⟨dst,op,type,pos,after,guard⟩:=o;have fin:∀ {D:(Value→T)→T},Eb P D→(∀k,C6 true P ρ ⟨dst,op,type,pos,after,guard⟩ k=D k)→(∀v,Lm ρ ⟨dst,op,type,pos,after,guard⟩ v= [])→
  ∃v,(k v).wp P Q h∧Holds (Lm ρ ⟨dst,op,type,pos,after,guard⟩ v) h∧ ∀h',Holds (Lm ρ ⟨dst,op,type,pos,after,guard⟩ v) h'→(C6 true P ρ ⟨dst,op,type,pos,after,guard⟩ TZ).wp P (QV v h') h':=by
  intro D hD hk hp;rw[hk]at H;have⟨v,d,i⟩:=hD k Q h H;refine⟨v,d,?_,λh' _=> ?_⟩
  ·rw[hp];intro c hc;cases hc
  ·rw[hk];exact i h'
 cases op<;>first | exact H.elim | skip
 case move x=>exact fin (BQ (ρ x)) (λ_=>rfl) (λ_=>rfl)
 case assign x=>exact fin (BQ (ρ x)) (λ_=>rfl) (λ_=>rfl)
 case pick c a b=>
  cases hc:ρ c with
  |bool t=>exact fin (VU (b:=t) (BQ (ρ a)) (BQ (ρ b))) (λk=>by simp only[C6,hc]) (λ_=>rfl)
  |_=>simp only[C6,hc]at H;exact H.elim
 case alloc e=>exact fin (CR _) (λ_=>rfl) (λ_=>rfl)
 case build t ps=>exact fin (CR _) (λ_=>rfl) (λ_=>rfl)
 case buildSlice t n ps=>exact fin (CR _) (λ_=>rfl) (λ_=>rfl)
 case load t x=>
  simp only[C6]at H;cases hx:ρ x with
  |pointer p=>
   cases p with
   |none=>rw[hx]at H;exact H.elim
   |some a=>
    rw[hx]at H;have⟨v,d,i,j⟩:=VX H;refine⟨v,d,by simpa[Lm,hx]using i,λh' hh=> ?_⟩;simp only[C6,hx];exact j h' (by simpa[Lm,hx]using hh)
  |_=>rw[hx]at H;exact H.elim
 case store t a x=>
  refine fin (D:=λk=>C6 true P ρ ⟨_,.store t a x,type,pos,after,guard⟩ k) ?_ (λ_=>rfl) (λ_=>rfl);simp only[C6];split
  ·exact IN (D:=λb k=>Bi true P (jR t (.pointer (some b)) (ρ x)) λ_=>k undef) λb=>FE (jR t (.pointer (some b)) (ρ x)) (f:=λ_ k=>k undef) λ_=>BQ undef
  ·exact FE (jR t _ (ρ x)) (f:=λ_ k=>k undef) λ_=>BQ undef
 case nilCheck x=>
  cases hx:ρ x with
  |pointer p=>exact fin (IN (p:=p) (D:=λa k=>k (.pointer (some a))) λa=>BQ _) (λk=>by simp only[C6,hx]) (λ_=>rfl)
  |func f a b=>
   cases f with
   |func g=>exact fin (BQ (.func (.func g) a b)) (λk=>by simp only[C6,hx]) (λ_=>rfl)
   |_=>simp only[C6,hx]at H;exact H.elim
  |iface t v=>exact fin (BQ (.iface t v)) (λk=>by simp only[C6,hx]) (λ_=>rfl)
  |_=>simp only[C6,hx]at H;exact H.elim
 case binOp op xt x y yt=>exact fin (Wg op xt x y (ρ x) (ρ y)) (λ_=>rfl) (λ_=>rfl)
 case unOp op xt x=>exact fin (CR _) (λ_=>rfl) (λ_=>rfl)
 case convert src dst x=>
  refine fin (D:=λk=>C6 true P ρ ⟨_,.convert src dst x,type,pos,after,guard⟩ k) ?_ (λ_=>rfl) (λ_=>rfl);simp only[C6];split
  ·exact CR _
  ·exact CR _
  ·exact Ai
 case makeInterface t x=>exact fin (CR _) (λ_=>rfl) (λ_=>rfl)
 case makeFunc fn first captured=>exact fin (BQ _) (λ_=>rfl) (λ_=>rfl)
 case makeMap t r=>exact fin (CR _) (λ_=>rfl) (λ_=>rfl)
 case slice t x lo hi mx=>exact fin (Ta t (ρ x) _ _ _) (λ_=>rfl) (λ_=>rfl)
 case fieldAddr s x f=>
  refine fin (D:=λk=>C6 true P ρ ⟨_,.fieldAddr s x f,type,pos,after,guard⟩ k) ?_ (λ_=>rfl) (λ_=>rfl);simp only[C6];split
  ·exact IN (D:=λa k=>Bi true P (lJ s (.pointer (some a)) f) k) λa=>CR _
  ·exact CR _
 case field t x f=>exact fin (CR _) (λ_=>rfl) (λ_=>rfl)
 case indexAddr t x ix=>
  refine fin (D:=λk=>C6 true P ρ ⟨_,.indexAddr t x ix,type,pos,after,guard⟩ k) ?_ (λ_=>rfl) (λ_=>rfl);simp only[C6];split
  ·split
   ·exact IN (D:=λa k=>chk _ (k (.pointer (some (a.add _))))) λa=>Ec (BQ _)
   ·exact Ai
  ·split
   ·exact Ec (BQ _)
   ·exact Ai
  ·exact Ai
 case index t x ix=>
  refine fin (D:=λk=>C6 true P ρ ⟨_,.index t x ix,type,pos,after,guard⟩ k) ?_ (λ_=>rfl) (λ_=>rfl);simp only[C6];split
  ·exact Ec (BQ _)
  ·exact CR _
 case extract t ix=>exact fin (CR _) (λ_=>rfl) (λ_=>rfl)
 case call c=>exact fin (VW ρ c type) (λ_=>rfl) (λ_=>rfl)
 case panic x=>exact fin (CR _) (λ_=>rfl) (λ_=>rfl)
theorem VY {ρ:Operand→Value}{o:Oper}{v:Value}{h:AE}(H:(C6 true P ρ o TZ).wp P (QV v h) h):cU P (execOp ρ o) v h:=by
 intro w hw;subst hw;rcases QD _ w (Ry H) with⟨nx,w',c,d,a⟩|⟨u,w',c,d,a⟩
 ·cases nx<;>first | exact a.elim | skip
  case value u=>
   obtain⟨b,e⟩:=a;simp only[Bh.out.injEq,List.cons.injEq,and_true]at b;subst b;exact⟨w',.inl c,d,e⟩
  case skip=>
   obtain⟨b,e⟩:=a;simp only[Bh.out.injEq,List.cons.injEq,and_true]at b;exact⟨w',.inr ⟨c,b.symm⟩,d,e⟩
  case enter f args=>cases a.1
 ·cases a.1
end
def Yn (P:Program) (o:Oper):Bool:=match o.op with
 |.move _ | .assign _ | .pick _ _ _ | .load _ _ | .nilCheck _ | .binOp _ _ _ _ _ | .unOp _ _ _ | .slice _ _ _ _ _ | .index _ _ _ | .indexAddr _ _ _
 |.makeInterface _ _ | .makeFunc _ _ _ | .fieldAddr _ _ _ | .field _ _ _ | .extract _ _ | .build _ _=>true
 |.convert src dst _=>match P.underlying src,P.underlying dst with
  |some (.int _),some (.int _)=>true
  |some .string,some .string=>true
  |_,_=>false
 |.call c=>match c.callee with
  |.builtin .min | .builtin .max=>true
  |.builtin .len | .builtin .cap=>match c.argTypes[0]? with
   |some t=>match P.underlying t with
    |some .string | some (.slice _)|some (.array _ _)=>true
    |_=>false
   |none=>false
  |_=>false
 |_=>false
def Yo (P:Program) (ops:Array Oper) (i:Nat):Bool:=match ops[i]? with
 |some o=>Yn P o
 |none=>false
def Td:List (Addr×Value)→T→T
 | [],t=>t
 |(a,v)::r,t=>.still a v (Td r t)
def Q0:List T→T
 | [] =>.stuck
 | [t] =>t
 |t::r=>.both t (Q0 r)
def Oh (ops:Array Oper):List Nat:=ops.toList.filterMap λo=>o.guard.map (·.1)
def IQ (P:Program) (ops:Array Oper) (gs ms:List Nat):Nat→Array Bool→List (Nat×List (Addr×Value))→Env→(Env→T)→T
 | 0,listed,_,e,k=>match Region.ready .any ops listed with
  | [] =>k e
  |_=>.stuck
 |n+1,listed,pend,e,k=>match Region.ready .any ops listed with
  | [] =>k e
  |r=>match r.find? λi=>Yo P ops i && Region.free .any ops listed i with
   |some i=>match ops[i]? with
    |none=>.stuck
    |some o=>match Wb ops e o with
     |none=>.stuck
     |some false=>IQ P ops gs ms n (listed.setIfInBounds i true) ((i,[])::pend) (e.put o.dst undef) k
     |some true=>bif o.op.operands.toList.all e.has then
      C6 true P e.ev o λv=>Qy (gs.contains i) v λv=>IQ P ops gs ms n (listed.setIfInBounds i true) ((i,Lm e.ev o v)::pend) (e.put o.dst v) k
      else .stuck
   |none=>Q0 (r.map λj=>OU false P ops gs e j λe'=>
    Td ((pend.filter λp=> !forced ms j p.1).flatMap (·.2)) (IQ P ops gs ms n (listed.setIfInBounds j true) (pend.filter λp=> !forced ms j p.1) e' k))
section
variable {P:Program}{ops:Array Oper}
theorem VZ {l:List (Addr×Value)}{t:T}{Q:Bh→AE→Prop}{h:AE}(H:(Td l t).wp P Q h):Holds l h∧t.wp P Q h:=by
 induction l with
 |nil=>exact⟨λc hc=>(by cases hc),H⟩
 |cons x r ih=>
  obtain⟨a,v⟩:=x;obtain⟨b,d⟩:=H;obtain⟨e,f⟩:=ih d;refine⟨λc hc=> ?_,f⟩;rcases kO.1 hc with rfl | hc
  ·exact b
  ·exact e c hc
theorem Te {l:List T}{Q:Bh→AE→Prop}{h:AE}(H:(Q0 l).wp P Q h):∀t∈l,t.wp P Q h:=by
 induction l with
 |nil=>exact H.elim
 |cons t r ih=>
  cases r with
  |nil=>intro t' ht;simp at ht;subst ht;exact H
  |cons t2 r=>
   obtain⟨a,b⟩:=H;intro t' ht;rcases kO.1 ht with rfl | ht
   ·exact a
   ·exact ih b t' ht
theorem Tf {gs:List Nat}{k:Env→T}{QT:Bh→AE→Prop}{W:List Nat}{a0:Act}(hsel:Region.noSelect ops=true) (hW:∀o∈ops,∀d,o.dst=some d→d∈W):
 ∀(n:Nat) (listed:Array Bool) (pend:List (Nat×List (Addr×Value))) (e:Env) (a:Act) (h:AE),Agrees e a.tmps→HD W a→Fr W a0 a→NP ops listed→(∀p∈pend,Holds p.2 h)→
  (IQ P ops gs (Ep ops.toList) n listed pend e k).wp P QT h→
  GH P ops (λa' h'=>∃e',Agrees e' a'.tmps∧Fr W a0 a'∧(k e').wp P QT h') (λc h'=>QT (.pan c) h') n listed (pend.map λp=>(p.1,Holds p.2)) a h:=by
 intro n
 induction n with
 |zero=>
  intro listed pend e a h hag hb hfr hcl hp H;unfold IQ at H;split at H
  ·rename_i hr;exact⟨hr,e,hag,hfr,H⟩
  ·exact H.elim
 |succ n ih=>
  intro listed pend e a h hag hb hfr hcl hp H;unfold IQ at H;split at H
  ·rename_i hr
   refine⟨λ_=>⟨e,hag,hfr,H⟩,λj hj=> ?_⟩;rw[hr]at hj;cases hj
  ·rename_i hne
   split at H
   ·rename_i i hf
    have hmem:=kG hf;have hq:=List.find?_some hf;rw[kQ]at hq;split at H
    ·exact H.elim
    ·rename_i o ho
     have hdW:∀d,o.dst=some d→d∈W:=hW o (iO ho);have hput:∀v,Agrees (e.put o.dst v) (a.put o.dst v).tmps:=λv=>hag.put o.dst v λd hd=>hb d (hdW d hd);have hfree:=λj oj hoj hne hun hno=>Region.free_spec ho hq.2 j oj hoj hne hun hno;split at H
     ·exact H.elim
     ·rename_i hg
      have f:Fr W a (a.put o.dst undef):=Fr.put W a _ _ hdW;refine R4 (b:=false) (v:=undef) (s:=execOp a.eval o) (R:=Holds []) ho (Region.noSelect_spec hsel) (λ_ _ hh=>by cases hh) (λ_=>rfl) n listed _ a h hcl hfree hmem rfl (Qx hag hg)
       (λc hc=>by cases hc) (λp hpm=> ?_) (ih _ ((i,[])::pend) _ _ h (hput undef) (hb.fr f) (hfr.trans f) (IM hcl hmem) (λp hpm=> ?_) H)
      ·obtain⟨p',hp',rfl⟩:=jL.1 hpm;exact hp p' hp'
      ·rcases kO.1 hpm with rfl | hpm
       ·exact λc hc=>by cases hc
       ·exact hp p hpm
     ·rename_i hg
      cases hall:o.op.operands.toList.all e.has with
      |false=>rw[hall]at H;exact H.elim
      |true=>
       rw[hall]at H;simp only[cond_true]at H;have hcong:execOp a.eval o=execOp e.ev o:=execOp_congr o (QH H) λx hx=>hag.ev (jP.1 hall x (iR.2 hx));have⟨v,g,h2,m⟩:=Tc H;have g:=Ko g;have f:Fr W a (a.put o.dst v):=Fr.put W a _ _ hdW;refine R4 (b:=true) (v:=v) (s:=execOp e.ev o) (R:=Holds (Lm e.ev o v)) ho (Region.noSelect_spec hsel) (λh' hh _=>VY (m h' hh)) (λhh=>by cases hh) n listed _ a h hcl hfree hmem hcong (Qx hag hg)
        h2 (λp hpm=> ?_) (ih _ ((i,Lm e.ev o v)::pend) _ _ h (hput v) (hb.fr f) (hfr.trans f) (IM hcl hmem) (λp hpm=> ?_) g)
       ·obtain⟨p',hp',rfl⟩:=jL.1 hpm;exact hp p' hp'
       ·rcases kO.1 hpm with rfl | hpm
        ·exact h2
        ·exact hp p hpm
   ·refine⟨λq=>gI q (by simpa using hne),λj hj=> ?_⟩;have Hj:=Te H _ (jL.2 ⟨j,hj,rfl⟩);refine Lx (λa' h' hx=> ?_) (λ_ _ x=>x) (Og hag hW hb Hj);obtain⟨e',r,l,t⟩:=hx;have⟨u,w⟩:=VZ t;have hpp:∀p∈pend.filter (λp=> !forced (Ep ops.toList) j p.1),Holds p.2 h':=λp hpm c hc=>u c (List.mem_flatMap.2 ⟨p,hpm,hc⟩);refine⟨λp hpm hf=> ?_,?_⟩
    ·obtain⟨p',hp',rfl⟩:=jL.1 hpm;exact hpp p' (jE.2 ⟨hp',by simpa using hf⟩)
    ·have:=ih _ _ e' a' h' r (hb.fr l) (hfr.trans l) (IM hcl hj) hpp w
     have y:(pend.filter λp=> !forced (Ep ops.toList) j p.1).map (λp=>(p.1,Holds p.2))=(pend.map λp=>(p.1,Holds p.2)).filter λp=> !forced (Ep ops.toList) j p.1:=by
      rw[List.filter_map];rfl
     rw[←y];exact this
def Kq (P:Program) (ops:Array Oper) (draw:Bool) (e:Env) (k:Env→T):T:=match draw with
 |false=>Jz P ops (Oh ops) (List.range ops.size) e k
 |true=>bif Region.noSelect ops then IQ P ops (Oh ops) (Ep ops.toList) ops.size (iN ops.size false) [] e k else .stuck
theorem MZ {id:Nat}{draw:Bool}{k:Env→T}{QT:Bh→AE→Prop}{W:List Nat}{QC:Exit→Act→World→Prop}{e:Env}{a:Act}{w:World}(hm:P.follows .mixedOrders=true)
 (hW:∀o∈ops,∀d,o.dst=some d→d∈W) (hag:Agrees e a.tmps) (hb:HD W a) (H:(Kq P ops draw e k).wp P QT w.heap)
 (hn:∀e' a' w',Agrees e' a'.tmps→Fr W a a'→B8 w w'→(k e').wp P QT w'.heap→QC .normal a' w')
 (hp:∀c a' w',Fr W a a'→B8 w w'→QT (.pan c) w'.heap→QC (.panic c) a' w'):(Code.region id ops draw).wp P QC a w:=by
 cases draw with
 |false=>
  intro b k' cs;obtain⟨ex,a',w',hq,harr⟩:=VT (QC:=QC) hW (List.range ops.size) e a w hag hb H hn hp b k' cs;exact⟨ex,a',w',hq,.of_steps (.one step_region) harr⟩
 |true=>
  unfold Kq at H;cases hs:Region.noSelect ops with
  |false=>rw[hs]at H;exact H.elim
  |true=>
   rw[hs]at H;simp only[cond_true]at H;have h:∀j,(iN ops.size false).getD j false=false:=λj=>by
    rw[iD,Array.getElem?_replicate]
    split<;>rfl
   have g:=Tf (a0:=a) hs hW ops.size (iN ops.size false) [] e a w.heap hag hb (.refl W a) (λj o ho hj=>by rw[h]at hj;cases hj) (λp hpm=>by cases hpm) H;have f:B8 w {w with drawn:=w.drawn+1} :=⟨rfl,rfl,rfl,jU _⟩;refine wp_region_any hm (We (Q:=QC) (w0:=w) (a0:=a) hW (λa' w' hsm hq=> ?_) (λc a' w' hd hsm hq=>hp c a' w' hd hsm hq) _ _ _ _ _ (.refl W a) f g);obtain⟨e',i,l,m⟩:=hq;exact hn e' a' w' i l hsm m
end
def Az:Code→List Nat
 |.region _ ops _=>ops.toList.filterMap (·.dst)
 |.seq x y=>Az x++Az y
 |.cond _ x y=>Az x++Az y
 |.block _ x=>Az x
 |.loop x=>Az x
 |.scope x=>Az x
 |_=>[]
def Ma (id:Nat):Code→Bool
 |.seq x y=>Ma id x || Ma id y
 |.cond _ x y=>Ma id x || Ma id y
 |.block _ x=>Ma id x
 |.loop x=>Ma id x
 |.scope x=>Ma id x
 |.exit j=>gX j id
 |_=>false
def N5:Code→Bool
 |.seq x y=>N5 x && N5 y
 |.cond _ x y=>N5 x || N5 y
 |.block id x=>N5 x || Ma id x
 |.scope x=>N5 x
 |.loop _=>false
 |.exit _=>false
 |.ret=>false
 |_=>true
def Z0:Code→Bool
 |.skip=>true
 |_=>false
def Env.kill (e:Env) (W:List Nat):Env:=e.filter λp=> !W.contains p.1
def Env.puts (e:Env) (S:List Nat) (vs:List Value):Env:=S.zip vs++e
def Env.outs (e:Env) (S:List Nat):List Value:=S.map λt=>(e.get? t).getD undef
def Env.slots (e:Env) (W:List Nat):List Nat:=((e.map (·.1)).filter W.contains).eraseDups
def Env.shapes (e:Env) (S:List Nat):List Sh1:=(e.outs S).map N0
def Lz (P:Program) (ops:Array Oper):List (Nat×Sh1):=
 ops.toList.zipIdx.filterMap λ(o,i)=>match o.dst with
  |some d=>match o.op,gX (i+1) ops.size with
   |.assign _,_=>some (d,N0 (Jq P o.type))
   |_,true=>some (d,N0 (Jq P o.type))
   |_,_=>none
  |none=>none
def DD (P:Program) (rt:Env→T):Code→List (Nat×List Nat)→Env→(Env→T)→T
 |.skip,_,e,k=>k e
 |.region _ ops draw,_,e,k=>match Oh ops with
  | [] =>Kq P ops draw e k
  |_=>.join ((Lz P ops).map (·.2)) (Kq P ops draw e λe'=>.out (e'.outs ((Lz P ops).map (·.1)))) λy=>
   k ((e.kill (ops.toList.filterMap (·.dst))).puts ((Lz P ops).map (·.1)) (Shs.vals _ y))
 |.seq x y,c,e,k=>DD P rt x c e λe'=>DD P rt y c e' k
 |.cond b x y,c,e,k=>bif e.has b then(match e.ev b with
  |.bool t=>match N5 x && N5 y && !(Z0 x && Z0 y) with
   |true=>
    .join (e.shapes (e.slots (Az x++Az y)))
     (cond t (DD P rt x c e λe'=>.out (e'.outs (e.slots (Az x++Az y)))) (DD P rt y c e λe'=>.out (e'.outs (e.slots (Az x++Az y))))) λz=>
     k ((e.kill (Az x++Az y)).puts (e.slots (Az x++Az y)) (Shs.vals _ z))
   |false=>cond t (DD P rt x c e k) (DD P rt y c e k)
  |_=>.stuck) else .stuck
 |.block id x,c,e,k=>match Ma id x with
  |false=>DD P rt x (c.filter λp=> !Nat.beq p.1 id) e k
  |true=>.block id (e.shapes (e.slots (Az x)))
   (DD P rt x ((id,e.slots (Az x))::c) e λe'=>.out (e'.outs (e.slots (Az x)))) λz=>
   k ((e.kill (Az x)).puts (e.slots (Az x)) (Shs.vals _ z))
 |.loop x,c,e,_=>.loop (e.shapes (e.slots (Az x))) (e.outs (e.slots (Az x))) λz=>
  DD P rt x c ((e.kill (Az x)).puts (e.slots (Az x)) (Shs.vals _ z)) λe'=>.out (e'.outs (e.slots (Az x)))
 |.exit id,c,e,_=>match c.find? λp=>gX p.1 id with
  |some p=>.brk id (e.outs p.2)
  |none=>.stuck
 |.ret,_,e,_=>rt e
 |.scope x,c,e,k=>DD P rt x c e k
 |.label _,_,e,k=>k e
 |_,_,_,_=>.stuck
section
variable {P:Program}
theorem Va (s:Sh1):s.of undef=none:=by
 cases s with
 |atom a=>cases a<;>rfl
 |agg l=>rfl
theorem Kr {e:Env}{tm:Array Value}(hag:Agrees e tm):∀(S:List Nat) (ss:List Sh1) (y:Shs.Ty ss),Shs.of ss (e.outs S)=some y→
 S.map (λt=>tm[t]?)=(Shs.vals ss y).map some:=by
 intro S
 induction S with
 |nil=>
  intro ss y h;cases ss with
  |nil=>rfl
  |cons s r=>simp[Env.outs,Shs.of]at h
 |cons t r ih=>
  intro ss y h;cases ss with
  |nil=>simp[Env.outs,Shs.of]at h
  |cons s ss=>
   simp only[Env.outs,jS,Shs.of]at h;split at h
   ·rename_i x1 b a c
    cases h;cases hg:e.get? t with
    |none=>rw[hg]at a;simp only[Option.getD_none]at a;rw[Va]at a;cases a
    |some v=>
     rw[hg]at a;simp only[Option.getD_some]at a
     have:=hag t v hg
     simp only[jS,Shs.vals,this,Sh1.of_val s v x1 a];rw[ih ss b c]
   ·cases h
theorem Vb {e:Env}{W:List Nat}:∀ {t:Nat}{v:Value},(e.kill W).get? t=some v→t∉W∧e.get? t=some v:=by
 induction e with
 |nil=>intro t v h;simp[Env.kill,Env.get?]at h
 |cons p r ih=>
  obtain⟨i,u⟩:=p;intro t v h;unfold Env.kill at h;by_cases hi:W.contains i=true
  ·rw[kT (by simpa using hi)]at h;obtain⟨a,b⟩:=ih h;refine⟨a,?_⟩;rw[Env.get?_cons]
   have:i≠t:=λe=>a (e ▸ lB.1 hi)
   simp[this,b]
  ·rw[jF (by simpa using hi)]at h;rw[Env.get?_cons]at h ⊢;by_cases hit:i=t
   ·subst hit;simp only[if_true]at h ⊢;exact⟨λhm=>hi (lB.2 hm),h⟩
   ·simp only[hit,if_false]at h ⊢;exact ih h
theorem N6 {e:Env}{a a':Act}{W:List Nat}(hag:Agrees e a.tmps) (hf:Fr W a a'):Agrees (e.kill W) a'.tmps:=by
 intro t v h;have⟨b,c⟩:=Vb h;rw[hf.2.2 t b];exact hag t v c
theorem N7 {e:Env}{tm:Array Value}(hag:Agrees e tm):∀(S:List Nat) (vs:List Value),S.map (λt=>tm[t]?)=vs.map some→Agrees (e.puts S vs) tm:=by
 intro S
 induction S with
 |nil=>intro vs h;simpa[Env.puts]using hag
 |cons t r ih=>
  intro vs h;cases vs with
  |nil=>simp at h
  |cons v vs=>
   simp only[jS,List.cons.injEq]at h;intro t' v' hg;simp only[Env.puts,List.zip_cons_cons,List.cons_append,Env.get?_cons]at hg;by_cases ht:t=t'
   ·subst ht;simp only[if_true,Option.some.injEq]at hg;subst hg;exact h.1
   ·simp only[ht,if_false]at hg;exact ih vs h.2 t' v' hg
theorem Ft {e e':Env}{a a':Act}{W S:List Nat}{ss:List Sh1}{y:Shs.Ty ss}(hag:Agrees e a.tmps) (hf:Fr W a a') (hag':Agrees e' a'.tmps) (hy:Shs.of ss (e'.outs S)=some y):
 Agrees ((e.kill W).puts S (Shs.vals ss y)) a'.tmps:=N7 (N6 hag hf) S _ (Kr hag' S ss y hy)
theorem R6 {tm:Array Value}:∀(S:List Nat) (vs:List Value),S.map (λt=>tm[t]?)=vs.map some→S.map (λt=>tm.getD t undef)=vs:=by
 intro S
 induction S with
 |nil=>intro vs h;cases vs<;>simp_all
 |cons t r ih=>
  intro vs h;cases vs with
  |nil=>simp at h
  |cons v vs=>
   simp only[jS,List.cons.injEq]at h ⊢;refine⟨?_,ih vs h.2⟩;rw[iD,h.1];rfl
structure Ends (P:Program) (rt:Env→T) (c:List (Nat×List Nat)) (QT:Bh→AE→Prop) (W:List Nat) (a:Act) (w:World) (QC:Exit→Act→World→Prop):Prop where
 brk:∀id p,c.find? (λp=>gX p.1 id)=some p→ ∀e' a' w',Agrees e' a'.tmps→Fr W a a'→B8 w w'→QT (.brk id (e'.outs p.2)) w'.heap→QC (.exit id) a' w'
 ret:∀e' a' w',Agrees e' a'.tmps→Fr W a a'→B8 w w'→(rt e').wp P QT w'.heap→QC .ret a' w'
 pan:∀ch a' w',Fr W a a'→B8 w w'→QT (.pan ch) w'.heap→QC (.panic ch) a' w'
theorem Ends.step {rt:Env→T}{c:List (Nat×List Nat)}{QT:Bh→AE→Prop}{W W':List Nat}{a a':Act}{w w':World}{QC:Exit→Act→World→Prop}(E:Ends P rt c QT W a w QC)
 (hf:Fr W a a') (hs:B8 w w') (hW:∀t,t∈W'→t∈W):Ends P rt c QT W' a' w' QC:=
 ⟨λid p hp h b d i e f g=>E.brk id p hp h b d i (hf.trans (e.mono hW)) (hs.trans f) g,
  λh b d i e f g=>E.ret h b d i (hf.trans (e.mono hW)) (hs.trans f) g,
  λch b d e f g=>E.pan ch b d (hf.trans (e.mono hW)) (hs.trans f) g⟩
def aa (P:Program) (rt:Env→T):Prop:= ∀(e:Env) (Q Q':Bh→AE→Prop) (h:AE),(∀v h,Q (.ret v) h→Q' (.ret v) h)→(rt e).wp P Q h→(rt e).wp P Q' h
theorem Ends.inner {rt:Env→T}{c:List (Nat×List Nat)}{QT QT':Bh→AE→Prop}{W:List Nat}{a:Act}{w:World}{QC:Exit→Act→World→Prop}(E:Ends P rt c QT W a w QC) (hrt:aa P rt)
 (hb:∀id vs h,QT' (.brk id vs) h→QT (.brk id vs) h) (hr:∀v h,QT' (.ret v) h→QT (.ret v) h) (hp:∀v h,QT' (.pan v) h→QT (.pan v) h):Ends P rt c QT' W a w QC:=
 ⟨λid p hf i b d j e f g=>E.brk id p hf i b d j e f (hb _ _ _ g),
  λi b d j e f g=>E.ret i b d j e f (hrt i _ _ _ hr g),
  λch b d e f g=>E.pan ch b d e f (hp _ _ g)⟩
theorem R7 {c:List (Nat×List Nat)}{id id':Nat}{p:Nat×List Nat}(h:(c.filter λp=> !Nat.beq p.1 id).find? (λp=>gX p.1 id')=some p):
 id'≠id∧c.find? (λp=>gX p.1 id')=some p:=by
 have hm:=kG h;have hp:=List.find?_some h;rw[jE]at hm;have a:p.1=id':=hQ hp;have b:p.1≠id:=λe=>by have:=hm.2;rw[e]at this;simp at this
 have hne:id'≠id:=a ▸ b;refine⟨hne,?_⟩;clear hm hp
 induction c with
 |nil=>simp at h
 |cons x r ih=>
  by_cases hx:x.1=id
  ·have:(!Nat.beq x.1 id)=false:=by rw[hx];simp
   rw[kT (by simp[this])]at h;rw[kZ];have hx':gX x.1 id'=false:=by
    cases hb:gX x.1 id' with
    |false=>rfl
    |true=>exact gI ((hQ hb).symm.trans hx) hne
   rw[hx'];exact ih h
  ·have:(!Nat.beq x.1 id)=true:=by
    cases hb:gX x.1 id with
    |false=>rfl
    |true=>exact gI (hQ hb) hx
   rw[jF (by simp[this])]at h;rw[kZ]at h ⊢;split
   ·rename_i hb;rw[hb]at h;exact h
   ·rename_i hb;rw[hb]at h;exact ih h
theorem Tg {rt:Env→T}(hm:P.follows .mixedOrders=true) (hrt:aa P rt) (code:Code):
 ∀(c:List (Nat×List Nat)) (e:Env) (k:Env→T) (QT:Bh→AE→Prop) (a:Act) (w:World) (QC:Exit→Act→World→Prop),
  Agrees e a.tmps→HD (Az code) a→(DD P rt code c e k).wp P QT w.heap→
  (∀e' a' w',Agrees e' a'.tmps→Fr (Az code) a a'→B8 w w'→(k e').wp P QT w'.heap→QC .normal a' w')→
  Ends P rt c QT (Az code) a w QC→code.wp P QC a w:=by
 induction code with
 |skip=>intro c e k QT a w QC hag hb H hn E;exact wp_skip (hn e a w hag (.refl _ a) (.refl w) H)
 |region id ops draw=>
  intro c e k QT a w QC hag hb H hn E;have hW:∀o∈ops,∀d,o.dst=some d→d∈ops.toList.filterMap (·.dst):=λo ho d hd=>List.mem_filterMap.2 ⟨o,iR.2 ho,hd⟩;simp only[DD]at H;split at H
  ·exact MZ hm hW hag hb H hn (λch a' w'=>E.pan ch a' w')
  ·simp only[T.wp]at H;refine MZ hm hW hag hb H (λe' a' w' j i m g=> ?_) (λch a' w' j i m=>E.pan ch a' w' j i m);simp only[T.wp]at g;split at g
   ·rename_i y hy
    exact hn _ a' w' (Ft hag i j hy) i m g
   ·exact g.elim
 |seq x y ihx ihy=>
  intro c e k QT a w QC hag hb H hn E;refine wp_seq (ihx c e _ QT a w _ hag (λd hd=>hb d (gY _ hd)) H (λe' a' w' j i m g=> ?_) ?_)
  ·have hf:Fr (Az x++Az y) a a':=i.mono λt ht=>gY _ ht;exact ihy c e' k QT a' w' QC j ((show HD (Az y) a from λd hd=>hb d (iI _ hd)).fr hf) g
    (λr q n C D F L=>hn r q n C (hf.trans (D.mono λt ht=>iI _ ht)) (m.trans F) L)
    (E.step hf m λt ht=>iI _ ht)
  ·exact⟨λid p hp r q n j i m g=>E.brk id p hp r q n j (i.mono λt ht=>gY _ ht) m g,λr q n j i=>E.ret r q n j (i.mono λt ht=>gY _ ht),λch q n i=>E.pan ch q n (i.mono λt ht=>gY _ ht)⟩
 |cond b x y ihx ihy=>
  intro c e k QT a w QC hag hb H hn E;simp only[DD]at H;cases hhas:e.has b with
  |false=>rw[hhas]at H;exact H.elim
  |true=>
   rw[hhas]at H;simp only[cond_true]at H;have hev:=hag.ev hhas;split at H
   ·rename_i t ht
    have hc:a.eval b= .bool t:=hev.trans ht;have hbx:HD (Az x) a:=λd hd=>hb d (gY _ hd);have hby:HD (Az y) a:=λd hd=>hb d (iI _ hd);have hl:∀t,t∈Az x→t∈Az x++Az y:=λt ht=>gY _ ht;have hr:∀t,t∈Az y→t∈Az x++Az y:=λt ht=>iI _ ht;split at H
    ·simp only[T.wp]at H;refine wp_cond hc ?_;cases t with
     |true=>
      simp only[cond_true]at H;simp only[if_true];refine ihx c e _ _ a w QC hag hbx H (λe' a' w' j i m g=> ?_) ((E.step (.refl _ a) (.refl w) hl).inner hrt (λ_ _ _ h=>h) (λ_ _ h=>h) (λ_ _ h=>h));simp only[T.wp]at g;split at g
      ·rename_i z hz
       exact hn _ a' w' (Ft hag (i.mono hl) j hz) (i.mono hl) m g
      ·exact g.elim
     |false=>
      simp only[cond_false]at H;simp only[hU,if_false];refine ihy c e _ _ a w QC hag hby H (λe' a' w' j i m g=> ?_) ((E.step (.refl _ a) (.refl w) hr).inner hrt (λ_ _ _ h=>h) (λ_ _ h=>h) (λ_ _ h=>h));simp only[T.wp]at g;split at g
      ·rename_i z hz
       exact hn _ a' w' (Ft hag (i.mono hr) j hz) (i.mono hr) m g
      ·exact g.elim
    ·refine wp_cond hc ?_;cases t with
     |true=>exact ihx c e k QT a w QC hag hbx H (λe' a' w' j i=>hn e' a' w' j (i.mono hl)) (E.step (.refl _ a) (.refl w) hl)
     |false=>exact ihy c e k QT a w QC hag hby H (λe' a' w' j i=>hn e' a' w' j (i.mono hr)) (E.step (.refl _ a) (.refl w) hr)
   ·exact H.elim
 |block id x ih=>
  intro c e k QT a w QC hag hb H hn E;simp only[DD]at H;refine wp_block ?_;split at H
  ·refine ih _ e k QT a w _ hag hb H hn ⟨λid' p hp r q n j i m g=> ?_,E.ret,E.pan⟩;obtain⟨hne,hp'⟩:=R7 hp;simp only[Exit.inBlock,gG hne];exact E.brk id' p hp' r q n j i m g
  ·simp only[T.wp]at H;refine ih _ e _ _ a w _ hag hb H (λe' a' w' j i m g=> ?_) ⟨λid' p hp r q n j i m g=> ?_,λr q n j i m g=> ?_,λch q n i m g=>E.pan ch q n i m g⟩
   ·simp only[T.wp]at g;split at g
    ·rename_i z hz
     exact hn _ a' w' (Ft hag i j hz) i m g
    ·exact g.elim
   ·rw[kZ]at hp;by_cases hid:id'=id
    ·subst hid;have B:gX id' id'=true:=by simp
     simp only[B,Option.some.injEq]at hp;subst hp;simp only[B,cond_true]at g;simp only[Exit.inBlock,if_true];split at g
     ·rename_i z hz
      exact hn _ q n (Ft hag i j hz) i m g
     ·exact g.elim
    ·have B:gX id id'=false:=by
      cases hbq:gX id id' with
      |false=>rfl
      |true=>exact gI (hQ hbq).symm hid
     have G:gX id' id=false:=by
      cases hbq:gX id' id with
      |false=>rfl
      |true=>exact gI (hQ hbq) hid
     simp only[B]at hp;simp only[G,cond_false]at g;simp only[Exit.inBlock,gG hid];exact E.brk id' p hp r q n j i m g
   ·refine E.ret r q n j i m (hrt r _ QT n.heap ?_ g);exact λ_ _ h=>h
 |loop x ih=>
  intro c e k QT a w QC hag hb H hn E;simp only[DD,T.wp]at H;obtain⟨I,μ,⟨K,v,J⟩,hround⟩:=H;refine wp_loop (λa' w'=>Fr (Az x) a a'∧B8 w w'∧ ∃y,(e.slots (Az x)).map (λt=>a'.tmps[t]?)=(Shs.vals _ y).map some∧
   Shs.of (e.shapes (e.slots (Az x))) (Shs.vals _ y)=some y∧I y w'.heap)
   (λa' w'=>match Shs.of (e.shapes (e.slots (Az x))) ((e.slots (Az x)).map λt=>a'.tmps.getD t undef) with
    |some y=>μ y w'.heap
    |none=>0) ?_ ?_
  ·exact⟨.refl _ a,.refl w,K,Kr hag _ _ K v,by rw[←Shs.of_vals _ _ _ v];exact v,J⟩
  ·rintro a' w' ⟨hf,hs,y,hv,hof,hI⟩;have hag':Agrees ((e.kill (Az x)).puts (e.slots (Az x)) (Shs.vals _ y)) a'.tmps:=N7 (N6 hag hf) _ _ hv;refine ih c _ _ _ a' w' _ hag' (HD.fr hb hf) (hround y w'.heap hI) (λr q n j i m g=> ?_) ?_
   ·simp only[T.wp]at g;split at g
    ·rename_i A u
     refine⟨⟨hf.trans i,hs.trans m,A,Kr j _ _ A u,by rw[←Shs.of_vals _ _ _ u];exact u,g.1⟩,?_⟩;have C:=R6 _ _ (Kr j _ _ A u);have D:=R6 _ _ hv;have F:Shs.of (e.shapes (e.slots (Az x))) (Shs.vals _ A)=some A:=by rw[←Shs.of_vals _ _ _ u];exact u
     simp only[C,D,F,hof];exact g.2
    ·exact g.elim
   ·have E':Ends P rt c QT (Az x) a' w' QC:=E.step hf hs λt ht=>ht;refine⟨λid p hp r q n j i m g=>E'.brk id p hp r q n j i m g,λr q n j i m g=>E'.ret r q n j i m (hrt r _ QT n.heap ?_ g),λch q n i m g=>E'.pan ch q n i m g⟩;exact λ_ _ h=>h
 |exit id=>
  intro c e k QT a w QC hag hb H hn E;simp only[DD]at H;split at H
  ·rename_i p hp
   exact wp_exit (E.brk id p hp e a w hag (.refl _ a) (.refl w) H)
  ·exact H.elim
 |ret=>intro c e k QT a w QC hag hb H hn E;exact wp_ret (E.ret e a w hag (.refl _ a) (.refl w) H)
 |rangeFunc f ps x y ihx ihy=>intro c e k QT a w QC hag hb H hn E;exact H.elim
 |scope x ih=>
  intro c e k QT a w QC hag hb H hn E;exact wp_scope_straight (ih c e k QT a w (Exit.noGoto QC) hag hb H hn ⟨E.brk,E.ret,E.pan⟩)
 |label l=>intro c e k QT a w QC hag hb H hn E;exact wp_label (hn e a w hag (.refl _ a) (.refl w) H)
 |goto l=>intro c e k QT a w QC hag hb H hn E;exact H.elim
 |refuse s=>intro c e k QT a w QC hag hb H hn E;exact H.elim
def FF (P:Program):List ResultVar→Env→List Value→(List Value→T)→T
 | [],_,acc,k=>k acc.reverse
 |.tmp t::r,e,acc,k=>match e.get? t with
  |some v=>FF P r e (v::acc) k
  |none=>.stuck
 |.cell a t::r,e,acc,k=>match e.get? a with
  |some (.pointer (some ad))=>Em P t ad λv=>FF P r e (v::acc) k
  |_=>.stuck
def Oi:List Value→Value
 | [v] =>v
 |vs=>.tuple vs.toArray
def Yp (P:Program) (fn:Func) (e:Env):T:=FF P fn.results.toList e [] λvs=>.ret (Oi vs)
def QJ:Nat→List Value→Env
 |_,[] =>[]
 |i,v::r=>(i,v)::QJ (i+1) r
def Ab (P:Program) (fn:Func) (args:List Value):T:=match fn.body with
 |some c=>bif (Az c).all λd=>lZ d fn.ntmps then DD P (Yp P fn) c [] (QJ 0 args) (Yp P fn) else .stuck
 |none=>.stuck
theorem R8 (l:List BX) (a:Addr) {f:Array Value→T}{Q Q':Bh→AE→Prop}(hf:∀cs h,(f cs).wp P Q h→(f cs).wp P Q' h):∀(i:Nat) (acc:Array Value) (h:AE),
 (HU l a i acc f).wp P Q h→(HU l a i acc f).wp P Q' h:=by
 induction l with
 |nil=>intro i acc h H;exact hf _ _ H
 |cons s r ih=>intro i acc h H;obtain⟨x,hx,H⟩:=H;exact⟨x,hx,ih _ _ _ H⟩
theorem Q1 {t:TypeId}{a:Addr}{k:Value→T}{Q Q':Bh→AE→Prop}{h:AE}(hk:∀v h,(k v).wp P Q h→(k v).wp P Q' h) (H:(Em P t a k).wp P Q h):(Em P t a k).wp P Q' h:=by
 unfold Em at H ⊢;split at H
 ·split at H
  ·split at H
   ·rename_i hlen;simp only[gF hlen];exact R8 _ _ (λcs h=>hk _ h) _ _ _ H
   ·exact H.elim
  ·obtain⟨x,hx,H⟩:=H;exact⟨x,hx,hk _ _ H⟩
  ·exact H.elim
 ·exact H.elim
theorem Vc (fn:Func):aa P (Yp P fn):=by
 intro e Q Q' h hq H;have key:∀(l:List ResultVar) (acc:List Value) (h:AE),(FF P l e acc λvs=>.ret (Oi vs)).wp P Q h→(FF P l e acc λvs=>.ret (Oi vs)).wp P Q' h:=by
  intro l
  induction l with
  |nil=>intro acc h H;exact hq _ _ H
  |cons x r ih=>
   intro acc h H;cases x with
   |tmp t=>
    simp only[FF]at H ⊢;split at H
    ·exact ih _ _ H
    ·exact H.elim
   |cell a t=>
    simp only[FF]at H ⊢;split at H
    ·exact Q1 (λv h=>ih _ _) H
    ·exact H.elim
 exact key _ _ _ H
theorem Vd (l:List BX) (a:Addr) {f:Array Value→T}{Q:Bh→AE→Prop}(w:World):∀(i:Nat) (acc:Array Value),(HU l a i acc f).wp P Q w.heap→
 ∃cs,(loadCellsFrom a i l.length acc).run P w= .ok cs w∧(f cs).wp P Q w.heap:=by
 induction l with
 |nil=>intro i acc H;exact⟨acc,rfl,H⟩
 |cons s r ih=>
  intro i acc H;obtain⟨x,hx,H⟩:=H;obtain⟨cs,b,c⟩:=ih (i+1) _ H;refine⟨cs,?_,c⟩;have hx':w.cell? (a.add i)=some (s.val x):=hx;simp only[jQ,loadCellsFrom,load,bind,gO,gT,hx'];exact b
theorem Ed {α β:Type} (s:Sem α) (f:α→Sem β) {w w':World} {a:α} (h:s.run P w= .ok a w'):(s.bind f).run P w=(f a).run P w':=by
  induction s generalizing w with
  | pure b=>cases h; rfl
  | load m ad k ih=>
    simp only[gO,gT] at h ⊢;split
    · rename_i v hv; rw[hv] at h; exact ih _ h
    · rename_i hv
      rw[hv] at h;simp only at h;split
      · rename_i v t he; rw[he] at h; exact ih _ h
      · rename_i x he; rw[he] at h; cases h
  | store m ad v k ih=>
    cases v<;>simp only[gO,gT] at h ⊢ <;>first
      | cases h
      | (split<;>rename_i hv<;>rw[hv] at h<;>simp only at h
         · split<;>rename_i hf<;>simp only[hf] at h<;>first
             | (simp only[if_true] at h; cases h)
             | (simp only[hU,if_false] at h; exact ih h)
             | exact ih (by simpa using h)
             | simp at h
         · split<;>rename_i he<;>rw[he] at h<;>first | exact ih h | cases h)
  | new o k ih=>simp only[gO,gT] at h ⊢; exact ih _ h
  | shape r k ih=>simp only[gO,gT] at h ⊢; exact ih _ h
  | freeze a n k ih=>simp only[gO,gT] at h ⊢; exact ih h
  | frozen a k ih=>simp only[gO,gT] at h ⊢; exact ih _ h
  | getObj r k ih=>
    simp only[gO,gT] at h ⊢
    split<;>rename_i hv<;>rw[hv] at h<;>simp only at h<;>first | cases h | exact ih _ h
  | setObj r o k ih=>
    simp only[gO,gT] at h ⊢
    split<;>rename_i hv<;>rw[hv] at h<;>simp only at h<;>first | cases h | exact ih h
  | choose q k ih=>
    simp only[gO,gT] at h ⊢
    split<;>rename_i hv<;>simp only[hv] at h
    · exact ih _ (by simpa using h)
    · exact ih _ (by simpa using h)
  | sys c k ih=>simp only[gO,gT] at h ⊢; exact ih _ h
  | program k ih=>simp only[gO,gT] at h ⊢; exact ih _ h
  | mark m k ih=>simp only[gO,gT] at h ⊢; exact ih h
  | halt x=>simp only[gT] at h; cases h
theorem R9 {t:TypeId}{a:Addr}{k:Value→T}{Q:Bh→AE→Prop}(w:World) (H:(Em P t a k).wp P Q w.heap):
 ∃v,(loadVar t a).run P w= .ok v w∧(k v).wp P Q w.heap:=by
 unfold Em at H;split at H
 ·rename_i d i hd hi
  have b:(isAgg t).run P w= .ok (Qw d) w:=by
   simp only[isAgg,underlying,program,bind,gO,hd,pure,gT];cases d<;>rfl
  have c:(Go.sizeOf t).run P w= .ok i.size w:=by simp only[Go.sizeOf,typeInfo,program,bind,gO,hi,pure,gT]
  split at H
  ·rename_i l hag hsh
   split at H
   ·rename_i hlen
    have⟨cs,e,f⟩:=Vd l a w 0 #[] H;refine⟨.agg cs,?_,f⟩;unfold loadVar;refine(Ed _ _ b).trans ?_;rw[hag];simp only[if_true];refine(Ed _ _ c).trans ?_;rw[←hlen];exact(Ed _ _ e).trans rfl
   ·exact H.elim
  ·rename_i s hag hsh
   obtain⟨x,hx,H⟩:=H;refine⟨s.val x,?_,H⟩;unfold loadVar;refine(Ed _ _ b).trans ?_;rw[hag];have hx':w.cell? a=some (s.val x):=hx;simp only[hU,if_false,load,gT,hx']
  ·exact H.elim
 ·exact H.elim
def HE (tmps:Array Value):ResultVar→Sem Value
 |.tmp t=>pure (tmps.getD t undef)
 |.cell a t=>do loadVar t (←asAddr (tmps.getD a undef))
theorem Th (fn:Func) (tmps:Array Value):results fn tmps=(fn.results.mapM (HE tmps)).bind λvs=>.pure (if h:vs.size=1 then vs[0] else .tuple vs):=rfl
theorem Un {fn:Func}{e:Env}{a:Act}{w:World}{QT:Bh→AE→Prop}(hag:Agrees e a.tmps) (H:(Yp P fn e).wp P QT w.heap):
 ∃v,(results fn a.tmps).run P w= .ok v w∧QT (.ret v) w.heap:=by
 have key:∀(l:List ResultVar) (acc:List Value),(FF P l e acc λvs=>.ret (Oi vs)).wp P QT w.heap→
  ∃vs,(l.mapM (HE a.tmps)).run P w= .ok vs w∧QT (.ret (Oi (acc.reverse++vs))) w.heap:=by
  intro l
  induction l with
  |nil=>intro acc H;exact⟨[],rfl,by simpa[FF,T.wp]using H⟩
  |cons x r ih=>
   intro acc H;rw[List.mapM_cons];cases x with
   |tmp t=>
    simp only[FF]at H;split at H
    ·rename_i v hv
     obtain⟨vs,c,d⟩:=ih _ H;refine⟨v::vs,?_,by simpa using d⟩;have f:(HE a.tmps (.tmp t)).run P w= .ok v w:=by
      have:=hag t v hv
      simp[HE,pure,iD,this]
     refine(Ed _ _ f).trans ((Ed _ _ c).trans rfl)
    ·exact H.elim
   |cell ad t=>
    simp only[FF]at H;split at H
    ·rename_i b hb
     have⟨v,g,H⟩:=R9 w H;obtain⟨vs,c,d⟩:=ih _ H;refine⟨v::vs,?_,by simpa using d⟩;have f:(HE a.tmps (.cell ad t)).run P w= .ok v w:=by
      have:=hag ad _ hb
      have h:a.tmps.getD ad undef= .pointer (some b):=by rw[iD,this];rfl
      simp only[HE,h];exact g
     refine(Ed _ _ f).trans ((Ed _ _ c).trans rfl)
    ·exact H.elim
 have⟨vs,c,d⟩:=key fn.results.toList [] H;refine⟨Oi vs,?_,by simpa using d⟩;rw[Th];have f:(fn.results.mapM (HE a.tmps)).run P w= .ok vs.toArray w:=by
  rw[Array.mapM_eq_mapM_toList];show(gO (fn.results.toList.mapM (HE a.tmps)) λl=>.pure l.toArray).run P w=_;exact(Ed _ _ c).trans rfl
 refine(Ed _ _ f).trans ?_;show Result.ok _ w=_;congr 1;cases vs with
 |nil=>rfl
 |cons v r=>
  cases r with
  |nil=>rfl
  |cons i r=>simp[Oi]
theorem Q2 (args:List Value):∀(i:Nat) (pre rest:List Value),pre.length=i→Agrees (QJ i args) (pre++args++rest).toArray:=by
 induction args with
 |nil=>intro i pre rest _ t v h;simp[QJ,Env.get?]at h
 |cons x r ih=>
  intro i pre rest hi t v h;simp only[QJ,Env.get?_cons]at h;by_cases hit:i=t
  ·subst hit;simp only[if_true,Option.some.injEq]at h;subst h;simp[←hi]
  ·simp only[hit,if_false]at h
   have:=ih (i+1) (pre++ [x]) rest (by simp[hi]) t v h
   simpa using this
def Ln (R:Fin→AE→Prop):Bh→AE→Prop
 |.ret v,h=>R (.ret v) h
 |.pan c,h=>R (.pan c) h
 |_,_=>False
theorem Av {f:FuncId}{fn:Func}{args:List Value}{h:AE}{R:Fin→AE→Prop}(hm:P.follows .mixedOrders=true) (hf:P.funcs[f]? =some fn)
 (H:(Ab P fn args).wp P (Ln R) h):CallsH P f args h R:=by
 intro w hw;subst hw;unfold Ab at H;split at H
 ·rename_i c hc
  cases hall:(Az c).all λd=>lZ d fn.ntmps with
  |false=>rw[hall]at H;exact H.elim
  |true=>
   rw[hall]at H;simp only[cond_true]at H;refine calls_of_wp hf hc ?_;have hag:Agrees (QJ 0 args) (args.toArray++iN (fn.ntmps - args.toArray.size) undef):=by
    have:=Q2 args 0 [] (gU (fn.ntmps - args.toArray.size) undef) rfl
    have e:([] ++args++gU (fn.ntmps - args.toArray.size) undef).toArray=args.toArray++iN (fn.ntmps - args.toArray.size) undef:=by
     apply lN;simp
    rw[←e];exact this
   have hb:HD (Az c) {tmps:=args.toArray++iN (fn.ntmps - args.toArray.size) undef,defers:=[]} :=by
    intro d hd
    have:=jP.1 hall d hd
    have hlt:d<fn.ntmps:=by simpa[Nat.blt_eq]using this
    simp;omega
   refine Tg hm (Vc fn) c [] _ _ (Ln R) _ w _ hag hb H (λe' a' w' a b g i=> ?_) ⟨λid p hp=>(by cases hp),λe' a' w' a b g i=> ?_,λch a' w' a b g=>⟨a.2.1,b,g⟩⟩
   ·have⟨v,j,k⟩:=Un a i;exact⟨b.2.1,v,j,g,k⟩
   ·have⟨v,j,k⟩:=Un a i;exact⟨b.2.1,v,j,g,k⟩
 ·exact H.elim
end
section
variable {P:Program}{Q:Bh→AE→Prop}{h:AE}
theorem NQ {s:BX}{a:Addr}{k:s.Ty→T}(x:s.Ty) (hx:BW h a=some (s.val x)) (H:(k x).wp P Q h):(T.load s a k).wp P Q h:=⟨x,hx,H⟩
theorem Q3 {a:Addr}{v:Value}{k:T}(hp:Value.plain v=true) (hs:(BW h a).isSome=true) (hf:GQ h a=false) (H:k.wp P Q (Cb h a v)):(T.store a v k).wp P Q h:=⟨hp,hs,hf,H⟩
theorem Wh {o:Obj}{k:Nat→T}(H:(k h.size).wp P Q (h.push o)):(T.new o k).wp P Q h:=H
theorem ab {f:FuncId}{args:List Value}{sh:Sh}{k:sh.Ty→T}{R:Fin→AE→Prop}(hc:CallsH P f args h R)
 (hk:∀e h',R e h'→ ∃x,e= .ret (sh.val x)∧(k x).wp P Q h'):(T.call f args sh k).wp P Q h:=by
 simp only[T.wp];refine hc.mono λe h' hr=> ?_;obtain⟨x,rfl,H⟩:=hk e h' hr;exact⟨x,rfl,H⟩
theorem t_sem {s:Sem Value}{sh:Sh}{k:sh.Ty→T}(H:Ae P s (λv h'=>∃x:sh.Ty,v=sh.val x∧(k x).wp P Q h') (λ_ _=>False) h):(T.sem s sh k).wp P Q h:=by
 simp only[T.wp];exact Bf s (λ_ _ x=>x) (λ_ _ x=>x.elim) H
theorem AN {a:Addr}{v:Value}{k:T}(hx:BW h a=some v) (H:k.wp P Q h):(T.still a v k).wp P Q h:=⟨hx,H⟩
theorem DY {x y:T}(hx:x.wp P Q h) (hy:y.wp P Q h):(T.both x y).wp P Q h:=⟨hx,hy⟩
theorem ac {b:Bool}{x y:T}(hx:b=true→x.wp P Q h) (hy:b=false→y.wp P Q h):(cond b x y).wp P Q h:=by
 cases b
 ·exact hy rfl
 ·exact hx rfl
theorem Ac {b:Bool}{x y:T}(hb:b=true) (hx:x.wp P Q h):(cond b x y).wp P Q h:=by subst hb;exact hx
theorem AU {b:Bool}{x y:T}(hb:b=false) (hy:y.wp P Q h):(cond b x y).wp P Q h:=by subst hb;exact hy
theorem AF {p:gL}{k:Addr→T}(a:Addr) (hp:p=some a) (H:(k a).wp P Q h):(deref p k).wp P Q h:=by subst hp;exact H
theorem Ah {p:Prop}[Decidable p] {k:T}(hp:p) (H:k.wp P Q h):(chk p k).wp P Q h:=⟨hp,H⟩
def cV (P:Program) (ss:List Sh1) (k:Shs.Ty ss→T) (Q:Bh→AE→Prop) (lf:Bh) (h':AE):Prop:=match lf with
 |.out vs=>(match Shs.of ss vs with
  |some y=>(k y).wp P Q h'
  |none=>False)
 |lf=>Q lf h'
theorem ae {ss:List Sh1}{x:T}{k:Shs.Ty ss→T}(H:x.wp P (cV P ss k Q) h):(T.join ss x k).wp P Q h:=by
 simp only[T.wp];exact H
theorem Yq {ss:List Sh1}{x:T}{k:Shs.Ty ss→T}(M:Shs.Ty ss→AE→Prop) (H:x.wp P (λlf h'=>match lf with
 |.out vs=>∃y,Shs.of ss vs=some y∧M y h'
 |lf=>Q lf h') h) (hk:∀y h',M y h'→(k y).wp P Q h'):(T.join ss x k).wp P Q h:=by
 refine ae (T.wp_mono x (λlf h' hl=> ?_) H);cases lf with
 |out vs=>
  obtain⟨y,hy,hm⟩:=hl;show(match Shs.of ss vs with | some y=>(k y).wp P Q h' | none=>False)
  rw[hy];exact hk y h' hm
 |brk id vs=>exact hl
 |ret v=>exact hl
 |pan c=>exact hl
def Wi (P:Program) (id:Nat) (ss:List Sh1) (k:Shs.Ty ss→T) (Q:Bh→AE→Prop) (lf:Bh) (h':AE):Prop:=match lf with
 |.out vs=>(match Shs.of ss vs with
  |some y=>(k y).wp P Q h'
  |none=>False)
 |.brk id' vs=>bif gX id' id then(match Shs.of ss vs with
  |some y=>(k y).wp P Q h'
  |none=>False) else Q (.brk id' vs) h'
 |lf=>Q lf h'
theorem Yr {id:Nat}{ss:List Sh1}{x:T}{k:Shs.Ty ss→T}(H:x.wp P (Wi P id ss k Q) h):(T.block id ss x k).wp P Q h:=by
 simp only[T.wp];exact H
theorem Wj {id:Nat}{ss:List Sh1}{x:T}{k:Shs.Ty ss→T}(M:Shs.Ty ss→AE→Prop) (H:x.wp P (λlf h'=>match lf with
 |.out vs=>∃y,Shs.of ss vs=some y∧M y h'
 |.brk id' vs=>bif gX id' id then(∃y,Shs.of ss vs=some y∧M y h') else Q (.brk id' vs) h'
 |lf=>Q lf h') h) (hk:∀y h',M y h'→(k y).wp P Q h'):(T.block id ss x k).wp P Q h:=by
 refine Yr (T.wp_mono x (λlf h' hl=> ?_) H);cases lf with
 |out vs=>
  obtain⟨y,hy,hm⟩:=hl;show(match Shs.of ss vs with | some y=>(k y).wp P Q h' | none=>False)
  rw[hy];exact hk y h' hm
 |brk id' vs=>
  unfold Wi;dsimp only at hl ⊢;cases hb:gX id' id with
  |true=>
   rw[hb]at hl;obtain⟨y,hy,hm⟩:=hl;rw[hy];exact hk y h' hm
  |false=>rw[hb]at hl;exact hl
 |ret v=>exact hl
 |pan c=>exact hl
def Z2 (ss:List Sh1) (I:Shs.Ty ss→AE→Prop) (μ:Shs.Ty ss→AE→Nat) (m:Nat) (Q:Bh→AE→Prop) (lf:Bh) (h':AE):Prop:=match lf with
 |.out vs=>(match Shs.of ss vs with
  |some y'=>I y' h'∧μ y' h'<m
  |none=>False)
 |lf=>Q lf h'
theorem af {ss:List Sh1}{init:List Value}{body:Shs.Ty ss→T}(I:Shs.Ty ss→AE→Prop) (μ:Shs.Ty ss→AE→Nat) (a:Shs.Ty ss) (b:Shs.of ss init=some a) (hi:I a h)
 (hr:∀y h,I y h→(body y).wp P (Z2 ss I μ (μ y h) Q) h):(T.loop ss init body).wp P Q h:=⟨I,μ,⟨a,b,hi⟩,hr⟩
theorem Ve {ss:List Sh1}{I:Shs.Ty ss→AE→Prop}{μ:Shs.Ty ss→AE→Nat}{m:Nat}{vs:List Value}(y:Shs.Ty ss) (hy:Shs.of ss vs=some y) (hI:I y h) (hm:μ y h<m):Z2 ss I μ m Q (.out vs) h:=by
 show(match Shs.of ss vs with | some y'=>I y' h∧μ y' h<m | none=>False)
 rw[hy];exact⟨hI,hm⟩
section
variable {id:Nat}{ss:List Sh1}{I:Shs.Ty ss→AE→Prop}{μ:Shs.Ty ss→AE→Nat}{m:Nat}{M:Shs.Ty ss→AE→Prop}
end
@[simp] theorem Z3 (a:BX) (x:a.Ty):(Sh.one (Sh1.atom a)).val x=a.val x:=rfl
@[simp] theorem Ys (a:BX) (x:a.Ty):(Sh1.atom a).val x=a.val x:=rfl
@[simp] theorem dL (k:IntKind) (x:Int):(BX.int k).val x= .int k x:=rfl
@[simp] theorem cY (x:Bool):BX.bool.val x= .bool x:=rfl
@[simp] theorem ag (x:gN):BX.string.val x= .string x:=rfl
@[simp] theorem Z4 (x:gL):BX.pointer.val x= .pointer x:=rfl
@[simp] theorem cS (x:Option Addr×Nat×Nat):BX.slice.val x= .slice x.1 x.2.1 x.2.2:=rfl
@[simp] theorem dM (x:Option Nat):BX.map.val x= .map x:=rfl
theorem w64 {n:Int}(a: -9223372036854775808≤n) (b:n≤9223372036854775807):iY .i64 n=n:=IntWalk.i64_in n ⟨a,b⟩
def Ap (S:Value→AE→Prop) (e:Fin) (h':AE):Prop:= ∃v,e= .ret v∧S v h'
theorem Yt {f:FuncId}{args:List Value}{sh:Sh}{k:sh.Ty→T}{S:Value→AE→Prop}(hc:CallsH P f args h (Ap S))
 (hk:∀v h',S v h'→ ∃x,v=sh.val x∧(k x).wp P Q h'):(T.call f args sh k).wp P Q h:=
 ab hc λe h' ⟨v,he,hs⟩=>by
  have⟨x,hx,H⟩:=hk v h' hs;exact⟨x,by rw[he,hx],H⟩
theorem AC {S:Value→AE→Prop}{v:Value}(H:S v h):Ln (Ap S) (.ret v) h:=⟨v,rfl,H⟩
end
def JP (M:List Nat) (h h':AE):Prop:=h.size≤h'.size∧ ∀i,i<h.size→i∉M→h'[i]? =h[i]?
theorem JP.refl (M:List Nat) (h:AE):JP M h h:=⟨jU _,λ_ _ _=>rfl⟩
theorem JP.trans {M:List Nat}{a b c:AE}(h:JP M a b) (k:JP M b c):JP M a c:=
 ⟨Nat.le_trans h.1 k.1,λi hi hm=>(k.2 i (Nat.lt_of_lt_of_le hi h.1) hm).trans (h.2 i hi hm)⟩
theorem JP.mono {M M':List Nat}{a b:AE}(h:JP M a b) (hM:∀i,i∈M→i∈M'):JP M' a b:=⟨h.1,λi hi hm=>h.2 i hi λh'=>hm (hM i h')⟩
theorem JP.push (M:List Nat) (h:AE) (o:Obj):JP M h (h.push o):=⟨by simp,λi hi _=>by rw[gQ];simp;omega⟩
theorem HF {h:AE}{a:Addr}{v:Value}{i:Nat}(hi:i≠a.block):(Cb h a v)[i]? =h[i]? :=by
 unfold Cb EX kJ;simp only[iP];rw[gG (by omega)]
theorem Pz {h:AE}{a:Addr}{v:Value}:(Cb h a v).size=h.size:=by
 unfold Cb EX kJ;simp
theorem JP.at {M:List Nat}{h h':AE}(k:JP M h h') {i:Nat}{o:Obj}(ho:h[i]? =some o) (hm:i∉M):h'[i]? =some o:=by
 have hlt:i<h.size:=by
  rcases hZ i h.size with g | g
  ·exact g
  ·rw[iL g]at ho;cases ho
 rw[k.2 i hlt hm];exact ho
theorem Fu {h:AE}{a:Addr}{c:Array Value}{t:TypeId}{f:Nat×Nat}(hb:h[a.block]? =some (.cells c t f)) (hs:a.spot=none):BW h a=c[a.off]? :=by
 unfold BW EX World.cell?;simp[hb,hs]
theorem QK (a:Addr) (n:Nat):(a.add n).block=a.block:=by unfold kU;split<;>rfl
theorem add_zero (a:Addr):a.add 0=a:=by simp[kU]
theorem Dt (b o n:Nat):(⟨b,o,none⟩:Addr).add n=⟨b,o+n,none⟩:=by
 unfold kU;split
 ·rename_i h;subst h;rfl
 ·rfl
theorem An (a:Addr) (m n:Nat):(a.add m).add n=a.add (m+n):=by
 unfold kU;by_cases hm:m=0
 ·subst hm;simp
 ·by_cases hn:n=0
  ·subst hn;simp
  ·simp[hm,hn,Nat.add_assoc]
def CX (h:AE) (p:gL) (vs:List Value):Prop:= ∀i v,vs[i]? =some v→ ∃a,p=some a∧BW h (a.add i)=some v
def blk:gL→List Nat
 |some a=>[a.block]
 |none=>[]
theorem CX.nil (h:AE) (p:gL):CX h p []:=λi v hv=>by simp at hv
def Own (sz:Nat) (ty:TypeId) (h:AE) (p:gL) (n c:Nat) (vs:List Value):Prop:=
 (p=none∧n=0∧c=0∧vs= [])∨
 (∃b off arr,p=some ⟨b,off,none⟩∧h[b]? =some (.cells arr ty (0,0))∧vs.length=n *sz∧n≤c∧off+c *sz≤arr.size∧ ∀i v,vs[i]? =some v→arr[off+i]? =some v)
theorem Own.cells {sz:Nat}{ty:TypeId}{h:AE}{p:gL}{n c:Nat}{vs:List Value}(o:Own sz ty h p n c vs):CX h p vs:=by
 rcases o with⟨rfl,_,_,rfl⟩|⟨b,off,arr,rfl,hb,d,e,f,a⟩
 ·exact CX.nil h none
 ·intro i v hv;exact⟨_,rfl,by rw[Dt,Fu hb rfl];exact a i v hv⟩
theorem Own.length {sz:Nat}{ty:TypeId}{h:AE}{p:gL}{n c:Nat}{vs:List Value}(o:Own sz ty h p n c vs):vs.length=n *sz:=by
 rcases o with⟨_,rfl,_,rfl⟩|⟨b,off,arr,_,hb,a,_⟩
 ·simp
 ·exact a
theorem Own.nil (sz:Nat) (ty:TypeId) (h:AE):Own sz ty h none 0 0 []:=.inl ⟨rfl,rfl,rfl,rfl⟩
theorem Own.ty {sz:Nat}{ty:TypeId}{h:AE}{p:gL}{n c:Nat}{vs:List Value}(o:Own sz ty h p n c vs):∀i,i∈blk p→ ∃arr,h[i]? =some (.cells arr ty (0,0)):=by
 rcases o with⟨rfl,_⟩|⟨b,off,arr,rfl,hb,_⟩
 ·intro i hi;cases hi
 ·intro i hi;simp[blk]at hi;subst hi;exact⟨arr,hb⟩
theorem Own.cap {sz:Nat}{ty:TypeId}{h:AE}{p:gL}{n c:Nat}{vs:List Value}(o:Own sz ty h p n c vs):n≤c:=by
 rcases o with⟨rfl,rfl,rfl,_⟩|⟨b,off,arr,rfl,hb,_,h,_⟩
 ·exact jU _
 ·exact h
theorem Own.old {sz:Nat}{ty:TypeId}{h:AE}{p:gL}{n c:Nat}{vs:List Value}(o:Own sz ty h p n c vs):∀i,i∈blk p→i<h.size:=by
 rcases o with⟨rfl,_⟩|⟨b,off,arr,rfl,hb,_⟩
 ·intro i hi;cases hi
 ·intro i hi;simp[blk]at hi;subst hi;rcases hZ i h.size with g | g
  ·exact g
  ·rw[iL g]at hb;cases hb
theorem Mb {P:Program}{X:Value→AE→Prop}{h:AE}{a:Addr}:∀(vs:List Value) (i:Nat) (acc:Array Value) {K:Array Value→AE→Prop},
 (∀j v,vs[j]? =some v→BW h (a.add (i+j))=some v)→K (acc++vs.toArray) h→Ae P (loadCellsFrom a i vs.length acc) K X h:=by
 intro vs
 induction vs with
 |nil=>intro i acc K _ hk;simpa[loadCellsFrom,pure,Ae]using hk
 |cons v r ih=>
  intro i acc K hc hk;refine⟨v,by simpa using hc 0 v rfl,?_⟩;refine ih (i+1) (acc.push v) (λj u hj=> ?_) ?_
  ·have:=hc (j+1) u (by simpa using hj)
   rw[show i+1+j=i+(j+1) by omega];exact this
  ·have e:acc++(v::r).toArray=acc.push v++r.toArray:=by
    apply lN;simp
   rw[←e];exact hk
theorem HG {h:AE}{b off:Nat}{arr:Array Value}{ty:TypeId}{f:Nat×Nat}{v:Value}(hb:h[b]? =some (.cells arr ty f)):
 (Cb h ⟨b,off,none⟩ v)[b]? =some (.cells (arr.setIfInBounds off v) ty f):=by
 unfold Cb EX kJ;simp[iP,hb]
theorem P0 {P:Program}{X:Value→AE→Prop}{b off:Nat}{ty:TypeId}:∀(vs:List Value) (i:Nat) (h:AE) (arr:Array Value) {K:Unit→AE→Prop},
 (∀v∈vs,Value.plain v=true)→h[b]? =some (.cells arr ty (0,0))→off+i+vs.length≤arr.size→
 (∀h' arr',h'[b]? =some (.cells arr' ty (0,0))→arr'.size=arr.size→(∀j,(j<off+i∨off+i+vs.length≤j)→arr'[j]? =arr[j]?)→(∀j v,vs[j]? =some v→arr'[off+i+j]? =some v)→
  h'.size=h.size→(∀k,k≠b→h'[k]? =h[k]?)→K () h')→Ae P (storeCells ⟨b,off,none⟩ vs i) K X h:=by
 intro vs
 induction vs with
 |nil=>intro i h arr K _ hb _ hk;exact hk h arr hb rfl (λ_ _=>rfl) (λj v hj=>by simp at hj) rfl (λ_ _=>rfl)
 |cons v r ih=>
  intro i h arr K hp hb hle hk;simp only[jQ]at hle;have hcell:BW h (kU ⟨b,off,none⟩ i)=arr[off+i]? :=by rw[Dt,Fu (c:=arr) (t:=ty) (f:=(0,0)) hb rfl]
  refine⟨hp v (lM ..),?_,?_,?_⟩
  ·rw[hcell];simp;omega
  ·rw[Dt];unfold GQ EX jT;simp[hb]
  ·rw[Dt];have a:=HG (off:=off+i) (v:=v) hb;refine ih (i+1) (Cb h ⟨b,off+i,none⟩ v) (arr.setIfInBounds (off+i) v) (λu hu=>hp u (iT _ hu)) a (by simp;omega) ?_;intro h' arr' e g d l m n;refine hk h' arr' e (by simpa using g) (λj hj=> ?_) (λj u hj=> ?_) (by rw[m,Pz]) (λk hk'=>by rw[n k hk'];exact HF hk')
   ·simp only[jQ]at hj;rw[d j (by omega),gP (by omega)]
   ·cases j with
    |zero=>
     simp at hj;subst hj;rw[d (off+i+0) (by omega),Nat.add_zero];rw[iC];simp only[if_true];rw[gF (by omega)]
    |succ j=>
     have:=l j u (by simpa using hj)
     rw[show off+i+(j+1)=off+(i+1)+j by omega];exact this
structure Fv (P:Program) (st xt elem:TypeId) (sz:Nat):Prop where
 st:P.underlying st=some (.slice elem)
 xt:P.underlying xt=some (.slice elem)∨P.underlying xt=some .string
 info:∃i,P.info? elem=some i∧i.size=sz∧(∃z,i.zero=some z∧z.cells.size=sz)∧0<i.bytes∧i.bytes≤120
 pos:0<sz
theorem Vf (newLen:Nat):∀(r c:Nat),lG newLen r c≤max c (newLen+(newLen+768) / 4):=by
 intro r
 induction r with
 |zero=>intro c;simp only[lG];omega
 |succ r ih=>
  intro c;simp only[lG];split
  ·omega
  ·have:=ih (c+(c+768) / 4)
   omega
theorem Ti (need c:Nat) (h:c<need):iU need c≤2 *need+200:=by
 unfold iU;split
 ·omega
 ·split
  ·omega
  ·have:=Vf need 4 c
   omega
def cZ (sz:Nat) (elem:TypeId) (h h':AE) (p:gL) (c:Nat) (p':gL) (c':Nat):Prop:=
 (p'=p∧c'=c∧ ∀b off,p=some ⟨b,off,none⟩→ ∀arr f,h[b]? =some (.cells arr elem f)→ ∃arr',h'[b]? =some (.cells arr' elem (0,0))∧arr'.size=arr.size)∨
 (p'=some ⟨h.size,0,none⟩∧c'≤maxLen∧ ∃arr,h'[h.size]? =some (.cells arr elem (0,0))∧arr.size=c' *sz)
theorem Tj {P:Program}{h:AE}{st xt rt elem:TypeId}{sz:Nat}(A:Fv P st xt elem sz) {p xp:gL}{n c m xc:Nat}{vs ws:List Value}
 (o:Own sz elem h p n c vs) (cx:CX h xp ws) (hm:ws.length=m *sz) (hpl:∀v∈ws,Value.plain v=true) (hle:n+m≤1099512676352)
 {K:Value→AE→Prop} {X:Value→AE→Prop}
 (hk:∀p' c' h',Own sz elem h' p' (n+m) c' (vs++ws)→JP (blk p) h h'→(∀i,i∈blk p'→i∈blk p∨h.size≤i)→cZ sz elem h h' p c p' c'→K (.slice p' (n+m) c') h'):
 Ae P (jV #[st,xt] rt #[.slice p n c,.slice xp m xc]) K X h:=by
 obtain⟨i,hi,hsz,⟨z,hz,hzs⟩,B,hb⟩:=A.info;have hxt:∃d,P.underlying xt=some d∧(d matches .int _)=false:=by
  rcases A.xt with g | g<;>exact⟨_,g,rfl⟩
 obtain⟨d,hd,hdi⟩:=hxt;have first:∀ {K':Array Value→AE→Prop} (q:gL) (k kc:Nat) (us:List Value),CX h q us→us.length=k *sz→K' us.toArray h→
  Ae P (iG sz k (.slice q k kc)) K' X h:=by
  intro K' q k kc us hq hl hk';cases q with
  |none=>
   cases us with
   |nil=>exact hk'
   |cons u r=>have⟨a,ha,_⟩:=hq 0 u rfl;cases ha
  |some a=>
   show Ae P (loadCellsFrom a 0 (k *sz) #[]) K' X h;rw[←hl];refine Mb us 0 #[] (λj v hj=> ?_) (by simpa using hk');obtain⟨a',ha',hc⟩:=hq j v hj;cases ha';simpa using hc
 unfold jV;simp only[lC,iB,jG];refine Ak A.st<|IL hi ?_;rw[hsz];have key:∀(K:Value→AE→Prop),(∀p' c' h',Own sz elem h' p' (n+m) c' (vs++ws)→JP (blk p) h h'→(∀i,i∈blk p'→i∈blk p∨h.size≤i)→cZ sz elem h h' p c p' c'→K (.slice p' (n+m) c') h')→
  (n+m≤c→Ae P ((iG sz m (iK xp m xc)).bind λnew=>
   match p with
   |some a=>(storeCells (a.add (n *sz)) new.toList).bind λ__r=>jK (iK p (n+m) c)
   |_=>jK (iK p (n+m) c)) K X h)∧
  (¬n+m≤c→Ae P ((choose (Question.appendCap (n+m) c elem)).bind λnewCap=>
   (typeInfo elem).bind λi=>
    (askRoom (newCap *i.bytes)).bind λ__r=>
     (iG sz n (iK p n c)).bind λold=>
      (iG sz m (iK xp m xc)).bind λnew=>
       (zeroValue elem).bind λz=>
        (newRow elem (old++new++iQ z.cells (newCap - (n+m)))).bind
         λa=>jK (iK (some a) (n+m) newCap)) K X h):=by
  intro K hk;have hlen:=o.length;constructor
  ·intro hfit;refine Am _ _ (first xp m xc ws cx hm ?_);rcases o with⟨rfl,rfl,rfl,rfl⟩|⟨b,off,arr,rfl,hbk,l,C,L,D⟩
   ·have:m=0:=by omega
    subst this
    have:ws= []:=iA (by simpa using hm)
    subst this;exact hk none 0 h (Own.nil sz elem h) (JP.refl _ h) (λi hi=>.inl hi) (.inl ⟨rfl,rfl,λb off e=>by cases e⟩)
   ·dsimp only;refine Am _ _ ?_;rw[Dt];have hmul:(n+m) *sz≤c *sz:=iV sz hfit;rw[gZ]at hmul;refine P0 ws 0 h arr hpl hbk (by rw[hm];omega) ?_;intro h' arr' s E F G M H;refine hk _ c h' (.inr ⟨b,off,arr',rfl,s,?_,hfit,by omega,?_⟩) ⟨by omega,λi _ hi=>H i (by simpa[blk]using hi)⟩ (λi hi=>.inl hi) (.inl ⟨rfl,rfl,λb' off' e w f x=>by cases e;rw[hbk]at x;cases x;exact⟨arr',s,E⟩⟩)
    ·rw[iM,l,hm,gZ]
    ·intro i v hv;rcases hZ i vs.length with hi' | hi'
     ·rw[gS hi']at hv;rw[F (off+i) (by omega)];exact D i v hv
     ·rw[iF hi']at hv
      have:=G (i - vs.length) v hv
      rw[show off+i=off+n *sz+0+(i - vs.length) by omega];exact this
  ·intro hgrow;show Ae P (.choose _ _) K X h;simp only[Ae];rw[gG (by simp[Question.forced])];intro t;have hcut:n+m≤(Question.appendCap (n+m) c elem).cut t:=by simp only[Question.cut];omega
   have hnc:(Question.appendCap (n+m) c elem).cut t≤maxLen:=by
    simp only[Question.cut]
    have:=Nat.mod_lt t (y:=2 ^ 63 - (n+m)) (by omega)
    unfold maxLen;omega
   generalize (Question.appendCap (n+m) c elem).cut t=nc at hcut hnc
   refine GS hi ?_;have rest:Ae P ((iG sz n (iK p n c)).bind λold=>
    (iG sz m (iK xp m xc)).bind λnew=>
     (zeroValue elem).bind λz=>
      (newRow elem (old++new++iQ z.cells (nc - (n+m)))).bind
       λa=>jK (iK (some a) (n+m) nc)) K X h:=by
    refine Am _ _ (first p n c vs o.cells hlen ?_);refine Am _ _ (first xp m xc ws cx hm ?_);have ez:(zeroValue elem)=Sem.program fun P'=>((match P'.info? elem with | some i=>Sem.pure i | none=>stuck "no such type").bind fun i=>match i.zero with | some v=>Sem.pure v | none=>unsupported (.resourceLimit "a value of more than 2^22 cells")):=rfl
    rw[ez];simp only[gO,Ae,hi,hz];show Ae P (Sem.new _ _) K X h;have hzc:(iQ z.cells (nc - (n+m))).size=(nc - (n+m)) *sz:=by simp[iQ,hzs]
    refine hk _ nc _ (.inr ⟨h.size,0,vs.toArray++ws.toArray++iQ z.cells (nc - (n+m)),rfl,by rw[gQ,gF rfl],?_,hcut,?_,?_⟩) (JP.push _ h _) (λi hi=>.inr (by simp[blk]at hi;omega)) (.inr ⟨rfl,hnc,_,by rw[gQ,gF rfl],?_⟩)
    ·rw[iM,hlen,hm,gZ]
    ·simp only[lR,lS,hzc,hlen,hm];rw[←gZ,←gZ,show n+m+(nc - (n+m))=nc by omega];omega
    ·intro i v hv;have hlt:i< (vs++ws).length:=by
      rcases hZ i (vs++ws).length with g | g
      ·exact g
      ·rw[gW g]at hv;cases hv
     have e:(vs.toArray++ws.toArray:Array Value)=(vs++ws).toArray:=by simp
     rw[e,jM,iW (by simpa using hlt)];simpa using hv
    ·simp only[lR,lS,hzc,hlen,hm];rw[←gZ,←gZ,show n+m+(nc - (n+m))=nc by omega]
   refine Am _ _ ?_;unfold askRoom;split
   ·exact rest
   ·exact rest
 have⟨I,J⟩:=key K hk;have hnb:∀(b:Prop),¬(((n+m:Nat):Int) >IntKind.i64.max∧b):=by
  intro b hh
  have:((n+m:Nat):Int) ≤1099512676352:=by omega
  have e:IntKind.i64.max=9223372036854775807:=rfl;omega
 have hcap:¬n+m≤c→ ¬iU (n+m) c *i.bytes>2 ^ 48:=by
  intro hg;have l:=Ti (n+m) c (by omega);have C:iU (n+m) c *i.bytes≤(2 *(n+m)+200) *120:=Nat.mul_le_mul l hb;omega
 rcases A.xt with g | g
 all_goals
  refine Ak g ?_;simp only[bind,gO,pure,hU,if_false,Builtin.lenOf,Bool.not_false,if_true];by_cases hfit:n+m≤c
  ·rw[gF hfit];exact I hfit
  ·rw[gG hfit];refine GS hi ?_;rw[gG (hnb _)];refine GS hi ?_;rw[gG (hcap hfit)];exact J hfit
theorem Tl {P:Program}{X:Value→AE→Prop}{h:AE}:∀(l:List UInt8) (acc:gN) {K:gN→AE→Prop},K ⟨acc.data++l.toArray⟩ h→
 Ae P (forIn (l.map λb=>jH .u8 (b.toNat:Int)) acc λc s=>match c with
  |.int .u8 n=>(pure (ForInStep.yield (s.push (jI n.toNat))):Sem (ForInStep gN))
  | _=>stuck "bytesToString: byte expected") K X h:=by
 intro l
 induction l with
 |nil=>intro acc K hk;show K acc h;simpa using hk
 |cons b r ih=>
  intro acc K hk;simp only[jS,kY];have e:jI ((b.toNat:Int)).toNat=b:=by simp
  rw[e];refine ih (acc.push b) ?_;simpa[ByteArray.push]using hk
theorem Q4 {P:Program}{src dst e:TypeId}{h:AE}{p:gL}{c:Nat}{l:List UInt8}(hs:P.underlying src=some (.slice e)) (he:P.underlying e=some (.int .u8)) (hd:P.underlying dst=some .string)
 (hp:CX h p (l.map λb=>jH .u8 (b.toNat:Int))) {K X:Value→AE→Prop} (hk:K (.string ⟨l.toArray⟩) h):Ae P (convert src dst (.slice p l.length c)) K X h:=by
 unfold convert;refine Ak hs (Ak hd ?_);refine Ak he ?_;dsimp only;unfold Conv.bytesToString;cases p with
 |none=>
  cases l with
  |nil=>exact hk
  |cons b r=>have⟨a,ha,_⟩:=hp 0 _ rfl;cases ha
 |some a=>
  dsimp only;refine Am _ _ ?_;show Ae P (loadCellsFrom a 0 l.length #[]) _ X h;have hl:l.length=(l.map λb=>jH .u8 (b.toNat:Int)).length:=by simp
  rw[hl];refine Mb (l.map λb=>jH .u8 (b.toNat:Int)) 0 #[] (λj v hj=>by
   obtain⟨a',ha',hc⟩:=hp j v hj;cases ha';simpa using hc) ?_
  refine Am _ _ ?_;have d:(#[] ++(l.map λb=>jH .u8 (b.toNat:Int)).toArray:Array Value)=(l.map λb=>jH .u8 (b.toNat:Int)).toArray:=by simp
  rw[d,List.forIn_toArray];exact Tl l _ (show K _ h by simpa using hk)
abbrev Slc:=Option Addr×Nat×Nat
abbrev AD:=Nat→Option Obj
def Bj (h:AE):AD:=λi=>h[i]?
def Sub (φ ψ:AD):Prop:= ∀i o,φ i=some o→ψ i=some o
theorem Sub.refl (φ:AD):Sub φ φ:=λ_ _ h=>h
theorem Sub.trans {a b c:AD}(h:Sub a b) (k:Sub b c):Sub a c:=λi o ho=>k i o (h i o ho)
def EB (φ:AD) (a:Addr):Option Value:=match φ a.block with
 |some (.cells c _ _)=>if a.spot.isSome then none else c[a.off]?
 |_=>none
theorem L4 (h:AE) (a:Addr):EB (Bj h) a=BW h a:=rfl
theorem Ao {φ ψ:AD}(hs:Sub φ ψ) {a:Addr}{v:Value}(hc:EB φ a=some v):EB ψ a=some v:=by
 unfold EB at hc ⊢;cases hb:φ a.block with
 |none=>rw[hb]at hc;cases hc
 |some o=>rw[hs _ _ hb];rw[hb]at hc;exact hc
theorem AJ {φ:AD}{h:AE}(hs:Sub φ (Bj h)) {a:Addr}{v:Value}(hc:EB φ a=some v):BW h a=some v:=by
 rw[←L4];exact Ao hs hc
def Ci (φ:AD) (p:gL) (vs:List Value):Prop:= ∀i v,vs[i]? =some v→ ∃a,p=some a∧EB φ (a.add i)=some v
theorem Ci.mono {φ ψ:AD}(hs:Sub φ ψ) {p:gL}{vs:List Value}(hc:Ci φ p vs):Ci ψ p vs:=λi v hv=>by
 have⟨a,ha,h⟩:=hc i v hv;exact⟨a,ha,Ao hs h⟩
theorem Ci.heap {φ:AD}{h:AE}(hs:Sub φ (Bj h)) {p:gL}{vs:List Value}(hc:Ci φ p vs):CX h p vs:=λi v hv=>by
 have⟨a,ha,h⟩:=hc i v hv;exact⟨a,ha,AJ hs h⟩
structure Ro (α:Type) where
 sz:Nat
 is:AD→List Value→α→Prop
 len:∀ {φ cs x},is φ cs x→cs.length=sz
 mono:∀ {φ ψ cs x},Sub φ ψ→is φ cs x→is ψ cs x
 plain:∀ {φ cs x},is φ cs x→ ∀v∈cs,Value.plain v=true
namespace Ro
def atom (a:BX):Ro a.Ty where
 sz:=1
 is _ cs x:=cs= [a.val x]
 len h:=by rw[h];rfl
 mono _ h:=h
 plain h v hv:=by rw[h]at hv;simp at hv;rw[hv];exact BX.val_plain _ _
abbrev int (k:IntKind):Ro Int:=atom (.int k)
abbrev bool:Ro Bool:=atom .bool
abbrev str:Ro gN:=atom .string
abbrev pt:Ro gL:=atom .pointer
def prod {α β:Type}(r:Ro α) (s:Ro β):Ro (α×β) where
 sz:=r.sz+s.sz
 is φ cs x:= ∃a b,cs=a++b∧r.is φ a x.1∧s.is φ b x.2
 len h:=by obtain⟨a,b,rfl,ha,hb⟩:=h;rw[iM,r.len ha,s.len hb]
 mono hs h:=by obtain⟨a,b,e,ha,hb⟩:=h;exact⟨a,b,e,r.mono hs ha,s.mono hs hb⟩
 plain h v hv:=by
  obtain⟨a,b,rfl,ha,hb⟩:=h;rcases lA.1 hv with h | h
  ·exact r.plain ha v h
  ·exact s.plain hb v h
inductive All {α:Type}(r:Ro α) (φ:AD):List Value→List α→Prop where
 |nil:All r φ [] []
 |cons {a b:List Value} {x:α} {l:List α} :r.is φ a x→All r φ b l→All r φ (a++b) (x::l)
theorem All.mono {α:Type}{r:Ro α}{φ ψ:AD}(hs:Sub φ ψ) {vs:List Value}{l:List α}(h:All r φ vs l):All r ψ vs l:=by
 induction h with
 |nil=>exact .nil
 |cons h _ ih=>exact .cons (r.mono hs h) ih
theorem All.length {α:Type}{r:Ro α}{φ:AD}{vs:List Value}{l:List α}(h:All r φ vs l):vs.length=l.length *r.sz:=by
 induction h with
 |nil=>simp
 |cons h _ ih=>rw[iM,r.len h,ih,jQ,gZ,lY,lT]
theorem All.plain {α:Type}{r:Ro α}{φ:AD}{vs:List Value}{l:List α}(h:All r φ vs l):∀v∈vs,Value.plain v=true:=by
 induction h with
 |nil=>intro v hv;cases hv
 |cons h _ ih=>intro v hv;rcases lA.1 hv with g | g;exact r.plain h v g;exact ih v g
theorem All.append {α:Type}{r:Ro α}{φ:AD}{vs ws:List Value}{l m:List α}(h:All r φ vs l) (k:All r φ ws m):All r φ (vs++ws) (l++m):=by
 induction h with
 |nil=>exact k
 |cons h _ ih=>rw[List.append_assoc];exact .cons h ih
theorem All.one {α:Type}{r:Ro α}{φ:AD}{vs:List Value}{x:α}(h:r.is φ vs x):All r φ vs [x]:=by
 have:=All.cons h (.nil (r:=r) (φ:=φ))
 rwa [List.append_nil]at this
theorem All.at {α:Type}{r:Ro α}{φ:AD}{vs:List Value}{l:List α}(h:All r φ vs l):∀ {i:Nat}{x:α},l[i]? =some x→ ∃cs,r.is φ cs x∧ ∀j v,cs[j]? =some v→vs[i *r.sz+j]? =some v:=by
 induction h with
 |nil=>intro i x hx;simp at hx
 | @cons a b y l h hb ih=>
  intro i x hx;cases i with
  |zero=>
   simp at hx;subst hx;refine⟨a,h,λj v hv=> ?_⟩
   have:j<a.length:=by
    rcases hZ j a.length with g | g
    ·exact g
    ·rw[gW g]at hv;cases hv
   rw[Nat.zero_mul,jM,gS this];exact hv
  |succ i=>
   obtain⟨cs,c,d⟩:=ih (by simpa using hx);refine⟨cs,c,λj v hv=> ?_⟩;have e:(i+1) *r.sz+j=a.length+(i *r.sz+j):=by rw[r.len h,gZ];omega
   rw[e,iF (by omega),jJ];exact d j v hv
theorem All.take {α:Type}{r:Ro α}{φ:AD}{vs:List Value}{l:List α}(h:All r φ vs l):∀n,All r φ (vs.take (n *r.sz)) (l.take n):=by
 induction h with
 |nil=>intro n;simp;exact .nil
 | @cons a b y l h hb ih=>
  intro n;cases n with
  |zero=>simp;exact .nil
  |succ n=>
   have e:(a++b).take ((n+1) *r.sz)=a++b.take (n *r.sz):=by
    rw[gZ,lY,lT,←r.len h,List.take_length_add_append]
   rw[e,List.take_succ_cons];exact .cons h (ih n)
theorem All.drop {α:Type}{r:Ro α}{φ:AD}{vs:List Value}{l:List α}(h:All r φ vs l):∀n,All r φ (vs.drop (n *r.sz)) (l.drop n):=by
 induction h with
 |nil=>intro n;simp;exact .nil
 | @cons a b y l h hb ih=>
  intro n;cases n with
  |zero=>simp;exact .cons h hb
  |succ n=>
   have e:(a++b).drop ((n+1) *r.sz)=b.drop (n *r.sz):=by
    rw[gZ,lY,lT,←r.len h,List.drop_append,List.drop_eq_nil_of_le (by omega),List.nil_append];congr 1;omega
   rw[e,List.drop_succ_cons];exact ih n
def SliceIs {α:Type}(r:Ro α) (φ:AD) (t:Slc) (l:List α):Prop:=l.length=t.2.1∧t.2.1≤t.2.2∧t.2.2≤maxLen∧(t.1=none→l= [])∧ ∃vs,All r φ vs l∧Ci φ t.1 vs
theorem SliceIs.mono {α:Type}{r:Ro α}{φ ψ:AD}{t:Slc}{l:List α}(h:SliceIs r φ t l) (hs:Sub φ ψ):SliceIs r ψ t l:=by
 obtain⟨a,b,c,d,vs,e,f⟩:=h;exact⟨a,b,c,d,vs,e.mono hs,f.mono hs⟩
def list {α:Type}(r:Ro α):Ro (List α) where
 sz:=1
 is φ cs l:= ∃t:Slc,cs= [.slice t.1 t.2.1 t.2.2] ∧SliceIs r φ t l
 len h:=by obtain⟨t,rfl,_⟩:=h;rfl
 mono hs h:=by obtain⟨t,e,h⟩:=h;exact⟨t,e,h.mono hs⟩
 plain h v hv:=by obtain⟨t,rfl,_⟩:=h;simp at hv;subst hv;rfl
def via {α β:Type}(r:Ro α) (f:β→α):Ro β where
 sz:=r.sz
 is φ cs x:=r.is φ cs (f x)
 len h:=r.len h
 mono hs h:=r.mono hs h
 plain h:=r.plain h
def ptr {α:Type}(r:Ro α):Ro (Option α) where
 sz:=1
 is φ cs x:=match x with
  |none=>cs= [.pointer none]
  |some x=>∃a vs,cs= [.pointer (some a)] ∧r.is φ vs x∧Ci φ (some a) vs
 len {φ cs x} h:=by
  cases x with
  |none=>rw[h];rfl
  |some x=>obtain⟨a,vs,rfl,_⟩:=h;rfl
 mono {φ ψ cs x} hs h:=by
  cases x with
  |none=>exact h
  |some x=>obtain⟨a,vs,e,b,c⟩:=h;exact⟨a,vs,e,r.mono hs b,c.mono hs⟩
 plain {φ cs x} h v hv:=by
  cases x with
  |none=>rw[h]at hv;simp at hv;subst hv;rfl
  |some x=>obtain⟨a,vs,rfl,_⟩:=h;simp at hv;subst hv;rfl
end Ro
abbrev FU:=Nat→Prop
structure Rep (α:Type) where
 sz:Nat
 is:AD→AE→FU→List Value→α→Prop
 len:∀ {φ h F cs x},is φ h F cs x→cs.length=sz
 mono:∀ {φ ψ h F cs x},Sub φ ψ→is φ h F cs x→is ψ h F cs x
 loc:∀ {φ h h' F cs x},(∀i,F i→h'[i]? =h[i]?)→is φ h F cs x→is φ h' F cs x
 lt:∀ {φ h F cs x},is φ h F cs x→ ∀i,F i→i<h.size
 plain:∀ {φ h F cs x},is φ h F cs x→ ∀v∈cs,Value.plain v=true
theorem Ay {h:AE}{i:Nat}{o:Obj}(ho:h[i]? =some o):i<h.size:=by
 rcases hZ i h.size with g | g
 ·exact g
 ·rw[iL g]at ho;cases ho
namespace Rep
def ro {α:Type}(r:Ro α):Rep α where
 sz:=r.sz
 is φ _ F cs x:=(∀i,¬F i)∧r.is φ cs x
 len h:=r.len h.2
 mono hs h:=⟨h.1,r.mono hs h.2⟩
 loc _ h:=h
 lt h i hi:=(h.1 i hi).elim
 plain h:=r.plain h.2
def prod {α β:Type}(r:Rep α) (s:Rep β):Rep (α×β) where
 sz:=r.sz+s.sz
 is φ h F cs x:= ∃a b A B,cs=a++b∧r.is φ h A a x.1∧s.is φ h B b x.2∧(∀i,A i→B i→False)∧(∀i,F i↔A i∨B i)
 len h:=by obtain⟨a,b,A,B,rfl,ha,hb,_⟩:=h;rw[iM,r.len ha,s.len hb]
 mono hs h:=by obtain⟨a,b,A,B,e,ha,hb,g⟩:=h;exact⟨a,b,A,B,e,r.mono hs ha,s.mono hs hb,g⟩
 loc hl h:=by
  obtain⟨a,b,A,B,e,ha,hb,g,gg⟩:=h;exact⟨a,b,A,B,e,r.loc (λi hi=>hl i ((gg i).2 (.inl hi))) ha,s.loc (λi hi=>hl i ((gg i).2 (.inr hi))) hb,g,gg⟩
 lt h i hi:=by
  obtain⟨a,b,A,B,e,ha,hb,g,gg⟩:=h;rcases(gg i).1 hi with g | g
  ·exact r.lt ha i g
  ·exact s.lt hb i g
 plain h v hv:=by
  obtain⟨a,b,A,B,rfl,ha,hb,_⟩:=h;rcases lA.1 hv with g | g
  ·exact r.plain ha v g
  ·exact s.plain hb v g
def via {α β:Type}(r:Rep α) (f:β→α):Rep β where
 sz:=r.sz
 is φ h F cs x:=r.is φ h F cs (f x)
 len h:=r.len h
 mono hs h:=r.mono hs h
 loc hl h:=r.loc hl h
 lt h:=r.lt h
 plain h:=r.plain h
def L5 (sz:Nat) (h:AE) (p:gL) (c:Nat):Prop:= ∀b off s,p=some ⟨b,off,s⟩→off=0∧ ∀arr ty f,h[b]? =some (.cells arr ty f)→arr.size=c *sz
def row {α:Type}(ty:TypeId) (r:Ro α):Rep (List α) where
 sz:=1
 is φ h F cs l:= ∃p n c vs,cs= [.slice p n c] ∧l.length=n∧c≤maxLen∧L5 r.sz h p c∧Own r.sz ty h p n c vs∧r.All φ vs l∧(∀i,F i↔i∈blk p)
 len h:=by obtain⟨p,n,c,vs,rfl,_⟩:=h;rfl
 mono hs h:=by obtain⟨p,n,c,vs,e,j,k,hf,a,m,d⟩:=h;exact⟨p,n,c,vs,e,j,k,hf,a,m.mono hs,d⟩
 loc hl h:=by
  obtain⟨p,n,c,vs,e,j,k,hf,a,m,d⟩:=h;refine⟨p,n,c,vs,e,j,k,?_,?_,m,d⟩
  ·intro b off s hp;have⟨o,q⟩:=hf b off s hp;refine⟨o,λarr ty f harr=>q arr ty f ?_⟩;rw[←hl b ((d b).2 (by rw[hp];simp[blk]))];exact harr
  ·rcases a with a | ⟨b,off,arr,rfl,hb,g⟩
   ·exact .inl a
   ·exact .inr ⟨b,off,arr,rfl,by rw[hl b ((d b).2 (by simp[blk]))];exact hb,g⟩
 lt h i hi:=by
  obtain⟨p,n,c,vs,e,j,k,hf,a,m,d⟩:=h;exact a.old i ((d i).1 hi)
 plain h v hv:=by obtain⟨p,n,c,vs,rfl,_⟩:=h;simp at hv;subst hv;rfl
def raw (ty:TypeId):Rep (List Value) where
 sz:=1
 is _ h F cs vs:= ∃b,cs= [.pointer (some ⟨b,0,none⟩)] ∧h[b]? =some (.cells vs.toArray ty (0,0))∧(∀i,F i↔i=b)
 len h:=by obtain⟨b,rfl,_⟩:=h;rfl
 mono _ h:=h
 loc hl h:=by obtain⟨b,e,hb,hF⟩:=h;exact⟨b,e,by rw[hl b ((hF b).2 rfl)];exact hb,hF⟩
 lt h i hi:=by obtain⟨b,e,hb,hF⟩:=h;rw[(hF i).1 hi];exact Ay hb
 plain h v hv:=by obtain⟨b,rfl,_⟩:=h;simp at hv;subst hv;rfl
def obj {α:Type}(ty:TypeId) (R:Rep α):Rep α where
 sz:=1
 is φ h F cs x:= ∃b vs G,cs= [.pointer (some ⟨b,0,none⟩)] ∧h[b]? =some (.cells vs.toArray ty (0,0))∧R.is φ h G vs x∧ ¬G b∧(∀i,F i↔i=b∨G i)
 len h:=by obtain⟨b,vs,G,rfl,_⟩:=h;rfl
 mono hs h:=by obtain⟨b,vs,G,e,hb,hR,g⟩:=h;exact⟨b,vs,G,e,hb,R.mono hs hR,g⟩
 loc hl h:=by
  obtain⟨b,vs,G,e,hb,hR,g,hF⟩:=h;exact⟨b,vs,G,e,by rw[hl b ((hF b).2 (.inl rfl))];exact hb,R.loc (λi hi=>hl i ((hF i).2 (.inr hi))) hR,g,hF⟩
 lt h i hi:=by
  obtain⟨b,vs,G,e,hb,hR,g,hF⟩:=h;rcases(hF i).1 hi with rfl | g
  ·exact Ay hb
  ·exact R.lt hR i g
 plain h v hv:=by obtain⟨b,vs,G,rfl,_⟩:=h;simp at hv;subst hv;rfl
end Rep
structure Chk where
 {α:Type}
 R:Rep α
 cs:List Value
 x:α
def Chk.on (φ:AD) (h:AE) (F:FU) (c:Chk):Prop:=c.R.is φ h F c.cs c.x
def StX (φ:AD) (h:AE):List Chk→FU→Prop
 | [],_=>Sub φ (Bj h)
 |c::Γ,X=>∃F,c.on φ h F∧(∀k,F k→φ k=none∧ ¬X k)∧StX φ h Γ (λk=>X k∨F k)
def St (φ:AD) (Γ:List Chk) (h:AE):Prop:=StX φ h Γ λ_=>False
theorem StX.sub {φ:AD}{h:AE}:∀ {Γ:List Chk}{X:FU},StX φ h Γ X→Sub φ (Bj h):=by
 intro Γ
 induction Γ with
 |nil=>intro X H;exact H
 |cons c Γ ih=>intro X ⟨F,_,_,H⟩;exact ih H
theorem StX.less {φ:AD}{h:AE}:∀ {Γ:List Chk}{X Y:FU},StX φ h Γ X→(∀k,Y k→X k)→StX φ h Γ Y:=by
 intro Γ
 induction Γ with
 |nil=>intro X Y H _;exact H
 |cons c Γ ih=>intro X Y ⟨F,b,a,H⟩ hY;exact⟨F,b,λk hk=>⟨(a k hk).1,λg=>(a k hk).2 (hY k g)⟩,ih H λk hk=>hk.imp (hY k) id⟩
theorem StX.more {φ:AD}{h:AE}:∀ {Γ:List Chk}{X Y:FU},StX φ h Γ X→(∀k,Y k→h.size≤k∨X k∨φ k≠none)→StX φ h Γ Y:=by
 intro Γ
 induction Γ with
 |nil=>intro X Y H _;exact H
 |cons c Γ ih=>
  intro X Y ⟨F,b,a,H⟩ hY;refine⟨F,b,λk hk=>⟨(a k hk).1,λg=> ?_⟩,ih H λk hk=> ?_⟩
  ·rcases hY k g with g | g | g
   ·have:=c.R.lt b k hk;omega
   ·exact(a k hk).2 g
   ·exact g (a k hk).1
  ·rcases hk with hk | hk
   ·rcases hY k hk with g | g | g
    ·exact .inl g
    ·exact .inr (.inl (.inl g))
    ·exact .inr (.inr g)
   ·exact .inr (.inl (.inr hk))
theorem StX.heap {φ:AD}{h h':AE}:∀ {Γ:List Chk}{X:FU},StX φ h Γ X→(∀k,k<h.size→ ¬X k→h'[k]? =h[k]?)→Sub φ (Bj h')→StX φ h' Γ X:=by
 intro Γ
 induction Γ with
 |nil=>intro X H _ hs;exact hs
 |cons c Γ ih=>
  intro X ⟨F,a,b,H⟩ hh hs;exact⟨F,c.R.loc (λi hi=>hh i (c.R.lt a i hi) (b i hi).2) a,b,ih H (λk hk hX=>hh k hk λg=>hX (.inl g)) hs⟩
theorem StX.grow {φ ψ:AD}{h:AE}:∀ {Γ:List Chk}{X:FU},StX φ h Γ X→Sub φ ψ→Sub ψ (Bj h)→(∀k,ψ k≠none→φ k=none→X k)→StX ψ h Γ X:=by
 intro Γ
 induction Γ with
 |nil=>intro X H _ hs _;exact hs
 |cons c Γ ih=>
  intro X ⟨F,b,a,H⟩ hs hs' hX;refine⟨F,c.R.mono hs b,λk hk=>⟨?_,(a k hk).2⟩,ih H hs hs' λk hk hn=>.inl (hX k hk hn)⟩;cases hψ:ψ k with
  |none=>rfl
  |some o=>exact((a k hk).2 (hX k (by rw[hψ];simp) (a k hk).1)).elim
theorem St.sub {φ:AD}{Γ:List Chk}{h:AE}(H:St φ Γ h):Sub φ (Bj h):=StX.sub H
theorem StX.swap {φ:AD}{h:AE}{a b:Chk}{Γ:List Chk}{X:FU}(H:StX φ h (a::b::Γ) X):StX φ h (b::a::Γ) X:=by
 obtain⟨A,e,d,B,f,c,H⟩:=H;refine⟨B,f,λk hk=>⟨(c k hk).1,λg=>(c k hk).2 (.inl g)⟩,A,e,λk hk=>⟨(d k hk).1,λg=> ?_⟩,H.less λk hk=> ?_⟩
 ·rcases g with g | g
  ·exact(d k hk).2 g
  ·exact(c k g).2 (.inr hk)
 ·rcases hk with(hk | hk)|hk
  ·exact .inl (.inl hk)
  ·exact .inr hk
  ·exact .inl (.inr hk)
theorem StX.perm {φ:AD}{h:AE}{Γ Δ:List Chk}(p:Γ.Perm Δ):∀ {X:FU},StX φ h Γ X→StX φ h Δ X:=by
 induction p with
 |nil=>intro X H;exact H
 |cons c _ ih=>intro X ⟨F,f,g,H⟩;exact⟨F,f,g,ih H⟩
 |swap a b l=>intro X H;exact H.swap
 |trans _ _ d e=>intro X H;exact e (d H)
theorem StX.tail {φ:AD}{h:AE}{c:Chk}{Γ:List Chk}{X:FU}(H:StX φ h (c::Γ) X):StX φ h Γ X:=by
 obtain⟨F,_,_,H⟩:=H;exact H.less λk hk=>.inl hk
theorem St.tail {φ:AD}{h:AE}{c:Chk}{Γ:List Chk}(H:St φ (c::Γ) h):St φ Γ h:=StX.tail H
theorem St.perm {φ:AD}{h:AE}{Γ Δ:List Chk}(H:St φ Γ h) (p:Γ.Perm Δ):St φ Δ h:=StX.perm p H
def Uo (i:Nat) (Γ:List Chk):List Chk:=match Γ[i]? with
 |some c=>c::Γ.eraseIdx i
 |none=>Γ
theorem BF:∀(i:Nat) (Γ:List Chk),Γ.Perm (Uo i Γ):=by
 intro i
 induction i with
 |zero=>intro Γ;cases Γ<;>exact jN _
 |succ i ih=>
  intro Γ;cases Γ with
  |nil=>exact jN _
  |cons a Γ=>
   unfold Uo;simp only[jG,List.eraseIdx_cons_succ]
   have:=ih Γ
   unfold Uo at this;cases hc:Γ[i]? with
   |none=>exact jN _
   |some c=>
    rw[hc]at this;exact(lH a this).trans (jZ c a _)
theorem St.at {φ:AD}{h:AE}{Γ:List Chk}(H:St φ Γ h) (i:Nat):St φ (Uo i Γ) h:=H.perm (BF i Γ)
def idx {α:Type}(l:List α) (i:Int):Option α:=if 0≤i then l[i.toNat]? else none
def DB {α:Type}(l:List α) (i:Int) (x:α):Option (List α):=if 0≤i∧i< (l.length:Int) then some (l.set i.toNat x) else none
def app {α:Type}(l m:List α):Option (List α):=if l.length+m.length≤1099512676352 then some (l++m) else none
def cut {α:Type}(l:List α) (a b:Int):Option (List α):=if 0≤a∧a≤b∧b≤(l.length:Int) then some ((l.take b.toNat).drop a.toNat) else none
inductive AW (σ β:Type) where
 |next (s:σ)
 |done (b:β)
def HW {σ β:Type}(f:σ→Option (AW σ β)):Nat→σ→Option β
 | 0,_=>none
 |n+1,s=>match f s with
  |none=>none
  |some (.done b)=>some b
  |some (.next s')=>HW f n s'
theorem Ks {σ β:Type}{f:σ→Option (AW σ β)}{b:β}:∀ {n m:Nat}{s:σ},HW f n s=some b→n≤m→HW f m s=some b:=by
 intro n
 induction n with
 |zero=>intro m s h;cases h
 |succ n ih=>
  intro m s h hm;obtain⟨m,rfl⟩:∃k,m=k+1:=⟨m - 1,by omega⟩;simp only[HW]at h ⊢;cases hf:f s with
  |none=>rw[hf]at h;cases h
  |some e=>
   rw[hf]at h;cases e with
   |done b'=>exact h
   |next s'=>exact ih h (by omega)
open Classical in
noncomputable def Q5 {σ β:Type}(s:σ) (f:σ→Option (AW σ β)):Option β:=if h:∃n b,HW f n s=some b then HW f h.choose s else none
noncomputable def loop {σ β:Type}(s:σ) (f:σ→Option (AW σ β)):Option β:=match HW f 4096 s with
 |some b=>some b
 |none=>Q5 s f
theorem SA {σ β:Type}{f:σ→Option (AW σ β)}{s:σ}{b:β}:Q5 s f=some b↔∃n,HW f n s=some b:=by
 unfold Q5;constructor
 ·intro h;split at h
  ·exact⟨_,h⟩
  ·cases h
 ·rintro⟨n,h⟩;have hx:∃n b,HW f n s=some b:=⟨n,b,h⟩;rw[dif_pos hx];obtain⟨b',hb'⟩:=hx.choose_spec;rw[hb'];rcases Nat.le_total n hx.choose with g | g
  ·rw[←Ks h g,hb']
  ·rw[←h,Ks hb' g]
theorem Ee {σ β:Type}{f:σ→Option (AW σ β)}{s:σ}{b:β}:loop s f=some b↔∃n,HW f n s=some b:=by
 unfold loop;split
 ·rename_i b' h'
  constructor
  ·rintro h;exact⟨4096,by rw[h',h]⟩
  ·rintro⟨n,h⟩;rcases Nat.le_total n 4096 with g | g
   ·rw[←Ks h g,h']
   ·rw[←h,Ks h' g]
 ·exact SA
theorem Q6 {σ β:Type}(s:σ) (f:σ→Option (AW σ β)):loop s f=(f s).bind λe=>match e with
 |.done b=>some b
 |.next s'=>loop s' f:=by
 apply Option.ext;intro b;constructor
 ·intro h;have⟨n,hn⟩:=Ee.1 h;cases n with
  |zero=>cases hn
  |succ n=>
   simp only[HW]at hn;cases hf:f s with
   |none=>rw[hf]at hn;cases hn
   |some e=>
    rw[hf]at hn;cases e with
    |done b'=>exact hn
    |next s'=>exact Ee.2 ⟨n,hn⟩
 ·intro h;cases hf:f s with
  |none=>rw[hf]at h;cases h
  |some e=>
   rw[hf]at h;cases e with
   |done b'=>exact Ee.2 ⟨1,by simp only[HW,hf];exact h⟩
   |next s'=>
    have⟨n,hn⟩:=Ee.1 h;exact Ee.2 ⟨n+1,by simp only[HW,hf];exact hn⟩
def JJ {σ β:Type}(f:Int→σ→Option (AW σ β)):Nat→Int→σ→Option (AW σ β)
 | 0,_,s=>some (.next s)
 |n+1,i,s=>(f i s).bind λe=>match e with
  |.next s'=>JJ f n (i+1) s'
  |.done b=>some (.done b)
def DE {σ β:Type}(i e:Int) (s:σ) (f:Int→σ→Option (AW σ β)):Option (AW σ β):=if 0≤i∧e≤9223372036854775807 then JJ f (e - i).toNat i s else none
def L7 {σ:Type}(f:Int→σ→Option σ):Nat→Int→σ→Option σ
 | 0,_,s=>some s
 |n+1,i,s=>(f i s).bind λs'=>L7 f n (i+1) s'
def forS {σ:Type}(i e:Int) (s:σ) (f:Int→σ→Option σ):Option σ:=if 0≤i∧e≤9223372036854775807 then L7 f (e - i).toNat i s else none
theorem CC {α:Type}{l:List α}{i:Int}{x:α}(h:idx l i=some x):0≤i∧i< (l.length:Int)∧l[i.toNat]? =some x:=by
 unfold idx at h;split at h
 ·rename_i a
  have:i.toNat<l.length:=by
   rcases hZ i.toNat l.length with g | g
   ·exact g
   ·rw[gW g]at h;cases h
  exact⟨a,by omega,h⟩
 ·cases h
theorem Hp {α:Type}{l m k:List α}(h:app l m=some k):l.length+m.length≤1099512676352∧k=l++m:=by
 unfold app at h;split at h
 ·rename_i g;exact⟨g,(Option.some.inj h).symm⟩
 ·cases h
theorem Dr {α:Type}{l m:List α}{i:Int}{x:α}(h:DB l i x=some m):0≤i∧i< (l.length:Int)∧m=l.set i.toNat x:=by
 unfold DB at h;split at h
 ·rename_i g;exact⟨g.1,g.2,(Option.some.inj h).symm⟩
 ·cases h
theorem Wk {α:Type}{l m:List α}{a b:Int}(h:cut l a b=some m):0≤a∧a≤b∧b≤(l.length:Int)∧m=(l.take b.toNat).drop a.toNat:=by
 unfold cut at h;split at h
 ·rename_i g;exact⟨g.1,g.2.1,g.2.2,(Option.some.inj h).symm⟩
 ·cases h
theorem Ro.SliceIs.get {α:Type}{r:Ro α}{φ:AD}{t:Slc}{l:List α}{i:Int}{x:α}(H:Ro.SliceIs r φ t l) (hx:idx l i=some x):
 ∃a cs,t.1=some a∧(0≤i∧i< (t.2.1:Nat))∧r.is φ cs x∧ ∀j v,cs[j]? =some v→EB φ (a.add (i.toNat *r.sz+j))=some v:=by
 have⟨b,c,hx⟩:=CC hx;obtain⟨e,_,_,hn,vs,ha,hc⟩:=H;have⟨cs,hr,hcs⟩:=ha.at hx;cases hp:t.1 with
 |none=>rw[hn hp]at hx;simp at hx
 |some a=>
  refine⟨a,cs,rfl,⟨b,by omega⟩,hr,λj v hv=> ?_⟩;obtain⟨a',ha',hcell⟩:=hc _ v (hcs j v hv);rw[hp]at ha';cases ha';exact hcell
theorem Ro.SliceIs.nil {α:Type}(r:Ro α) (φ:AD):Ro.SliceIs r φ (none,0,0) []:=⟨rfl,jU _,Nat.zero_le _,λ_=>rfl,[],.nil,λi v hv=>by simp at hv⟩
theorem Ro.SliceIs.length {α:Type}{r:Ro α}{φ:AD}{t:Slc}{l:List α}(H:Ro.SliceIs r φ t l):t.2.1=l.length:=H.1.symm
theorem Ro.SliceIs.cut {α:Type}{r:Ro α}{φ:AD}{t:Slc}{l m:List α}{a b:Int}{sz:Nat}(H:Ro.SliceIs r φ t l) (hm:cut l a b=some m) (hsz:r.sz=sz):
 (0≤a∧a≤b∧b≤(t.2.2:Nat))∧Ro.SliceIs r φ ((if t.2.2=a.toNat then t.1 else lO (λx=>kU x (a.toNat *sz)) t.1),b.toNat - a.toNat,t.2.2 - a.toNat) m:=by
 obtain⟨c,d,f,rfl⟩:=Wk hm;obtain⟨e,hc,hm,hn,vs,ha,hcs⟩:=H;subst hsz;refine⟨⟨c,d,by omega⟩,?_,?_,?_,?_,(vs.take (b.toNat *r.sz)).drop (a.toNat *r.sz),(ha.take _).drop _,?_⟩
 ·simp only[List.length_drop,List.length_take];omega
 ·dsimp only;omega
 ·dsimp only;omega
 ·intro h;dsimp only at h;cases hp:t.1 with
  |none=>rw[hn hp];simp
  |some x=>
   rw[hp]at h;split at h<;>cases h
 ·intro i v hv;rw[List.getElem?_drop,List.getElem?_take]at hv;split at hv
  ·rename_i hlt
   have⟨x,hx,hcell⟩:=hcs _ v hv;rw[hx];dsimp only;split
   ·rename_i hca
    have hl:=ha.length
    have:vs[a.toNat *r.sz+i]? =none:=by
     rw[gW];rw[hl]
     have:l.length *r.sz≤a.toNat *r.sz:=iV _ (by omega)
     omega
    rw[this]at hv;cases hv
   ·exact⟨_,rfl,by rw[An];exact hcell⟩
  ·cases hv
section
variable {φ:AD}{h:AE}{Γ:List Chk}{X:FU}
theorem StX.ro {α:Type}{r:Ro α}{cs:List Value}{x:α}(H:StX φ h (⟨Rep.ro r,cs,x⟩::Γ) X):r.is φ cs x∧StX φ h Γ X:=by
 obtain⟨F,a,_,H⟩:=H;exact⟨a.2,H.less λk hk=>.inl hk⟩
theorem St.ro {α:Type}{r:Ro α}{cs:List Value}{x:α}(H:St φ (⟨Rep.ro r,cs,x⟩::Γ) h):r.is φ cs x∧St φ Γ h:=StX.ro H
theorem St.unro {α:Type}{r:Ro α}{cs:List Value}{x:α}(H:St φ Γ h) (hr:r.is φ cs x):St φ (⟨Rep.ro r,cs,x⟩::Γ) h:=
 ⟨λ_=>False,⟨λ_ h=>h,hr⟩,λ_ hk=>hk.elim,H.less λ_ hk=>hk.elim id id⟩
theorem St.pair {α β:Type}{R:Rep α}{S:Rep β}{cs:List Value}{x:α×β}(H:St φ (⟨Rep.prod R S,cs,x⟩::Γ) h):∃a b,cs=a++b∧a.length=R.sz∧St φ (⟨R,a,x.1⟩::⟨S,b,x.2⟩::Γ) h:=by
 obtain⟨F,⟨a,b,A,B,rfl,ha,hb,hd,hF⟩,c,H⟩:=H;refine⟨a,b,rfl,R.len ha,A,ha,λk hk=>c k ((hF k).2 (.inl hk)),B,hb,λk hk=>⟨(c k ((hF k).2 (.inr hk))).1,λg=> ?_⟩,H.less λk hk=> ?_⟩
 ·rcases g with g | g
  ·exact g
  ·exact hd k g hk
 ·rcases hk with(hk | hk)|hk
  ·exact hk.elim
  ·exact .inr ((hF k).2 (.inl hk))
  ·exact .inr ((hF k).2 (.inr hk))
theorem St.unpair {α β:Type}{R:Rep α}{S:Rep β}{a b:List Value}{x:α}{y:β}(H:St φ (⟨R,a,x⟩::⟨S,b,y⟩::Γ) h):St φ (⟨Rep.prod R S,a++b,(x,y)⟩::Γ) h:=by
 obtain⟨A,ha,hA,B,hb,hB,H⟩:=H;refine⟨λk=>A k∨B k,⟨a,b,A,B,rfl,ha,hb,λi hi hj=>(hB i hj).2 (.inr hi),λ_=>lI⟩,λk hk=> ?_,H.less λk hk=> ?_⟩
 ·rcases hk with hk | hk
  ·exact hA k hk
  ·exact⟨(hB k hk).1,λg=>g⟩
 ·rcases hk with hk | hk | hk
  ·exact hk.elim
  ·exact .inl (.inr hk)
  ·exact .inr hk
theorem St.open {α:Type}{ty:TypeId}{R:Rep α}{cs:List Value}{x:α}(H:St φ (⟨Rep.obj ty R,cs,x⟩::Γ) h):
 ∃b vs,cs= [.pointer (some ⟨b,0,none⟩)] ∧vs.length=R.sz∧St φ (⟨Rep.raw ty,[.pointer (some ⟨b,0,none⟩)],vs⟩::⟨R,vs,x⟩::Γ) h:=by
 obtain⟨F,⟨b,vs,G,rfl,hb,hR,hG,hF⟩,a,H⟩:=H;refine⟨b,vs,rfl,R.len hR,λi=>i=b,⟨b,rfl,hb,λ_=>lI⟩,λk hk=>a k ((hF k).2 (.inl hk)),G,hR,λk hk=>⟨(a k ((hF k).2 (.inr hk))).1,λg=> ?_⟩,H.less λk hk=> ?_⟩
 ·rcases g with g | g
  ·exact g
  ·subst g;exact hG hk
 ·rcases hk with(hk | hk)|hk
  ·exact hk.elim
  ·exact .inr ((hF k).2 (.inl hk))
  ·exact .inr ((hF k).2 (.inr hk))
theorem St.shut {α:Type}{ty:TypeId}{R:Rep α}{cs vs:List Value}{x:α}(H:St φ (⟨Rep.raw ty,cs,vs⟩::⟨R,vs,x⟩::Γ) h):St φ (⟨Rep.obj ty R,cs,x⟩::Γ) h:=by
 obtain⟨A,⟨b,rfl,hb,hA'⟩,hA,B,hR,hB,H⟩:=H;refine⟨λk=>k=b∨B k,⟨b,vs,B,rfl,hb,hR,λhk=>(hB b hk).2 (.inr ((hA' b).2 rfl)),λ_=>lI⟩,λk hk=> ?_,H.less λk hk=> ?_⟩
 ·rcases hk with hk | hk
  ·exact hA k ((hA' k).2 hk)
  ·exact⟨(hB k hk).1,λg=>g⟩
 ·rcases hk with hk | hk | hk
  ·exact hk.elim
  ·exact .inl (.inr ((hA' k).2 hk))
  ·exact .inr hk
theorem St.new {ty:TypeId}(vs:List Value) (H:St φ Γ h):St φ (⟨Rep.raw ty,[.pointer (some ⟨h.size,0,none⟩)],vs⟩::Γ) (h.push (.cells vs.toArray ty (0,0))):=by
 have hs:=H.sub;refine⟨λi=>i=h.size,⟨h.size,rfl,by rw[gQ,gF rfl],λ_=>lI⟩,λk hk=>⟨?_,λg=>g⟩,?_⟩
 ·subst hk;cases hφ:φ h.size with
  |none=>rfl
  |some o=>have:=Ay (hs _ _ hφ);omega
 ·refine StX.heap (StX.more H λk hk=> ?_) (λk hk _=>by rw[gQ];simp;omega) λi o ho=> ?_
  ·rcases hk with hk | hk
   ·exact hk.elim
   ·left;omega
  ·have hlt:=Ay (hs i o ho);show(h.push _)[i]? =some o;rw[gQ,gG (by omega)];exact hs i o ho
theorem St.nil {α:Type}(ty:TypeId) (r:Ro α) (H:St φ Γ h):St φ (⟨Rep.row ty r,[.slice none 0 0],[]⟩::Γ) h:=
 ⟨λ_=>False,⟨none,0,0,[],rfl,rfl,Nat.zero_le _,(λ_ _ _ h=>by cases h),.inl ⟨rfl,rfl,rfl,rfl⟩,.nil,λi=>by simp[blk]⟩,λ_ hk=>hk.elim,H.less λ_ hk=>hk.elim id id⟩
theorem St.lit {α:Type}{ty:TypeId}{r:Ro α}{b n:Nat}{vs:List Value}{l:List α}(H:St φ (⟨Rep.raw ty,[.pointer (some ⟨b,0,none⟩)],vs⟩::Γ) h) (ha:r.All φ vs l) (hn:l.length=n) (hb:n≤maxLen):
 St φ (⟨Rep.row ty r,[.slice (some ⟨b,0,none⟩) n n],l⟩::Γ) h:=by
 obtain⟨F,⟨b',e,hcell,hF⟩,a,H⟩:=H;cases e;refine⟨F,⟨_,n,n,vs,rfl,hn,hb,(λb' off s e=>by cases e;exact⟨rfl,λarr ty f harr=>by rw[hcell]at harr;cases harr;simp[ha.length,hn]⟩),.inr ⟨b,0,vs.toArray,rfl,hcell,by rw[ha.length,hn],jU _,by simp[ha.length,hn],λi v hv=>by simpa using hv⟩,ha,λi=>by rw[hF];simp[blk]⟩,a,H⟩
def Frz {α:Type}(R:Rep α) (r:Ro α):Prop:= ∀ {φ ψ:AD}{h:AE}{F:FU}{cs:List Value}{x:α},R.is φ h F cs x→Sub φ ψ→(∀i,F i→ψ i=h[i]?)→r.is ψ cs x
theorem St.freeze {α:Type}{R:Rep α}{r:Ro α}{cs:List Value}{x:α}(hz:Frz R r) (H:St φ (⟨R,cs,x⟩::Γ) h):∃ψ,Sub φ ψ∧r.is ψ cs x∧St ψ Γ h:=by
 classical
 obtain⟨F,a,b,H⟩:=H;have hs:=H.sub;have le:Sub φ (λi=>if F i then h[i]? else φ i):=λi o ho=>by
  show(if F i then h[i]? else φ i)=some o;rw[gG]
  ·exact ho
  ·intro hF;have e:=(b i hF).1;rw[e]at ho;cases ho
 refine⟨λi=>if F i then h[i]? else φ i,le,hz a le λi hi=>gF hi,?_⟩;refine StX.less (StX.grow H le (λi o ho=> ?_) λk hk hn=> ?_) λk hk=>hk.elim
 ·split at ho
  ·exact ho
  ·exact hs i o ho
 ·split at hk
  ·exact .inr (by assumption)
  ·exact gI hn hk
theorem Wl {α:Type}(r:Ro α):Frz (Rep.ro r) r:=λh hs _=>r.mono hs h.2
theorem Mc {ψ:AD}{p:gL}{vs:List Value}(hc:CX h p vs) (hψ:∀i,i∈blk p→ψ i=h[i]?):Ci ψ p vs:=λi v hv=>by
 obtain⟨a,rfl,hcell⟩:=hc i v hv;refine⟨a,rfl,?_⟩;have e:=hψ a.block (by simp[blk]);unfold EB;rw[QK,e]
 have:EB (Bj h) (a.add i)=some v:=hcell
 unfold EB at this;rw[QK]at this;exact this
theorem Yu {α:Type}(ty:TypeId) (r:Ro α):Frz (Rep.row ty r) (Ro.list r):=by
 rintro φ ψ h F cs l ⟨p,n,c,vs,rfl,hn,hc,hfu,ho,ha,hF⟩ hsub hψ;refine⟨(p,n,c),rfl,hn,ho.cap,hc,λhp=> ?_,vs,ha.mono hsub,Mc ho.cells λi hi=>hψ i ((hF i).2 hi)⟩;rcases ho with⟨_,a,_,_⟩|⟨b,off,arr,rfl,_⟩
 ·exact iA (by omega)
 ·cases hp
theorem Yv {α:Type}{ty:TypeId}{R:Rep α}{r:Ro α}(hr:Frz R r):Frz (Rep.obj ty R) (Ro.via (Ro.ptr r) some):=by
 rintro φ ψ h F cs x ⟨b,vs,G,rfl,hb,hR,hG,hF⟩ hsub hψ;have hc:CX h (some ⟨b,0,none⟩) vs:=λi v hv=>by
  refine⟨⟨b,0,none⟩,rfl,?_⟩;rw[Dt,Fu (c:=vs.toArray) (t:=ty) (f:=(0,0)) hb rfl];simpa using hv
 have hk:∀i,i∈blk (some (⟨b,0,none⟩:Addr))→ψ i=h[i]? :=λi hi=>by
  simp[blk]at hi;rw[hi];exact hψ b ((hF b).2 (.inl rfl))
 exact⟨⟨b,0,none⟩,vs,rfl,hr hR hsub λi hi=>hψ i ((hF i).2 (.inr hi)),Mc hc hk⟩
theorem St.cell {ty:TypeId}{b j:Nat}{vs:List Value}{v:Value}(H:St φ (⟨Rep.raw ty,[.pointer (some ⟨b,0,none⟩)],vs⟩::Γ) h) (hv:vs[j]? =some v):BW h ⟨b,j,none⟩=some v:=by
 obtain⟨F,⟨b',e,hb,hF⟩,a,H⟩:=H;cases e;rw[Fu (c:=vs.toArray) (t:=ty) (f:=(0,0)) hb rfl];simpa using hv
theorem St.cells {ty:TypeId}{b:Nat}{vs:List Value}(H:St φ (⟨Rep.raw ty,[.pointer (some ⟨b,0,none⟩)],vs⟩::Γ) h):CX h (some ⟨b,0,none⟩) vs:=λi v hv=>⟨_,rfl,by rw[Dt,jM];exact H.cell hv⟩
theorem St.put {ty:TypeId}{b j:Nat}{vs:List Value}(v:Value) (H:St φ (⟨Rep.raw ty,[.pointer (some ⟨b,0,none⟩)],vs⟩::Γ) h) (hj:j<vs.length):
 (BW h ⟨b,j,none⟩).isSome=true∧GQ h ⟨b,j,none⟩=false∧St φ (⟨Rep.raw ty,[.pointer (some ⟨b,0,none⟩)],vs.set j v⟩::Γ) (Cb h ⟨b,j,none⟩ v):=by
 obtain⟨F,⟨b',e,hb,hF⟩,a,H⟩:=H;cases e;refine⟨?_,?_,F,⟨b,rfl,?_,hF⟩,a,?_⟩
 ·rw[Fu (c:=vs.toArray) (t:=ty) (f:=(0,0)) hb rfl];simp;omega
 ·unfold GQ EX jT;simp[hb]
 ·rw[HG hb];simp
 ·have hs:=H.sub;have hne:∀k,¬F k→(Cb h ⟨b,j,none⟩ v)[k]? =h[k]? :=λk hk=>HF λe=>hk ((hF k).2 e);refine StX.heap H (λk _ hX=>hne k λg=>hX (.inr g)) λi o ho=> ?_;show(Cb h _ v)[i]? =some o;rw[hne i λg=>by rw[(a i g).1]at ho;cases ho];exact hs i o ho
theorem St.get {α:Type}{ty:TypeId}{r:Ro α}{t:Slc}{l:List α}{i:Int}{x:α}(H:St φ (⟨Rep.row ty r,[.slice t.1 t.2.1 t.2.2],l⟩::Γ) h) (hx:idx l i=some x):
 ∃a cs,t.1=some a∧(0≤i∧i< (t.2.1:Nat))∧r.is φ cs x∧ ∀j v,cs[j]? =some v→BW h (a.add (i.toNat *r.sz+j))=some v:=by
 obtain⟨F,⟨p,n,c,vs,e,hn,hc,hfu,ho,ha,hF⟩,m,H⟩:=H;have hn:l.length=n:=hn;simp only[List.cons.injEq,Value.slice.injEq,and_true]at e;obtain⟨d,f,o⟩:=e;have⟨g,q,hx⟩:=CC hx;have⟨cs,hr,hcs⟩:=ha.at hx;have hcells:=ho.cells;rw[d];cases p with
 |none=>
  rcases ho with⟨_,k,_,_⟩|⟨b,off,arr,hp,_⟩
  ·omega
  ·cases hp
 |some a=>
  refine⟨a,cs,rfl,⟨g,by rw[f];omega⟩,hr,λj v hv=> ?_⟩;obtain⟨a',ha',hcell⟩:=hcells _ v (hcs j v hv);cases ha';exact hcell
theorem St.rowLen {α:Type}{ty:TypeId}{r:Ro α}{t:Slc}{l:List α}(H:St φ (⟨Rep.row ty r,[.slice t.1 t.2.1 t.2.2],l⟩::Γ) h):t.2.1=l.length:=by
 obtain⟨F,⟨p,n,c,vs,e,hn,hc,hfu,ho,ha,hF⟩,a,H⟩:=H;have hn:l.length=n:=hn;simp only[List.cons.injEq,Value.slice.injEq,and_true]at e;omega
theorem St.rowMax {α:Type}{ty:TypeId}{r:Ro α}{t:Slc}{l:List α}(H:St φ (⟨Rep.row ty r,[.slice t.1 t.2.1 t.2.2],l⟩::Γ) h):l.length≤maxLen:=by
 obtain⟨F,⟨p,n,c,vs,e,hn,hc,hfu,ho,ha,hF⟩,a,H⟩:=H
 have:=ho.cap
 have hn:l.length=n:=hn;omega
theorem St.all {α:Type}{ty:TypeId}{r:Ro α}{t:Slc}{l:List α}(H:St φ (⟨Rep.row ty r,[.slice t.1 t.2.1 t.2.2],l⟩::Γ) h):∃vs,r.All φ vs l∧CX h t.1 vs:=by
 obtain⟨F,⟨p,n,c,vs,e,hn,hc,hfu,ho,ha,hF⟩,a,H⟩:=H;have hn:l.length=n:=hn;simp only[List.cons.injEq,Value.slice.injEq,and_true]at e;rw[e.1];exact⟨vs,ha,ho.cells⟩
end
section
variable {P:Program}{Q:Bh→AE→Prop}{φ:AD}{h:AE}{Γ:List Chk}
theorem AV {ty:TypeId}{vs:List Value}{k:Nat→T}(H:St φ Γ h) (hk:∀r h',St φ (⟨Rep.raw ty,[.pointer (some ⟨r,0,none⟩)],vs⟩::Γ) h'→(k r).wp P Q h'):(T.new (.cells vs.toArray ty (0,0)) k).wp P Q h:=
 Wh (hk _ _ (H.new vs))
theorem AG {s:BX}{a:Addr}{k:s.Ty→T}{x:s.Ty}{v:Value}(hc:BW h a=some v) (hv:v=s.val x) (H:(k x).wp P Q h):(T.load s a k).wp P Q h:=NQ x (by rw[hc,hv]) H
theorem AA {s:BX}{ty:TypeId}{b j:Nat}{vs:List Value}{k:s.Ty→T}{x:s.Ty}(H:St φ (⟨Rep.raw ty,[.pointer (some ⟨b,0,none⟩)],vs⟩::Γ) h) (hv:vs[j]? =some (s.val x)) (hk:(k x).wp P Q h):(T.load s ⟨b,j,none⟩ k).wp P Q h:=
 NQ x (H.cell hv) hk
theorem Cf {ty:TypeId}{b j:Nat}{vs:List Value}{v:Value}{k:T}(H:St φ (⟨Rep.raw ty,[.pointer (some ⟨b,0,none⟩)],vs⟩::Γ) h) (hp:Value.plain v=true) (hj:j<vs.length)
 (hk:∀h',St φ (⟨Rep.raw ty,[.pointer (some ⟨b,0,none⟩)],vs.set j v⟩::Γ) h'→k.wp P Q h'):(T.store ⟨b,j,none⟩ v k).wp P Q h:=by
 have⟨a,c,d⟩:=H.put v hj;exact Q3 hp a c (hk _ d)
theorem Ef {α:Type}{ty:TypeId}{r:Ro α}{t:Slc}{l m:List α}{i:Int}{x:α}{v:Value}{k:T}{a:Addr}(H:St φ (⟨Rep.row ty r,[.slice t.1 t.2.1 t.2.2],l⟩::Γ) h) (hm:DB l i x=some m) (hr:r.is φ [v] x) (ha:t.1=some a)
 (hk:∀h',St φ (⟨Rep.row ty r,[.slice t.1 t.2.1 t.2.2],m⟩::Γ) h'→k.wp P Q h'):(T.store (a.add (i.toNat *1)) v k).wp P Q h:=by
 obtain⟨F,⟨p,n,c,vs,e,hn,hc,hfu,ho,hall,hF⟩,q,H⟩:=H;have hn:l.length=n:=hn;simp only[List.cons.injEq,Value.slice.injEq,and_true]at e;obtain⟨s,z,A⟩:=e;obtain⟨J,K,rfl⟩:=Dr hm;have hsz:r.sz=1:=(r.len hr).symm;rw[s]at ha;subst ha;rcases ho with⟨hp,_⟩|⟨b,off,arr,hp,hb,B,C,D,E⟩
 ·cases hp
 ·cases hp;rw[hsz]at B D;have hlt:off+i.toNat<arr.size:=by omega
  have hcell:(kU ⟨b,off,none⟩ (i.toNat *1))=⟨b,off+i.toNat,none⟩:=by rw[Dt,Nat.mul_one]
  rw[hcell];have d:=HG (off:=off+i.toNat) (v:=v) hb;refine Q3 (r.plain hr v (by simp)) ?_ ?_ (hk _ ?_)
  ·rw[Fu (c:=arr) (t:=ty) (f:=(0,0)) hb rfl];simp;omega
  ·unfold GQ EX jT;simp[hb]
  ·have hs:=H.sub;have hne:∀k,¬F k→(Cb h ⟨b,off+i.toNat,none⟩ v)[k]? =h[k]? :=λk hk=>HF λe=>hk ((hF k).2 (by simp[blk];exact e));refine⟨F,⟨some ⟨b,off,none⟩,n,c,vs.set i.toNat v,by rw[s,z,A],by simp;exact hn,hc,(λb' off' s' e=>by cases e;have⟨G,I⟩:=hfu _ _ _ rfl;exact⟨G,λarr' ty' f' harr=>by rw[d]at harr;cases harr;rw[jB];exact I _ _ _ hb⟩),.inr ⟨b,off,_,rfl,d,by simp[hsz];omega,C,by simp[hsz];omega,λj u hu=> ?_⟩,?_,hF⟩,q,StX.heap H (λk _ hX=>hne k λg=>hX (.inr g)) λj o ho=> ?_⟩
   ·rw[lU]at hu;split at hu
    ·rename_i hj
     subst hj;split at hu
     ·cases hu;rw[iC];simp;omega
     ·cases hu
    ·rw[gP (by omega)];exact E j u hu
   ·clear hk d hne hm
    have:∀ {vs:List Value} {l:List α},r.All φ vs l→ ∀i:Nat,r.All φ (vs.set i v) (l.set i x):=by
     intro vs l hall
     induction hall with
     |nil=>intro i;simp;exact .nil
     | @cons a b y l hy hb ih=>
      intro i;have hl:a.length=1:=by rw[r.len hy,hsz]
      match a,hl with
      | [w],_=>
       cases i with
       |zero=>exact .cons (a:=[v]) hr hb
       |succ i=>exact .cons (a:=[w]) hy (ih i)
    exact this hall i.toNat
   ·show(Cb h _ v)[j]? =some o;rw[hne j λg=>by rw[(q j g).1]at ho;cases ho];exact hs j o ho
theorem AX {α:Type}{st xt rt elem:TypeId}{sz:Nat}{r:Ro α}{p xp:gL}{n c m xc:Nat}{l l':List α}{ms:List α}{ws:List Value}{k:Slc→T}(A:Fv P st xt elem sz)
 (H:St φ (⟨Rep.row elem r,[.slice p n c],l⟩::Γ) h) (hsz:r.sz=sz) (hw:CX h xp ws) (ha:r.All φ ws ms) (hm:ms.length=m) (hD:app l ms=some l')
 (hk:∀(t:Slc) h',St φ (⟨Rep.row elem r,[.slice t.1 t.2.1 t.2.2],l'⟩::Γ) h'→(k t).wp P Q h'):
 (T.sem (jV #[st,xt] rt #[.slice p n c,.slice xp m xc]) (.one (.atom .slice)) k).wp P Q h:=by
 obtain⟨F,⟨p',n',c',vs,e,hn,hc,hfu,ho,hall,hF⟩,a,H⟩:=H;have hn:l.length=n':=hn;simp only[List.cons.injEq,Value.slice.injEq,and_true]at e;obtain⟨rfl,rfl,rfl⟩:=e;obtain⟨hle,rfl⟩:=Hp hD;subst hsz;have hs:=H.sub;refine t_sem (Tj A ho hw (by rw[ha.length,hm]) ha.plain (by omega) λp' c' h' o' k' n' g'=>⟨(p',n+m,c'),rfl,hk _ _ ?_⟩);have hFk:∀k,k<h.size→ ¬F k→h'[k]? =h[k]? :=λk hk hF'=>k'.2 k hk λhb=>hF' ((hF k).2 hb);refine⟨λi=>i∈blk p',⟨p',n+m,c',vs++ws,rfl,by simp;omega,?_,?_,o',hall.append ha,λi=>lI⟩,λk hk=>⟨?_,λg=>g⟩,?_⟩
 ·rcases g' with⟨_,rfl,_⟩|⟨_,g,_⟩
  ·exact hc
  ·exact g
 ·intro b off s e;rcases g' with⟨rfl,rfl,g⟩|⟨rfl,_,arr,j,q⟩
  ·subst e;have⟨u,v⟩:=hfu _ _ _ rfl;refine⟨u,λarr ty f harr=> ?_⟩;rcases ho with⟨hp,_⟩|⟨b',off',arr',hp,hb',_⟩
   ·cases hp
   ·cases hp;have⟨d,w,x⟩:=g _ _ rfl _ _ hb';rw[w]at harr;cases harr;rw[x];exact v _ _ _ hb'
  ·cases e;refine⟨rfl,λarr' ty f harr=> ?_⟩;rw[j]at harr;cases harr;exact q
 ·rcases n' k hk with g | g
  ·exact(a k ((hF k).2 g)).1
  ·cases hφ:φ k with
   |none=>rfl
   |some o=>have:=Ay (hs _ _ hφ);omega
 ·have H1:StX φ h Γ (λk=>F k∨h.size≤k):=StX.more H λk hk=>by
   rcases hk with hk | hk
   ·exact .inr (.inl (.inr hk))
   ·exact .inl hk
  have H2:StX φ h' Γ (λk=>F k∨h.size≤k):=StX.heap H1 (λk hk hX=>hFk k hk λg=>hX (.inl g)) λi o ho=>by
   show h'[i]? =some o;rw[hFk i (Ay (hs i o ho)) λg=>by rw[(a i g).1]at ho;cases ho];exact hs i o ho
  refine H2.less λk hk=> ?_;rcases hk with hk | hk
  ·exact hk.elim
  ·exact(n' k hk).imp (λg=>(hF k).2 g) id
theorem AK {f:FuncId}{args:List Value}{sh:Sh}{k:sh.Ty→T}{S:Value→AE→Prop}(hc:CallsH P f args h (Ap S)) (hk:∀v h',S v h'→ ∃x,v=sh.val x∧(k x).wp P Q h'):(T.call f args sh k).wp P Q h:=
 Yt hc hk
theorem QL {p:Nat→Prop}(h:∃n,p n):∃n,p n∧ ∀m,p m→n≤m:=by
 obtain⟨n,hn⟩:=h
 induction n using Nat.strongRecOn with
 |ind n ih=>
  by_cases hx:∃m,m<n∧p m
  ·obtain⟨m,hm,hp⟩:=hx;exact ih m hm hp
  ·refine⟨n,hn,λm hm=> ?_⟩;rcases hZ m n with g | g
   ·exact gI ⟨m,g,hm⟩ hx
   ·exact g
def ah {γ:Type}(ss:List Sh1) (M:Shs.Ty ss→AE→γ→Prop) (g:γ) (Q:Bh→AE→Prop) (lf:Bh) (h':AE):Prop:=match lf with
 |.out vs=>∃y,Shs.of ss vs=some y∧M y h' g
 |lf=>Q lf h'
theorem Aa {γ:Type}{ss:List Sh1}{x:T}{k:Shs.Ty ss→T}(M:Shs.Ty ss→AE→γ→Prop) {g:γ}(H:x.wp P (ah ss M g Q) h) (hk:∀y h',M y h' g→(k y).wp P Q h'):(T.join ss x k).wp P Q h:=
 Yq (λy h'=>M y h' g) (T.wp_mono x (λlf h' hl=>by cases lf<;>exact hl) H) hk
theorem AO {γ:Type}{ss:List Sh1}{M:Shs.Ty ss→AE→γ→Prop}{g:γ}{vs:List Value}(y:Shs.Ty ss) (hy:Shs.of ss vs=some y) (hM:M y h g):(T.out vs).wp P (ah ss M g Q) h:=⟨y,hy,hM⟩
theorem Wm {γ:Type}{ss:List Sh1}{M:Shs.Ty ss→AE→γ→Prop}{g:γ}{v:Value}(H:Q (.ret v) h):ah ss M g Q (.ret v) h:=H
def JK {γ:Type}(id:Nat) (ss:List Sh1) (M:Shs.Ty ss→AE→γ→Prop) (g:γ) (Q:Bh→AE→Prop) (lf:Bh) (h':AE):Prop:=match lf with
 |.out vs=>∃y,Shs.of ss vs=some y∧M y h' g
 |.brk id' vs=>bif gX id' id then(∃y,Shs.of ss vs=some y∧M y h' g) else Q (.brk id' vs) h'
 |lf=>Q lf h'
theorem Ag {γ:Type}{id:Nat}{ss:List Sh1}{x:T}{k:Shs.Ty ss→T}(M:Shs.Ty ss→AE→γ→Prop) {g:γ}(H:x.wp P (JK id ss M g Q) h) (hk:∀y h',M y h' g→(k y).wp P Q h'):(T.block id ss x k).wp P Q h:=
 Wj (λy h'=>M y h' g) (T.wp_mono x (λlf h' hl=>by cases lf<;>exact hl) H) hk
section
variable {γ:Type}{id:Nat}{ss:List Sh1}{M:Shs.Ty ss→AE→γ→Prop}{g:γ}
theorem FG {vs:List Value}(y:Shs.Ty ss) (hy:Shs.of ss vs=some y) (hM:M y h g):(T.out vs).wp P (JK id ss M g Q) h:=⟨y,hy,hM⟩
theorem Oj {vs:List Value}(y:Shs.Ty ss) (hy:Shs.of ss vs=some y) (hM:M y h g):(T.brk id vs).wp P (JK id ss M g Q) h:=by
 show JK id ss M g Q (.brk id vs) h;unfold JK
 have:gX id id=true:=by simp
 simp only[this,cond_true];exact⟨y,hy,hM⟩
theorem AL {vs:List Value}(y:Shs.Ty ss) (hy:Shs.of ss vs=some y) (hM:M y h g):JK id ss M g Q (.brk id vs) h:=by
 unfold JK
 have:gX id id=true:=by simp
 simp only[this,cond_true];exact⟨y,hy,hM⟩
theorem Al {v:Value}(H:Q (.ret v) h):JK id ss M g Q (.ret v) h:=H
end
def GI {σ:Type}(ss:List Sh1) (I:Shs.Ty ss→AE→σ→Prop) (e:Option σ) (Q:Bh→AE→Prop) (lf:Bh) (h':AE):Prop:=match lf with
 |.out vs=>∃y s,Shs.of ss vs=some y∧e=some s∧I y h' s
 |lf=>Q lf h'
def AW.go {σ β:Type}:AW σ β→Option σ
 |.next s=>some s
 |.done _=>none
theorem CA {σ β:Type}{ss:List Sh1}{init:List Value}{body:Shs.Ty ss→T}{d:σ→Option (AW σ β)}{a:σ}{b:β}(hD:loop a d=some b) (I:Shs.Ty ss→AE→σ→Prop) (f:Shs.Ty ss) (j:Shs.of ss init=some f) (hi:I f h a)
 (hr:∀y h s e,I y h s→d s=some e→(∀b',e= .done b'→b'=b)→(body y).wp P (GI ss I e.go Q) h):(T.loop ss init body).wp P Q h:=by
 have⟨k,i⟩:=Ee.1 hD
 classical
 let μ:Shs.Ty ss→AE→Nat:=λy h=>if hx:∃n s,I y h s∧HW d n s=some b then(QL hx).choose else 0
 refine af (λy h=>∃n s,I y h s∧HW d n s=some b) μ f j ⟨k,a,hi,i⟩ λy g hx=> ?_;obtain⟨⟨s,hI,hn⟩,hmin⟩:=(QL hx).choose_spec;have hμ:μ y g=(QL hx).choose:=dif_pos hx;rw[hμ]
 generalize (QL hx).choose=n at hn hmin
 cases n with
 |zero=>cases hn
 |succ n=>
  simp only[HW]at hn;cases hd:d s with
  |none=>rw[hd]at hn;cases hn
  |some e=>
   rw[hd]at hn;refine T.wp_mono _ (λlf h' hl=> ?_) (hr y g s e hI hd λb' hb=>by subst hb;exact Option.some.inj hn);cases lf with
   |out vs=>
    obtain⟨y',s',hy,he,hI'⟩:=hl;cases e with
    |done b'=>cases he
    |next s''=>
     cases he;have hx':∃n s,I y' h' s∧HW d n s=some b:=⟨n,_,hI',hn⟩;refine Ve y' hy hx' ?_;have l:μ y' h'=(QL hx').choose:=dif_pos hx';have m:=(QL hx').choose_spec.2 n ⟨_,hI',hn⟩;omega
   |brk id vs=>exact hl
   |ret v=>exact hl
   |pan c=>exact hl
theorem AZ {σ:Type}{ss:List Sh1}{I:Shs.Ty ss→AE→σ→Prop}{e:Option σ}{vs:List Value}(y:Shs.Ty ss) (s:σ) (hy:Shs.of ss vs=some y) (he:e=some s) (hI:I y h s):(T.out vs).wp P (GI ss I e Q) h:=⟨y,s,hy,he,hI⟩
theorem AI {σ:Type}{ss:List Sh1}{I:Shs.Ty ss→AE→σ→Prop}{e:Option σ}{id:Nat}{vs:List Value}(H:Q (.brk id vs) h):GI ss I e Q (.brk id vs) h:=H
theorem Aj {σ:Type}{ss:List Sh1}{I:Shs.Ty ss→AE→σ→Prop}{e:Option σ}{v:Value}(H:Q (.ret v) h):GI ss I e Q (.ret v) h:=H
theorem Tm {σ β:Type}{f:Int→σ→Option (AW σ β)}{e:Int}{r:AW σ β}:∀ {n:Nat}{i:Int}{s:σ},(e - i).toNat=n→JJ f n i s=some r→
 loop (i,s) (λx=>if x.1<e then(f x.1 x.2).bind λq=>match q with | .next s'=>some (.next (x.1+1,s'))|.done b=>some (.done (AW.done b)) else some (.done (.next x.2)))=some r:=by
 intro n
 induction n with
 |zero=>
  intro i s hn h;rw[Q6,gG (by dsimp only;omega)];exact h
 |succ n ih=>
  intro i s hn h;rw[Q6,gF (by dsimp only;omega)];simp only[JJ]at h;dsimp only;cases hf:f i s with
  |none=>rw[hf]at h;cases h
  |some q=>
   rw[hf]at h;cases q with
   |done b=>exact h
   |next s'=>exact ih (by omega) h
theorem NR {σ β:Type}{ss:List Sh1}{init:List Value}{body:Shs.Ty ss→T}{f:Int→σ→Option (AW σ β)}{a b:Int}{g:σ}{r:AW σ β}(hD:DE a b g f=some r) (I:Int→Shs.Ty ss→AE→σ→Prop) (d:Shs.Ty ss) (j:Shs.of ss init=some d) (hi:I a d h g)
 (hr:∀i y h s e,I i y h s→f i s=some e→a≤i→i<b→iY .i64 (i+1)=i+1→(∀b',e= .done b'→r= .done b')→(body y).wp P (GI ss (I (i+1)) e.go Q) h)
 (hx:∀i y h s,I i y h s→b≤i→r= .next s→(body y).wp P (GI ss (I i) (none:Option σ) Q) h):(T.loop ss init body).wp P Q h:=by
 unfold DE at hD;split at hD
 ·rename_i hg
  have hl:=Tm rfl hD;refine CA hl (λy h x=>a≤x.1∧I x.1 y h x.2) d j ⟨Int.le_refl _,hi⟩ λy h x e ⟨hle,hI⟩ he hb=> ?_;by_cases hlt:x.1<b
  ·rw[gF hlt]at he;cases hf:f x.1 x.2 with
   |none=>rw[hf]at he;cases he
   |some q=>
    rw[hf]at he;refine T.wp_mono _ (λlf h' hl=> ?_) (hr x.1 y h x.2 q hI hf hle hlt (w64 (by omega) (by omega)) λb' hq=> ?_)
    ·cases lf with
     |out vs=>
      obtain⟨y',s',hy,hq,hI'⟩:=hl;cases q with
      |done b'=>cases hq
      |next s''=>
       cases hq;cases he;exact⟨y',_,hy,rfl,by dsimp only;omega,hI'⟩
     |brk id vs=>exact hl
     |ret v=>exact hl
     |pan c=>exact hl
    ·subst hq;cases he;exact(hb _ rfl).symm
  ·rw[gG hlt]at he;cases he;refine T.wp_mono _ (λlf h' hl=> ?_) (hx x.1 y h x.2 hI (by omega) (hb _ rfl).symm);cases lf with
   |out vs=>obtain⟨y',s',hy,hq,hI'⟩:=hl;cases hq
   |brk id vs=>exact hl
   |ret v=>exact hl
   |pan c=>exact hl
 ·cases hD
theorem Vg {σ:Type}{f:Int→σ→Option σ}:∀ {n:Nat}{i:Int}{s r:σ},L7 f n i s=some r→JJ (β:=Empty) (λi s=>(f i s).map AW.next) n i s=some (.next r):=by
 intro n
 induction n with
 |zero=>intro i s r h;simp only[L7]at h;simp only[JJ];cases h;rfl
 |succ n ih=>
  intro i s r h;simp only[L7]at h;simp only[JJ];cases hf:f i s with
  |none=>rw[hf]at h;cases h
  |some s'=>rw[hf]at h;exact ih h
theorem By {σ:Type}{ss:List Sh1}{init:List Value}{body:Shs.Ty ss→T}{f:Int→σ→Option σ}{a b:Int}{c r:σ}(hD:forS a b c f=some r) (I:Int→Shs.Ty ss→AE→σ→Prop) (d:Shs.Ty ss) (g:Shs.of ss init=some d) (hi:I a d h c)
 (hr:∀i y h s e,I i y h s→f i s=some e→a≤i→i<b→iY .i64 (i+1)=i+1→(body y).wp P (GI ss (I (i+1)) (some e) Q) h)
 (hx:∀i y h,I i y h r→b≤i→(body y).wp P (GI ss (I i) (none:Option σ) Q) h):(T.loop ss init body).wp P Q h:=by
 unfold forS at hD;split at hD
 ·rename_i hg
  have hD':DE (β:=Empty) a b c (λi s=>(f i s).map AW.next)=some (.next r):=by
   unfold DE;rw[gF hg];exact Vg hD
  refine NR hD' I d g hi (λi y h s e hI he j k hw hb=> ?_) λi y h s hI he hs=> ?_
  ·cases hf:f i s with
   |none=>rw[hf]at he;cases he
   |some s'=>
    rw[hf]at he;cases he;exact hr i y h s s' hI hf j k hw
  ·cases hs;exact hx i y h hI he
 ·cases hD
theorem BM {σ:Type}{id:Nat}{ss:List Sh1}{init:List Value}{body k:Shs.Ty ss→T}{f:Int→σ→Option σ}{a b:Int}{d r:σ}(hD:forS a b d f=some r) (I:Int→Shs.Ty ss→AE→σ→Prop) (c:Shs.Ty ss) (j:Shs.of ss init=some c) (hi:I a c h d)
 (hr:∀i y h s e,I i y h s→f i s=some e→a≤i→i<b→iY .i64 (i+1)=i+1→(body y).wp P (GI ss (I (i+1)) (some e) (JK id ss (λy h g=>∃i,I i y h g) r Q)) h)
 (hx:∀i y h,I i y h r→b≤i→(body y).wp P (GI ss (I i) (none:Option σ) (JK id ss (λy h g=>∃i,I i y h g) r Q)) h)
 (hk:∀y h',(∃i,I i y h' r)→(k y).wp P Q h'):(T.block id ss (T.loop ss init body) k).wp P Q h:=
 Ag (λy h g=>∃i,I i y h g) (By hD I c j hi hr hx) hk
theorem BZ {σ β:Type}{id:Nat}{ss:List Sh1}{init:List Value}{body k:Shs.Ty ss→T}{f:Int→σ→Option (AW σ β)}{a b:Int}{d:σ}{r:AW σ β}(hD:DE a b d f=some r) (I:Int→Shs.Ty ss→AE→σ→Prop) (c:Shs.Ty ss) (j:Shs.of ss init=some c) (hi:I a c h d)
 (hr:∀i y h s e,I i y h s→f i s=some e→a≤i→i<b→iY .i64 (i+1)=i+1→(∀b',e= .done b'→r= .done b')→(body y).wp P (GI ss (I (i+1)) e.go (JK id ss (λy h g=>∃s,AW.next s=g∧ ∃i,I i y h s) r Q)) h)
 (hx:∀i y h s,I i y h s→b≤i→r= .next s→(body y).wp P (GI ss (I i) (none:Option σ) (JK id ss (λy h g=>∃s,AW.next s=g∧ ∃i,I i y h s) r Q)) h)
 (hk:∀y h',(∃s,AW.next s=r∧ ∃i,I i y h' s)→(k y).wp P Q h'):(T.block id ss (T.loop ss init body) k).wp P Q h:=
 Ag (λy h g=>∃s,AW.next s=g∧ ∃i,I i y h s) (NR hD I c j hi hr hx) hk
def need {α:Type}(p:Prop) [Decidable p] (k:Option α):Option α:=if p then k else none
theorem CD {α:Type}{p:Prop}[Decidable p] {k:Option α}{x:α}(h:need p k=some x):p∧k=some x:=by
 unfold need at h;split at h
 ·exact⟨by assumption,h⟩
 ·cases h
def AW.get {σ:Type}:AW σ σ→σ
 |.next s=>s
 |.done s=>s
theorem AH {γ:Type}{b bD:Bool}{x y:T}{dx dy:Option γ}{g:γ}(hd:cond bD dx dy=some g) (e:b=bD) (hx:bD=true→dx=some g→x.wp P Q h) (hy:bD=false→dy=some g→y.wp P Q h):(cond b x y).wp P Q h:=by
 subst e;cases b
 ·exact hy rfl hd
 ·exact hx rfl hd
theorem C7 {γ:Type}{p pD:Prop}[Decidable p] [Decidable pD] {k:T}{d:Option γ}{g:γ}(hd:need pD d=some g) (e:pD→p) (hk:pD→d=some g→k.wp P Q h):(chk p k).wp P Q h:=by
 have⟨a,b⟩:=CD hd;exact Ah (e a) (hk a b)
theorem St.at1 {a b:Chk}(H:St φ (a::b::Γ) h):St φ (b::a::Γ) h:=H.perm (jZ b a Γ)
theorem St.at2 {a b c:Chk}(H:St φ (a::b::c::Γ) h):St φ (c::a::b::Γ) h:=H.perm (BF 2 (a::b::c::Γ))
theorem St.at3 {a b c d:Chk}(H:St φ (a::b::c::d::Γ) h):St φ (d::a::b::c::Γ) h:=H.perm (BF 3 (a::b::c::d::Γ))
theorem St.at4 {a b c d e:Chk}(H:St φ (a::b::c::d::e::Γ) h):St φ (e::a::b::c::d::Γ) h:=H.perm (BF 4 (a::b::c::d::e::Γ))
theorem St.at5 {a b c d e f:Chk}(H:St φ (a::b::c::d::e::f::Γ) h):St φ (f::a::b::c::d::e::Γ) h:=H.perm (BF 5 (a::b::c::d::e::f::Γ))
theorem St.at6 {a b c d e f g:Chk}(H:St φ (a::b::c::d::e::f::g::Γ) h):St φ (g::a::b::c::d::e::f::Γ) h:=H.perm (BF 6 (a::b::c::d::e::f::g::Γ))
theorem St.at7 {a b c d e f g i:Chk}(H:St φ (a::b::c::d::e::f::g::i::Γ) h):St φ (i::a::b::c::d::e::f::g::Γ) h:=H.perm (BF 7 (a::b::c::d::e::f::g::i::Γ))
theorem St.at8 {a b c d e f g i j:Chk}(H:St φ (a::b::c::d::e::f::g::i::j::Γ) h):St φ (j::a::b::c::d::e::f::g::i::Γ) h:=H.perm (BF 8 (a::b::c::d::e::f::g::i::j::Γ))
theorem St.at9 {a b c d e f g i j k:Chk}(H:St φ (a::b::c::d::e::f::g::i::j::k::Γ) h):St φ (k::a::b::c::d::e::f::g::i::j::Γ) h:=H.perm (BF 9 (a::b::c::d::e::f::g::i::j::k::Γ))
theorem Ro.SliceIs.heap {α:Type}{r:Ro α}{t:Slc}{l:List α}(H:Ro.SliceIs r φ t l) (hs:Sub φ (Bj h)):∃vs,r.All φ vs l∧CX h t.1 vs:=by
 obtain⟨_,_,_,_,vs,ha,hc⟩:=H;exact⟨vs,ha,hc.heap hs⟩
theorem St.rowCs {α:Type}{ty:TypeId}{r:Ro α}{cs:List Value}{l:List α}(H:St φ (⟨Rep.row ty r,cs,l⟩::Γ) h):∃t:Slc,cs= [.slice t.1 t.2.1 t.2.2]:=by
 obtain⟨F,⟨p,n,c,vs,e,_⟩,_⟩:=H;exact⟨(p,n,c),e⟩
theorem St.freezeRow {α:Type}{ty:TypeId}{r:Ro α}{t:Slc}{l:List α}(H:St φ (⟨Rep.row ty r,[.slice t.1 t.2.1 t.2.2],l⟩::Γ) h):∃ψ,Sub φ ψ∧Ro.SliceIs r ψ t l∧St ψ Γ h:=by
 obtain⟨ψ,i,⟨t',e,j⟩,k⟩:=H.freeze (Yu ty r);simp only[List.cons.injEq,Value.slice.injEq,and_true]at e;obtain⟨d,f,g⟩:=e
 have:t=t':=by
  obtain⟨a,b,c⟩:=t;obtain⟨a',b',c'⟩:=t';simp only at d f g;rw[d,f,g]
 subst this;exact⟨ψ,i,j,k⟩
theorem St.there {α:Type}{ty:TypeId}{r:Ro α}{t:Slc}{l m:List α}{i:Int}{x:α}(H:St φ (⟨Rep.row ty r,[.slice t.1 t.2.1 t.2.2],l⟩::Γ) h) (hm:DB l i x=some m):∃a,t.1=some a∧(0≤i∧i< (t.2.1:Nat)):=by
 have⟨c,b,_⟩:=Dr hm;have hlt:i.toNat<l.length:=by omega
 have:idx l i=some l[i.toNat]:=by unfold idx;rw[gF c];exact iJ hlt
 have⟨a,_,b,d,_⟩:=H.get this;exact⟨a,b,d⟩
theorem Ci.at {a:Addr}{vs:List Value}(H:Ci φ (some a) vs) (j:Nat) {v:Value}(hv:vs[j]? =some v):EB φ (a.add j)=some v:=by
 obtain⟨a',e,hc⟩:=H j v hv;cases e;exact hc
theorem St.keep {h':AE}(H:St φ Γ h) (hs:Sub (Bj h) (Bj h')):St φ Γ h':=by
 refine StX.heap H (λk hk _=> ?_) (H.sub.trans hs);have a:Bj h k=some h[k]:=jA hk;have b:=hs _ _ a;show h'[k]? =h[k]?;have c:h'[k]? =some h[k]:=b;rw[c,jA hk]
end
def defers (ops:Array Oper):Bool:=match ops[ops.size - 1]? with
 |some o=>match o.op with
  |.defer _=>true
  |_=>false
 |none=>false
section
variable {P:Program}{ops:Array Oper}
end
section
variable {P:Program}{Q:Bh→AE→Prop}{φ:AD}{h:AE}{Γ:List Chk}
theorem St.ptr {α:Type}{ty:TypeId}{R:Rep α}{p:gL}{x:α}(H:St φ (⟨Rep.obj ty R,[.pointer p],x⟩::Γ) h):∃b,p=some ⟨b,0,none⟩:=by
 obtain⟨b,vs,e,_⟩:=H.open;exact⟨b,by simpa using e⟩
end
end Go.Eng
namespace Go.Eng
open Go Go.Sort
theorem St.rowPut {α:Type}{φ:AD}{h h':AE}{Γ:List Chk}{ty:TypeId}{r:Ro α}{t:Slc}{l m:List α}{vs':List Value}
 (H:St φ (⟨Rep.row ty r,[.slice t.1 t.2.1 t.2.2],l⟩::Γ) h) (hall:r.All φ vs' m) (hm:m.length=l.length)
 (hb:∀b off,t.1=some ⟨b,off,none⟩→ ∀arr,h[b]? =some (.cells arr ty (0,0))→ ∃arr',h'[b]? =some (.cells arr' ty (0,0))∧arr'.size=arr.size∧ ∀i v,vs'[i]? =some v→arr'[off+i]? =some v)
 (hk:∀k,k<h.size→(∀b off,t.1=some ⟨b,off,none⟩→k≠b)→h'[k]? =h[k]?):St φ (⟨Rep.row ty r,[.slice t.1 t.2.1 t.2.2],m⟩::Γ) h':=by
 have hs:=H.sub;obtain⟨F,⟨p,n,c,vs,e,hn,hc,hfu,ho,s,hF⟩,u,H⟩:=H;have hn:l.length=n:=hn;simp only[List.cons.injEq,Value.slice.injEq,and_true]at e;obtain⟨q,x,y⟩:=e;have hvs:vs'.length=n *r.sz:=by rw[hall.length,hm,hn]
 rcases ho with⟨hp,a,w,B⟩|⟨b,off,arr,hp,d,J,C,D,K⟩
 ·have hne:∀b off,t.1≠some ⟨b,off,none⟩:=λb off he=>by rw[q,hp]at he;cases he
  have hkk:∀k,k<h.size→h'[k]? =h[k]? :=λk hk'=>hk k hk' λb off he=>gI he (hne b off);refine⟨F,⟨p,n,c,vs',by rw[q,x,y],by rw[hm];exact hn,hc,?_,.inl ⟨hp,a,w,?_⟩,hall,hF⟩,u,StX.heap H (λk hk' _=>hkk k hk') λj o ho=> ?_⟩
  ·intro b' off' s' he;rw[hp]at he;cases he
  ·exact iA (by rw[hvs,a];omega)
  ·have f:=hs j o ho
   have:=Ay f
   show h'[j]? =some o;rw[hkk j this];exact f
 ·have g:t.1=some ⟨b,off,none⟩:=by rw[q,hp]
  obtain⟨arr',z,A,E⟩:=hb b off g arr d;have hkk:∀k,k<h.size→k≠b→h'[k]? =h[k]? :=λk hk' hkb=>hk k hk' λb' off' he=>by rw[g]at he;cases he;exact hkb
  have hbF:F b:=(hF b).2 (by rw[hp];simp[blk]);refine⟨F,⟨p,n,c,vs',by rw[q,x,y],by rw[hm];exact hn,hc,?_,.inr ⟨b,off,arr',hp,z,hvs,C,by rw[A];exact D,E⟩,hall,hF⟩,u,
   StX.heap H (λk hk' hX=>hkk k hk' λhe=>hX (.inr (by rw[he];exact hbF))) λj o ho=> ?_⟩
  ·intro b' off' s' he;rw[hp]at he;cases he;have⟨G,I⟩:=hfu _ _ _ hp;exact⟨G,λarr'' ty' f' harr=>by rw[z]at harr;cases harr;rw[A];exact I _ _ _ d⟩
  ·have f:=hs j o ho;have hlt:=Ay f;have hjb:j≠b:=λhe=>by
    have:=(u b hbF).1
    rw[he,this]at ho;cases ho
   show h'[j]? =some o;rw[hkk j hlt hjb];exact f
theorem St.rowHolds {α β:Type}[Inhabited β] {φ:AD}{w:World}{Γ:List Chk}{ty:TypeId}{r:Ro α}{t:Slc}{l:List α}(H:St φ (⟨Rep.row ty r,[.slice t.1 t.2.1 t.2.2],l⟩::Γ) w.heap)
 (hsz:r.sz=1) (enc:β→Value) (hbs:∀vs,r.All φ vs l→ ∃bs:List β,vs=bs.map enc):
 (l= [] ∧t.2.1=0)∨ ∃(b off:Nat) (bs:List β),t.1=some ⟨b,off,none⟩∧r.All φ (bs.map enc) l∧t.2.1=bs.length∧l.length=bs.length∧b<w.heap.size∧(∀arr,w.heap[b]? =some (.cells arr ty (0,0))→off+l.length≤arr.size)∧Sort.Holds enc w b off bs.toArray:=by
 obtain⟨F,⟨p,n,c,vs,e,hn,hc,hfu,ho,hall,hF⟩,o,H⟩:=H;have hn:l.length=n:=hn;simp only[List.cons.injEq,Value.slice.injEq,and_true]at e;obtain⟨d,q,s⟩:=e;rcases ho with⟨hp,f,g,h⟩|⟨b,off,arr,hp,a,i,u,k,m⟩
 ·exact .inl ⟨iA (by omega),by omega⟩
 ·right
  obtain⟨bs,rfl⟩:=hbs vs hall;have hlen:bs.length=n:=by
   rw[List.length_map,hsz]at i;omega
  refine⟨b,off,bs,by rw[d,hp],hall,by omega,by omega,Ay a,λarr' ha=> ?_,λj hj=> ?_⟩
  ·rw[a]at ha;cases ha;rw[hsz]at k;omega
  have hj':j<bs.length:=by simpa using hj
  have hc:=m j (enc bs[j]) (by rw[lV,iJ hj'];rfl);refine⟨?_,?_⟩
  ·unfold World.cell?;dsimp only;rw[a];dsimp only;rw[getElem!_pos _ j hj];simpa using hc
  ·unfold jT;dsimp only;rw[a];simp
theorem St.rowSorted {α β:Type}[Inhabited β] {φ:AD}{w:World}{Γ:List Chk}{ty:TypeId}{r:Ro α}{t:Slc}{l m:List α}(H:St φ (⟨Rep.row ty r,[.slice t.1 t.2.1 t.2.2],l⟩::Γ) w.heap)
 {b off:Nat} (ht:t.1=some ⟨b,off,none⟩) (enc:β→Value) (ms:List β) (hall:r.All φ (ms.map enc) m) (hm:m.length=l.length) (hms:ms.length=l.length) (hfit:∀arr,w.heap[b]? =some (.cells arr ty (0,0))→off+l.length≤arr.size) (k:Nat) (os:Array Obj):
 St φ (⟨Rep.row ty r,[.slice t.1 t.2.1 t.2.2],m⟩::Γ) (grow (putRow enc (Sort.ahead w k) b off ms.toArray) os).heap:=by
 have hheap:(grow (putRow enc (Sort.ahead w k) b off ms.toArray) os).heap=w.heap.modify b (onCells (putCells enc off ms.toArray)) ++os:=rfl;rw[hheap];refine H.rowPut hall hm (λb' off' he arr harr=> ?_) λj hj hne=> ?_
 ·rw[ht]at he;cases he;have hlt:=Ay harr;refine⟨putCells enc off ms.toArray arr,?_,by simp[putCells],λi v hv=> ?_⟩
  ·rw[iW (by simpa using hlt),iP,gF rfl,harr];rfl
  ·rw[lV,Option.map_eq_some_iff]at hv;obtain⟨x,hx,rfl⟩:=hv;have hi:i<ms.length:=by
    rcases hZ i ms.length with g | g
    ·exact g
    ·rw[gW g]at hx;cases hx
   have hf:=hfit arr harr;unfold putCells;rw[Array.getElem?_mapIdx,jA (by omega)];have hc:off≤off+i∧off+i<off+ms.toArray.size:=by simp;exact hi
   simp only[Option.map_some];rw[gF hc,jJ,getElem!_pos _ i (by simpa using hi)];rw[iJ hi]at hx;cases hx;simp
 ·rw[iW (by simpa using hj),iP,gG λe=>hne b off ht e.symm]
end Go.Eng
namespace Go.Eng
open Go
theorem QM (a b:gN):(a==b)=decide (a=b):=by
 cases a with | mk a=>cases b with | mk b=>
 have e:((mA a==mA b):Bool)=(a==b):=rfl;rw[e];by_cases h:a=b
 ·subst h;simp
 ·rw[gB (by intro g;exact h (ByteArray.mk.inj g))];exact beq_eq_false_iff_ne.2 h
structure Ky (κ:Type) [DecidableEq κ] where
 val:κ→Value
 on:Program→TypeId→Prop
 desc:∀ {P:Program} {kt:TypeId},on P kt→ ∃d,P.underlying kt=some d∧((∀k k',jC d (val k) (val k')=some (decide (k=k')))∨
  ((∀k k',jC d (val k) (val k')=none)∧ ∀(k k':κ) (h:AE) (K:Bool→AE→Prop) (X:Value→AE→Prop),K (decide (k=k')) h→Ae P (Op.equal kt (val k) (val k')) K X h))
 bits:∀k,kD 10000 (val k) (val k)=true
 ok:∀ {P:Program} {kt:TypeId} {b:Bool} {k:κ} {h:AE} {K:Unit→AE→Prop} {X:Value→AE→Prop},on P kt→K () h→Ae P (iH b 10000 kt (val k)) K X h
def kyS:Ky gN where
 val:=.string
 on P kt:=P.underlying kt=some .string
 desc h:=⟨_,h,.inl λk k'=>by simp only[jC,QM]⟩
 bits k:=by unfold kD;rw[QM];simp
 ok hk H:=by unfold iH;exact Ak hk H
def kyI (j:IntKind):Ky Int where
 val:=.int j
 on P kt:=P.underlying kt=some (.int j)
 desc h:=⟨_,h,.inl λk k'=>by
  simp only[jC,if_true];by_cases e:k=k'
  ·subst e;simp
  ·rw[gB e];simp[e]⟩
 bits k:=by unfold kD;simp
 ok hk H:=by unfold iH;exact Ak hk H
structure Q7 (P:Program) (kt:TypeId):Prop where
 fl: ∃f g:Field,P.underlying kt=some (.struct #[f,g])∧P.stoodInHeld kt=false∧f.name ≠ "_" ∧g.name ≠ "_" ∧f.offset=0∧g.offset=1∧P.underlying f.type=some (.int .i64)∧P.underlying g.type=some (.int .i64)
theorem SC {P:Program}{t:TypeId}(hu:P.underlying t=some (.int .i64)) {xs:Array Value}{i:Nat}{v:Value}(hv:xs[i]? =some v) {h:AE}{K:Value→AE→Prop}{X:Value→AE→Prop}(H:K v h):Ae P (part t xs i) K X h:=by
 unfold part isAgg;simp only[bind,gO,underlying,program,Ae,hu,hv];exact H
theorem SD {P:Program}{t:TypeId}(ht:P.underlying t=some (TypeDesc.int .i64)) (a b:Int):Jr P t (.int .i64 a) (.int .i64 b)=some (a==b):=by
 unfold Jr;rw[ht];simp
theorem QN {P:Program}{t:TypeId}(ht:P.underlying t=some (TypeDesc.int .i64)) {a:Int}{h:AE}{b:Bool}{K:Unit→AE→Prop}{X:Value→AE→Prop}(H:K () h):Ae P (iH b 9999 t (.int .i64 a)) K X h:=by
 unfold iH;exact Ak ht H
def DF:Ky (Int×Int) where
 val k:=.agg #[.int .i64 k.1,.int .i64 k.2]
 on:=Q7
 desc h:=by
  obtain⟨f,g,hu,hp,hf,hg,of,og,tf,tg⟩:=h.fl;refine⟨_,hu,.inr ⟨λk k'=>rfl,λk k' h K X H=> ?_⟩⟩;refine Km (d:=9999) hu hp (N3 (d:=9998) _ _ _ [f,g] (r:=decide (k=k')) ?_ _ H);simp only[Js,hf,hg,of,og,if_false];simp only[lC,iB,jG,SD tf,SD tg];obtain⟨a,b⟩:=k;obtain⟨c,d⟩:=k';simp only[Prod.mk.injEq,Option.some.injEq];by_cases e:a=c<;>by_cases i:b=d<;>simp[e,i]
 bits k:=by simp[kD]
 ok h H:=by
  obtain⟨f,g,hu,hp,hf,hg,of,og,tf,tg⟩:=h.fl;unfold iH;refine Ak hu ?_;dsimp only;rw[←lL];simp only[kY,List.forIn_nil,hf,hg,of,og,ne_eq,not_false_eq_true,if_true];refine Am _ _ (Am _ _ (Am _ _ (SC tf rfl (Am _ _ (QN tf ?_)))));dsimp only[pure,Ae];refine Am _ _ (Am _ _ (SC tg rfl (Am _ _ (QN tg ?_))));exact H
section
variable {κ:Type}[DecidableEq κ]
def BT {β:Type}(k:κ):List (κ×β)→Option β
 | [] =>none
 |(k',v)::m=>if k=k' then some v else BT k m
def CH {β:Type}(k:κ) (v:β):List (κ×β)→List (κ×β)
 | [] =>[(k,v)]
 |(k',v')::m=>if k=k' then(k',v)::m else(k',v')::CH k v m
theorem DC {β:Type}(k:κ) (v:β) (k':κ):∀m:List (κ×β),BT k' (CH k v m)=if k'=k then some v else BT k' m:=by
 intro m
 induction m with
 |nil=>simp only[CH,BT]
 |cons a m ih=>
  simp only[CH];split
  ·rename_i h;subst h;simp only[BT];split<;>simp_all
  ·rename_i h
   simp only[BT];split
   ·rename_i b;subst b;rw[gG λe=>h e.symm]
   ·exact ih
inductive JQ {β:Type}(kk:Ky κ) (vv:Ro β) (φ:AD):List MapEntry→List (κ×β)→Prop where
 |nil:JQ kk vv φ [] []
 |cons {e:MapEntry} {es:List MapEntry} {k:κ} {x:β} {m:List (κ×β)} :e.key=kk.val k→vv.is φ [e.val] x→JQ kk vv φ es m→JQ kk vv φ (e::es) ((k,x)::m)
variable {kk:Ky κ}
theorem JQ.mono {β:Type}{vv:Ro β}{φ ψ:AD}(hs:Sub φ ψ) {es:List MapEntry}{m:List (κ×β)}(H:JQ kk vv φ es m):JQ kk vv ψ es m:=by
 induction H with
 |nil=>exact .nil
 |cons a b _ ih=>exact .cons a (vv.mono hs b) ih
def Rep.kmap {β:Type}(kk:Ky κ) (vv:Ro β):Rep (List (κ×β)) where
 sz:=1
 is φ h F cs m:= ∃r es clock,cs= [.map (some r)] ∧h[r]? =some (.map es clock)∧JQ kk vv φ es.toList m∧(∀i,F i↔i=r)
 len h:=by obtain⟨r,es,c,rfl,_⟩:=h;rfl
 mono hs h:=by obtain⟨r,es,c,e,hr,he,hF⟩:=h;exact⟨r,es,c,e,hr,he.mono hs,hF⟩
 loc hl h:=by obtain⟨r,es,c,e,hr,he,hF⟩:=h;exact⟨r,es,c,e,by rw[hl r ((hF r).2 rfl)];exact hr,he,hF⟩
 lt h i hi:=by obtain⟨r,es,c,e,hr,he,hF⟩:=h;rw[(hF i).1 hi];exact Ay hr
 plain h v hv:=by obtain⟨r,es,c,rfl,_⟩:=h;simp at hv;subst hv;rfl
theorem Q8 {β:Type}{vv:Ro β}{φ:AD}{k:κ}{d:TypeDesc}(hn:∀k k',jC d (kk.val k) (kk.val k')=some (decide (k=k'))):∀ {es:List MapEntry}{m:List (κ×β)}(i:Nat),JQ kk vv φ es m→BT k m=none→iE d (kk.val k) es i=some none:=by
 intro es m i H
 induction H generalizing i with
 |nil=>intro _;rfl
 | @cons e es k' x m a b _ ih=>
  intro hm;simp only[BT]at hm;split at hm
  ·cases hm
  ·rename_i hk
   unfold iE;rw[a,hn,gB hk];exact ih (i+1) hm
theorem SE {P:Program}{kt:TypeId}{β:Type}{vv:Ro β}{φ:AD}{k:κ}{h:AE}{X:Value→AE→Prop}(ha:∀(k k':κ) (h:AE) (K:Bool→AE→Prop) (X:Value→AE→Prop),K (decide (k=k')) h→Ae P (Op.equal kt (kk.val k) (kk.val k')) K X h):
 ∀ {es:List MapEntry} {m:List (κ×β)} (i:Nat) {K:Option (Nat×Value)→AE→Prop},JQ kk vv φ es m→BT k m=none→K none h→Ae P (iZ kt (kk.val k) es i) K X h:=by
 intro es m i K H
 induction H generalizing i with
 |nil=>intro _ H;exact H
 | @cons e es k' x m a b _ ih=>
  intro hm HK;simp only[BT]at hm;split at hm
  ·cases hm
  ·rename_i hk
   unfold iZ;rw[a];refine Am _ _ (ha _ _ _ _ _ ?_);rw[gB hk];exact ih (i+1) hm HK
theorem Vh {β:Type}{vv:Ro β}{φ:AD}{k:κ}{x:β}:∀ {es:List MapEntry}{m:List (κ×β)},JQ kk vv φ es m→BT k m=some x→
 ∃j e,es[j]? =some e∧e.key=kk.val k∧vv.is φ [e.val] x∧
  (∀(y:β) (v:Value),vv.is φ [v] y→JQ kk vv φ (es.modify j λe=>{e with key:=kk.val k,val:=v}) (CH k y m))∧
  (∀d,(∀k k',jC d (kk.val k) (kk.val k')=some (decide (k=k')))→ ∀i,iE d (kk.val k) es i=some (some (i+j,e.val)))∧
  (∀(P:Program) (kt:TypeId),(∀(k k':κ) (h:AE) (K:Bool→AE→Prop) (X:Value→AE→Prop),K (decide (k=k')) h→Ae P (Op.equal kt (kk.val k) (kk.val k')) K X h)→
   ∀(i:Nat) (h:AE) (K:Option (Nat×Value)→AE→Prop) (X:Value→AE→Prop),K (some (i+j,e.val)) h→Ae P (iZ kt (kk.val k) es i) K X h):=by
 intro es m H
 induction H with
 |nil=>intro hm;cases hm
 | @cons e es k' x' m a b c ih=>
  intro hm;simp only[BT]at hm;split at hm
  ·rename_i hk
   cases hm;subst hk;refine⟨0,e,rfl,a,b,λy v hy=> ?_,λd hn i=> ?_,λP kt ha i h K X HK=> ?_⟩
   ·simp only[CH,if_true,lW];exact .cons rfl hy c
   ·unfold iE;rw[a,hn,gC rfl];rfl
   ·unfold iZ;rw[a];refine Am _ _ (ha _ _ _ _ _ ?_);rw[gC rfl];exact HK
  ·rename_i hk
   obtain⟨j,e',f,g,l,n,o,p⟩:=ih hm;refine⟨j+1,e',by simpa using f,g,l,λy v hy=> ?_,λd hn i=> ?_,λP kt ha i h K X HK=> ?_⟩
   ·simp only[CH,gG hk,lW];exact .cons a b (n y v hy)
   ·unfold iE;rw[a,hn,gB hk];dsimp only;rw[o d hn,show i+1+j=i+(j+1) by omega]
   ·unfold iZ;rw[a];refine Am _ _ (ha _ _ _ _ _ ?_);rw[gB hk];refine p P kt ha (i+1) h K X ?_;rw[show i+1+j=i+(j+1) by omega];exact HK
theorem Md {P:Program}{kt:TypeId}{β:Type}{vv:Ro β}{φ:AD}{k:κ}{es:List MapEntry}{m:List (κ×β)}{h:AE}{K:Option (Nat×Value)→AE→Prop}{X:Value→AE→Prop}(ho:kk.on P kt) (he:JQ kk vv φ es m) (hm:BT k m=none) (H:K none h):
 Ae P (jD kt (kk.val k) es) K X h:=by
 have⟨d,hu,hd⟩:=kk.desc ho;unfold jD;refine Ak hu ?_;rcases hd with hn | ⟨hn,ha⟩
 ·rw[Q8 hn 0 he hm];exact H
 ·cases he with
  |nil=>exact H
  |cons a b c=>
   rename_i e es' k' x' m'
   have:iE d (kk.val k) (e::es') 0=none:=by unfold iE;rw[a,hn]
   rw[this];exact SE ha 0 (.cons a b c) hm H
theorem Me {P:Program}{kt:TypeId}{β:Type}{vv:Ro β}{φ:AD}{k:κ}{x:β}{es:List MapEntry}{m:List (κ×β)}(ho:kk.on P kt) (he:JQ kk vv φ es m) (hm:BT k m=some x):
 ∃j e,es[j]? =some e∧e.key=kk.val k∧vv.is φ [e.val] x∧(∀(y:β) (v:Value),vv.is φ [v] y→JQ kk vv φ (es.modify j λe=>{e with key:=kk.val k,val:=v}) (CH k y m))∧
  ∀(h:AE) (K:Option (Nat×Value)→AE→Prop) (X:Value→AE→Prop),K (some (j,e.val)) h→Ae P (jD kt (kk.val k) es) K X h:=by
 have⟨d,hu,hd⟩:=kk.desc ho;have⟨j,e,a,b,c,f,g,i⟩:=Vh he hm;refine⟨j,e,a,b,c,f,λh K X H=> ?_⟩;unfold jD;refine Ak hu ?_;rcases hd with hn | ⟨hn,ha⟩
 ·rw[g d hn 0,jM];exact H
 ·cases he with
  |nil=>cases hm
  |cons l o p=>
   rename_i n es' k' x' m'
   have:iE d (kk.val k) (n::es') 0=none:=by unfold iE;rw[l,hn]
   rw[this];refine i P kt ha 0 h K X ?_;rw[jM];exact H
theorem JQ.push {β:Type}{vv:Ro β}{φ:AD}{k:κ}{y:β}{e:MapEntry}:∀ {es:List MapEntry}{m:List (κ×β)},JQ kk vv φ es m→BT k m=none→e.key=kk.val k→vv.is φ [e.val] y→JQ kk vv φ (es++ [e]) (CH k y m):=by
 intro es m H
 induction H with
 |nil=>intro _ a b;exact .cons a b .nil
 | @cons e' es k' x m c d _ ih=>
  intro hm a b;simp only[BT]at hm;split at hm
  ·cases hm
  ·rename_i hk
   simp only[CH,gG hk];exact .cons c d (ih hm a b)
section
variable {P:Program}{Q:Bh→AE→Prop}{φ:AD}{h:AE}{Γ:List Chk}
theorem Df {β:Type}(kk:Ky κ) (vv:Ro β) {k:Nat→T}(H:St φ Γ h) (hk:∀r h',St φ (⟨Rep.kmap kk vv,[.map (some r)],[]⟩::Γ) h'→(k r).wp P Q h'):(T.new (.map #[] 0) k).wp P Q h:=by
 refine Wh (hk _ _ ?_);have hs:=H.sub;refine⟨λi=>i=h.size,⟨h.size,#[],0,rfl,by rw[gQ,gF rfl],.nil,λ_=>lI⟩,λk hk=>⟨?_,λg=>g⟩,?_⟩
 ·subst hk;cases hφ:φ h.size with
  |none=>rfl
  |some o=>have:=Ay (hs _ _ hφ);omega
 ·refine StX.heap (StX.more H λk hk=> ?_) (λk hk _=>by rw[gQ];simp;omega) λi o ho=> ?_
  ·rcases hk with hk | hk
   ·exact hk.elim
   ·left;omega
  ·have hlt:=Ay (hs i o ho);show(h.push _)[i]? =some o;rw[gQ,gG (by omega)];exact hs i o ho
theorem Lo {t:TypeId}{i:TypeInfo}{z:Value}(hi:P.info? t=some i) (hz:i.zero=some z) {K:Value→AE→Prop}{X:Value→AE→Prop}(H:K z h):Ae P (zeroValue t) K X h:=by
 have ez:(zeroValue t)=Sem.program fun P'=>((match P'.info? t with | some i=>Sem.pure i | none=>stuck "no such type").bind fun i=>match i.zero with | some v=>Sem.pure v | none=>unsupported (.resourceLimit "a value of more than 2^22 cells")):=rfl
 rw[ez];simp only[gO,Ae,hi,hz];exact H
theorem Ol {a:BX}{mt kt vt:TypeId}{r:Nat}{k:κ}{m:List (κ×a.Ty)}{ok:Bool}{K:Value→AE→Prop}{X:Value→AE→Prop}(hm:P.underlying mt=some (.map kt vt)) (hk:kk.on P kt)
 {i:TypeInfo} {z:a.Ty} (hi:P.info? vt=some i) (hz:i.zero=some (a.val z)) (H:St φ (⟨Rep.kmap kk (Ro.atom a),[.map (some r)],m⟩::Γ) h) (hK:K (if ok then .tuple #[a.val ((BT k m).getD z),.bool (BT k m).isSome] else a.val ((BT k m).getD z)) h):
 Ae P (jY mt (.map (some r)) (kk.val k) ok) K X h:=by
 obtain⟨F,⟨r',es,c,e,hr,he,hF⟩,f,H⟩:=H;cases e;unfold jY;refine Ak hm ?_;refine⟨_,hr,(λ_ _ _ g=>by cases g),?_⟩;show Ae P (gO (iH _ 10000 kt (kk.val k)) λ_=>gO (jD kt (kk.val k) es.toList) λr=>_) _ _ h;refine Am _ _ (kk.ok hk (Am _ _ ?_));cases hg:BT k m with
 |none=>
  refine Md hk he hg ?_;show Ae P (gO (zeroValue vt) λz=>_) _ _ h;rw[hg]at hK;exact Am _ _ (Lo hi hz hK)
 |some x=>
  have⟨q,e,j,l,b,_,d⟩:=Me hk he hg;refine d _ _ _ ?_;have hv:e.val=a.val x:=by
   have: [e.val] = [a.val x]:=b
   simpa using this
  dsimp only;rw[hg]at hK;rw[hv];exact hK
theorem Vi {a:BX}{mt kt vt:TypeId}{r:Nat}{k:κ}{m:List (κ×a.Ty)}{K:a.Ty×Bool×Unit→T}(z:a.Ty) (hm:P.underlying mt=some (.map kt vt)) (hk:kk.on P kt)
 {i:TypeInfo} (hi:P.info? vt=some i) (hz:i.zero=some (a.val z)) (H:St φ (⟨Rep.kmap kk (Ro.atom a),[.map (some r)],m⟩::Γ) h) (hK:∀y:a.Ty×Bool×Unit,y=((BT k m).getD z,(BT k m).isSome,())→(K y).wp P Q h):
 (T.sem (jY mt (.map (some r)) (kk.val k) true) (.tuple [.atom a,.atom .bool]) K).wp P Q h:=
 t_sem (Ol hm hk hi hz H (ok:=true) ⟨((BT k m).getD z,(BT k m).isSome,()),rfl,hK _ rfl⟩)
theorem GZ {a:BX}{mt kt vt:TypeId}{r:Nat}{k:κ}{m:List (κ×a.Ty)}{K:a.Ty→T}(z:a.Ty) (hm:P.underlying mt=some (.map kt vt)) (hk:kk.on P kt)
 {i:TypeInfo} (hi:P.info? vt=some i) (hz:i.zero=some (a.val z)) (H:St φ (⟨Rep.kmap kk (Ro.atom a),[.map (some r)],m⟩::Γ) h) (hK:(K ((BT k m).getD z)).wp P Q h):
 (T.sem (jY mt (.map (some r)) (kk.val k) false) (.one (.atom a)) K).wp P Q h:=
 t_sem (Ol hm hk hi hz H (ok:=false) ⟨(BT k m).getD z,rfl,hK⟩)
theorem J0 {β:Type}{vv:Ro β}{mt kt vt:TypeId}{r:Nat}{k:κ}{m:List (κ×β)}{y:β}{v:Value}{K:Unit→T}(hm:P.underlying mt=some (.map kt vt)) (hk:kk.on P kt)
 (H:St φ (⟨Rep.kmap kk vv,[.map (some r)],m⟩::Γ) h) (hv:vv.is φ [v] y) (hK:∀h',St φ (⟨Rep.kmap kk vv,[.map (some r)],CH k y m⟩::Γ) h'→(K ()).wp P Q h'):
 (T.sem (gO (kX mt (.map (some r)) (kk.val k) v) λ_=>.pure undef) (.tuple []) K).wp P Q h:=by
 obtain⟨F,⟨r',es,c,e,hr,he,hF⟩,a,H⟩:=H;cases e;have hs:=H.sub;have key:∀(es':Array MapEntry) (c':Nat),JQ kk vv φ es'.toList (CH k y m)→(K ()).wp P Q (h.setIfInBounds r (.map es' c')):=λes' c' he'=>by
  have hlt:=Ay hr;have hne:∀k,¬F k→(h.setIfInBounds r (Obj.map es' c'))[k]? =h[k]? :=λk hk=>gP λe=>hk ((hF k).2 e.symm);refine hK _ ⟨F,⟨r,es',c',rfl,?_,he',hF⟩,a,StX.heap H (λk _ hX=>hne k λg=>hX (.inr g)) λi o ho=> ?_⟩
  ·rw[iC,gF rfl,gF hlt]
  ·show(h.setIfInBounds r _)[i]? =some o;rw[hne i λg=>by rw[(a i g).1]at ho;cases ho];exact hs i o ho
 refine t_sem<|Am _ _ ?_;unfold kX;refine Ak hm ?_;refine⟨_,hr,(λ_ _ _ g=>by cases g),?_⟩;show Ae P (gO (iH _ 10000 kt (kk.val k)) λ_=>gO (jD kt (kk.val k) es.toList) λr=>_) _ _ h;refine Am _ _ (kk.ok hk (Am _ _ ?_));cases hg:BT k m with
 |none=>
  refine Md hk he hg ?_;dsimp only;refine⟨⟨_,hr,(λ_ _ _ g=>by cases g)⟩,(),rfl,key _ _ ?_⟩;rw[Array.toList_push];exact he.push hg rfl hv
 |some x=>
  have⟨q,e,b,d,l,f,j⟩:=Me hk he hg;refine j _ _ _ ?_;have hq:es[q]? =some e:=by simpa using b
  have hks:kF ((lO (λx=>x.key) es[q]?).getD (kk.val k)) (kk.val k)=jK (kk.val k):=by
   rw[hq];dsimp only[lO,Option.getD];rw[d];unfold kF;rw[kk.bits];rfl
  show Ae P (gO (kF ((lO (λx=>x.key) es[q]?).getD (kk.val k)) (kk.val k)) λkey=>setObj r (Obj.map (es.modify q λe=>{e with key,val:=v}) c)) _ _ h;rw[hks];refine⟨⟨_,hr,(λ_ _ _ g=>by cases g)⟩,(),rfl,key _ _ ?_⟩;rw[Array.toList_modify];exact f y v hv
end
end
section
variable {P:Program}{Q:Bh→AE→Prop}{φ:AD}{h:AE}{Γ:List Chk}
theorem DZ {a:BX}{vs:List Value}{l:List a.Ty}(H:(Ro.atom a).All φ vs l):vs=l.map a.val:=by
 induction H with
 |nil=>rfl
 |cons h _ ih=>have h':_= [_]:=h;rw[h',ih];rfl
def J1 (x:Int):Bool:=decide (0≤x) && decide (x<256)
def Up (l:gM):Option gN:=if l.all J1 then some ⟨(l.map λx=>jI x.toNat).toArray⟩ else none
theorem St.bytes {ty:TypeId}{t:Slc}{l:gM}(H:St φ (⟨Rep.row ty (Ro.int .u8),[.slice t.1 t.2.1 t.2.2],l⟩::Γ) h):l.length=t.2.1∧CX h t.1 (l.map (BX.int .u8).val):=by
 have hl:=H.rowLen;obtain⟨vs,ha,hc⟩:=H.all;rw[DZ ha]at hc;exact⟨hl.symm,hc⟩
theorem Tn {src dst e:TypeId}{t:Slc}{l:gM}{x:gN}{K:gN→T}(hs:P.underlying src=some (.slice e)) (he:P.underlying e=some (.int .u8)) (hd:P.underlying dst=some .string)
 (hc:l.length=t.2.1∧CX h t.1 (l.map (BX.int .u8).val)) (hx:Up l=some x) (hK:(K x).wp P Q h):(T.sem (convert src dst (.slice t.1 t.2.1 t.2.2)) (.one (.atom .string)) K).wp P Q h:=by
 obtain⟨hl,hc⟩:=hc;unfold Up at hx;split at hx
 ·rename_i hall
  cases hx;have c:l.map (BX.int .u8).val=(l.map λx=>jI x.toNat).map λb=>jH .u8 (b.toNat:Int):=by
   rw[List.map_map];refine List.map_congr_left λx hx=> ?_
   have:=jP.1 hall x hx
   simp only[J1,kQ,gJ]at this;show jH .u8 x=jH .u8 _;have e:(jI x.toNat).toNat=x.toNat:=by simp;omega
   rw[show((jI x.toNat).toNat:Int)=x by rw[e];omega]
  rw[c]at hc;have a:t.2.1=(l.map λx=>jI x.toNat).length:=by simp[←hl]
  refine t_sem ?_;rw[a];exact Q4 hs he hd hc ⟨_,rfl,hK⟩
 ·cases hx
end
theorem P1 {α:Type}{r:Ro α}{φ:AD}{v:Value}{x:α}(h:r.is φ [v] x):∀n,r.All φ (gU n v) (gU n x):=by
 intro n
 induction n with
 |zero=>exact .nil
 |succ n ih=>exact .cons (a:=[v]) h ih
def Dh {α:Type}(n:Int) (x:α):Option (List α):=if 0≤n∧n≤1073741824 then some (gU n.toNat x) else none
theorem Om {α:Type}{n:Int}{x:α}{l:List α}(h:Dh n x=some l):0≤n∧n≤1073741824∧l=gU n.toNat x:=by
 unfold Dh at h;split at h
 ·rename_i g;exact⟨g.1,g.2,(Option.some.inj h).symm⟩
 ·cases h
structure QO (P:Program) (t elem:TypeId) (z:Value):Prop where
 st:P.underlying t=some (.slice elem)
 info:∃i,P.info? elem=some i∧i.size=1∧(∃zv,i.zero=some zv∧zv.cells= #[z])∧i.bytes≤4096
section
variable {P:Program}{Q:Bh→AE→Prop}{φ:AD}{h:AE}{Γ:List Chk}
theorem Er {α:Type}{t elem:TypeId}{z:Value}{r:Ro α}{x:α}{l:List α}{n m:Int}{k:Slc→T}(A:QO P t elem z) (H:St φ Γ h) (hr:r.is φ [z] x) (hnm:m=n) (hD:Dh n x=some l)
 (hk:∀(t:Slc) h',St φ (⟨Rep.row elem r,[.slice t.1 t.2.1 t.2.2],l⟩::Γ) h'→(k t).wp P Q h'):
 (T.sem (kW t (.int .i64 m) (.int .i64 m)) (.one (.atom .slice)) k).wp P Q h:=by
 subst hnm;obtain⟨f,c,rfl⟩:=Om hD;obtain⟨i,hi,hsz,⟨zv,hz,hzc⟩,hb⟩:=A.info;have hw:IntKind.i64.wrap m=m:=by
  unfold iY;simp only[IntKind.bits,IntKind.signed];have e:m % 18446744073709551616=m:=by omega
  simp;omega
 have hbn:(i.bytes:Int) *m≤4096 *1073741824:=by
  have d:(i.bytes:Int) ≤4096:=by omega
  exact Int.mul_le_mul d c f (by decide)
 have hlarge:¬(m<0∨(i.bytes:Int) *m>2 ^ 48):=by
  intro hh;rcases hh with hh | hh
  ·omega
  ·have e:(2:Int) ^ 48=281474976710656:=by decide
   omega
 have fin:(k ((some ⟨h.size,0,none⟩,m.toNat,m.toNat):Slc)).wp P Q (h.push (.cells (gU m.toNat z).toArray elem (0,0))):=by
  have hall:r.All φ (gU m.toNat z) (gU m.toNat x):=P1 hr _;have g:=H.new (ty:=elem) (gU m.toNat z);exact hk (some ⟨h.size,0,none⟩,m.toNat,m.toNat) _ (St.lit (r:=r) (l:=gU m.toNat x) (n:=m.toNat) g hall (by simp) (by unfold maxLen;omega))
 have hcells:∀q:Nat,(kH q).map (λj=>(#[z]:Array Value)[j % (#[z]:Array Value).size]!)=(gU q z).toArray:=by
  intro q;apply Array.ext
  ·simp
  ·intro j c d;simp[Nat.mod_one]
 have rest:∀zero:Array Value,(zero= #[] ∧m.toNat=0)∨zero= #[z] →Ae P (do
  let a ←newRow elem ((kH m.toNat).map (zero[· % zero.size]!))
  pure (.slice (some a) m.toNat m.toNat):Sem Value) (λv h'=>∃x:Slc,v=((.one (.atom .slice)):Sh).val x∧(k x).wp P Q h') (λ_ _=>False) h:=by
  intro zero b;show Ae P (Sem.new _ _) _ _ h;rcases b with⟨rfl,hn⟩|rfl
  ·have e:(kH m.toNat).map (λj=>(#[]:Array Value)[j % (#[]:Array Value).size]!)=(gU m.toNat z).toArray:=by rw[hn];simp
   rw[e];exact⟨_,rfl,fin⟩
  ·rw[hcells];exact⟨_,rfl,fin⟩
 refine t_sem ?_;unfold kW;refine Ak A.st ?_;show Ae P ((typeInfo elem).bind _) _ _ h;refine GS hi ?_;simp only[hw];rw[gG (by simp;omega)];show Ae P ((askRoom _).bind _) _ _ h;unfold askRoom;have go:Ae P ((sizeOf elem).bind λs=>(if m.toNat *s=0 then(do
  let zero ← (pure #[]:Sem (Array Value))
  let a ←newRow elem ((kH (m.toNat *s)).map (zero[· % zero.size]!))
  pure (.slice (some a) m.toNat m.toNat):Sem Value) else do
  let zv ←zeroValue elem
  let zero ← (pure zv.cells:Sem (Array Value))
  let a ←newRow elem ((kH (m.toNat *s)).map (zero[· % zero.size]!))
  pure (.slice (some a) m.toNat m.toNat))) (λv h'=>∃x:Slc,v=((.one (.atom .slice)):Sh).val x∧(k x).wp P Q h') (λ_ _=>False) h:=by
  refine IL hi ?_;rw[hsz,Nat.mul_one];by_cases hn:m.toNat=0
  ·rw[gF hn];exact rest #[] (.inl ⟨rfl,hn⟩)
  ·rw[gG hn];show Ae P ((zeroValue elem).bind _) _ _ h;refine Am _ _ (Lo hi hz ?_)
   have:=rest zv.cells (.inr hzc)
   exact this
 split
 ·exact go
 ·exact go
end
section
variable {P:Program}{Q:Bh→AE→Prop}{φ:AD}{h:AE}{Γ:List Chk}
end
theorem bS {α β:Type}{o:Option α}{f:α→Option β}{x:β}(h:o.bind f=some x):∃a,o=some a∧f a=some x:=Option.bind_eq_some_iff.1 h
theorem iS {α:Type}{a b:α}(h:some a=some b):a=b:=Option.some.inj h
abbrev sv (t:Slc):Value:=.slice t.1 t.2.1 t.2.2
abbrev pv (b:Nat):Value:=.pointer (some ⟨b,0,none⟩)
abbrev cR {α:Type}(e:TypeId) (r:Ro α) (t:Slc) (l:List α):Chk:=⟨Rep.row e r,[.slice t.1 t.2.1 t.2.2],l⟩
abbrev cO {α:Type}(e:TypeId) (R:Rep α) (p:gL) (x:α):Chk:=⟨Rep.obj e R,[.pointer p],x⟩
abbrev cW (e:TypeId) (b:Nat) (vs:List Value):Chk:=⟨Rep.raw e,[.pointer (some ⟨b,0,none⟩)],vs⟩
abbrev cM {κ β:Type}[DecidableEq κ] (kk:Ky κ) (vv:Ro β) (r:Nat) (m:List (κ×β)):Chk:=⟨Rep.kmap kk vv,[.map (some r)],m⟩
abbrev Ro.slc:Ro Slc:=Ro.atom .slice
def Pt {α:Type}(r:Ro α) (φ:AD) (p:gL) (x:α):Prop:= ∃a vs,p=some a∧r.is φ vs x∧Ci φ (some a) vs
theorem Pt.mono {α:Type}{r:Ro α}{φ ψ:AD}{p:gL}{x:α}(H:Pt r φ p x) (hs:Sub φ ψ):Pt r ψ p x:=by
 obtain⟨a,vs,e,b,c⟩:=H;exact⟨a,vs,e,r.mono hs b,c.mono hs⟩
def Np {α:Type}(r:Ro α) (φ:AD) (p:gL) (x:Option α):Prop:=match x with
 |none=>p=none
 |some x=>Pt r φ p x
theorem Np.mono {α:Type}{r:Ro α}{φ ψ:AD}{p:gL}{x:Option α}(H:Np r φ p x) (hs:Sub φ ψ):Np r ψ p x:=by
 cases x with
 |none=>exact H
 |some x=>exact Pt.mono H hs
theorem Np.nil {α:Type}{r:Ro α}{φ:AD}{p:gL}{x:Option α}(H:Np r φ p x):p.isNone=x.isNone:=by
 cases x with
 |none=>rw[show p=none from H];rfl
 |some x=>obtain⟨a,vs,rfl,_⟩:=H;rfl
theorem Np.get {α:Type}{r:Ro α}{φ:AD}{p:gL}{x:Option α}{y:α}(H:Np r φ p x) (e:x=some y):Pt r φ p y:=by subst e;exact H
theorem Np.none {α:Type}(r:Ro α) (φ:AD):Np r φ Option.none (Option.none:Option α):=rfl
section
variable {P:Program}{Q:Bh→AE→Prop}{φ:AD}{h:AE}{Γ:List Chk}
theorem AQ {ty:TypeId}{b j:Nat}{vs:List Value}{v:Value}{k:T}(H:St φ (⟨Rep.raw ty,[.pointer (some ⟨b,0,none⟩)],vs⟩::Γ) h) (hp:Value.plain v=true) (hj:lZ j vs.length=true)
 (hk:∀h',St φ (cW ty b (vs.set j v)::Γ) h'→k.wp P Q h'):(T.store ⟨b,j,none⟩ v k).wp P Q h:=
 Cf H hp (lD hj) hk
theorem GJ {ty:TypeId}{vs:List Value}{k:Nat→T}(H:St φ Γ h) (hk:∀r h',(∀a v,BW h a=some v→BW h' a=some v)→St φ (cW ty r vs::Γ) h'→(k r).wp P Q h'):(T.new (.cells vs.toArray ty (0,0)) k).wp P Q h:=
 Wh (hk _ _ (λa v ha=>by
  rw[←L4]at ha ⊢;refine Ao (λi o ho=> ?_) ha
  have:=Ay ho
  show(h.push _)[i]? =some o;rw[gQ,gG (by omega)];exact ho) (H.new vs))
theorem St.shutR {α:Type}{ty:TypeId}{r:Ro α}{cs vs:List Value}{x:α}(H:St φ (⟨Rep.raw ty,cs,vs⟩::Γ) h) (hr:r.is φ vs x):St φ (⟨Rep.obj ty (Rep.ro r),cs,x⟩::Γ) h:=
 St.shut (St.at1 (St.unro (r:=r) H hr))
theorem St.openR {α:Type}{ty:TypeId}{r:Ro α}{p:gL}{x:α}(H:St φ (⟨Rep.obj ty (Rep.ro r),[.pointer p],x⟩::Γ) h):
 ∃b vs,p=some ⟨b,0,none⟩∧r.is φ vs x∧St φ (cW ty b vs::Γ) h:=by
 obtain⟨b,vs,e,_,s⟩:=H.open;have⟨a,c⟩:=St.ro s.at1;exact⟨b,vs,by simpa using e,a,c⟩
theorem St.at10 {b c d e f g i j k l a:Chk}(H:St φ (b::c::d::e::f::g::i::j::k::l::a::Γ) h):St φ (a::b::c::d::e::f::g::i::j::k::l::Γ) h:=H.perm (BF 10 (b::c::d::e::f::g::i::j::k::l::a::Γ))
theorem St.at11 {c d e f g i j k l m a b:Chk}(H:St φ (c::d::e::f::g::i::j::k::l::m::a::b::Γ) h):St φ (b::c::d::e::f::g::i::j::k::l::m::a::Γ) h:=H.perm (BF 11 (c::d::e::f::g::i::j::k::l::m::a::b::Γ))
theorem St.at12 {d e f g i j k l m n a b c:Chk}(H:St φ (d::e::f::g::i::j::k::l::m::n::a::b::c::Γ) h):St φ (c::d::e::f::g::i::j::k::l::m::n::a::b::Γ) h:=H.perm (BF 12 (d::e::f::g::i::j::k::l::m::n::a::b::c::Γ))
theorem St.at14 {f g i j k l m n o p a b c d e:Chk}(H:St φ (f::g::i::j::k::l::m::n::o::p::a::b::c::d::e::Γ) h):St φ (e::f::g::i::j::k::l::m::n::o::p::a::b::c::d::Γ) h:=H.perm (BF 14 (f::g::i::j::k::l::m::n::o::p::a::b::c::d::e::Γ))
theorem St.at15 {g i j k l m n o p q a b c d e f:Chk}(H:St φ (g::i::j::k::l::m::n::o::p::q::a::b::c::d::e::f::Γ) h):St φ (f::g::i::j::k::l::m::n::o::p::q::a::b::c::d::e::Γ) h:=H.perm (BF 15 (g::i::j::k::l::m::n::o::p::q::a::b::c::d::e::f::Γ))
theorem St.at16 {i j k l m n o p q r a b c d e f g:Chk}(H:St φ (i::j::k::l::m::n::o::p::q::r::a::b::c::d::e::f::g::Γ) h):St φ (g::i::j::k::l::m::n::o::p::q::r::a::b::c::d::e::f::Γ) h:=H.perm (BF 16 (i::j::k::l::m::n::o::p::q::r::a::b::c::d::e::f::g::Γ))
theorem St.freezeR {α:Type}{ty:TypeId}{R:Rep α}{r:Ro α}{p:gL}{x:α}(hz:Frz R r) (H:St φ (⟨Rep.obj ty R,[.pointer p],x⟩::Γ) h):∃ψ,Sub φ ψ∧Pt r ψ p x∧St ψ Γ h:=by
 obtain⟨ψ,b,⟨a,vs,e,c,d⟩,f⟩:=St.freeze (Yv hz) H;exact⟨ψ,b,⟨a,vs,by simpa using e,c,d⟩,f⟩
theorem Ro.All.setCell {α:Type}{r:Ro α}{x x':α}{j:Nat}{v:Value}(hr:∀cs,r.is φ cs x→r.is φ (cs.set j v) x') (hj:j<r.sz) {vs:List Value}{l:List α}(hall:r.All φ vs l):∀i:Nat,l[i]? =some x→r.All φ (vs.set (i *r.sz+j) v) (l.set i x'):=by
 induction hall with
 |nil=>intro i hi;simp at hi
 | @cons a b y l hy hb ih=>
  intro i hi;have hl:=r.len hy;cases i with
  |zero=>
   simp only[iB,Option.some.injEq]at hi;subst hi;rw[Nat.zero_mul,jM,List.set_append_left _ _ (by omega)];exact .cons (hr _ hy) hb
  |succ i=>
   have e:(i+1) *r.sz+j=a.length+(i *r.sz+j):=by rw[hl,gZ];omega
   rw[e,List.set_append_right _ _ (by omega),jJ];exact .cons hy (ih i (by simpa using hi))
theorem Q9 {α:Type}{ty:TypeId}{r:Ro α}{t:Slc}{l m:List α}{i:Int}{x x':α}{v:Value}{k:T}{a A:Addr}{j:Nat}(H:St φ (⟨Rep.row ty r,[.slice t.1 t.2.1 t.2.2],l⟩::Γ) h) (hx:idx l i=some x) (hm:DB l i x'=some m)
 (hr:∀cs,r.is φ cs x→r.is φ (cs.set j v) x') (hj:lZ j r.sz=true) (hpl:Value.plain v=true) (ha:t.1=some a) (hA:A=a.add (i.toNat *r.sz+j))
 (hk:∀h',St φ (cR ty r t m::Γ) h'→k.wp P Q h'):(T.store A v k).wp P Q h:=by
 have hj:j<r.sz:=lD hj;obtain⟨F,⟨p,n,c,vs,e,hn,hc,hfu,ho,hall,hF⟩,s,H⟩:=H;have hn:l.length=n:=hn;simp only[List.cons.injEq,Value.slice.injEq,and_true]at e;obtain⟨w,z,B⟩:=e;obtain⟨J,K,rfl⟩:=Dr hm;obtain⟨_,_,hx'⟩:=CC hx;rw[w]at ha;subst ha;subst hA;rcases ho with⟨hp,_⟩|⟨b,off,arr,hp,hb,C,y,D,E⟩
 ·cases hp
 ·cases hp;have hin:i.toNat *r.sz+j<n *r.sz:=by
   have:i.toNat+1≤n:=by omega
   have:=iV r.sz this
   rw[gZ]at this;omega
  have hcn:n *r.sz≤c *r.sz:=iV _ y;have hlt:off+(i.toNat *r.sz+j) <arr.size:=by omega
  rw[Dt];have d:=HG (off:=off+(i.toNat *r.sz+j)) (v:=v) hb;refine Q3 hpl ?_ ?_ (hk _ ?_)
  ·rw[Fu (c:=arr) (t:=ty) (f:=(0,0)) hb rfl];simp;omega
  ·unfold GQ EX jT;simp[hb]
  ·have hs:=H.sub;have hne:∀k,¬F k→(Cb h ⟨b,off+(i.toNat *r.sz+j),none⟩ v)[k]? =h[k]? :=λk hk=>HF λe=>hk ((hF k).2 (by simp[blk];exact e));refine⟨F,⟨some ⟨b,off,none⟩,n,c,vs.set (i.toNat *r.sz+j) v,by dsimp only;rw[w,z,B],by simp;exact hn,hc,(λb' off' s' e=>by cases e;have⟨G,I⟩:=hfu _ _ _ rfl;exact⟨G,λarr' ty' f' harr=>by rw[d]at harr;cases harr;rw[jB];exact I _ _ _ hb⟩),.inr ⟨b,off,_,rfl,d,by rw[List.length_set];exact C,y,by rw[jB];exact D,λq u hu=> ?_⟩,Ro.All.setCell hr hj hall i.toNat hx',hF⟩,s,StX.heap H (λk _ hX=>hne k λg=>hX (.inr g)) λq o ho=> ?_⟩
   ·rw[lU]at hu;split at hu
    ·rename_i hq
     subst hq;split at hu
     ·cases hu;rw[iC];simp;omega
     ·cases hu
    ·rw[gP (by omega)];exact E q u hu
   ·show(Cb h _ v)[q]? =some o;rw[hne q λg=>by rw[(s q g).1]at ho;cases ho];exact hs q o ho
end
def Gg (φ:AD) (h:AE):List Chk→FU→Prop
 | [],F=>∀k,¬F k
 |c::Γ,F=>∃A B:FU,c.on φ h A∧Gg φ h Γ B∧(∀k,A k→B k→False)∧ ∀k,F k↔A k∨B k
theorem Gg.mono {φ ψ:AD}{h:AE}(hs:Sub φ ψ):∀ {Γ:List Chk}{F:FU},Gg φ h Γ F→Gg ψ h Γ F:=by
 intro Γ
 induction Γ with
 |nil=>intro F H;exact H
 |cons c Γ ih=>intro F ⟨A,B,a,b,d,e⟩;exact⟨A,B,c.R.mono hs a,ih b,d,e⟩
theorem Gg.loc {φ:AD}{h h':AE}:∀ {Γ:List Chk}{F:FU},(∀k,F k→h'[k]? =h[k]?)→Gg φ h Γ F→Gg φ h' Γ F:=by
 intro Γ
 induction Γ with
 |nil=>intro F _ H;exact H
 |cons c Γ ih=>
  intro F hl ⟨A,B,b,d,e,a⟩;exact⟨A,B,c.R.loc (λk hk=>hl k ((a k).2 (.inl hk))) b,ih (λk hk=>hl k ((a k).2 (.inr hk))) d,e,a⟩
theorem Gg.lt {φ:AD}{h:AE}:∀ {Γ:List Chk}{F:FU},Gg φ h Γ F→ ∀k,F k→k<h.size:=by
 intro Γ
 induction Γ with
 |nil=>intro F H k hk;exact(H k hk).elim
 |cons c Γ ih=>
  intro F ⟨A,B,a,b,e,d⟩ k hk;rcases(d k).1 hk with g | g
  ·exact c.R.lt a k g
  ·exact ih b k g
structure Pk (α:Type) where
 sz:Nat
 L:AD→List Value→α→List Chk→Prop
 len:∀ {φ cs x Γ},L φ cs x Γ→cs.length=sz
 mono:∀ {φ ψ cs x Γ},Sub φ ψ→L φ cs x Γ→L ψ cs x Γ
 plain:∀ {φ cs x Γ},L φ cs x Γ→ ∀v∈cs,Value.plain v=true
def Rep.pack {α:Type}(p:Pk α):Rep α where
 sz:=p.sz
 is φ h F cs x:= ∃Γ,p.L φ cs x Γ∧Gg φ h Γ F
 len h:=by obtain⟨Γ,a,_⟩:=h;exact p.len a
 mono hs h:=by obtain⟨Γ,a,b⟩:=h;exact⟨Γ,p.mono hs a,b.mono hs⟩
 loc hl h:=by obtain⟨Γ,a,b⟩:=h;exact⟨Γ,a,b.loc hl⟩
 lt h:=by obtain⟨Γ,a,b⟩:=h;exact b.lt
 plain h:=by obtain⟨Γ,a,_⟩:=h;exact p.plain a
theorem StX.pieces {φ:AD}{h:AE}{Δ:List Chk}:∀ {Γ:List Chk}{X:FU},StX φ h (Γ++Δ) X↔∃F,Gg φ h Γ F∧(∀k,F k→φ k=none∧ ¬X k)∧StX φ h Δ (λk=>X k∨F k):=by
 intro Γ
 induction Γ with
 |nil=>
  intro X;constructor
  ·intro H;exact⟨λ_=>False,λk hk=>hk,λk hk=>hk.elim,StX.less H λk hk=>hk.elim id False.elim⟩
  ·rintro⟨F,_,_,H⟩;exact StX.less H λk hk=>.inl hk
 |cons c Γ ih=>
  intro X;constructor
  ·rintro⟨A,e,b,H⟩;have⟨B,f,d,a⟩:=ih.1 H;refine⟨λk=>A k∨B k,⟨A,B,e,f,λk ha hb=>(d k hb).2 (.inr ha),λk=>lI⟩,λk hk=> ?_,StX.less a λk hk=> ?_⟩
   ·rcases hk with hk | hk
    ·exact b k hk
    ·exact⟨(d k hk).1,λhx=>(d k hk).2 (.inl hx)⟩
   ·rcases hk with hk | hk | hk
    ·exact .inl (.inl hk)
    ·exact .inl (.inr hk)
    ·exact .inr hk
  ·rintro⟨F,⟨A,B,e,f,d,a⟩,b,H⟩;refine⟨A,e,λk hk=>b k ((a k).2 (.inl hk)),ih.2 ⟨B,f,λk hk=>⟨(b k ((a k).2 (.inr hk))).1,λhx=> ?_⟩,StX.less H λk hk=> ?_⟩⟩
   ·rcases hx with hx | hx
    ·exact(b k ((a k).2 (.inr hk))).2 hx
    ·exact d k hx hk
   ·rcases hk with(hk | hk)|hk
    ·exact .inl hk
    ·exact .inr ((a k).2 (.inl hk))
    ·exact .inr ((a k).2 (.inr hk))
theorem St.unpack {α:Type}{p:Pk α}{φ:AD}{h:AE}{cs:List Value}{x:α}{Δ:List Chk}(H:St φ (⟨Rep.pack p,cs,x⟩::Δ) h):∃Γ,p.L φ cs x Γ∧St φ (Γ++Δ) h:=by
 obtain⟨F,⟨Γ,a,b⟩,c,H⟩:=H;exact⟨Γ,a,StX.pieces.2 ⟨F,b,c,H⟩⟩
theorem St.pack {α:Type}{p:Pk α}{φ:AD}{h:AE}{cs:List Value}{x:α}{Γ Δ:List Chk}(hL:p.L φ cs x Γ) (H:St φ (Γ++Δ) h):St φ (⟨Rep.pack p,cs,x⟩::Δ) h:=by
 have⟨F,a,b,H⟩:=StX.pieces.1 H;exact⟨F,⟨Γ,hL,a⟩,b,H⟩
def Ro.at {α:Type}(r:Ro α):Ro α where
 sz:=1
 is φ cs x:= ∃p,cs= [.pointer p] ∧Pt r φ p x
 len h:=by obtain⟨p,rfl,_⟩:=h;rfl
 mono hs h:=by obtain⟨p,e,h⟩:=h;exact⟨p,e,h.mono hs⟩
 plain h v hv:=by obtain⟨p,rfl,_⟩:=h;simp at hv;subst hv;rfl
abbrev Ro.map:Ro (Option Nat):=Ro.atom .map
theorem Kt {α β:Type}{f:α→β→Chk}:∀ {ps:List α}{ss:List β}{i:Nat}{p:α}{s:β},ps[i]? =some p→ss[i]? =some s→
 ∃rest,(kV f ps ss).Perm (f p s::rest)∧ ∀p' s',(kV f (ps.set i p') (ss.set i s')).Perm (f p' s'::rest):=by
 intro ps
 induction ps with
 |nil=>intro ss i p s h;simp at h
 |cons q ps ih=>
  intro ss i p s hp hs;cases ss with
  |nil=>simp at hs
  |cons t ss=>
   cases i with
   |zero=>
    simp only[iB,Option.some.injEq]at hp hs;subst hp hs;exact⟨kV f ps ss,jN _,λp' s'=>jN _⟩
   |succ i=>
    obtain⟨rest,a,b⟩:=ih (by simpa using hp) (by simpa using hs);exact⟨f q t::rest,(lH _ a).trans (jZ _ _ _),λp' s'=>(lH _ (b p' s')).trans (jZ _ _ _)⟩
abbrev N8 {α:Type}(e:TypeId) (r:Ro α) (ts:List Slc) (ls:List (List α)):List Chk:=kV (cR e r) ts ls
theorem St.freezeRows {α:Type}{e:TypeId}{r:Ro α}:∀ {ts:List Slc}{ls:List (List α)}{φ:AD}{h:AE}{F:List Chk},ts.length=ls.length→St φ (N8 e r ts ls++F) h→
 ∃ψ,Sub φ ψ∧(∀(i:Nat) t l,ts[i]? =some t→ls[i]? =some l→Ro.SliceIs r ψ t l)∧St ψ F h:=by
 intro ts
 induction ts with
 |nil=>
  intro ls φ h F hl H;cases ls with
  |nil=>exact⟨φ,Sub.refl _,λi t l h=>by simp at h,H⟩
  |cons _ _=>cases hl
 |cons t ts ih=>
  intro ls φ h F hl H;cases ls with
  |nil=>cases hl
  |cons l ls=>
   have⟨n,b,f,g⟩:=St.freezeRow (t:=t) H;obtain⟨j,a,k,m⟩:=ih (by simpa using hl) g;refine⟨j,b.trans a,λi t' l' c d=> ?_,m⟩;cases i with
   |zero=>
    simp only[iB,Option.some.injEq]at c d;subst c d;exact f.mono a
   |succ i=>exact k i t' l' (by simpa using c) (by simpa using d)
section
variable {P:Program}{Q:Bh→AE→Prop}{h:AE}{φ ψ:AD}{Γ:List Chk}
theorem On {a:BX}{t:Slc}{l:List a.Ty}{i:Int}{x:a.Ty}{K:a.Ty→T}(k:Ro.SliceIs (Ro.atom a) φ t l) (hx:idx l i=some x) (hs:Sub φ (Bj h)) (hK:(K x).wp P Q h):
 (deref t.1 λA=>chk (0≤i∧i< (t.2.1:Nat))<|T.load a (A.add (gV i *1)) K).wp P Q h:=by
 have⟨A1,cs,ea,hi,r1,cl⟩:=k.get hx;refine AF _ ea (Ah hi ?_);obtain rfl:cs= [a.val x]:=r1;exact AG (x:=x) (AJ hs (cl 0 _ rfl)) rfl hK
theorem RA {α:Type}{r:Ro α}{t:Slc}{l:List (List α)}{i:Int}{x:List α}{K:Slc→T}(k:Ro.SliceIs (Ro.list r) φ t l) (hx:idx l i=some x) (hs:Sub φ (Bj h)) (hK:∀u,Ro.SliceIs r φ u x→(K u).wp P Q h):
 (deref t.1 λA=>chk (0≤i∧i< (t.2.1:Nat))<|T.load .slice (A.add (gV i *1)) K).wp P Q h:=by
 have⟨A1,cs,ea,hi,r1,cl⟩:=k.get hx;refine AF _ ea (Ah hi ?_);obtain⟨u,rfl,ku⟩:=r1;exact AG (x:=u) (AJ hs (cl 0 _ rfl)) rfl (hK u ku)
theorem NS {a:BX}{ty:TypeId}{t:Slc}{l:List a.Ty}{i:Int}{x:a.Ty}{K:a.Ty→T}(H:St φ (cR ty (Ro.atom a) t l::Γ) h) (hx:idx l i=some x) (hK:(K x).wp P Q h):
 (deref t.1 λA=>chk (0≤i∧i< (t.2.1:Nat))<|T.load a (A.add (gV i *1)) K).wp P Q h:=by
 have⟨A1,cs,ea,hi,r1,cl⟩:=St.get H hx;refine AF _ ea (Ah hi ?_);obtain rfl:cs= [a.val x]:=r1;exact AG (x:=x) (cl 0 _ rfl) rfl hK
end
theorem sb {φ ψ:AD}(le:Sub φ ψ:=by repeat first | exact Sub.refl _ | assumption | refine Sub.trans ?_ (by assumption)):Sub φ ψ:=le
theorem Ro.SliceIs.up {α:Type}{r:Ro α}{φ ψ:AD}{t:Slc}{l:List α}(k:Ro.SliceIs r φ t l) (le:Sub φ ψ:=by repeat first | exact Sub.refl _ | assumption | refine Sub.trans ?_ (by assumption)):Ro.SliceIs r ψ t l:=k.mono le
theorem Pt.up {α:Type}{r:Ro α}{φ ψ:AD}{p:gL}{x:α}(k:Pt r φ p x) (le:Sub φ ψ:=by repeat first | exact Sub.refl _ | assumption | refine Sub.trans ?_ (by assumption)):Pt r ψ p x:=k.mono le
theorem Np.up {α:Type}{r:Ro α}{φ ψ:AD}{p:gL}{x:Option α}(k:Np r φ p x) (le:Sub φ ψ:=by repeat first | exact Sub.refl _ | assumption | refine Sub.trans ?_ (by assumption)):Np r ψ p x:=k.mono le
def Lf {α:Type}(ro:Ro α) (j:Nat) (a:BX) (R:AD→a.Ty→α→Prop):Prop:= ∀φ cs x,ro.is φ cs x→ ∃v:a.Ty,cs[j]? =some (a.val v)∧R φ v x
theorem Lf.tl {α β:Type}{b:Ro β}{ro:Ro α}{j:Nat}{a:BX}{R:AD→a.Ty→α→Prop}(L:Lf ro j a R) (hs:b.sz=1:=by rfl):Lf (Ro.prod b ro) (j+1) a (λφ v x=>R φ v x.2):=λφ cs x h=>by
 obtain⟨f,c,rfl,d,e⟩:=h;have⟨v,hv,hR⟩:=L φ c x.2 e;have hl:=b.len d;exact⟨v,by rw[iF (by omega),hl,hs];exact hv,hR⟩
theorem Lf.hd {α β:Type}{b:Ro β}{ro:Ro α}{a:BX}{R:AD→a.Ty→β→Prop}(L:Lf b 0 a R):Lf (Ro.prod b ro) 0 a (λφ v x=>R φ v x.1):=λφ cs x h=>by
 obtain⟨c,e,rfl,d,f⟩:=h;have⟨v,hv,hR⟩:=L φ c x.1 d;exact⟨v,by rw[gS (List.getElem?_eq_some_iff.1 hv).1];exact hv,hR⟩
theorem Lf.a (a:BX):Lf (Ro.atom a) 0 a (λ_ v x=>v=x):=λφ cs x h=>⟨x,by obtain rfl:cs=_:=h;rfl,rfl⟩
theorem Lf.l {α:Type}(r:Ro α):Lf (Ro.list r) 0 .slice (λφ v x=>Ro.SliceIs r φ v x):=λφ cs x h=>by
 obtain⟨t,rfl,k⟩:=h;exact⟨t,rfl,k⟩
theorem Lf.p {α:Type}(r:Ro α):Lf (Ro.at r) 0 .pointer (λφ v x=>Pt r φ v x):=λφ cs x h=>by
 obtain⟨t,rfl,k⟩:=h;exact⟨t,rfl,k⟩
section
variable {P:Program}{Q:Bh→AE→Prop}{h:AE}{φ ψ:AD}{Γ:List Chk}{α β:Type}{ro:Ro α}{j:Nat}{a:BX}
theorem ixR {R:AD→a.Ty→α→Prop}(L:Lf ro j a R) {t:Slc}{l:List α}{i:Int}{f:α→Option β}{r:β}{K:a.Ty→T}(k:Ro.SliceIs ro φ t l) (hd:(idx l i).bind f=some r) (s:St ψ Γ h) (hk:∀x v,R φ v x→f x=some r→(K v).wp P Q h) (le:Sub φ ψ:=by repeat first | exact Sub.refl _ | assumption | refine Sub.trans ?_ (by assumption)):
 (deref t.1 λA=>chk (0≤i∧i< (t.2.1:Nat))<|T.load a ((A.add (gV i *ro.sz)).add j) K).wp P Q h:=by
 have⟨x,hx,hd⟩:=bS hd;have⟨A,cs,ea,hi,q,cl⟩:=k.get hx;have⟨v,hv,hR⟩:=L φ cs x q;exact AF _ ea (Ah hi (AG (x:=v) (by rw[An];exact AJ (le.trans s.sub) (cl j _ hv)) rfl (hk x v hR hd)))
theorem ixS {g:α→a.Ty}(L:Lf ro j a (λ_ v x=>v=g x)) {t:Slc}{l:List α}{i:Int}{f:α→Option β}{r:β}{K:a.Ty→T}(k:Ro.SliceIs ro φ t l) (hd:(idx l i).bind f=some r) (s:St ψ Γ h) (hk:∀x,f x=some r→(K (g x)).wp P Q h) (le:Sub φ ψ:=by repeat first | exact Sub.refl _ | assumption | refine Sub.trans ?_ (by assumption)):
 (deref t.1 λA=>chk (0≤i∧i< (t.2.1:Nat))<|T.load a ((A.add (gV i *ro.sz)).add j) K).wp P Q h:=ixR L k hd s (λx v e hd=>by rw[e];exact hk x hd) le
theorem IS {g:α→a.Ty}(L:Lf ro 0 a (λ_ v x=>v=g x)) {t:Slc}{l:List α}{i:Int}{f:α→Option β}{r:β}{K:a.Ty→T}(k:Ro.SliceIs ro φ t l) (hd:(idx l i).bind f=some r) (s:St ψ Γ h) (hk:∀x,f x=some r→(K (g x)).wp P Q h) (le:Sub φ ψ:=by repeat first | exact Sub.refl _ | assumption | refine Sub.trans ?_ (by assumption)):
 (deref t.1 λA=>chk (0≤i∧i< (t.2.1:Nat))<|T.load a (A.add (gV i *ro.sz)) K).wp P Q h:=ixS L k hd s hk le
theorem ioR {ty:TypeId}{R:AD→a.Ty→α→Prop}(L:Lf ro j a R) {t:Slc}{l:List α}{i:Int}{f:α→Option β}{r:β}{K:a.Ty→T}(s:St φ (cR ty ro t l::Γ) h) (hd:(idx l i).bind f=some r) (hk:∀x v,R φ v x→f x=some r→(K v).wp P Q h):
 (deref t.1 λA=>chk (0≤i∧i< (t.2.1:Nat))<|T.load a ((A.add (gV i *ro.sz)).add j) K).wp P Q h:=by
 have⟨x,hx,hd⟩:=bS hd;have⟨A,cs,ea,hi,q,cl⟩:=s.get hx;have⟨v,hv,hR⟩:=L φ cs x q;exact AF _ ea (Ah hi (AG (x:=v) (by rw[An];exact cl j _ hv) rfl (hk x v hR hd)))
theorem ioS {ty:TypeId}{g:α→a.Ty}(L:Lf ro j a (λ_ v x=>v=g x)) {t:Slc}{l:List α}{i:Int}{f:α→Option β}{r:β}{K:a.Ty→T}(s:St φ (cR ty ro t l::Γ) h) (hd:(idx l i).bind f=some r) (hk:∀x,f x=some r→(K (g x)).wp P Q h):
 (deref t.1 λA=>chk (0≤i∧i< (t.2.1:Nat))<|T.load a ((A.add (gV i *ro.sz)).add j) K).wp P Q h:=ioR L s hd λx v e hd=>by rw[e];exact hk x hd
theorem dO {ty:TypeId}{g:α→a.Ty}(L:Lf ro 0 a (λ_ v x=>v=g x)) {t:Slc}{l:List α}{i:Int}{f:α→Option β}{r:β}{K:a.Ty→T}(s:St φ (cR ty ro t l::Γ) h) (hd:(idx l i).bind f=some r) (hk:∀x,f x=some r→(K (g x)).wp P Q h):
 (deref t.1 λA=>chk (0≤i∧i< (t.2.1:Nat))<|T.load a (A.add (gV i *ro.sz)) K).wp P Q h:=ioS L s hd hk
theorem OM {a b:BX}{t:Slc}{l:List (a.Ty×b.Ty)}{i:Int}{f:a.Ty×b.Ty→Option β}{r:β}{K:a.Ty→b.Ty→T}(k:Ro.SliceIs (Ro.prod (Ro.atom a) (Ro.atom b)) φ t l) (hd:(idx l i).bind f=some r) (s:St ψ Γ h) (hk:∀x,f x=some r→(K x.1 x.2).wp P Q h) (le:Sub φ ψ:=by repeat first | exact Sub.refl _ | assumption | refine Sub.trans ?_ (by assumption)):
 (deref t.1 λA=>chk (0≤i∧i< (t.2.1:Nat))<|T.load a (A.add (gV i *2)) λu=>T.load b ((A.add (gV i *2)).add 1) λv=>K u v).wp P Q h:=by
 have⟨x,hx,hd⟩:=bS hd;obtain⟨A,_,ea,hi,⟨_,_,rfl,rfl,rfl⟩,cl⟩:=k.get hx;exact AF _ ea (Ah hi (AG (x:=x.1) (AJ (le.trans s.sub) (cl 0 _ rfl)) rfl (AG (x:=x.2) (by rw[An];exact AJ (le.trans s.sub) (cl 1 _ rfl)) rfl (hk x hd))))
theorem Wn {a b c:BX}{t:Slc}{l:List (a.Ty×b.Ty×c.Ty)}{i:Int}{f:a.Ty×b.Ty×c.Ty→Option β}{r:β}{K:a.Ty→b.Ty→c.Ty→T}(k:Ro.SliceIs (Ro.prod (Ro.atom a) (Ro.prod (Ro.atom b) (Ro.atom c))) φ t l) (hd:(idx l i).bind f=some r) (s:St ψ Γ h) (hk:∀x,f x=some r→(K x.1 x.2.1 x.2.2).wp P Q h) (le:Sub φ ψ:=by repeat first | exact Sub.refl _ | assumption | refine Sub.trans ?_ (by assumption)):
 (deref t.1 λA=>chk (0≤i∧i< (t.2.1:Nat))<|T.load a (A.add (gV i *3)) λu=>T.load b ((A.add (gV i *3)).add 1) λv=>T.load c ((A.add (gV i *3)).add 2) λw=>K u v w).wp P Q h:=by
 have⟨x,hx,hd⟩:=bS hd;obtain⟨A,_,ea,hi,⟨_,_,rfl,rfl,⟨_,_,rfl,rfl,rfl⟩⟩,cl⟩:=k.get hx;have q:=λj v hv=>AJ (le.trans s.sub) (cl j v hv);exact AF _ ea (Ah hi (AG (x:=x.1) (q 0 _ rfl) rfl (AG (x:=x.2.1) (by rw[An];exact q 1 _ rfl) rfl (AG (x:=x.2.2) (by rw[An];exact q 2 _ rfl) rfl (hk x hd)))))
theorem ca {ty:TypeId}{a b:BX}{t:Slc}{l:List (a.Ty×b.Ty)}{i:Int}{f:a.Ty×b.Ty→Option β}{r:β}{K:a.Ty→b.Ty→T}(s:St φ (cR ty (Ro.prod (Ro.atom a) (Ro.atom b)) t l::Γ) h) (hd:(idx l i).bind f=some r) (hk:∀x,f x=some r→(K x.1 x.2).wp P Q h):
 (deref t.1 λA=>chk (0≤i∧i< (t.2.1:Nat))<|T.load a (A.add (gV i *2)) λu=>T.load b ((A.add (gV i *2)).add 1) λv=>K u v).wp P Q h:=by
 have⟨x,hx,hd⟩:=bS hd;obtain⟨A,_,ea,hi,⟨_,_,rfl,rfl,rfl⟩,cl⟩:=s.get hx;exact AF _ ea (Ah hi (AG (x:=x.1) (cl 0 _ rfl) rfl (AG (x:=x.2) (by rw[An];exact cl 1 _ rfl) rfl (hk x hd))))
theorem dP {ty:TypeId}{a b c:BX}{t:Slc}{l:List (a.Ty×b.Ty×c.Ty)}{i:Int}{f:a.Ty×b.Ty×c.Ty→Option β}{r:β}{K:a.Ty→b.Ty→c.Ty→T}(s:St φ (cR ty (Ro.prod (Ro.atom a) (Ro.prod (Ro.atom b) (Ro.atom c))) t l::Γ) h) (hd:(idx l i).bind f=some r) (hk:∀x,f x=some r→(K x.1 x.2.1 x.2.2).wp P Q h):
 (deref t.1 λA=>chk (0≤i∧i< (t.2.1:Nat))<|T.load a (A.add (gV i *3)) λu=>T.load b ((A.add (gV i *3)).add 1) λv=>T.load c ((A.add (gV i *3)).add 2) λw=>K u v w).wp P Q h:=by
 have⟨x,hx,hd⟩:=bS hd;obtain⟨A,_,ea,hi,⟨_,_,rfl,rfl,⟨_,_,rfl,rfl,rfl⟩⟩,cl⟩:=s.get hx;exact AF _ ea (Ah hi (AG (x:=x.1) (cl 0 _ rfl) rfl (AG (x:=x.2.1) (by rw[An];exact cl 1 _ rfl) rfl (AG (x:=x.2.2) (by rw[An];exact cl 2 _ rfl) rfl (hk x hd)))))
theorem gx {t:Slc}{l:List a.Ty}{i:Int}{f:a.Ty→Option β}{r:β}{K:a.Ty→T}(k:Ro.SliceIs (Ro.atom a) φ t l) (hd:(idx l i).bind f=some r) (s:St ψ Γ h) (hk:∀x,f x=some r→(K x).wp P Q h) (le:Sub φ ψ:=by repeat first | exact Sub.refl _ | assumption | refine Sub.trans ?_ (by assumption)):
 (deref t.1 λA=>chk (0≤i∧i< (t.2.1:Nat))<|T.load a (A.add (gV i *1)) K).wp P Q h:=by
 have⟨x,hx,hd⟩:=bS hd;exact On k hx (le.trans s.sub) (hk x hd)
theorem gxS {rr:Ro α}{t:Slc}{l:List (List α)}{i:Int}{f:List α→Option β}{r:β}{K:Slc→T}(k:Ro.SliceIs (Ro.list rr) φ t l) (hd:(idx l i).bind f=some r) (s:St ψ Γ h) (hk:∀x u,Ro.SliceIs rr φ u x→f x=some r→(K u).wp P Q h) (le:Sub φ ψ:=by repeat first | exact Sub.refl _ | assumption | refine Sub.trans ?_ (by assumption)):
 (deref t.1 λA=>chk (0≤i∧i< (t.2.1:Nat))<|T.load .slice (A.add (gV i *1)) K).wp P Q h:=by
 have⟨x,hx,hd⟩:=bS hd;exact RA k hx (le.trans s.sub) λu ku=>hk x u ku hd
theorem gxO {ty:TypeId}{t:Slc}{l:List a.Ty}{i:Int}{f:a.Ty→Option β}{r:β}{K:a.Ty→T}(s:St φ (cR ty (Ro.atom a) t l::Γ) h) (hd:(idx l i).bind f=some r) (hk:∀x,f x=some r→(K x).wp P Q h):
 (deref t.1 λA=>chk (0≤i∧i< (t.2.1:Nat))<|T.load a (A.add (gV i *1)) K).wp P Q h:=by
 have⟨x,hx,hd⟩:=bS hd;exact NS s hx (hk x hd)
theorem pfR {R:AD→a.Ty→α→Prop}(L:Lf ro j a R) {p:gL}{x:α}{K:a.Ty→T}(k:Pt ro φ p x) (s:St ψ Γ h) (hk:∀v,R φ v x→(K v).wp P Q h) (le:Sub φ ψ:=by repeat first | exact Sub.refl _ | assumption | refine Sub.trans ?_ (by assumption)):(deref p λA=>T.load a (A.add j) K).wp P Q h:=by
 obtain⟨A,vs,e,q,hc⟩:=k;have⟨v,hv,hR⟩:=L φ vs x q;exact AF _ e (AG (x:=v) (AJ (le.trans s.sub) (hc.at j hv)) rfl (hk v hR))
theorem cb {R:AD→a.Ty→α→Prop}(L:Lf ro 0 a R) {p:gL}{x:α}{K:a.Ty→T}(k:Pt ro φ p x) (s:St ψ Γ h) (hk:∀v,R φ v x→(K v).wp P Q h) (le:Sub φ ψ:=by repeat first | exact Sub.refl _ | assumption | refine Sub.trans ?_ (by assumption)):(deref p λA=>T.load a A K).wp P Q h:=pfR L k s hk le
theorem AY {f:FuncId}{fn:Func}{args:List Value}{R:Fin→AE→Prop}{t:T}(hm:P.follows .mixedOrders=true) (hf:P.funcs[f]? =some fn) (hd:Ab P fn args=t) (H:t.wp P (Ln R) h):CallsH P f args h R:=Av hm hf (by rw[hd];exact H)
theorem GK {t:Slc×Slc×Slc×Slc×Slc×Slc×Unit}{ty:TypeId}{k:Nat→T}(H:St φ Γ h) (hk:∀r h',St φ (cW ty r [sv t.1,sv t.2.1,sv t.2.2.1,sv t.2.2.2.1,sv t.2.2.2.2.1,sv t.2.2.2.2.2.1]::Γ) h'→(k r).wp P Q h'):(T.new (.cells #[.slice t.1.1 t.1.2.1 t.1.2.2,.slice t.2.1.1 t.2.1.2.1 t.2.1.2.2,.slice t.2.2.1.1 t.2.2.1.2.1 t.2.2.1.2.2,.slice t.2.2.2.1.1 t.2.2.2.1.2.1 t.2.2.2.1.2.2,.slice t.2.2.2.2.1.1 t.2.2.2.2.1.2.1 t.2.2.2.2.1.2.2,.slice t.2.2.2.2.2.1.1 t.2.2.2.2.2.1.2.1 t.2.2.2.2.2.1.2.2] ty (0,0)) k).wp P Q h:=
 AV (vs:=[sv t.1,sv t.2.1,sv t.2.2.1,sv t.2.2.2.1,sv t.2.2.2.2.1,sv t.2.2.2.2.2.1]) H hk
theorem Bk {t:Slc×Slc×Slc×Slc×Slc×Slc×Unit}{ty:TypeId}{b:Nat}{K:Slc→Slc→Slc→Slc→Slc→Slc→T}(H:St φ (⟨Rep.raw ty,[.pointer (some ⟨b,0,none⟩)],[sv t.1,sv t.2.1,sv t.2.2.1,sv t.2.2.2.1,sv t.2.2.2.2.1,sv t.2.2.2.2.2.1]⟩::Γ) h) (hk:(K t.1 t.2.1 t.2.2.1 t.2.2.2.1 t.2.2.2.2.1 t.2.2.2.2.2.1).wp P Q h):
 (T.load .slice ⟨b,0,none⟩ λt0=>T.load .slice ⟨b,1,none⟩ λt1=>T.load .slice ⟨b,2,none⟩ λt2=>T.load .slice ⟨b,3,none⟩ λt3=>T.load .slice ⟨b,4,none⟩ λt4=>T.load .slice ⟨b,5,none⟩ λt5=>K t0 t1 t2 t3 t4 t5).wp P Q h:=
 AA (x:=t.1) H rfl (AA (x:=t.2.1) H rfl (AA (x:=t.2.2.1) H rfl (AA (x:=t.2.2.2.1) H rfl (AA (x:=t.2.2.2.2.1) H rfl (AA (x:=t.2.2.2.2.2.1) H rfl hk)))))
end
abbrev aI:Sh1:=.atom (.int .i64)
abbrev aB:Sh1:=.atom .bool
abbrev aS:Sh1:=.atom .slice
abbrev aP:Sh1:=.atom .pointer
abbrev wN (x:Int):Int:=iY .i64 (x+(1:Int))
theorem dT {i:Int}{a b:Nat}(n:a=b) (h:i< ((b:Nat):Int)):decide (i< ((a:Nat):Int))=true:=by rw[n];exact gC h
theorem dF {i:Int}{a b:Nat}(n:a=b) (h:((b:Nat):Int) ≤i):decide (i< ((a:Nat):Int))=false:=by rw[n];exact gB (Int.not_lt.2 h)
abbrev Pl6:Type:=Slc×Slc×Slc×Slc×Slc×Slc×Unit
abbrev aH (a b c d e f:Slc):Value:=.agg #[sv a,sv b,sv c,sv d,sv e,sv f]
abbrev aG (p:Pl6):Value:=.agg #[sv p.1,sv p.2.1,sv p.2.2.1,sv p.2.2.2.1,sv p.2.2.2.2.1,sv p.2.2.2.2.2.1]
noncomputable abbrev L6 (r:Nat) (k:Slc→Slc→Slc→Slc→Slc→Slc→T):T:=T.load .slice ⟨r,0,none⟩ λ(a:Slc)=>T.load .slice ⟨r,1,none⟩ λ(b:Slc)=>T.load .slice ⟨r,2,none⟩ λ(c:Slc)=>T.load .slice ⟨r,3,none⟩ λ(d:Slc)=>T.load .slice ⟨r,4,none⟩ λ(e:Slc)=>T.load .slice ⟨r,5,none⟩ λ(f:Slc)=>k a b c d e f
noncomputable abbrev M6 (r:Addr) (k:Slc→Slc→Slc→Slc→Slc→Slc→T):T:=T.load .slice r λ(a:Slc)=>T.load .slice (r.add 1) λ(b:Slc)=>T.load .slice (r.add 2) λ(c:Slc)=>T.load .slice (r.add 3) λ(d:Slc)=>T.load .slice (r.add 4) λ(e:Slc)=>T.load .slice (r.add 5) λ(f:Slc)=>k a b c d e f
noncomputable abbrev S6 (r:Nat) (a b c d e f:Slc) (k:T):T:=T.still ⟨r,0,none⟩ (sv a)<|T.still ⟨r,1,none⟩ (sv b)<|T.still ⟨r,2,none⟩ (sv c)<|T.still ⟨r,3,none⟩ (sv d)<|T.still ⟨r,4,none⟩ (sv e)<|T.still ⟨r,5,none⟩ (sv f)<|k
end Go.Eng
namespace Go.Proofs.YtkfgeafgfeppfaaGreatDoor
open Go Go.Eng
abbrev A9:Type:=(Int×Int)
abbrev BG:Ro A9:=(Ro.prod (Ro.int .i64) (Ro.int .i64))
theorem Wo:Lf BG 0 (.int .i64) (λ_ v x=>v=x.1):=Lf.hd (Lf.a _)
theorem ai:Lf BG 1 (.int .i64) (λ_ v x=>v=x.2):=Lf.tl (Lf.a _)
abbrev C5:Type:=(Int×Int)
abbrev DR:Ro C5:=(Ro.prod (Ro.int .i64) (Ro.int .i64))
theorem aj:Lf DR 0 (.int .i64) (λ_ v x=>v=x.1):=Lf.hd (Lf.a _)
theorem ak:Lf DR 1 (.int .i64) (λ_ v x=>v=x.2):=Lf.tl (Lf.a _)
abbrev Hq:Type:=(gN×gN×Bool)
abbrev Mf:Ro Hq:=(Ro.prod Ro.str (Ro.prod Ro.str Ro.bool))
abbrev Gh:Type:=(gN×gN×gN×Bool)
abbrev Gi:Ro Gh:=(Ro.prod Ro.str (Ro.prod Ro.str (Ro.prod Ro.str Ro.bool)))
theorem OV:Lf Gi 0 .string (λ_ v x=>v=x.1):=Lf.hd (Lf.a _)
abbrev FH:Type:=(Int×List gN)
abbrev GN:Ro FH:=(Ro.prod (Ro.int .i64) (Ro.list Ro.str))
theorem Yw:Lf GN 0 (.int .i64) (λ_ v x=>v=x.1):=Lf.hd (Lf.a _)
theorem Yx:Lf GN 1 .slice (λφ v x=>Ro.SliceIs Ro.str φ v x.2):=Lf.tl (Lf.l _)
abbrev Db:Type:=(gN×List gN×gN×gN)
abbrev Fx:Ro Db:=(Ro.prod Ro.str (Ro.prod (Ro.list Ro.str) (Ro.prod Ro.str Ro.str)))
theorem RB:Lf Fx 0 .string (λ_ v x=>v=x.1):=Lf.hd (Lf.a _)
theorem Yy:Lf Fx 3 .string (λ_ v x=>v=x.2.2.2):=Lf.tl (Lf.tl (Lf.tl (Lf.a _)))
abbrev Ax:Type:=(Int×gM×Int)
abbrev CI:Ro Ax:=(Ro.prod (Ro.int .i64) (Ro.prod (Ro.list (Ro.int .i64)) (Ro.int .i64)))
theorem L8:Lf CI 0 (.int .i64) (λ_ v x=>v=x.1):=Lf.hd (Lf.a _)
theorem HX:Lf CI 1 .slice (λφ v x=>Ro.SliceIs (Ro.int .i64) φ v x.2.1):=Lf.tl (Lf.hd (Lf.l _))
abbrev Au:Type:=(List gN×List gN×List Ax×gM×gM×List gN)
abbrev FV:Type:=(List Gh×List Hq×List FH×gN×List Db)
abbrev NT:Type:=(Int×Int×gM×List gM×gM×gM×gM)
abbrev Z5:Type:=(List A9×List A9×List C5×Int×Int)
abbrev Uq:Ro Z5:=(Ro.prod (Ro.list BG) (Ro.prod (Ro.list BG) (Ro.prod (Ro.list DR) (Ro.prod (Ro.int .i64) (Ro.int .i64)))))
abbrev EC:Type:=(List gN×List gN×List Ax×gM×gM×List gN×List Z5×Int)
abbrev Fy:Ro EC:=(Ro.prod (Ro.list Ro.str) (Ro.prod (Ro.list Ro.str) (Ro.prod (Ro.list CI) (Ro.prod (Ro.list (Ro.int .i64)) (Ro.prod (Ro.list (Ro.int .i64)) (Ro.prod (Ro.list Ro.str) (Ro.prod (Ro.list Uq) (Ro.int .i64))))))))
theorem OW:Lf Fy 6 .slice (λφ v x=>Ro.SliceIs Uq φ v x.2.2.2.2.2.2.1):=Lf.tl (Lf.tl (Lf.tl (Lf.tl (Lf.tl (Lf.tl (Lf.hd (Lf.l _)))))))
abbrev HY:Type:=(List gN×List gN×List Ax×gM×gM×List gN×Slc×Int)
abbrev Cc:Ro HY:=(Ro.prod (Ro.list Ro.str) (Ro.prod (Ro.list Ro.str) (Ro.prod (Ro.list CI) (Ro.prod (Ro.list (Ro.int .i64)) (Ro.prod (Ro.list (Ro.int .i64)) (Ro.prod (Ro.list Ro.str) (Ro.prod Ro.slc (Ro.int .i64))))))))
abbrev Cu:Type:=(Int×Int×Int)
abbrev Fz:Ro Cu:=(Ro.prod (Ro.int .i64) (Ro.prod (Ro.int .i64) (Ro.int .i64)))
abbrev Wp:Type:=(Int×Int)
abbrev SF:Ro Wp:=(Ro.prod (Ro.int .i64) (Ro.int .i64))
abbrev cc:Type:=(Int×Int)
abbrev Z6:Type:=(List Bool×List gM×List gM×Int)
abbrev Oo:Type:=(List Bool×List (List Bool)×List (List Bool)×Int)
abbrev Ur:Ro Oo:=(Ro.prod (Ro.list Ro.bool) (Ro.prod (Ro.list (Ro.list Ro.bool)) (Ro.prod (Ro.list (Ro.list Ro.bool)) (Ro.int .i64))))
theorem Us:Lf Ur 0 .slice (λφ v x=>Ro.SliceIs Ro.bool φ v x.1):=Lf.hd (Lf.l _)
theorem Yz:Lf Ur 1 .slice (λφ v x=>Ro.SliceIs (Ro.list Ro.bool) φ v x.2.1):=Lf.tl (Lf.hd (Lf.l _))
abbrev N9:Type:=(List gN×List gN×List Ax×gM×gM×List gN×EC×List Bool×List gM×List gM×Int×List Wp×Option Nat×Option Nat)
abbrev QP:Ro N9:=(Ro.prod (Ro.list Ro.str) (Ro.prod (Ro.list Ro.str) (Ro.prod (Ro.list CI) (Ro.prod (Ro.list (Ro.int .i64)) (Ro.prod (Ro.list (Ro.int .i64)) (Ro.prod (Ro.list Ro.str) (Ro.prod (Ro.at Fy) (Ro.prod (Ro.list Ro.bool) (Ro.prod (Ro.list (Ro.list (Ro.int .i64))) (Ro.prod (Ro.list (Ro.list (Ro.int .i64))) (Ro.prod (Ro.int .i64) (Ro.prod (Ro.list SF) (Ro.prod Ro.map Ro.map)))))))))))))
theorem RC:Lf QP 2 .slice (λφ v x=>Ro.SliceIs CI φ v x.2.2.1):=Lf.tl (Lf.tl (Lf.hd (Lf.l _)))
theorem Mg:Lf QP 6 .pointer (λφ v x=>Pt Fy φ v x.2.2.2.2.2.2.1):=Lf.tl (Lf.tl (Lf.tl (Lf.tl (Lf.tl (Lf.tl (Lf.hd (Lf.p _)))))))
abbrev C8:Type:=(Int×gM)
abbrev NU:Type:=(List gN×List gN×List Ax×gM×gM×List gN×List (List A9)×List (List A9)×List (List C5)×gM×gM×Int)
abbrev Oq:Ro NU:=(Ro.prod (Ro.list Ro.str) (Ro.prod (Ro.list Ro.str) (Ro.prod (Ro.list CI) (Ro.prod (Ro.list (Ro.int .i64)) (Ro.prod (Ro.list (Ro.int .i64)) (Ro.prod (Ro.list Ro.str) (Ro.prod (Ro.list (Ro.list BG)) (Ro.prod (Ro.list (Ro.list BG)) (Ro.prod (Ro.list (Ro.list DR)) (Ro.prod (Ro.list (Ro.int .i64)) (Ro.prod (Ro.list (Ro.int .i64)) (Ro.int .i64))))))))))))
theorem To:Lf Oq 6 .slice (λφ v x=>Ro.SliceIs (Ro.list BG) φ v x.2.2.2.2.2.2.1):=Lf.tl (Lf.tl (Lf.tl (Lf.tl (Lf.tl (Lf.tl (Lf.hd (Lf.l _)))))))
theorem Tp:Lf Oq 7 .slice (λφ v x=>Ro.SliceIs (Ro.list BG) φ v x.2.2.2.2.2.2.2.1):=Lf.tl (Lf.tl (Lf.tl (Lf.tl (Lf.tl (Lf.tl (Lf.tl (Lf.hd (Lf.l _))))))))
theorem RD:Lf Oq 8 .slice (λφ v x=>Ro.SliceIs (Ro.list DR) φ v x.2.2.2.2.2.2.2.2.1):=Lf.tl (Lf.tl (Lf.tl (Lf.tl (Lf.tl (Lf.tl (Lf.tl (Lf.tl (Lf.hd (Lf.l _)))))))))
abbrev BH:Type:=(Int×Int×Int)
abbrev Bc:Ro BH:=(Ro.prod (Ro.int .i64) (Ro.prod (Ro.int .i64) (Ro.int .i64)))
theorem Wq:Lf Bc 0 (.int .i64) (λ_ v x=>v=x.1):=Lf.hd (Lf.a _)
theorem Wr:Lf Bc 1 (.int .i64) (λ_ v x=>v=x.2.1):=Lf.tl (Lf.hd (Lf.a _))
theorem am:Lf Bc 2 (.int .i64) (λ_ v x=>v=x.2.2):=Lf.tl (Lf.tl (Lf.a _))
abbrev LC:Type:=(List gN×List gN×List Ax×gM×gM×List gN×NU×List (List (List Bool)))
abbrev SG:Ro LC:=(Ro.prod (Ro.list Ro.str) (Ro.prod (Ro.list Ro.str) (Ro.prod (Ro.list CI) (Ro.prod (Ro.list (Ro.int .i64)) (Ro.prod (Ro.list (Ro.int .i64)) (Ro.prod (Ro.list Ro.str) (Ro.prod (Ro.at Oq) (Ro.list (Ro.list (Ro.list Ro.bool))))))))))
theorem Tq:Lf SG 2 .slice (λφ v x=>Ro.SliceIs CI φ v x.2.2.1):=Lf.tl (Lf.tl (Lf.hd (Lf.l _)))
theorem NV:Lf SG 6 .pointer (λφ v x=>Pt Oq φ v x.2.2.2.2.2.2.1):=Lf.tl (Lf.tl (Lf.tl (Lf.tl (Lf.tl (Lf.tl (Lf.hd (Lf.p _)))))))
theorem Ws:Lf SG 7 .slice (λφ v x=>Ro.SliceIs (Ro.list (Ro.list Ro.bool)) φ v x.2.2.2.2.2.2.2):=Lf.tl (Lf.tl (Lf.tl (Lf.tl (Lf.tl (Lf.tl (Lf.tl (Lf.l _)))))))
structure JR (φ:AD) (t:(Option Addr×Nat×Nat)×(Option Addr×Nat×Nat)×(Option Addr×Nat×Nat)×(Option Addr×Nat×Nat)×(Option Addr×Nat×Nat)×(Option Addr×Nat×Nat)×Unit) (d:Au):Prop where
 k0:Ro.SliceIs Ro.str φ t.1 d.1
 k1:Ro.SliceIs Ro.str φ t.2.1 d.2.1
 k2:Ro.SliceIs CI φ t.2.2.1 d.2.2.1
 k3:Ro.SliceIs (Ro.int .i64) φ t.2.2.2.1 d.2.2.2.1
 k4:Ro.SliceIs (Ro.int .i64) φ t.2.2.2.2.1 d.2.2.2.2.1
 k5:Ro.SliceIs Ro.str φ t.2.2.2.2.2.1 d.2.2.2.2.2
theorem JR.mono {φ ψ:AD}{t:(Option Addr×Nat×Nat)×(Option Addr×Nat×Nat)×(Option Addr×Nat×Nat)×(Option Addr×Nat×Nat)×(Option Addr×Nat×Nat)×(Option Addr×Nat×Nat)×Unit}{d:Au}(H:JR φ t d) (hs:Sub φ ψ):JR ψ t d:=
 ⟨H.k0.mono hs,H.k1.mono hs,H.k2.mono hs,H.k3.mono hs,H.k4.mono hs,H.k5.mono hs⟩
theorem JR.up {φ ψ:AD}{t:(Option Addr×Nat×Nat)×(Option Addr×Nat×Nat)×(Option Addr×Nat×Nat)×(Option Addr×Nat×Nat)×(Option Addr×Nat×Nat)×(Option Addr×Nat×Nat)×Unit}{d:Au}(H:JR φ t d) (le:Sub φ ψ:=by repeat first | exact Sub.refl _ | assumption | refine Sub.trans ?_ (by assumption)):JR ψ t d:=H.mono le
abbrev HZ:Rep Au:=(Rep.prod (Rep.row 9 Ro.str) (Rep.prod (Rep.row 9 Ro.str) (Rep.prod (Rep.row 95 CI) (Rep.prod (Rep.row 3 (Ro.int .i64)) (Rep.prod (Rep.row 3 (Ro.int .i64)) (Rep.row 9 Ro.str))))))
theorem Fe {φ:AD}{h:AE}{Γ:List Chk}{p:gL}{x:Au}(H:St φ (cO 32 HZ p x::Γ) h):∃(b:Nat) (t0:Slc) (t1:Slc) (t2:Slc) (t3:Slc) (t4:Slc) (t5:Slc),p=some ⟨b,0,none⟩∧St φ (cR 9 Ro.str t5 x.2.2.2.2.2::cR 3 (Ro.int .i64) t4 x.2.2.2.2.1::cR 3 (Ro.int .i64) t3 x.2.2.2.1::cR 95 CI t2 x.2.2.1::cR 9 Ro.str t1 x.2.1::cR 9 Ro.str t0 x.1::cW 32 b [sv t0,sv t1,sv t2,sv t3,sv t4,sv t5]::Γ) h:=by
 obtain⟨b,vs,e,_,H⟩:=H.open;have H:=H.at1;obtain⟨_,_,rfl,_,H⟩:=H.pair;obtain⟨t0,a⟩:=H.rowCs;subst a;have H:=H.at1;obtain⟨_,_,rfl,_,H⟩:=H.pair;obtain⟨t1,c⟩:=H.rowCs;subst c;have H:=H.at1;obtain⟨_,_,rfl,_,H⟩:=H.pair;obtain⟨t2,d⟩:=H.rowCs;subst d;have H:=H.at1;obtain⟨_,_,rfl,_,H⟩:=H.pair;obtain⟨t3,f⟩:=H.rowCs;subst f;have H:=H.at1;obtain⟨_,_,rfl,_,H⟩:=H.pair;obtain⟨t4,g⟩:=H.rowCs;subst g;have H:=H.at1;obtain⟨t5,i⟩:=H.rowCs;subst i;exact⟨b,t0,t1,t2,t3,t4,t5,by simpa using e,H⟩
theorem IT {φ:AD}{h:AE}{Γ:List Chk}{b:Nat}{t0:Slc}{t1:Slc}{t2:Slc}{t3:Slc}{t4:Slc}{t5:Slc}{x0:List gN}{x1:List gN}{a:List Ax}{x3:gM}{c:gM}{d:List gN}(H:St φ (cR 9 Ro.str t5 d::cR 3 (Ro.int .i64) t4 c::cR 3 (Ro.int .i64) t3 x3::cR 95 CI t2 a::cR 9 Ro.str t1 x1::cR 9 Ro.str t0 x0::cW 32 b [sv t0,sv t1,sv t2,sv t3,sv t4,sv t5]::Γ) h):St φ (cO 32 HZ (some ⟨b,0,none⟩) (x0,x1,a,x3,c,d)::Γ) h:=by
 have H:=H.at1;have H:=St.unpair H;have H:=H.at1;have H:=St.unpair H;have H:=H.at1;have H:=St.unpair H;have H:=H.at1;have H:=St.unpair H;have H:=H.at1;have H:=St.unpair H;exact St.shut H.at1
abbrev IU:Rep FV:=(Rep.prod (Rep.row 127 Gi) (Rep.prod (Rep.ro (Ro.list Mf)) (Rep.prod (Rep.row 130 GN) (Rep.prod (Rep.ro Ro.str) (Rep.row 123 Fx)))))
theorem IV {φ:AD}{h:AE}{Γ:List Chk}{p:gL}{x:FV}(H:St φ (cO 66 IU p x::Γ) h):∃(b:Nat) (t0:Slc) (t1:Slc) (t2:Slc) (t4:Slc),p=some ⟨b,0,none⟩∧Ro.SliceIs Mf φ t1 x.2.1∧St φ (cR 123 Fx t4 x.2.2.2.2::cR 130 GN t2 x.2.2.1::cR 127 Gi t0 x.1::cW 66 b [sv t0,sv t1,sv t2,.string (x.2.2.2.1),sv t4]::Γ) h:=by
 obtain⟨b,vs,e,_,H⟩:=H.open;have H:=H.at1;obtain⟨_,_,rfl,_,H⟩:=H.pair;obtain⟨t0,a⟩:=H.rowCs;subst a;have H:=H.at1;obtain⟨_,_,rfl,_,H⟩:=H.pair;obtain⟨g,H⟩:=H.ro;obtain⟨t1,c,d⟩:=g;subst c;obtain⟨_,_,rfl,_,H⟩:=H.pair;obtain⟨t2,f⟩:=H.rowCs;subst f;have H:=H.at1;obtain⟨_,_,rfl,_,H⟩:=H.pair;obtain⟨g,H⟩:=H.ro;subst g;obtain⟨t4,i⟩:=H.rowCs;subst i;exact⟨b,t0,t1,t2,t4,by simpa using e,d,H⟩
theorem GL {φ:AD}{h:AE}{Γ:List Chk}{b:Nat}{t0:Slc}{t1:Slc}{t2:Slc}{t4:Slc}{x0:List Gh}{x1:List Hq}{a:List FH}{x3:gN}{c:List Db}(H:St φ (cR 123 Fx t4 c::cR 130 GN t2 a::cR 127 Gi t0 x0::cW 66 b [sv t0,sv t1,sv t2,.string (x3),sv t4]::Γ) h) (d:Ro.SliceIs Mf φ t1 x1):St φ (cO 66 IU (some ⟨b,0,none⟩) (x0,x1,a,x3,c)::Γ) h:=by
 have H:=St.unro (r:=Ro.str) (cs:=[.string x3]) (x:=x3) H rfl;have H:=St.unpair H;have H:=H.at1;have H:=St.unpair H;have H:=St.unro (r:=(Ro.list Mf)) (cs:=[.slice t1.1 t1.2.1 t1.2.2]) (x:=x1) H ⟨t1,rfl,d⟩;have H:=St.unpair H;have H:=H.at1;have H:=St.unpair H;exact St.shut H.at1
abbrev EW:Rep C8:=(Rep.prod (Rep.ro (Ro.int .i64)) (Rep.row 197 (Ro.int .u64)))
theorem Mh {φ:AD}{h:AE}{Γ:List Chk}{p:gL}{x:C8}(H:St φ (cO 199 EW p x::Γ) h):∃(b:Nat) (t1:Slc),p=some ⟨b,0,none⟩∧St φ (cR 197 (Ro.int .u64) t1 x.2::cW 199 b [.int .i64 (x.1),sv t1]::Γ) h:=by
 obtain⟨b,vs,e,_,H⟩:=H.open;have H:=H.at1;obtain⟨_,_,rfl,_,H⟩:=H.pair;obtain⟨g,H⟩:=H.ro;subst g;obtain⟨t1,a⟩:=H.rowCs;subst a;exact⟨b,t1,by simpa using e,H⟩
theorem IW {φ:AD}{h:AE}{Γ:List Chk}{b:Nat}{t1:Slc}{x0:Int}{x1:gM}(H:St φ (cR 197 (Ro.int .u64) t1 x1::cW 199 b [.int .i64 (x0),sv t1]::Γ) h):St φ (cO 199 EW (some ⟨b,0,none⟩) (x0,x1)::Γ) h:=by
 have H:=St.unro (r:=(Ro.int .i64)) (cs:=[.int .i64 x0]) (x:=x0) H rfl;have H:=St.unpair H;exact St.shut H.at1
end Go.Proofs.YtkfgeafgfeppfaaGreatDoor
