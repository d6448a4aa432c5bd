/-
  EngA, EngB, EngC, EngD, EngE, EngF, EngG, EngH, EngI, EngU, EngV, EngW, EngS, EngX, EngJ, EngT, EngZ, EngM, EngK, EngY, EngN, EngL, Ty, put together.
  Conditions: none; each part tells its own.
-/
import Derived.Calls
import Derived.Defers
import Derived.Orders
import Derived.Laws.StructEq
import Derived.Conc.LoneSelect
import Derived.Scope
import Derived.Below
import Derived.IntWalk
import Derived.Recover
import Derived.Sort.Grow
open Go.Sem renaming bind → bM,run → bQ,pure → dJ,bind_assoc' → dV
open Array renaming getElem?_setIfInBounds_ne → bN,getElem?_push → bO,getElem?_toList → bX,getElem?_setIfInBounds → cC,getD_eq_getD_getElem? → cD,getElem?_eq_none → cJ,replicate → cL,mem_of_getElem? → cN,getElem?_modify → cP,getElem?_append_left → cX,getElem?_eq_getElem → dA,size_setIfInBounds → dB,ext' → eS,size_append → eW
open List renaming getD_eq_getElem?_getD → bP,getElem?_append_left → bR,getElem?_eq_none → bT,mem_append_left → bU,eq_nil_of_length_eq_zero → cB,mem_append_right → cG,getElem?_eq_getElem → cH,length_append → cK,getElem?_append_right → cS,mem_cons_of_mem → cT,filter_cons_of_pos → dE,length_cons → dO,map_cons → dQ,mem_of_find?_eq_some → dY,filter_cons_of_neg → eC,getElem?_cons_zero → eF,getElem?_cons_succ → eG,mem_filter → eI,find?_cons → eJ,mem_cons_self → eR,size_toArray → eX,getElem?_set → fA,getElem?_map → fB,modify_cons → fC
open Nat renaming beq → bV,add_mul → bW,eq_of_beq_eq_true → bY,lt_or_ge → cA,mul_le_mul_right → cV,add_sub_cancel_left → dI,zero_add → dL,le_refl → dS,le_of_ble_eq_true → eK,add_comm → eY,one_mul → fE,blt → fH
open Bool renaming false_eq_true → bZ,and_eq_true → eB,or_eq_false_iff → eL
open Go.Instr renaming findNow → cE,findAsking → cZ,sameNow → dC,findKey → dD,checkKey → dM,sliceBound → dN,storeAt → dP,lookup → dW,keyThatStays → dX,sliceAt → eA,mapUpdate → eH,sameBits → eO,fieldAt → eP,indexAt → eQ,sliceBounds → eV,index → fD
open Go.Builtin renaming firstCells → cF,zeroCells → cQ,nextslicecap → cU,len_ → cY,append_ → dU,growBy → eM,cap_ → eU
open Go.Value renaming slice → cI,int → dG
open UInt8 renaming ofNat → dH
open Go.IntKind renaming wrap → dK
open Go.World renaming frozen? → dR,setCell → dZ
open Go.Addr renaming add → eD
open List.Perm renaming refl → eN,swap → fF
open Option renaming map → eT
open Iff renaming rfl → eZ
open Int renaming toNat → fG
open ByteArray renaming mk → fI
namespace Go.Eng
open Go
abbrev AE:=Array Obj
def DK (h:AE):World:={heap:=h,tape:=fun _ _=>0,drawn:=0,os:=default,output:=#[]}
def B4 (h:AE) (a:Addr):Option Value:=(DK h).cell? a
def OQ (h:AE) (r:Nat):Option (TypeId×Nat):=(DK h).shape? r
def EQ (h:AE) (a:Addr):Bool:=(DK h).frozen? a
def JW (h:AE) (a:Addr) (n:Nat):AE:=((DK h).freeze a n).heap
def Bm (h:AE) (a:Addr) (v:Value):AE:=((DK h).setCell a v).heap
theorem Kl (w:World) (a:Addr):w.cell? a=B4 w.heap a:=rfl
theorem Jz (w:World) (a:Addr) (n:Nat):(w.freeze a n).heap=JW w.heap a n:=by
 unfold JW World.freeze
 split<;>rfl
structure Br (w w':World):Prop where
 os:w'.os=w.os
 tape:w'.tape=w.tape
 output:w'.output=w.output
 size:w.heap.size≤w'.heap.size
theorem Br.refl (w:World):Br w w:=⟨rfl,rfl,rfl,dS _⟩
theorem Br.trans {a b c:World}(h:Br a b) (k:Br b c):Br a c:=⟨k.os.trans h.os,k.tape.trans h.tape,k.output.trans h.output,Nat.le_trans h.size k.size⟩
theorem Br.freeze (w:World) (a:Addr) (n:Nat):Br w (w.freeze a n):=by
 unfold World.freeze;split
 all_goals exact ⟨rfl,rfl,rfl,by simp⟩
theorem Br.setCell (w:World) (a:Addr) (v:Value):Br w (w.setCell a v):=⟨rfl,rfl,rfl,by unfold dZ;simp⟩
theorem Br.push (w:World) (o:Obj):Br w {w with heap:=w.heap.push o} :=⟨rfl,rfl,rfl,by simp⟩
theorem Br.setObj (w:World) (r:Nat) (o:Obj):Br w {w with heap:=w.heap.setIfInBounds r o} :=⟨rfl,rfl,rfl,by simp⟩
def Value.plain:Value→Bool
 |.agg _ | .tuple _=>false
 |_=>true
def semWp (P:Program) {α:Type}:Sem α→(α→AE→Prop)→(Value→AE→Prop)→AE→Prop
 |.pure a,K,_,h=>K a h
 |.load _ a k,K,X,h=>∃v,B4 h a=some v∧semWp P (k v) K X h
 |.store _ a v k,K,X,h=>Value.plain v=true∧(B4 h a).isSome=true∧EQ h a=false∧semWp P k K X (Bm h a v)
 |.new o k,K,X,h=>semWp P (k h.size) K X (h.push o)
 |.shape r k,K,X,h=>semWp P (k (OQ h r)) K X h
 |.freeze a n k,K,X,h=>semWp P k K X (JW h a n)
 |.frozen a k,K,X,h=>semWp P (k (EQ h a)) K X h
 |.getObj r k,K,X,h=>∃o,h[r]? =some o∧(∀c e f,o≠.cells c e f)∧semWp P (k o) K X h
 |.setObj r o k,K,X,h=>(∃o',h[r]? =some o'∧(∀c e f,o'≠.cells c e f))∧semWp P k K X (h.setIfInBounds r o)
 |.choose q k,K,X,h=>if q.forced=true then semWp P (k 0) K X h else ∀t,semWp P (k (q.cut t)) K X h
 |.sys _ _,_,_,_=>False
 |.program k,K,X,h=>semWp P (k P) K X h
 |.mark _ k,K,X,h=>semWp P k K X h
 |.halt (.panic v),_,X,h=>X v h
 |.halt _,_,_,_=>False
theorem JC {P:Program}{α:Type}(s:Sem α):∀ {K:α→AE→Prop}{X:Value→AE→Prop}(w:World),semWp P s K X w.heap→
 (∃a w',s.run P w= .ok a w'∧Br w w'∧K a w'.heap)∨(∃v w',s.run P w= .halt (.panic v) w'∧Br w w'∧X v w'.heap):=by
 induction s with
 |pure a=>intro K X w h;exact .inl ⟨a,w,rfl,.refl w,h⟩
 |load m a k ih=>
  intro K X w h;obtain ⟨v,hv,hk⟩:=h
  have:w.cell? a=some v:=hv
  simp only [bQ,this];exact ih v w hk
 |store m a v k ih=>
  intro K X w h;obtain ⟨hp,hs,hf,hk⟩:=h;obtain ⟨x,hx⟩:=Option.isSome_iff_exists.1 hs;have hx':w.cell? a=some x:=hx;have hf':w.frozen? a=false:=hf;have key:bQ P (.store m a v k) w=k.run P (w.setCell a v):=by
   cases v<;>simp_all [Value.plain,bQ]
  rw [key];rcases ih (w.setCell a v) hk with ⟨b,w',h1,h2,h3⟩|⟨b,w',h1,h2,h3⟩
  ·exact .inl ⟨b,w',h1,(Br.setCell w a v).trans h2,h3⟩
  ·exact .inr ⟨b,w',h1,(Br.setCell w a v).trans h2,h3⟩
 |new o k ih=>
  intro K X w h;simp only [bQ];rcases ih w.heap.size {w with heap:=w.heap.push o} h with ⟨b,w',h1,h2,h3⟩|⟨b,w',h1,h2,h3⟩
  ·exact .inl ⟨b,w',h1,(Br.push w o).trans h2,h3⟩
  ·exact .inr ⟨b,w',h1,(Br.push w o).trans h2,h3⟩
 |shape r k ih=>intro K X w h;simp only [bQ];exact ih _ w h
 |freeze a n k ih=>
  intro K X w h;simp only [bQ];rcases ih (w.freeze a n) (by rw [Jz];exact h) with ⟨b,w',h1,h2,h3⟩|⟨b,w',h1,h2,h3⟩
  ·exact .inl ⟨b,w',h1,(Br.freeze w a n).trans h2,h3⟩
  ·exact .inr ⟨b,w',h1,(Br.freeze w a n).trans h2,h3⟩
 |frozen a k ih=>intro K X w h;simp only [bQ];exact ih _ w h
 |getObj r k ih=>
  intro K X w h;obtain ⟨o,ho,hn,hk⟩:=h;have key:bQ P (.getObj r k) w=(k o).run P w:=by
   cases o<;>simp_all [bQ]
  rw [key];exact ih o w hk
 |setObj r o k ih=>
  intro K X w h;obtain ⟨⟨o',ho,hn⟩,hk⟩:=h;have key:bQ P (.setObj r o k) w=k.run P {w with heap:=w.heap.setIfInBounds r o} :=by
   cases o'<;>simp_all [bQ]
  rw [key];rcases ih {w with heap:=w.heap.setIfInBounds r o} hk with ⟨b,w',h1,h2,h3⟩|⟨b,w',h1,h2,h3⟩
  ·exact .inl ⟨b,w',h1,(Br.setObj w r o).trans h2,h3⟩
  ·exact .inr ⟨b,w',h1,(Br.setObj w r o).trans h2,h3⟩
 |choose q k ih=>
  intro K X w h;simp only [semWp]at h;simp only [bQ];split at h
  ·rename_i hq;simp only [hq,if_true];exact ih _ w h
  ·rename_i hq
   simp only [hq];rcases ih (q.cut (w.tape w.drawn q)) {w with drawn:=w.drawn+1} (h _) with ⟨b,w',h1,h2,h3⟩|⟨b,w',h1,h2,h3⟩
   ·exact .inl ⟨b,w',h1,⟨h2.os,h2.tape,h2.output,h2.size⟩,h3⟩
   ·exact .inr ⟨b,w',h1,⟨h2.os,h2.tape,h2.output,h2.size⟩,h3⟩
 |sys c k ih=>intro K X w h;exact h.elim
 |program k ih=>intro K X w h;simp only [bQ];exact ih _ w h
 |mark m k ih=>intro K X w h;simp only [bQ];exact ih w h
 |halt x=>
  intro K X w h;cases x<;>first | exact h.elim | exact .inr ⟨_,w,rfl,.refl w,h⟩
theorem BC {P:Program}{α:Type}(s:Sem α):∀ {K K':α→AE→Prop}{X X':Value→AE→Prop}{h:AE},
 (∀a h,K a h→K' a h)→(∀a h,X a h→X' a h)→semWp P s K X h→semWp P s K' X' h:=by
 induction s with
 |pure a=>intro K K' X X' h hK hX H;exact hK _ _ H
 |load m a k ih=>intro K K' X X' h hK hX ⟨v,hv,H⟩;exact ⟨v,hv,ih v hK hX H⟩
 |store m a v k ih=>intro K K' X X' h hK hX ⟨a,b,c,H⟩;exact ⟨a,b,c,ih hK hX H⟩
 |new o k ih=>intro K K' X X' h hK hX H;exact ih _ hK hX H
 |shape r k ih=>intro K K' X X' h hK hX H;exact ih _ hK hX H
 |freeze a n k ih=>intro K K' X X' h hK hX H;exact ih hK hX H
 |frozen a k ih=>intro K K' X X' h hK hX H;exact ih _ hK hX H
 |getObj r k ih=>intro K K' X X' h hK hX ⟨o,a,b,H⟩;exact ⟨o,a,b,ih o hK hX H⟩
 |setObj r o k ih=>intro K K' X X' h hK hX ⟨a,H⟩;exact ⟨a,ih hK hX H⟩
 |choose q k ih=>
  intro K K' X X' h hK hX H;simp only [semWp]at H ⊢;split at H
  ·rename_i hq;simp only [hq,if_true];exact ih _ hK hX H
  ·rename_i hq;simp only [hq];exact fun t=>ih _ hK hX (H t)
 |sys c k ih=>intro K K' X X' h hK hX H;exact H
 |program k ih=>intro K K' X X' h hK hX H;exact ih _ hK hX H
 |mark m k ih=>intro K K' X X' h hK hX H;exact ih hK hX H
 |halt x=>intro K K' X X' h hK hX H;cases x<;>first | exact H | exact hX _ _ H
theorem Ab {P:Program}{α β:Type}(s:Sem α) (f:α→Sem β):∀ {K:β→AE→Prop}{X:Value→AE→Prop}{h:AE},
 semWp P s (fun a h'=>semWp P (f a) K X h') X h→semWp P (s.bind f) K X h:=by
 induction s with
 |pure a=>intro K X h H;exact H
 |load m a k ih=>intro K X h ⟨v,hv,H⟩;exact ⟨v,hv,ih v H⟩
 |store m a v k ih=>intro K X h ⟨a,b,c,H⟩;exact ⟨a,b,c,ih H⟩
 |new o k ih=>intro K X h H;exact ih _ H
 |shape r k ih=>intro K X h H;exact ih _ H
 |freeze a n k ih=>intro K X h H;exact ih H
 |frozen a k ih=>intro K X h H;exact ih _ H
 |getObj r k ih=>intro K X h ⟨o,a,b,H⟩;exact ⟨o,a,b,ih o H⟩
 |setObj r o k ih=>intro K X h ⟨a,H⟩;exact ⟨a,ih H⟩
 |choose q k ih=>
  intro K X h H;simp only [semWp,bM]at H ⊢;split at H
  ·rename_i hq;simp only [hq,if_true];exact ih _ H
  ·rename_i hq;simp only [hq];exact fun t=>ih _ (H t)
 |sys c k ih=>intro K X h H;exact H
 |program k ih=>intro K X h H;exact ih _ H
 |mark m k ih=>intro K X h H;exact ih H
 |halt x=>intro K X h H;cases x<;>exact H
inductive Bb where
 |int (k:IntKind)|bool | string | pointer | slice | map | chan | func | iface
 deriving DecidableEq,Inhabited
abbrev Bb.Ty:Bb→Type
 |.int _=>Int
 |.bool=>Bool
 |.string=>ByteArray
 |.pointer=>Option Addr
 |.slice=>Option Addr×Nat×Nat
 |.map=>Option Nat
 |.chan=>Option Nat
 |.func=>Option (Fn×Array Value×Array Value)
 |.iface=>Option (TypeId×Value)
def Bb.val:(a:Bb)→a.Ty→Value
 |.int k,n=>.int k n
 |.bool,b=>.bool b
 |.string,s=>.string s
 |.pointer,p=>.pointer p
 |.slice,x=>.slice x.1 x.2.1 x.2.2
 |.map,r=>.map r
 |.chan,r=>.chan r
 |.func,none=>.nilFunc
 |.func,some x=>.func x.1 x.2.1 x.2.2
 |.iface,none=>.nilIface
 |.iface,some x=>.iface x.1 x.2
def Bb.of:(a:Bb)→Value→Option a.Ty
 |.int k,.int k' n=>if k'=k then some n else none
 |.bool,.bool b=>some b
 |.string,.string s=>some s
 |.pointer,.pointer p=>some p
 |.slice,.slice p n c=>some (p,n,c)
 |.map,.map r=>some r
 |.chan,.chan r=>some r
 |.func,.nilFunc=>some none
 |.func,.func f a b=>some (some (f,a,b))
 |.iface,.nilIface=>some none
 |.iface,.iface t v=>some (some (t,v))
 |_,_=>none
theorem Bb.of_val:∀(a:Bb) (v:Value) (x:a.Ty),a.of v=some x→v=a.val x:=by
 intro a v x h;cases a<;>cases v<;>simp only [Bb.of]at h<;>first
  |(split at h<;>simp_all [Bb.val];done)
  |(cases h<;>rfl)
theorem Bb.val_plain (a:Bb) (x:a.Ty):Value.plain (a.val x)=true:=by
 cases a<;>first | rfl | (cases x<;>rfl)
abbrev Atoms.Ty:List Bb→Type
 | [] =>Unit
 |a::r=>a.Ty×Atoms.Ty r
def Atoms.vals:(l:List Bb)→Atoms.Ty l→List Value
 | [],_=>[]
 |a::r,x=>a.val x.1::Atoms.vals r x.2
def Atoms.of:(l:List Bb)→List Value→Option (Atoms.Ty l)
 | [],[] =>some ()
 |a::r,v::vs=>match a.of v,Atoms.of r vs with
  |some x,some y=>some (x,y)
  |_,_=>none
 |_,_=>none
theorem Atoms.of_vals:∀(l:List Bb) (vs:List Value) (x:Atoms.Ty l),Atoms.of l vs=some x→vs=Atoms.vals l x:=by
 intro l
 induction l with
 |nil=>intro vs x h;cases vs<;>simp_all [Atoms.of,Atoms.vals]
 |cons a r ih=>
  intro vs x h;cases vs with
  |nil=>simp [Atoms.of]at h
  |cons v vs=>
   simp only [Atoms.of]at h;split at h
   ·rename_i x1 y1 h1 h2
    cases h;rw [Bb.of_val a v x1 h1,ih vs y1 h2];rfl
   ·cases h
inductive Sh1 where
 |atom (a:Bb)
 |agg (l:List Bb)
 deriving Inhabited
abbrev Sh1.Ty:Sh1→Type
 |.atom a=>a.Ty
 |.agg l=>Atoms.Ty l
def Sh1.val:(s:Sh1)→s.Ty→Value
 |.atom a,x=>a.val x
 |.agg l,x=>.agg (Atoms.vals l x).toArray
def Sh1.of:(s:Sh1)→Value→Option s.Ty
 |.atom a,v=>a.of v
 |.agg l,.agg cs=>Atoms.of l cs.toList
 |.agg _,_=>none
theorem Sh1.of_val (s:Sh1) (v:Value) (x:s.Ty) (h:s.of v=some x):v=s.val x:=by
 cases s with
 |atom a=>exact Bb.of_val a v x h
 |agg l=>
  cases v<;>simp only [Sh1.of]at h<;>first | cases h | skip
  rename_i cs
  have:=Atoms.of_vals l cs.toList x h
  simp only [Sh1.val,←this]
abbrev Shs.Ty:List Sh1→Type
 | [] =>Unit
 |s::r=>s.Ty×Shs.Ty r
def Shs.vals:(l:List Sh1)→Shs.Ty l→List Value
 | [],_=>[]
 |a::r,x=>a.val x.1::Shs.vals r x.2
def Shs.of:(l:List Sh1)→List Value→Option (Shs.Ty l)
 | [],[] =>some ()
 |a::r,v::vs=>match a.of v,Shs.of r vs with
  |some x,some y=>some (x,y)
  |_,_=>none
 |_,_=>none
theorem Shs.of_vals:∀(l:List Sh1) (vs:List Value) (x:Shs.Ty l),Shs.of l vs=some x→vs=Shs.vals l x:=by
 intro l
 induction l with
 |nil=>intro vs x h;cases vs<;>simp_all [Shs.of,Shs.vals]
 |cons a r ih=>
  intro vs x h;cases vs with
  |nil=>simp [Shs.of]at h
  |cons v vs=>
   simp only [Shs.of]at h;split at h
   ·rename_i x1 y1 h1 h2
    cases h;rw [Sh1.of_val a v x1 h1,ih vs y1 h2];rfl
   ·cases h
inductive Sh where
 |one (s:Sh1)
 |tuple (l:List Sh1)
 deriving Inhabited
abbrev Sh.Ty:Sh→Type
 |.one s=>s.Ty
 |.tuple l=>Shs.Ty l
def Sh.val:(s:Sh)→s.Ty→Value
 |.one s,x=>s.val x
 |.tuple l,x=>.tuple (Shs.vals l x).toArray
inductive Be where
 |out (vs:List Value)
 |brk (id:Nat) (vs:List Value)
 |ret (v:Value)
 |pan (chain:List PanicEntry)
inductive T:Type 1 where
 |out (vs:List Value)
 |brk (id:Nat) (vs:List Value)
 |ret (v:Value)
 |pan (v:Value)
 |stuck
 |load (s:Bb) (a:Addr) (k:s.Ty→T)
 |store (a:Addr) (v:Value) (k:T)
 |new (o:Obj) (k:Nat→T)
 |sem (s:Sem Value) (sh:Sh) (k:sh.Ty→T)
 |call (f:FuncId) (args:List Value) (sh:Sh) (k:sh.Ty→T)
 |still (a:Addr) (v:Value) (k:T)
 |both (x y:T)
 |join (ss:List Sh1) (x:T) (k:Shs.Ty ss→T)
 |block (id:Nat) (ss:List Sh1) (x:T) (k:Shs.Ty ss→T)
 |loop (ss:List Sh1) (init:List Value) (body:Shs.Ty ss→T)
 |sel (c:Nat) (send:Option Value) (zero:Value) (k:Int→Bool→Value→T)
 |later (f:FuncId) (args:List Value) (x k:T)
 |must (p:Prop) (k:T)
def AJ (p:Option Addr) (k:Addr→T):T:=match p with
 |some a=>k a
 |none=>.stuck
abbrev chk (p:Prop) [Decidable p] (k:T):T:=.must p k
inductive Fin where
 |ret (v:Value)
 |pan (chain:List PanicEntry)
def CallsH (P:Program) (f:FuncId) (args:List Value) (h:AE) (R:Fin→AE→Prop):Prop:=
 ∀w,w.heap=h→Calls P f args.toArray w fun e w'=>Br w w'∧match e with
  |.returned v=>R (.ret v) w'.heap
  |.panicked chain=>R (.pan chain) w'.heap
  |.outgrown=>False
theorem CallsH.mono {P:Program}{f:FuncId}{args:List Value}{h:AE}{R R':Fin→AE→Prop}(H:CallsH P f args h R)
 (hr:∀e h',R e h'→R' e h'):CallsH P f args h R':=fun w hw=>(H w hw).mono fun e w' hw'=>⟨hw'.1,by
 have h2:=hw'.2;cases e<;>first | exact hr _ _ h2 | exact h2⟩
def FW (P:Program) (f:FuncId) (args:List Value) (u:FrameMode) (h:AE) (R:Fin→FrameMode→AE→Prop):Prop:=
 ∀w,w.heap=h→CallsD P f args.toArray u w fun e u' w'=>Br w w'∧match e with
  |.returned v=>R (.ret v) u' w'.heap
  |.panicked chain=>R (.pan chain) u' w'.heap
  |.outgrown=>False
theorem FW.mono {P:Program}{f:FuncId}{args:List Value}{u:FrameMode}{h:AE}{R R':Fin→FrameMode→AE→Prop}(H:FW P f args u h R)
 (hr:∀e u' h',R e u' h'→R' e u' h'):FW P f args u h R':=fun w hw=>(H w hw).mono fun e u' w' hw'=>⟨hw'.1,by
 have h2:=hw'.2;cases e<;>first | exact hr _ _ _ h2 | exact h2⟩
def Mc (c:Nat) (send:Option Value) (zero:Value) (k:Int→Bool→Value→AE→Prop) (h:AE):Prop:=
 ∃cap buf s r,h[c]? =some (.chan cap buf false s r false)∧match send with
  |some v=>if buf.size<cap then k 0 false zero (h.setIfInBounds c (.chan cap (buf.push v) false (s+1) r false)) else k (-1) false zero h
  |none=>if 0<buf.size then k 0 true (buf.getD 0 undef) (h.setIfInBounds c (.chan cap (buf.extract 1 buf.size) false s (r+1) false)) else k (-1) false zero h
def T.wp (P:Program):T→(Be→AE→Prop)→AE→Prop
 |.out vs,Q,h=>Q (.out vs) h
 |.brk id vs,Q,h=>Q (.brk id vs) h
 |.ret v,Q,h=>Q (.ret v) h
 |.pan v,Q,h=>Q (.pan [{v,recovered:=false}]) h
 |.stuck,_,_=>False
 |.load s a k,Q,h=>∃x:s.Ty,B4 h a=some (s.val x)∧(k x).wp P Q h
 |.store a v k,Q,h=>Value.plain v=true∧(B4 h a).isSome=true∧EQ h a=false∧k.wp P Q (Bm h a v)
 |.new o k,Q,h=>(k h.size).wp P Q (h.push o)
 |.sem s sh k,Q,h=>semWp P s (fun v h'=>∃x:sh.Ty,v=sh.val x∧(k x).wp P Q h') (fun v h'=>Q (.pan [{v,recovered:=false}]) h') h
 |.call f args sh k,Q,h=>CallsH P f args h fun e h'=>match e with
  |.ret v=>∃x:sh.Ty,v=sh.val x∧(k x).wp P Q h'
  |.pan chain=>Q (.pan chain) h'
 |.still a v k,Q,h=>B4 h a=some v∧k.wp P Q h
 |.both x y,Q,h=>x.wp P Q h∧y.wp P Q h
 |.join ss x k,Q,h=>x.wp P (fun lf h'=>match lf with
  |.out vs=>(match Shs.of ss vs with
   |some y=>(k y).wp P Q h'
   |none=>False)
  |lf=>Q lf h') h
 |.block id ss x k,Q,h=>x.wp P (fun lf h'=>match lf with
  |.out vs=>(match Shs.of ss vs with
   |some y=>(k y).wp P Q h'
   |none=>False)
  |.brk id' vs=>bif bV id' id then (match Shs.of ss vs with
   |some y=>(k y).wp P Q h'
   |none=>False) else Q (.brk id' vs) h'
  |lf=>Q lf h') h
 |.loop ss init body,Q,h=>∃(I:Shs.Ty ss→AE→Prop) (μ:Shs.Ty ss→AE→Nat),
  (∃y,Shs.of ss init=some y∧I y h)∧
  ∀y h,I y h→(body y).wp P (fun lf h'=>match lf with
   |.out vs=>(match Shs.of ss vs with
    |some y'=>I y' h'∧μ y' h'<μ y h
    |none=>False)
   |lf=>Q lf h') h
 |.sel c send zero k,Q,h=>Mc c send zero (fun i ok v h'=>(k i ok v).wp P Q h') h
 |.must p k,Q,h=>p∧k.wp P Q h
 |.later f args x k,Q,h=>x.wp P (fun lf h'=>match lf with
  |.ret _=>FW P f args .returning h' fun e u h''=>match e with
   |.ret _=>settle u= .returning∧k.wp P Q h''
   |.pan _=>False
  |.pan chain=>FW P f args (.panicking chain) h' fun e u h''=>match e with
   |.ret _=>(match settle u with
    |.returning=>k.wp P Q h''
    |.panicking c=>Q (.pan c) h''
    |.run=>False)
   |.pan _=>False
  |_=>False) h
theorem T.wp_mono {P:Program}(t:T):∀ {Q Q':Be→AE→Prop}{h:AE},(∀l h,Q l h→Q' l h)→t.wp P Q h→t.wp P Q' h:=by
 induction t with
 |out vs=>intro Q Q' h hq H;exact hq _ _ H
 |brk id vs=>intro Q Q' h hq H;exact hq _ _ H
 |ret v=>intro Q Q' h hq H;exact hq _ _ H
 |pan v=>intro Q Q' h hq H;exact hq _ _ H
 |stuck=>intro Q Q' h hq H;exact H
 |load s a k ih=>intro Q Q' h hq ⟨x,hx,H⟩;exact ⟨x,hx,ih x hq H⟩
 |store a v k ih=>intro Q Q' h hq ⟨a,b,c,H⟩;exact ⟨a,b,c,ih hq H⟩
 |new o k ih=>intro Q Q' h hq H;exact ih _ hq H
 |sem s sh k ih=>intro Q Q' h hq H;exact BC s (fun v h' ⟨x,hx,hk⟩=>⟨x,hx,ih x hq hk⟩) (fun v h' hk=>hq _ _ hk) H
 |call f args sh k ih=>
  intro Q Q' h hq H;simp only [T.wp]at H ⊢;refine CallsH.mono H fun e h' he=> ?_;cases e with
  |ret v=>obtain ⟨x,hx,hk⟩:=he;exact ⟨x,hx,ih x hq hk⟩
  |pan c=>exact hq _ _ he
 |still a v k ih=>intro Q Q' h hq ⟨x,H⟩;exact ⟨x,ih hq H⟩
 |both x y ihx ihy=>intro Q Q' h hq ⟨a,b⟩;exact ⟨ihx hq a,ihy hq b⟩
 |join ss x k ihx ihk=>
  intro Q Q' h hq H;simp only [T.wp]at H ⊢;refine ihx (fun lf h' hl=> ?_) H;cases lf with
  |out vs=>
   dsimp only at hl ⊢;split at hl
   ·exact ihk _ hq hl
   ·exact hl
  |brk id vs=>exact hq _ _ hl
  |ret v=>exact hq _ _ hl
  |pan v=>exact hq _ _ hl
 |block id ss x k ihx ihk=>
  intro Q Q' h hq H;simp only [T.wp]at H ⊢;refine ihx (fun lf h' hl=> ?_) H;cases lf with
  |out vs=>
   dsimp only at hl ⊢;split at hl
   ·exact ihk _ hq hl
   ·exact hl
  |brk id' vs=>
   dsimp only at hl ⊢;cases hb:bV id' id with
   |true=>
    simp only [hb,cond_true]at hl ⊢;split at hl
    ·exact ihk _ hq hl
    ·exact hl
   |false=>simp only [hb,cond_false]at hl ⊢;exact hq _ _ hl
  |ret v=>exact hq _ _ hl
  |pan v=>exact hq _ _ hl
 |loop ss init body ih=>
  intro Q Q' h hq ⟨I,μ,h0,hr⟩;refine ⟨I,μ,h0,fun y h hI=>ih y (fun lf h' hl=> ?_) (hr y h hI)⟩;cases lf with
  |out vs=>exact hl
  |brk id vs=>exact hq _ _ hl
  |ret v=>exact hq _ _ hl
  |pan v=>exact hq _ _ hl
 |sel c send zero k ih=>
  intro Q Q' h hq H;obtain ⟨cap,buf,s,r,hc,H⟩:=H;refine ⟨cap,buf,s,r,hc,?_⟩;cases send with
  |none=>
   by_cases hh:0<buf.size
   ·simp only [if_pos hh]at H ⊢;exact ih _ _ _ hq H
   ·simp only [if_neg hh]at H ⊢;exact ih _ _ _ hq H
  |some v=>
   by_cases hh:buf.size<cap
   ·simp only [if_pos hh]at H ⊢;exact ih _ _ _ hq H
   ·simp only [if_neg hh]at H ⊢;exact ih _ _ _ hq H
 |must p k ih=>intro Q Q' h hq H;exact ⟨H.1,ih hq H.2⟩
 |later f args x k ihx ihk=>
  intro Q Q' h hq H;simp only [T.wp]at H ⊢;refine ihx (fun lf h' hl=> ?_) H;cases lf with
  |out vs=>exact hl
  |brk id vs=>exact hl
  |ret v=>
   exact FW.mono hl fun e u h'' he=>by
    cases e with
    |ret v=>exact ⟨he.1,ihk hq he.2⟩
    |pan c=>exact he
  |pan chain=>
   exact FW.mono hl fun e u h'' he=>by
    cases e with
    |ret v=>
     dsimp only at he ⊢
     generalize settle u=m at he ⊢
     cases m with
     |run=>exact he
     |returning=>exact ihk hq he
     |panicking c=>exact hq _ _ he
    |pan c=>exact he
def BD (q:Bool) (P:Program) {α:Type}:Sem α→(α→T)→T
 |.pure a,k=>k a
 |.program f,k=>BD q P (f P) k
 |.new o f,k=>bif q then .stuck else .new o fun r=>BD q P (f r) k
 |.store _ a v f,k=>bif q then .stuck else .store a v (BD q P f k)
 |.mark _ f,k=>BD q P f k
 |.halt (.panic v),_=>bif q then .stuck else .pan v
 |_,_=>.stuck
theorem BI {q:Bool}{P:Program}{α:Type}(s:Sem α):∀ {k:α→T}{Q:Be→AE→Prop}{h:AE},(BD q P s k).wp P Q h→
 semWp P s (fun a h'=>(k a).wp P Q h') (fun v h'=>Q (.pan [{v,recovered:=false}]) h') h:=by
 induction s with
 |pure a=>intro k Q h H;exact H
 |load m a k ih=>intro k Q h H;exact H.elim
 |store m a v k ih=>
  intro k Q h H;cases q with
  |true=>exact H.elim
  |false=>exact ⟨H.1,H.2.1,H.2.2.1,ih H.2.2.2⟩
 |new o k ih=>
  intro k Q h H;cases q with
  |true=>exact H.elim
  |false=>exact ih _ H
 |shape r k ih=>intro k Q h H;exact H.elim
 |freeze a n k ih=>intro k Q h H;exact H.elim
 |frozen a k ih=>intro k Q h H;exact H.elim
 |getObj r k ih=>intro k Q h H;exact H.elim
 |setObj r o k ih=>intro k Q h H;exact H.elim
 |choose q k ih=>intro k Q h H;exact H.elim
 |sys c k ih=>intro k Q h H;exact H.elim
 |program k ih=>intro k Q h H;exact ih _ H
 |mark m k ih=>intro k Q h H;exact ih H
 |halt x=>intro k Q h H;cases q<;>cases x<;>first | exact H | exact H.elim
def Md:Value→Bb
 |.int k _=>.int k
 |.bool _=>.bool
 |.string _=>.string
 |.pointer _=>.pointer
 |.slice _ _ _=>.slice
 |.map _=>.map
 |.chan _=>.chan
 |.func _ _ _=>.func
 |.nilFunc=>.func
 |_=>.iface
def IA:Value→Sh1
 |.agg cs=>.agg (cs.toList.map Md)
 |v=>.atom (Md v)
def Nj:Value→Sh
 |.tuple vs=>.tuple (vs.toList.map IA)
 |v=>.one (IA v)
def GG (P:Program) (t:TypeId):Value:=((P.info? t).bind (·.zero)).getD .nilIface
def OE (P:Program) (fn:Func):Sh:=match fn.resultTypes.toList with
 | [t] =>.one (IA (GG P t))
 |ts=>.tuple (ts.map fun t=>IA (GG P t))
def E9:List Bb→Addr→Nat→Array Value→(Array Value→T)→T
 | [],_,_,acc,k=>k acc
 |s::r,a,i,acc,k=>.load s (a.add i) fun x=>E9 r a (i+1) (acc.push (s.val x)) k
def JX:TypeDesc→Bool
 |.struct _ | .array _ _=>true
 |_=>false
def C7 (P:Program) (t:TypeId) (a:Addr) (k:Value→T):T:=
 match P.underlying t,P.info? t with
 |some d,some i=>
  match JX d,IA (i.zero.getD .nilIface) with
  |true,.agg l=>if l.length=i.size then E9 l a 0 #[] fun cs=>k (.agg cs) else .stuck
  |false,.atom s=>.load s a fun x=>k (s.val x)
  |_,_=>.stuck
 |_,_=>.stuck
def G9 (q:Bool) (s:Sem Value) (sh:Sh) (k:sh.Ty→T):T:=bif q then .stuck else .sem s sh k
def I1 (q:Bool) (P:Program) (s:Sem Value) (t:TypeId) (k:Value→T):T:=
 G9 q s (Nj (GG P t)) fun x=>k ((Nj (GG P t)).val x)
def O2 (q:Bool) (s:Sem Unit) (k:Value→T):T:=
 G9 q (s.bind fun _=>.pure undef) (.tuple []) fun _=>k undef
def C8 (s:ByteArray) (i:Nat):UInt8:=s.data.toList.getD i 0
def Hq (P:Program) (t:TypeId):Value→Value→Option Bool
 |.int j m,.int j' n=>match P.underlying t with
  |some (.int _)=>if j=j' then some (m==n) else none
  |_=>none
 |.string m,.string n=>match P.underlying t with
  |some .string=>some (m==n)
  |_=>none
 |.bool m,.bool n=>match P.underlying t with
  |some .bool=>some (m==n)
  |_=>none
 |_,_=>none
def HP (P:Program) (xs ys:Array Value):List Field→Option Bool
 | [] =>some true
 | f::fs=>if f.name= "_" then none else match xs[f.offset]?,ys[f.offset]? with
  |some a,some b=>match Hq P f.type a b,HP P xs ys fs with
   |some r,some r'=>some (r && r')
   |_,_=>none
  |_,_=>none
def Me (P:Program) (t:TypeId) (xs ys:Array Value) (i:Nat):Option Bool:=match P.underlying t,P.info? t,P.stoodInHeld t with
 |some (.struct gs),some inf,false=>HP P (xs.extract i (i+inf.size)) (ys.extract i (i+inf.size)) gs.toList
 |_,_,_=>none
def LV (P:Program) (f:Field) (xs ys:Array Value):Option Bool:=match xs[f.offset]?,ys[f.offset]? with
 |some a,some b=>match Hq P f.type a b with
  |some r=>some r
  |none=>Me P f.type xs ys f.offset
 |_,_=>none
def Gn (P:Program) (xs ys:Array Value):List Field→Option Bool
 | [] =>some true
 | f::fs=>if f.name= "_" then none else match LV P f xs ys,Gn P xs ys fs with
  |some r,some r'=>some (r && r')
  |_,_=>none
def IB (P:Program) (t:TypeId) (xs ys:Array Value) (k:Bool→T) (old:T):T:=match P.underlying t with
 |some (.struct fs)=>match P.eqGuardType P.depth t || P.stoodInHeld t,Gn P xs ys fs.toList with
  |false,some r=>k r
  |_,_=>old
 |_=>old
def IU (q:Bool) (P:Program) (op:BinOp) (t:TypeId) (x y:Operand) (a b:Value) (k:Value→T):T:=
 match op,a,b with
 |.add,.int j m,.int j' n=>if j=j' then k (.int j (j.wrap (m+n))) else .stuck
 |.sub,.int j m,.int j' n=>if j=j' then k (.int j (j.wrap (m - n))) else .stuck
 |.mul,.int j m,.int j' n=>if j=j' then k (.int j (j.wrap (m *n))) else .stuck
 |.quo,.int j m,.int j' n=>if j=j' then chk (n≠0) (k (.int j (j.wrap (m.tdiv n)))) else .stuck
 |.rem,.int j m,.int j' n=>if j=j' then chk (n≠0) (k (.int j (m.tmod n))) else .stuck
 |.shl,.int j m,.int _ n=>chk (0≤n) (k (.int j (j.wrap (m *2 ^ (min n.toNat j.bits)))))
 |.shr,.int j m,.int _ n=>chk (0≤n) (k (.int j (m.fdiv (2 ^ (min n.toNat j.bits)))))
 |.eql,.int j m,.int j' n=>if j=j' then k (.bool (m==n)) else .stuck
 |.neq,.int j m,.int j' n=>if j=j' then k (.bool (m !=n)) else .stuck
 |.lss,.int j m,.int j' n=>if j=j' then k (.bool (m<n)) else .stuck
 |.leq,.int j m,.int j' n=>if j=j' then k (.bool (m≤n)) else .stuck
 |.gtr,.int j m,.int j' n=>if j=j' then k (.bool (m>n)) else .stuck
 |.geq,.int j m,.int j' n=>if j=j' then k (.bool (m≥n)) else .stuck
 |.add,.string m,.string n=>chk (((m.size+n.size:Nat):Int) ≤IntKind.i64.max) (k (.string (m++n)))
 |.eql,.string m,.string n=>k (.bool (m.toList==n.toList))
 |.neq,.string m,.string n=>k (.bool !(m.toList==n.toList))
 |.eql,.pointer p,.pointer none=>BD q P (underlying t) fun | .pointer _=>k (.bool p.isNone)|_=>.stuck
 |.neq,.pointer p,.pointer none=>BD q P (underlying t) fun | .pointer _=>k (.bool !p.isNone)|_=>.stuck
 |.eql,.slice p _ _,.slice none _ _=>BD q P (underlying t) fun | .slice _=>k (.bool p.isNone)|_=>.stuck
 |.neq,.slice p _ _,.slice none _ _=>BD q P (underlying t) fun | .slice _=>k (.bool !p.isNone)|_=>.stuck
 |.eql,.bool m,.bool n=>BD q P (underlying t) fun | .bool=>k (.bool (m==n))|_=>.stuck
 |.neq,.bool m,.bool n=>BD q P (underlying t) fun | .bool=>k (.bool !(m==n))|_=>.stuck
 |.eql,.agg a,.agg b=>IB P t a b (fun r=>k (.bool r)) (G9 q (do eqGuard .eql t x y (.agg a) (.agg b);binOp .eql t (.agg a) (.agg b)) (.one (.atom .bool)) fun r=>k (.bool r))
 |.neq,.agg a,.agg b=>IB P t a b (fun r=>k (.bool !r)) (G9 q (do eqGuard .neq t x y (.agg a) (.agg b);binOp .neq t (.agg a) (.agg b)) (.one (.atom .bool)) fun r=>k (.bool r))
 |.eql,a,b=>G9 q (do eqGuard .eql t x y a b;binOp .eql t a b) (.one (.atom .bool)) fun r=>k (.bool r)
 |.neq,a,b=>G9 q (do eqGuard .neq t x y a b;binOp .neq t a b) (.one (.atom .bool)) fun r=>k (.bool r)
 |op,a,b=>BD q P (do eqGuard op t x y a b;binOp op t a b) k
def HQ (d:Int):Option Value→Option Int
 |none=>some d
 |some (.int _ n)=>some n
 |_=>none
def GI (q:Bool) (P:Program) (t:TypeId) (x:Value) (lo hi mx:Option Value) (k:Value→T):T:=
 match mx,P.underlying t,x with
 |none,some .string,.string s=>match HQ 0 lo,HQ s.size hi with
  |some l,some h=>chk (0≤l∧l≤h∧h≤s.size) (k (.string (s.extract l.toNat h.toNat)))
  |_,_=>.stuck
 |none,some (.slice e),.slice p n c=>match HQ 0 lo,HQ n hi,P.info? e with
  |some l,some h,some i=>chk (0≤l∧l≤h∧h≤c) (k (.slice (if c=l.toNat then p else p.map (·.add (l.toNat *i.size))) (h.toNat - l.toNat) (c - l.toNat)))
  |_,_,_=>.stuck
 |_,_,_=>I1 q P (eA t x lo hi mx) t k
def Mf (q:Bool) (P:Program) (f:Value) (args:Array Value) (k:Value→T):T:=match f with
 |.func (.func g) first cap=>match P.funcs[g]? with
  | some fn=>match fn.name== "runtime.NumGoroutine",fn.body.isNone with
   |false,false=>bif q then .stuck else .call g ((first++args) ++cap).toList (OE P fn) fun x=>k ((OE P fn).val x)
   |_,_=>.stuck
  |none=>.stuck
 |_=>.stuck
def HR (q:Bool) (P:Program) (ρ:Operand→Value) (c:Call) (t:TypeId) (k:Value→T):T:=
 match c.callee with
 |.builtin b=>
  let args:=c.args.map ρ
  match b with
  |.len=>match c.argTypes.toList,args.toList with
   |at0::_,x::_=>match P.underlying at0,x with
    |some .string,.string s=>k (goInt s.size)
    |some (.slice _),.slice _ n _=>k (goInt n)
    |some (.array n _),_=>k (goInt n)
    |_,_=>I1 q P (cY c.argTypes t args) t k
   |_,_=>.stuck
  |.cap=>match c.argTypes.toList,args.toList with
   |at0::_,x::_=>match P.underlying at0,x with
    |some (.slice _),.slice _ _ n=>k (goInt n)
    |_,_=>I1 q P (eU c.argTypes t args) t k
   |_,_=>.stuck
  |.max=>BD q P (Builtin.max_ c.argTypes t args) k
  |.min=>BD q P (Builtin.min_ c.argTypes t args) k
  |.append=>I1 q P (dU c.argTypes t args) t k
  |.copy=>G9 q (Builtin.copy_ c.argTypes t args) (.one (.atom (.int .i64))) fun n=>k (.int .i64 n)
  |.delete=>G9 q (Builtin.delete_ c.argTypes t args) (.tuple []) fun _=>k undef
  |.clear=>G9 q (Builtin.clear_ c.argTypes t args) (.tuple []) fun _=>k undef
  |_=>.stuck
 |.value f=>Mf q P (ρ f) (c.args.map ρ) k
 |_=>.stuck
def B2 (q:Bool) (P:Program) (ρ:Operand→Value) (o:Oper) (k:Value→T):T:=
 match o.op with
 |.move x | .assign x=>k (ρ x)
 |.pick c a b=>match ρ c with
  |.bool t=>cond t (k (ρ a)) (k (ρ b))
  |_=>.stuck
 |.load t a=>match ρ a with
  |.pointer p=>AJ p fun a=>C7 P t a k
  |_=>.stuck
 |.nilCheck x=>match ρ x with
  |.pointer p=>AJ p fun a=>k (.pointer (some a))
  |.func (.func f) a b=>k (.func (.func f) a b)
  |.iface t v=>k (.iface t v)
  |_=>.stuck
 |.binOp op t x y _=>IU q P op t x y (ρ x) (ρ y) k
 |.slice t x lo hi mx=>GI q P t (ρ x) (lo.map ρ) (hi.map ρ) (mx.map ρ) k
 |.index t x ix=>match P.underlying t,ρ x,ρ ix with
  |some .string,.string s,.int _ i=>chk (0≤i∧i<s.size) (k (.int .u8 (C8 s i.toNat).toNat))
  |_,x,ix=>BD q P (fD t x ix) k
 |.indexAddr t x ix=>match P.underlying t,ρ x,ρ ix with
  |some (.slice e),.slice p n _,.int _ i=>match P.info? e with
   |some info=>AJ p fun a=>chk (0≤i∧i<n) (k (.pointer (some (a.add (i.toNat *info.size)))))
   |none=>.stuck
  |some (.array n e),.pointer (some a),.int _ i=>match P.info? e with
   |some info=>chk (0≤i∧i<n) (k (.pointer (some (a.add (i.toNat *info.size)))))
   |none=>.stuck
  |_,_,_=>.stuck
 |.call c=>HR q P ρ c o.type k
 |.alloc elem=>BD q P (Instr.alloc elem true (.tuple #[])) k
 |.box elem x=>BD q P (Instr.box elem (ρ x)) k
 |.build t parts=>BD q P (Instr.build t (parts.map fun (i,x)=>(i,ρ x))) k
 |.buildSlice t len parts=>BD q P (Instr.buildSlice t len (parts.map fun (i,x)=>(i,ρ x))) k
 |.store t a x=>match ρ a with
  |.pointer p=>AJ p fun a=>BD q P (dP t (.pointer (some a)) (ρ x)) fun _=>k undef
  |v=>BD q P (dP t v (ρ x)) fun _=>k undef
 |.unOp op _ x=>BD q P (Op.unary op (ρ x)) k
 |.convert src dst x=>match P.underlying src,P.underlying dst with
  |some (.int _),some (.int _)=>BD q P (convert src dst (ρ x)) k
  |some .string,some .string=>BD q P (convert src dst (ρ x)) k
  |_,_=>I1 q P (convert src dst (ρ x)) dst k
 |.makeInterface t x=>BD q P (Instr.makeInterface t (ρ x)) k
 |.makeFunc fn first captured=>k (.func fn (first.map ρ) (captured.map ρ))
 |.makeMap t r=>BD q P (Instr.makeMap t (r.map ρ)) k
 |.makeChan t s=>I1 q P (Instr.makeChan t (ρ s)) t k
 |.makeSlice t l c=>I1 q P (Instr.makeSlice t (ρ l) (ρ c)) t k
 |.fieldAddr s x f=>match ρ x with
  |.pointer p=>AJ p fun a=>BD q P (eP s (.pointer (some a)) f) k
  |v=>BD q P (eP s v f) k
 |.field t x f=>BD q P (Instr.field t (ρ x) f) k
 |.extract t ix=>BD q P (Instr.extract (ρ t) ix) k
 |.lookup t x ix ok=>I1 q P (dW t (ρ x) (ρ ix) ok) o.type k
 |.mapUpdate t m key x | .insert t m key x=>O2 q (eH t (ρ m) (ρ key) (ρ x)) k
 |.range t x=>G9 q (Instr.range t (ρ x)) (.one (.atom .pointer)) fun p=>k (.pointer p)
 |.next it isString=>G9 q (Instr.next (ρ it) isString o.type) (Nj (GG P o.type)) fun x=>k ((Nj (GG P o.type)).val x)
 |.typeAssert x xt at_ ok=>I1 q P (Instr.typeAssert (ρ x) xt at_ ok) o.type k
 |.panic x=>BD q P (Instr.panic (ρ x)) k
 |_=>.stuck
def OF (q:Bool) (P:Program) (k:Value→T) (Q:Be→AE→Prop):Next→AE→Prop
 |.value v,h=>(k v).wp P Q h
 |.skip,h=>(k undef).wp P Q h
 |.enter f args,h=>q=false∧CallsH P f args.toList h fun e h'=>match e with
  |.ret v=>(k v).wp P Q h'
  |.pan c=>Q (.pan c) h'
 |_,_=>False
def OpOk (q:Bool) (P:Program) (s:Sem Next) (k:Value→T) (Q:Be→AE→Prop) (h:AE):Prop:=
 semWp P s (OF q P k Q) (fun v h'=>Q (.pan [{v,recovered:=false}]) h') h
section
variable {q:Bool}{P:Program}{ρ:Operand→Value}{k:Value→T}{Q:Be→AE→Prop}{h:AE}
theorem C9 {s:Sem Value}(H:semWp P s (fun v h'=>(k v).wp P Q h') (fun v h'=>Q (.pan [{v,recovered:=false}]) h') h):
 OpOk q P (do pure (.value (←s))) k Q h:=Ab s _ H
theorem OR {s:Sem Unit}(H:semWp P s (fun _ h'=>(k undef).wp P Q h') (fun v h'=>Q (.pan [{v,recovered:=false}]) h') h):
 OpOk q P (do s;pure .skip) k Q h:=Ab s _ H
theorem GJ {p:Option Addr}{f:Addr→T}(H:(AJ p f).wp P Q h):∃a,p=some a∧(f a).wp P Q h:=by
 cases p with
 |none=>exact H.elim
 |some a=>exact ⟨a,rfl,H⟩
theorem FA {p:Prop}[Decidable p] {t:T}(H:(chk p t).wp P Q h):p∧t.wp P Q h:=by
 exact H
theorem Dj {s:Sem Value}{sh:Sh}{f:sh.Ty→T}(H:(G9 q s sh f).wp P Q h):
 semWp P s (fun v h'=>∃x:sh.Ty,v=sh.val x∧(f x).wp P Q h') (fun v h'=>Q (.pan [{v,recovered:=false}]) h') h:=by
 cases q with
 |true=>exact H.elim
 |false=>
  simp only [G9,cond_false]at H;simpa only [T.wp]using H
theorem ER {s:Sem Value}{t:TypeId}(H:(I1 q P s t k).wp P Q h):
 semWp P s (fun v h'=>(k v).wp P Q h') (fun v h'=>Q (.pan [{v,recovered:=false}]) h') h:=
 BC s (fun _ _ ⟨_,hx,hk⟩=>hx ▸ hk) (fun _ _ hx=>hx) (Dj H)
theorem IV (s:Sem Unit):∀ {K:Value→AE→Prop}{X:Value→AE→Prop}{h:AE},semWp P (s.bind fun _=>.pure undef) K X h→
 semWp P s (fun _ h'=>K undef h') X h:=by
 induction s with
 |pure a=>intro K X h H;exact H
 |load m a k ih=>intro K X h ⟨v,hv,H⟩;exact ⟨v,hv,ih v H⟩
 |store m a v k ih=>intro K X h ⟨a,b,c,H⟩;exact ⟨a,b,c,ih H⟩
 |new o k ih=>intro K X h H;exact ih _ H
 |shape r k ih=>intro K X h H;exact ih _ H
 |freeze a n k ih=>intro K X h H;exact ih H
 |frozen a k ih=>intro K X h H;exact ih _ H
 |getObj r k ih=>intro K X h ⟨o,a,b,H⟩;exact ⟨o,a,b,ih o H⟩
 |setObj r o k ih=>intro K X h ⟨a,H⟩;exact ⟨a,ih H⟩
 |choose q k ih=>
  intro K X h H;simp only [semWp,bM]at H ⊢;split at H
  ·rename_i hq;simp only [hq,if_true];exact ih _ H
  ·rename_i hq;simp only [hq];exact fun t=>ih _ (H t)
 |sys c k ih=>intro K X h H;exact H
 |program k ih=>intro K X h H;exact ih _ H
 |mark m k ih=>intro K X h H;exact ih H
 |halt x=>intro K X h H;cases x<;>exact H
theorem LW {s:Sem Unit}(H:(O2 q s k).wp P Q h):
 semWp P s (fun _ h'=>(k undef).wp P Q h') (fun v h'=>Q (.pan [{v,recovered:=false}]) h') h:=
 BC s (fun _ _ ⟨_,_,hk⟩=>hk) (fun _ _ hx=>hx) (IV s (Dj H))
theorem Lq (l:List Bb):∀(a:Addr) (i:Nat) (acc:Array Value) {f:Array Value→T},(E9 l a i acc f).wp P Q h→
 semWp P (loadCellsFrom a i l.length acc) (fun cs h'=>h'=h∧(f cs).wp P Q h') (fun _ _=>False) h:=by
 induction l with
 |nil=>intro a i acc f H;exact ⟨rfl,H⟩
 |cons s r ih=>
  intro a i acc f H;obtain ⟨x,hx,H⟩:=H;exact ⟨s.val x,hx,ih a (i+1) (acc.push (s.val x)) H⟩
theorem AW {t:TypeId}{d:TypeDesc}(hd:P.underlying t=some d) {α:Type}{f:TypeDesc→Sem α}{K:α→AE→Prop}{X:Value→AE→Prop}
 (H:semWp P (f d) K X h):semWp P (do let d ←underlying t;f d) K X h:=by
 show semWp P (bM (underlying t) f) K X h;simp only [underlying,program,bind,bM,semWp,hd,pure];exact H
theorem FX {t:TypeId}{i:TypeInfo}(hi:P.info? t=some i) {α:Type}{f:TypeInfo→Sem α}{K:α→AE→Prop}{X:Value→AE→Prop}
 (H:semWp P (f i) K X h):semWp P (do let i ←typeInfo t;f i) K X h:=by
 show semWp P (bM (typeInfo t) f) K X h;simp only [typeInfo,program,bind,bM,semWp,hi,pure];exact H
theorem JD {t:TypeId}{d:TypeDesc}(hd:P.underlying t=some d) {α:Type}{f:Bool→Sem α}{K:α→AE→Prop}{X:Value→AE→Prop}
 (H:semWp P (f (JX d)) K X h):semWp P (do let b ←isAgg t;f b) K X h:=by
 show semWp P (bM (isAgg t) f) K X h;simp only [isAgg,underlying,program,bind,bM,semWp,hd,pure];cases d<;>exact H
theorem HA {t:TypeId}{i:TypeInfo}(hi:P.info? t=some i) {α:Type}{f:Nat→Sem α}{K:α→AE→Prop}{X:Value→AE→Prop}
 (H:semWp P (f i.size) K X h):semWp P (do let n ←Go.sizeOf t;f n) K X h:=by
 show semWp P (bM (Go.sizeOf t) f) K X h;simp only [Go.sizeOf,typeInfo,program,bind,bM,semWp,hi,pure];exact H
theorem Km {t:TypeId}{a:Addr}(H:(C7 P t a k).wp P Q h):
 semWp P (loadVar t a) (fun v h'=>h'=h∧(k v).wp P Q h') (fun _ _=>False) h:=by
 unfold C7 at H;split at H
 ·rename_i d i hd hi
  split at H
  ·rename_i l hag hsh
   split at H
   ·rename_i hlen
    unfold loadVar;refine JD hd ?_;rw [hag];simp only [if_true];refine HA hi ?_;rw [←hlen];show semWp P (bM (loadCellsFrom a 0 l.length #[]) _) _ _ _;refine Ab _ _ (BC _ (fun cs h' hc=> ?_) (fun _ _ x=>x) (Lq l a 0 #[] H));exact ⟨hc.1,hc.2⟩
   ·exact H.elim
  ·rename_i s hag hsh
   unfold loadVar;refine JD hd ?_;rw [hag];obtain ⟨x,hx,H⟩:=H;exact ⟨_,hx,rfl,H⟩
  ·exact H.elim
 ·exact H.elim
end
section
variable {q:Bool}{P:Program}{ρ:Operand→Value}{k:Value→T}{Q:Be→AE→Prop}{h:AE}
def BinOk (P:Program) (op:BinOp) (t:TypeId) (x y:Operand) (a b:Value) (k:Value→T) (Q:Be→AE→Prop) (h:AE):Prop:=
 semWp P (do eqGuard op t x y a b;binOp op t a b) (fun v h'=>(k v).wp P Q h') (fun v h'=>Q (.pan [{v,recovered:=false}]) h') h
theorem DL {op:BinOp}{t:TypeId}{x y:Operand}{j:IntKind}{m n:Int}{s:Sem Value}(he:op≠.shl) (he':op≠.shr) (hs:(match op with
 |.add | .sub | .mul=>Op.intArith op j m n
 |.quo | .rem=>Op.intDiv op j m n
 |.and | .or | .xor | .andNot=>Op.intBits op j m n
 |_=>Op.intCmp op m n)=s)
 (H:semWp P s (fun v h'=>(k v).wp P Q h') (fun v h'=>Q (.pan [{v,recovered:=false}]) h') h):BinOk P op t x y (.int j m) (.int j n) k Q h:=by
 subst hs;unfold BinOk;cases op<;>first | exact absurd rfl he | exact absurd rfl he' | (simpa [eqGuard,binOp,bind,bM,semWp,pure]using H)
theorem EZ {p:Prop}[Decidable p] {t:T}(H:(if p then t else T.stuck).wp P Q h):p∧t.wp P Q h:=by
 by_cases hp:p
 ·rw [if_pos hp]at H;exact ⟨hp,H⟩
 ·rw [if_neg hp]at H;exact H.elim
theorem FH {t:TypeId}{f:TypeDesc→T}(H:(BD q P (underlying t) f).wp P Q h):∃d,P.underlying t=some d∧(f d).wp P Q h:=by
 simp only [underlying,program,bind,bM,BD]at H;cases hd:P.underlying t with
 |none=>rw [hd]at H;exact H.elim
 |some d=>rw [hd]at H;exact ⟨d,rfl,H⟩
theorem OS {t:TypeId}{x y:Operand}{j j':IntKind}{m n:Int}(hn:0≤n) (H:(k (.int j (j.wrap (m *2 ^ (min n.toNat j.bits))))).wp P Q h):
 BinOk P .shl t x y (.int j m) (.int j' n) k Q h:=by
 show semWp P (Op.shift .shl j m j' n) _ _ h;unfold Op.shift;rw [if_neg (show ¬n<0 by omega)];exact H
theorem OT {t:TypeId}{x y:Operand}{j j':IntKind}{m n:Int}(hn:0≤n) (H:(k (.int j (m.fdiv (2 ^ (min n.toNat j.bits))))).wp P Q h):
 BinOk P .shr t x y (.int j m) (.int j' n) k Q h:=by
 show semWp P (Op.shift .shr j m j' n) _ _ h;unfold Op.shift;rw [if_neg (show ¬n<0 by omega)];exact H
theorem Nk {t:TypeId}{x y:Operand}{m n:ByteArray}(hn:((m.size+n.size:Nat):Int) ≤IntKind.i64.max) (H:(k (.string (m++n))).wp P Q h):
 BinOk P .add t x y (.string m) (.string n) k Q h:=by
 show semWp P (Op.stringOp .add m n) _ _ h;simp only [Op.stringOp];rw [if_neg (show ¬((m.size+n.size:Nat):Int) >IntKind.i64.max by omega)];exact H
theorem Kn {t:TypeId}{x y:Operand}{a b:Value}{r:Bool}(hg:eqGuard .eql t x y a b=pure ()) (hb:binOp .eql t a b=(do pure (.bool (←Op.equal t a b))))
 (he:∀K X,K r h→semWp P (Op.equal t a b) K X h) (H:(k (.bool r)).wp P Q h):BinOk P .eql t x y a b k Q h:=by
 unfold BinOk;rw [hg,hb];exact Ab (Op.equal t a b) _ (he _ _ H)
theorem Ko {t:TypeId}{x y:Operand}{a b:Value}{r:Bool}(hg:eqGuard .neq t x y a b=pure ()) (hb:binOp .neq t a b=(do pure (.bool (!(←Op.equal t a b)))))
 (he:∀K X,K r h→semWp P (Op.equal t a b) K X h) (H:(k (.bool !r)).wp P Q h):BinOk P .neq t x y a b k Q h:=by
 unfold BinOk;rw [hg,hb];exact Ab (Op.equal t a b) _ (he _ _ H)
theorem JE {t e:TypeId}(hd:P.underlying t=some (.pointer e)) (p:Option Addr) (K:Bool→AE→Prop) (X:Value→AE→Prop) (H:K p.isNone h):
 semWp P (Op.equal t (.pointer p) (.pointer none)) K X h:=by
 show semWp P (Op.equalIn (9999+1) t _ _) K X h;rw [Op.equalIn];refine AW hd ?_;cases p<;>exact H
theorem IC {t e:TypeId}(hd:P.underlying t=some (.slice e)) (p:Option Addr) (n c:Nat) (n' c':Nat) (K:Bool→AE→Prop) (X:Value→AE→Prop) (H:K p.isNone h):
 semWp P (Op.equal t (.slice p n c) (.slice none n' c')) K X h:=by
 show semWp P (Op.equalIn (9999+1) t _ _) K X h;rw [Op.equalIn];refine AW hd ?_;cases p<;>exact H
theorem IW {t:TypeId}(hd:P.underlying t=some .bool) (a b:Bool) (K:Bool→AE→Prop) (X:Value→AE→Prop) (H:K (a==b) h):
 semWp P (Op.equal t (.bool a) (.bool b)) K X h:=by
 show semWp P (Op.equalIn (9999+1) t _ _) K X h;rw [Op.equalIn];refine AW hd<|H
theorem JF {d:Nat}{t:TypeId}{a b:Value}{r:Bool}(hl:Hq P t a b=some r) (K:Bool→AE→Prop) (X:Value→AE→Prop) (H:K r h):semWp P (Op.equalIn (d+1) t a b) K X h:=by
 unfold Hq at hl;split at hl
 ·split at hl
  ·rename_i hu
   split at hl
   ·rename_i hj
    cases hl;subst hj;rw [Op.equalIn];refine AW hu ?_;simp only [if_true];exact H
   ·cases hl
  ·cases hl
 ·split at hl
  ·rename_i hu
   cases hl;rw [Op.equalIn];exact AW hu H
  ·cases hl
 ·split at hl
  ·rename_i hu
   cases hl;rw [Op.equalIn];exact AW hu H
  ·cases hl
 ·cases hl
theorem HS {t:TypeId}{a b:Value}{r:Bool}(hl:Hq P t a b=some r) {xs:Array Value}{i:Nat}{v:Value}(hv:xs[i]? =some v) {K:Value→AE→Prop}{X:Value→AE→Prop}(H:K v h):semWp P (part t xs i) K X h:=by
 have key:∀d,P.underlying t=some d→JX d=false→semWp P (part t xs i) K X h:=fun d hu hd=>by
  unfold part isAgg;simp only [bind,bM,underlying,program,semWp,hu];cases d<;>first | (cases hd;done)|(simp only [hv];exact H)
 unfold Hq at hl;split at hl
 ·split at hl
  ·rename_i hu;exact key _ hu rfl
  ·cases hl
 ·split at hl
  ·rename_i hu;exact key _ hu rfl
  ·cases hl
 ·split at hl
  ·rename_i hu;exact key _ hu rfl
  ·cases hl
 ·cases hl
theorem J0 {d:Nat}(xs ys:Array Value) (X:Value→AE→Prop):∀(fs:List Field) {r:Bool},HP P xs ys fs=some r→ ∀(K:Bool→AE→Prop),K r h→semWp P (Op.eqFields (d+1) xs ys fs) K X h:=by
 intro fs
 induction fs with
 |nil=>intro r hr K H;cases hr;exact H
 |cons f fs ih=>
  intro r hr K H;unfold HP at hr;split at hr
  ·cases hr
  ·rename_i hn
   split at hr
   ·rename_i a b ha hb
    split at hr
    ·rename_i r1 r2 h1 h2
     cases hr;unfold Op.eqFields;rw [if_pos hn];refine Ab _ _ (HS h1 ha ?_);refine Ab _ _ (HS h1 hb ?_);refine Ab _ _ (JF h1 _ _ ?_);cases r1 with
     |false=>exact H
     |true=>exact ih h2 _ H
    ·cases hr
   ·cases hr
theorem Hr {d:Nat}{t:TypeId}{fs:Array Field}(hu:P.underlying t=some (.struct fs)) (hp:P.stoodInHeld t=false) {xs ys:Array Value}{K:Bool→AE→Prop}{X:Value→AE→Prop}
 (H:semWp P (Op.eqFields d xs ys fs.toList) K X h):semWp P (Op.equalIn (d+1) t (.agg xs) (.agg ys)) K X h:=by
 rw [Op.equalIn];refine AW hu ?_;simp only [program,bind,bM,semWp,hp,bZ,if_false];rw [←Array.forIn_toList];refine Eq.mpr (congrArg (fun s=>semWp P s K X h) ?_) H
 generalize fs.toList=l
 clear H hu
 induction l with
 |nil=>rfl
 |cons f l ih=>
  rw [List.forIn_cons];unfold Op.eqFields;refine (dV _ _ _).trans ?_;split
  ·refine (dV _ _ _).trans ?_;show bM _ _=bM _ _;congr 1;funext a;refine (dV _ _ _).trans ?_;show bM _ _=bM _ _;congr 1;funext b;refine (dV _ _ _).trans ?_;show bM _ _=bM _ _;congr 1;funext r;cases r with
   |false=>rfl
   |true=>exact ih
  ·exact ih
theorem LX {t:TypeId}{gs:Array Field}{inf:TypeInfo}(hu:P.underlying t=some (.struct gs)) (hi:P.info? t=some inf) {xs:Array Value}{i:Nat}{K:Value→AE→Prop}{X:Value→AE→Prop}(H:K (.agg (xs.extract i (i+inf.size))) h):semWp P (part t xs i) K X h:=by
 unfold part isAgg;simp only [bind,bM,underlying,program,semWp,hu,pure,Go.sizeOf,typeInfo,hi,if_true];exact H
theorem HT {d:Nat}(xs ys:Array Value) (X:Value→AE→Prop):∀(fs:List Field) {r:Bool},Gn P xs ys fs=some r→ ∀(K:Bool→AE→Prop),K r h→semWp P (Op.eqFields (d+2) xs ys fs) K X h:=by
 intro fs
 induction fs with
 |nil=>intro r hr K H;cases hr;exact H
 |cons f fs ih=>
  intro r hr K H;unfold Gn at hr;split at hr
  ·cases hr
  ·rename_i hn
   split at hr
   ·rename_i r1 r2 h1 h2
    cases hr;unfold Op.eqFields;rw [if_pos hn];have last:∀K2:Bool→AE→Prop,(K2=fun r h=>semWp P (if (!r)=true then pure false else Op.eqFields (d+2) xs ys fs) K X h)→K2 r1 h:=fun K2 e=>by
     subst e;cases r1 with
     |false=>exact H
     |true=>exact ih h2 _ H
    unfold LV at h1;split at h1
    ·rename_i a b ha hb
     split at h1
     ·rename_i r3 h3
      cases h1;exact Ab _ _ (HS h3 ha (Ab _ _ (HS h3 hb (Ab _ _ (JF h3 _ _ (last _ rfl))))))
     ·unfold Me at h1;split at h1
      ·rename_i gs inf hu hi hs
       exact Ab _ _ (LX hu hi (Ab _ _ (LX hu hi (Ab _ _ (Hr hu hs (J0 _ _ _ _ h1 _ (last _ rfl)))))))
      ·cases h1
    ·cases h1
   ·cases hr
theorem ID {op:BinOp}{t:TypeId}{x y:Operand}{xs ys:Array Value}{α:Type}{f:Unit→Sem α}{K:α→AE→Prop}{X:Value→AE→Prop}(hg:P.eqGuardType P.depth t=false) (ho:op= .eql∨op= .neq) (H:semWp P (f ()) K X h):
 semWp P ((eqGuard op t x y (.agg xs) (.agg ys)).bind f) K X h:=by
 have key:semWp P (eqGuard op t x y (.agg xs) (.agg ys)) (fun _ h'=>h'=h) X h:=by
  rcases ho with rfl | rfl
  ·show semWp P (if (!P.eqGuardType P.depth t)=true then pure () else _) _ X h;rw [hg];rfl
  ·show semWp P (if (!P.eqGuardType P.depth t)=true then pure () else _) _ X h;rw [hg];rfl
 exact Ab _ _ (BC _ (fun a h' e=>by subst e;exact H) (fun _ _ x=>x) key)
theorem Mg {t:TypeId}{x y:Operand}{xs ys:Array Value}(H:(IB P t xs ys (fun r=>k (.bool r)) (G9 q (do eqGuard .eql t x y (.agg xs) (.agg ys);binOp .eql t (.agg xs) (.agg ys)) (.one (.atom .bool)) fun r=>k (.bool r))).wp P Q h):BinOk P .eql t x y (.agg xs) (.agg ys) k Q h:=by
 unfold IB at H;split at H
 ·rename_i fs hu
  split at H
  ·rename_i r hg hf
   rw [eL]at hg;refine ID hg.1 (.inl rfl)<|Ab (Op.equal t (.agg xs) (.agg ys)) _ (Hr (d:=9999) hu hg.2 (HT (d:=9997) xs ys _ _ hf _ H))
  ·exact BC _ (fun v h' ⟨r,hr,hk⟩=>hr ▸ hk) (fun _ _ x=>x) (Dj H)
 ·exact BC _ (fun v h' ⟨r,hr,hk⟩=>hr ▸ hk) (fun _ _ x=>x) (Dj H)
theorem Mh {t:TypeId}{x y:Operand}{xs ys:Array Value}(H:(IB P t xs ys (fun r=>k (.bool !r)) (G9 q (do eqGuard .neq t x y (.agg xs) (.agg ys);binOp .neq t (.agg xs) (.agg ys)) (.one (.atom .bool)) fun r=>k (.bool r))).wp P Q h):BinOk P .neq t x y (.agg xs) (.agg ys) k Q h:=by
 unfold IB at H;split at H
 ·rename_i fs hu
  split at H
  ·rename_i r hg hf
   rw [eL]at hg;refine ID hg.1 (.inr rfl)<|Ab (Op.equal t (.agg xs) (.agg ys)) _ (Hr (d:=9999) hu hg.2 (HT (d:=9997) xs ys _ _ hf _ H))
  ·exact BC _ (fun v h' ⟨r,hr,hk⟩=>hr ▸ hk) (fun _ _ x=>x) (Dj H)
 ·exact BC _ (fun v h' ⟨r,hr,hk⟩=>hr ▸ hk) (fun _ _ x=>x) (Dj H)
theorem Lr {op:BinOp}{t:TypeId}{x y:Operand}{a b:Value}(H:(IU q P op t x y a b k).wp P Q h):BinOk P op t x y a b k Q h:=by
 unfold IU at H;split at H
 case h_1=>obtain ⟨hj,H2⟩:=EZ H;subst hj;exact DL (by simp) (by simp) rfl H2
 case h_2=>obtain ⟨hj,H2⟩:=EZ H;subst hj;exact DL (by simp) (by simp) rfl H2
 case h_3=>obtain ⟨hj,H2⟩:=EZ H;subst hj;exact DL (by simp) (by simp) rfl H2
 case h_4=>
  obtain ⟨hj,H2⟩:=EZ H;subst hj;obtain ⟨hn,H3⟩:=FA H2;refine DL (by simp) (by simp) rfl ?_;simp only [Op.intDiv,if_neg hn];exact H3
 case h_5=>
  obtain ⟨hj,H2⟩:=EZ H;subst hj;obtain ⟨hn,H3⟩:=FA H2;refine DL (by simp) (by simp) rfl ?_;simp only [Op.intDiv,if_neg hn];exact H3
 case h_6=>
  obtain ⟨hn,H2⟩:=FA H;exact OS hn H2
 case h_7=>
  obtain ⟨hn,H2⟩:=FA H;exact OT hn H2
 case h_8=>obtain ⟨hj,H2⟩:=EZ H;subst hj;exact DL (by simp) (by simp) rfl H2
 case h_9=>obtain ⟨hj,H2⟩:=EZ H;subst hj;exact DL (by simp) (by simp) rfl H2
 case h_10=>obtain ⟨hj,H2⟩:=EZ H;subst hj;exact DL (by simp) (by simp) rfl H2
 case h_11=>obtain ⟨hj,H2⟩:=EZ H;subst hj;exact DL (by simp) (by simp) rfl H2
 case h_12=>obtain ⟨hj,H2⟩:=EZ H;subst hj;exact DL (by simp) (by simp) rfl H2
 case h_13=>obtain ⟨hj,H2⟩:=EZ H;subst hj;exact DL (by simp) (by simp) rfl H2
 case h_14=>
  obtain ⟨hn,H2⟩:=FA H;exact Nk hn H2
 case h_15=>exact H
 case h_16=>exact H
 case h_17=>
  obtain ⟨d,hd,H2⟩:=FH H;cases d<;>first | exact H2.elim | exact Kn rfl rfl (JE hd _) H2
 case h_18=>
  obtain ⟨d,hd,H2⟩:=FH H;cases d<;>first | exact H2.elim | exact Ko rfl rfl (JE hd _) H2
 case h_19=>
  obtain ⟨d,hd,H2⟩:=FH H;cases d<;>first | exact H2.elim | exact Kn rfl rfl (IC hd _ _ _ _ _) H2
 case h_20=>
  obtain ⟨d,hd,H2⟩:=FH H;cases d<;>first | exact H2.elim | exact Ko rfl rfl (IC hd _ _ _ _ _) H2
 case h_21=>
  obtain ⟨d,hd,H2⟩:=FH H;cases d<;>first | exact H2.elim | exact Kn rfl rfl (IW hd _ _) H2
 case h_22=>
  obtain ⟨d,hd,H2⟩:=FH H;cases d<;>first | exact H2.elim | exact Ko rfl rfl (IW hd _ _) H2
 case h_23=>exact Mg H
 case h_24=>exact Mh H
 case h_25=>exact BC _ (fun v h' ⟨r,hr,hk⟩=>hr ▸ hk) (fun _ _ x=>x) (Dj H)
 case h_26=>exact BC _ (fun v h' ⟨r,hr,hk⟩=>hr ▸ hk) (fun _ _ x=>x) (Dj H)
 case h_27=>exact BI _ H
theorem J1 {v:Option Value}{d l:Int}(hb:HQ d v=some l):(v=none∧l=d)∨ ∃j,v=some (.int j l):=by
 cases v with
 |none=>simp [HQ]at hb;exact .inl ⟨rfl,hb.symm⟩
 |some v=>
  cases v<;>simp [HQ]at hb
  subst hb;exact .inr ⟨_,rfl⟩
theorem Dr {α:Type}{j:IntKind}{l:Int}{y:Nat}{code:BoundsCode}{f:Nat→Sem α}{K:α→AE→Prop}{X:Value→AE→Prop}
 (h0:0≤l) (h1:l≤y) (H:semWp P (f l.toNat) K X h):semWp P (do let n ←dN (.int j l) y code;f n) K X h:=by
 show semWp P (bM (dN (.int j l) y code) f) K X h;have e:dN (.int j l) y code= .pure l.toNat:=by
  show (if 0≤l∧l≤y then dJ l.toNat else boundsPanic j l y code)=_;rw [if_pos ⟨h0,h1⟩]
 rw [e];exact H
theorem GK {b:Bool}{len cap:Nat}{lo hi:Option Value}{l hh:Int}(hl:HQ 0 lo=some l) (hhi:HQ len hi=some hh)
 (h0:0≤l) (h1:l≤hh) (h2:hh≤cap) {α:Type} {f:Nat×Nat×Nat→Sem α} {K:α→AE→Prop} {X:Value→AE→Prop}
 (H:semWp P (f (l.toNat,hh.toNat,cap)) K X h):
 semWp P (do let r ←eV b len cap lo hi none;f r) K X h:=by
 show semWp P (bM (eV b len cap lo hi none) f) K X h;refine Ab _ _ ?_;have h0':l≤(hh.toNat:Int):=by omega
 rcases J1 hl with ⟨rfl,rfl⟩|⟨j,rfl⟩ <;>rcases J1 hhi with ⟨rfl,rfl⟩|⟨j',rfl⟩
 ·exact H
 ·exact Dr (f:=fun n=>dJ (0,n,cap)) (by omega) h2 H
 ·refine Dr (f:=fun n=>dJ (n,len,cap)) h0 (by omega) H
 ·refine Dr (f:=fun m=>bM (dN (.int j l) m .sliceB) fun n=>dJ (n,m,cap)) (by omega) h2<|Dr (f:=fun n=>dJ (n,hh.toNat,cap)) h0 h0' H
theorem J2 {t:TypeId}{x:Value}{lo hi mx:Option Value}(H:(GI q P t x lo hi mx k).wp P Q h):
 semWp P (eA t x lo hi mx) (fun v h'=>(k v).wp P Q h') (fun v h'=>Q (.pan [{v,recovered:=false}]) h') h:=by
 unfold GI at H;split at H
 ·rename_i s hd
  split at H
  ·rename_i l hh hl hhh
   obtain ⟨⟨h1,h2,h3⟩,H2⟩:=FA H;unfold eA;refine AW hd ?_;unfold Instr.slice;refine AW hd<|GK hl hhh h1 h2 h3 H2
  ·exact H.elim
 ·rename_i e p n c hd
  split at H
  ·rename_i l hh i hl hhh hi
   obtain ⟨⟨h1,h2,h3⟩,H2⟩:=FA H;unfold eA;refine AW hd ?_;unfold Instr.slice;refine AW hd<|GK hl hhh h1 h2 h3<|HA hi H2
  ·exact H.elim
 ·exact ER H
theorem Kp {c:Call}{t:TypeId}(H:(HR q P ρ c t k).wp P Q h):
 OpOk q P (do let d ←resolve ρ c t;invoke d.target d.args) k Q h:=by
 unfold HR at H;split at H
 ·rename_i b hc
  have e:resolve ρ c t= .pure {target:=.builtin b c.argTypes t (c.args.map fun | .const _=>true | _=>false),args:=c.args.map ρ} :=by
   unfold resolve;rw [hc];rfl
  rw [e];show OpOk q P (builtin b c.argTypes t _ (c.args.map ρ)) k Q h;cases b<;>first | exact H.elim | skip
  case append=>exact C9 (ER H)
  case cap=>
   dsimp only at H;split at H<;>first | exact H.elim | skip
   rename_i at0 _ x _ h1 h2
   refine C9 ?_;have e1:c.argTypes[0]? =some at0:=by rw [←bX,h1];rfl
   have e2:(c.args.map ρ)[0]? =some x:=by rw [←bX,h2];rfl
   split at H
   ·rename_i hd
    show semWp P (eU c.argTypes t (c.args.map ρ)) _ _ _;unfold eU;rw [e1,e2];exact AW hd H
   ·exact ER H
  case clear=>exact C9 (BC _ (fun _ _ ⟨_,hx,hk⟩=>by subst hx;exact hk) (fun _ _ x=>x) (Dj H))
  case copy=>exact C9 (BC _ (fun _ _ ⟨_,hx,hk⟩=>by subst hx;exact hk) (fun _ _ x=>x) (Dj H))
  case delete=>exact C9 (BC _ (fun _ _ ⟨_,hx,hk⟩=>by subst hx;exact hk) (fun _ _ x=>x) (Dj H))
  case len=>
   dsimp only at H;split at H<;>first | exact H.elim | skip
   rename_i at0 _ x _ h1 h2
   refine C9 ?_;have e1:c.argTypes[0]? =some at0:=by rw [←bX,h1];rfl
   have e2:(c.args.map ρ)[0]? =some x:=by rw [←bX,h2];rfl
   split at H
   ·rename_i hd
    show semWp P (cY c.argTypes t (c.args.map ρ)) _ _ _;unfold cY;rw [e1,e2];exact AW hd H
   ·rename_i hd
    show semWp P (cY c.argTypes t (c.args.map ρ)) _ _ _;unfold cY;rw [e1,e2];exact AW hd H
   ·rename_i x _ _ n e hd
    show semWp P (cY c.argTypes t (c.args.map ρ)) _ _ _;unfold cY;rw [e1,e2];refine AW hd ?_;cases x<;>exact H
   ·exact ER H
  case max=>exact C9 (BI _ H)
  case min=>exact C9 (BI _ H)
 ·rename_i f hc
  unfold Mf at H;split at H
  ·rename_i g first cap hf
   split at H
   ·rename_i fn hfn
    split at H
    ·rename_i hname hbody
     have e:resolve ρ c t= .pure {target:=.fn (.func g) cap,args:=first++c.args.map ρ} :=by
      unfold resolve;rw [hc];simp only [hf,Deferred.ofValue];rfl
     rw [e];show OpOk q P (callFunc g ((first++c.args.map ρ) ++cap)) k Q h;unfold OpOk callFunc;simp only [program,bind,bM,semWp,hfn,hname,hbody,bZ,if_false];cases q with
     |true=>exact H.elim
     |false=>
     simp only [cond_false,T.wp]at H;simp only [pure,semWp,OF];refine ⟨trivial,CallsH.mono H fun e h' he=> ?_⟩;cases e with
     |ret v=>obtain ⟨x,hx,hk⟩:=he;subst hx;exact hk
     |pan c=>exact he
    ·exact H.elim
   ·exact H.elim
  ·exact H.elim
 ·exact H.elim
theorem J3 {o:Oper}(H:(B2 q P ρ o k).wp P Q h):OpOk q P (execOp ρ o) k Q h:=by
 obtain ⟨dst,op,type,pos,after,guard⟩:=o;cases op<;>simp only [B2]at H<;>first | exact H.elim | skip
 case move x=>exact H
 case assign x=>exact H
 case pick c a b=>
  split at H
  ·rename_i t ht
   show OpOk q P (do pure (.value (if ←asBool (ρ c) then ρ a else ρ b))) k Q h;rw [ht];cases t<;>exact H
  ·exact H.elim
 case alloc e=>exact C9 (BI _ H)
 case box e x=>exact C9 (BI _ H)
 case build t ps=>exact C9 (BI _ H)
 case buildSlice t n ps=>exact C9 (BI _ H)
 case insert t m key x=>exact OR (LW H)
 case load t a=>
  split at H
  ·rename_i p ha
   obtain ⟨a',rfl,H2⟩:=GJ H;refine C9 ?_;show semWp P (Instr.loadAt t (ρ a)) _ _ _;rw [ha];exact BC _ (fun _ _ ⟨h1,h2⟩=>h1 ▸ h2) (fun _ _ hx=>hx.elim) (Km H2)
  ·exact H.elim
 case store t a x=>
  refine OR ?_;split at H
  ·rename_i p ha
   obtain ⟨a',rfl,H2⟩:=GJ H;rw [ha];exact BI _ H2
  ·exact BI _ H
 case nilCheck x=>
  split at H
  ·rename_i p hp
   obtain ⟨a,rfl,H2⟩:=GJ H;simp only [execOp,hp];exact H2
  ·rename_i f a b hp
   simp only [execOp,hp];exact H
  ·rename_i t v hp
   simp only [execOp,hp];exact H
  ·exact H.elim
 case binOp op xt x y yt=>exact C9 (Lr H)
 case unOp op xt x=>exact C9 (BI _ H)
 case convert src dst x=>
  refine C9 ?_;split at H
  ·exact BI _ H
  ·exact BI _ H
  ·exact ER H
 case makeInterface t x=>exact C9 (BI _ H)
 case makeFunc fn first captured=>exact H
 case makeMap t r=>exact C9 (BI _ H)
 case makeChan t s=>exact C9 (ER H)
 case makeSlice t l c=>exact C9 (ER H)
 case slice t x lo hi mx=>exact C9 (J2 H)
 case fieldAddr s x f=>
  refine C9 ?_;split at H
  ·rename_i p hp
   obtain ⟨a,rfl,H2⟩:=GJ H;rw [hp];exact BI _ H2
  ·exact BI _ H
 case field t x f=>exact C9 (BI _ H)
 case indexAddr t x ix=>
  refine C9 ?_;show semWp P (eQ t (ρ x) (ρ ix)) _ _ _;split at H
  ·rename_i e p n c j i hd hx hix
   split at H
   ·rename_i info hinfo
    obtain ⟨a,rfl,H2⟩:=GJ H;obtain ⟨hb,H3⟩:=FA H2;rw [hx,hix];simp only [eQ,Instr.sureAddr,asIntOf,underlying,program,bind,bM,semWp,hd,pure,Go.sizeOf,typeInfo,hinfo,if_pos hb];exact H3
   ·exact H.elim
  ·rename_i n e a j i hd hx hix
   split at H
   ·rename_i info hinfo
    obtain ⟨hb,H3⟩:=FA H;rw [hx,hix];simp only [eQ,Instr.sureAddr,asIntOf,underlying,program,bind,bM,semWp,hd,pure,Go.sizeOf,typeInfo,hinfo,if_pos hb];exact H3
   ·exact H.elim
  ·exact H.elim
 case index t x ix=>
  refine C9 ?_;show semWp P (fD t (ρ x) (ρ ix)) _ _ _;split at H
  ·rename_i s j i hd hx hix
   obtain ⟨hb,H3⟩:=FA H;rw [hx,hix];unfold fD;simp only [asIntOf];refine AW hd ?_;have e:(if 0≤i then s[i.toNat]? else none)=some (C8 s i.toNat):=by
    rw [if_pos hb.1];have hlt:i.toNat<s.size:=by omega
    rw [getElem?_pos s i.toNat hlt];unfold C8
    have:i.toNat<s.data.toList.length:=by simpa using hlt
    rw [bP,cH this];rfl
   dsimp only;rw [e];exact H3
  ·exact BI _ H
 case lookup t x ix ok=>exact C9 (ER H)
 case mapUpdate t m key x=>exact OR (LW H)
 case range t x=>exact C9 (BC _ (fun _ _ ⟨_,hx,hk⟩=>by subst hx;exact hk) (fun _ _ x=>x) (Dj H))
 case next it b=>exact C9 (BC _ (fun _ _ ⟨_,hx,hk⟩=>by subst hx;exact hk) (fun _ _ x=>x) (Dj H))
 case typeAssert x xt at_ ok=>exact C9 (ER H)
 case extract t ix=>exact C9 (BI _ H)
 case call c=>exact Kp H
 case panic x=>exact C9 (BI _ H)
end
abbrev Env:=List (Nat×Value)
def Env.get?:Env→Nat→Option Value
 | [],_=>none
 |(i,v)::r,t=>bif bV i t then some v else Env.get? r t
def Env.put (e:Env) (dst:Option Tmp) (v:Value):Env:=match dst with
 |some d=>(d,v)::e
 |none=>e
def Env.ev (e:Env):Operand→Value
 |.tmp t=>(e.get? t).getD undef
 |.const v=>v
 |.global g=>.pointer (some ⟨g,0,none⟩)
 |.func f=>.func (.func f) #[] #[]
def Env.has (e:Env):Operand→Bool
 |.tmp t=>(e.get? t).isSome
 |_=>true
def Agrees (e:Env) (tm:Array Value):Prop:= ∀t v,e.get? t=some v→tm[t]? =some v
theorem Env.get?_cons (i:Nat) (v:Value) (r:Env) (t:Nat):Env.get? ((i,v)::r) t=if i=t then some v else Env.get? r t:=by
 show (bif bV i t then some v else Env.get? r t)=_;by_cases h:i=t
 ·subst h;simp
 ·have:bV i t=false:=by
   cases hb:bV i t with
   |false=>rfl
   |true=>exact absurd (bY hb) h
  simp [this,h]
theorem Agrees.ev {e:Env}{a:Act}(h:Agrees e a.tmps) {x:Operand}(hx:e.has x=true):a.eval x=e.ev x:=by
 cases x with
 |tmp t=>
  obtain ⟨v,hv⟩:=Option.isSome_iff_exists.1 hx
  have:=h t v hv
  simp [Act.eval,Env.ev,hv,this]
 |const v=>rfl
 |global g=>rfl
 |func f=>rfl
theorem Agrees.put {e:Env}{a:Act}(h:Agrees e a.tmps) (dst:Option Tmp) (v:Value) (hd:∀d,dst=some d→d<a.tmps.size):Agrees (e.put dst v) (a.put dst v).tmps:=by
 cases dst with
 |none=>exact h
 |some d=>
  intro t u hu;simp only [Env.put,Env.get?_cons]at hu;have hlt:=hd d rfl;by_cases hdt:d=t
  ·subst hdt;simp only [if_true,Option.some.injEq]at hu;subst hu;simp [Act.put,hlt]
  ·simp only [hdt,if_false]at hu;simp only [Act.put,bN hdt];exact h t u hu
theorem Act.put_size (a:Act) (dst:Option Tmp) (v:Value):(a.put dst v).tmps.size=a.tmps.size:=by
 cases dst<;>simp [Act.put]
theorem Act.put_defers' (a:Act) (dst:Option Tmp) (v:Value):(a.put dst v).defers=a.defers:=by
 cases dst<;>rfl
def Fr (W:List Nat) (a a':Act):Prop:=a'.tmps.size=a.tmps.size∧a'.defers=a.defers∧ ∀t,t∉W→a'.tmps[t]? =a.tmps[t]?
theorem Fr.refl (W:List Nat) (a:Act):Fr W a a:=⟨rfl,rfl,fun _ _=>rfl⟩
theorem Fr.trans {W:List Nat}{a b c:Act}(h:Fr W a b) (k:Fr W b c):Fr W a c:=⟨k.1.trans h.1,k.2.1.trans h.2.1,fun t ht=>(k.2.2 t ht).trans (h.2.2 t ht)⟩
theorem Fr.mono {W W':List Nat}{a b:Act}(h:Fr W a b) (hW:∀t,t∈W→t∈W'):Fr W' a b:=⟨h.1,h.2.1,fun t ht=>h.2.2 t (fun h'=>ht (hW t h'))⟩
theorem Fr.put (W:List Nat) (a:Act) (dst:Option Tmp) (v:Value) (h:∀d,dst=some d→d∈W):Fr W a (a.put dst v):=by
 refine ⟨Act.put_size a dst v,Act.put_defers' a dst v,fun t ht=> ?_⟩;cases dst with
 |none=>rfl
 |some d=>
  have:d≠t:=fun e=>ht (e ▸ h d rfl)
  simp [Act.put,bN this]
def IR (P:Program) (ops:Array Oper) (l:List Nat) (Q:Exit→Act→World→Prop) (a:Act) (w:World):Prop:=
 ∀(b:Frame) (k:List Item) (cs:List Frame),
  ∃e a' w',Q e a' w'∧Arrives P (lone (b.at a (.inRegion ops l::k)) cs w) b k cs e a' w'
section
variable {P:Program}{ops:Array Oper}{Q:Exit→Act→World→Prop}{a:Act}{w:World}
theorem OU (h:Q .normal a w):IR P ops [] Q a w:=fun _ _ _=>⟨.normal,a,w,h,.one step_region_end⟩
theorem LY {i:Nat}{rest:List Nat}(h:((ops[i]?).map (Region.wanted · (yielded ops a.tmps))).getD false=false)
 (H:IR P ops rest Q (a.put ((ops[i]?).bind (·.dst)) undef) w):IR P ops (i::rest) Q a w:=fun b k cs=>by
 obtain ⟨e,a',w',hq,harr⟩:=H b k cs;exact ⟨e,a',w',hq,.of_steps (.one (step_op_skip h)) harr⟩
theorem Mi {i:Nat}{rest:List Nat}{o:Oper}{v:Value}{w':World}(ho:ops[i]? =some o) (hw:Region.wanted o (yielded ops a.tmps)=true)
 (hr:(execOp a.eval o).run P w= .ok (.value v) w') (H:IR P ops rest Q (a.put o.dst v) w'):IR P ops (i::rest) Q a w:=fun b k cs=>by
 obtain ⟨e,a',w'',hq,harr⟩:=H b k cs;refine ⟨e,a',w'',hq,.of_steps (.one (step_lone_go ?_)) harr⟩;have hfin:(b.at a (.inRegion ops (i::rest)::k)).finish v=b.at (a.put o.dst v) (.inRegion ops rest::k):=by rw [Frame.finish_at,ho];rfl
 rw [stepG_op ho hw,←hfin];simp [stepG.apply,hr]
theorem Nl {i:Nat}{rest:List Nat}{o:Oper}{w':World}(ho:ops[i]? =some o) (hw:Region.wanted o (yielded ops a.tmps)=true)
 (hr:(execOp a.eval o).run P w= .ok .skip w') (H:IR P ops rest Q (a.put o.dst undef) w'):IR P ops (i::rest) Q a w:=fun b k cs=>by
 obtain ⟨e,a',w'',hq,harr⟩:=H b k cs;refine ⟨e,a',w'',hq,.of_steps (.one (step_lone_go ?_)) harr⟩;have hfin:(b.at a (.inRegion ops (i::rest)::k)).finish undef=b.at (a.put o.dst undef) (.inRegion ops rest::k):=by rw [Frame.finish_at,ho];rfl
 rw [stepG_op ho hw,←hfin];simp [stepG.apply,hr]
theorem Mj {i:Nat}{rest:List Nat}{o:Oper}{v:Value}{w':World}(ho:ops[i]? =some o) (hw:Region.wanted o (yielded ops a.tmps)=true)
 (hr:(execOp a.eval o).run P w= .halt (.panic v) w') (H:Q (.panic [{v,recovered:=false}]) a w'):IR P ops (i::rest) Q a w:=fun b k cs=>by
 refine ⟨_,a,w',H,.inRegion ops (i::rest)::k,.one (step_lone_go ?_)⟩;rw [stepG_op ho hw,←Frame.raise_at];simp [stepG.apply,hr]
theorem Mk {i:Nat}{rest:List Nat}{o:Oper}{f:FuncId}{args:Array Value}{w':World}(ho:ops[i]? =some o) (hw:Region.wanted o (yielded ops a.tmps)=true)
 (hr:(execOp a.eval o).run P w= .ok (.enter f args) w')
 (H:Calls P f args w' fun e w''=>match e with
  |.returned v=>IR P ops rest Q (a.put o.dst v) w''
  |.panicked chain=>Q (.panic chain) a w''
  |.outgrown=>False):IR P ops (i::rest) Q a w:=fun b k cs=>by
 obtain ⟨e,w'',fr,hR,hsteps,_,hleave⟩:=H (b.at a (.inRegion ops (i::rest)::k)::cs);have henter:step P (lone (b.at a (.inRegion ops (i::rest)::k)) cs w)=
  .next (lone (Frame.enter P f args .normal) (b.at a (.inRegion ops (i::rest)::k)::cs) w'):=
  step_lone_go (by rw [stepG_op ho hw];simp [stepG.apply,hr,Frame.at])
 cases e with
 |returned v=>
  obtain ⟨e,a',w₃,hq,harr⟩:=hR b k cs;refine ⟨e,a',w₃,hq,.of_steps (.head henter (hsteps.trans (.one ?_))) harr⟩;have hfin:(b.at a (.inRegion ops (i::rest)::k)).finish v=b.at (a.put o.dst v) (.inRegion ops rest::k):=by rw [Frame.finish_at,ho];rfl
  rw [←hfin];exact step_leave_returned hleave
 |panicked chain=>
  refine ⟨.panic chain,a,w'',hR,.inRegion ops (i::rest)::k,.head henter (hsteps.trans (.one ?_))⟩;rw [←Frame.raise_at];exact step_leave_panicked hleave
 |outgrown=>exact hR.elim
theorem J4 {b:Frame}{k:List Item}{cs:List Frame}{i:Nat}{rest:List Nat}{o:Oper}{cases_:Array CommCase}{blocking:Bool}{shape:CommShape}(ho:ops[i]? =some o)
 (hw:Region.wanted o (yielded ops a.tmps)=true) (hr:(execOp a.eval o).run P w= .ok (.comm cases_ blocking shape) w):
 ∃es,stepG P true (Conc.G (b.at a (.inRegion ops (i::rest)::k)) cs) w= .comm (Conc.G (b.at a (.inRegion ops (i::rest)::k)) cs) cases_ blocking shape w es:=by
 have hg:=stepG_op (P:=P) (b:=b) (k:=k) (cs:=cs) (w:=w) (rest:=rest) ho hw
 have:stepG P true (Conc.G (b.at a (.inRegion ops (i::rest)::k)) cs) w=stepG.apply P true (b.at a (.inRegion ops (i::rest)::k)) cs none (execOp a.eval o) w:=hg
 rw [this];refine ⟨(stepG.apply P true (b.at a (.inRegion ops (i::rest)::k)) cs none (execOp a.eval o) w).es,?_⟩;simp [stepG.apply,hr,Conc.G,Frame.at,GStep.after,GStep.es]
def Hs (send:Option Value) (i:Int) (ok:Bool) (v:Value):Value:=match send with
 |some _=>.tuple #[goInt i,.bool ok]
 |none=>.tuple #[goInt i,.bool ok,v]
theorem Ls {i:Nat}{rest:List Nat}{o:Oper}{c:Nat}{send:Option Value}{zero:Value}(ho:ops[i]? =some o) (hw:Region.wanted o (yielded ops a.tmps)=true)
 (hr:(execOp a.eval o).run P w= .ok (.comm #[{chan:=.chan (some c),send,zero}] false .select) w)
 (H:Mc c send zero (fun j ok v h'=>∀w',Br w w'→w'.heap=h'→IR P ops rest Q (a.put o.dst (Hs send j ok v)) w') w.heap):IR P ops (i::rest) Q a w:=by
 intro b k cs;obtain ⟨es,hst⟩:=J4 (b:=b) (k:=k) (cs:=cs) (rest:=rest) ho hw hr;obtain ⟨cap,buf,s,r,hc,H⟩:=H;have fin:∀v,(b.at a (.inRegion ops (i::rest)::k)).finish v=b.at (a.put o.dst v) (.inRegion ops rest::k):=fun v=>by rw [Frame.finish_at,ho];rfl
 cases send with
 |none=>
  by_cases hh:0<buf.size
  ·simp only [if_pos hh]at H;have hs:=Conc.step_lone_select_recv_buf hst hc hh;obtain ⟨e,a',w',hq,harr⟩:=H (w.setChan c cap (buf.extract 1 buf.size) false s (r+1) false) ⟨rfl,rfl,rfl,by unfold World.setChan;simp⟩ rfl b k cs;refine ⟨e,a',w',hq,.of_steps (.one ?_) harr⟩;rw [←fin];exact hs
  ·simp only [if_neg hh]at H;have hb:buf= #[]:=by
    have:buf.size=0:=by omega
    exact Array.eq_empty_of_size_eq_zero this
   subst hb;have hs:=Conc.step_lone_select_default hst hc;obtain ⟨e,a',w',hq,harr⟩:=H w (.refl w) rfl b k cs;refine ⟨e,a',w',hq,.of_steps (.one ?_) harr⟩;rw [←fin];exact hs
 |some v=>
  by_cases hh:buf.size<cap
  ·simp only [if_pos hh]at H;have hs:=Conc.step_lone_select_send_room hst hc hh;obtain ⟨e,a',w',hq,harr⟩:=H (w.setChan c cap (buf.push v) false (s+1) r false) ⟨rfl,rfl,rfl,by unfold World.setChan;simp⟩ rfl b k cs;refine ⟨e,a',w',hq,.of_steps (.one ?_) harr⟩;rw [←fin];exact hs
  ·simp only [if_neg hh]at H;have hs:=Conc.step_lone_select_send_full hst hc (by omega);obtain ⟨e,a',w',hq,harr⟩:=H w (.refl w) rfl b k cs;refine ⟨e,a',w',hq,.of_steps (.one ?_) harr⟩;rw [←fin];exact hs
end
section
variable {P:Program}{ops:Array Oper}
def DM (P:Program) (ops:Array Oper) (i:Nat) (a:Act) (w:World) (K:Act→World→Prop) (X:List PanicEntry→World→Prop):Prop:=
 match ops[i]? with
 |none=>K a w
 |some o=>
  (Region.wanted o (yielded ops a.tmps)=false∧K (a.put o.dst undef) w)∨
  (Region.wanted o (yielded ops a.tmps)=true∧
   ((∃v w',(execOp a.eval o).run P w= .ok (.value v) w'∧K (a.put o.dst v) w')∨
    (∃w',(execOp a.eval o).run P w= .ok .skip w'∧K (a.put o.dst undef) w')∨
    (∃f args w',(execOp a.eval o).run P w= .ok (.enter f args) w'∧Calls P f args w' fun e w''=>match e with
     |.returned v=>K (a.put o.dst v) w''
     |.panicked ch=>X ch w''
     |.outgrown=>False)∨
    (∃v w',(execOp a.eval o).run P w= .halt (.panic v) w'∧X [{v,recovered:=false}] w')))
theorem GL {i:Nat}{a:Act}{w:World}{K K':Act→World→Prop}{X X':List PanicEntry→World→Prop}(hK:∀a w,K a w→K' a w) (hX:∀c w,X c w→X' c w)
 (H:DM P ops i a w K X):DM P ops i a w K' X':=by
 unfold DM at *;split
 ·rename_i h;simp only [h]at H;exact hK _ _ H
 ·rename_i o h
  simp only [h]at H;rcases H with ⟨h1,h2⟩|⟨h1,h2⟩
  ·exact .inl ⟨h1,hK _ _ h2⟩
  ·refine .inr ⟨h1,?_⟩;rcases h2 with ⟨v,w',h3,h4⟩|⟨w',h3,h4⟩|⟨f,args,w',h3,h4⟩|⟨v,w',h3,h4⟩
   ·exact .inl ⟨v,w',h3,hK _ _ h4⟩
   ·exact .inr (.inl ⟨w',h3,hK _ _ h4⟩)
   ·refine .inr (.inr (.inl ⟨f,args,w',h3,h4.mono fun e w'' he=> ?_⟩));cases e<;>first | exact hK _ _ he | exact hX _ _ he | exact he
   ·exact .inr (.inr (.inr ⟨v,w',h3,hX _ _ h4⟩))
theorem Lu {W:List Nat}(hW:∀o∈ops,∀d,o.dst=some d→d∈W) {i:Nat}{a:Act}{w:World}{K:Act→World→Prop}{X:List PanicEntry→World→Prop}
 (H:DM P ops i a w K X):DM P ops i a w (fun a' w'=>Fr W a a'∧K a' w') X:=by
 unfold DM at *;split
 ·rename_i h;simp only [h]at H;exact ⟨.refl W a,H⟩
 ·rename_i o h
  simp only [h]at H;have hd:∀v,Fr W a (a.put o.dst v):=fun v=>Fr.put W a o.dst v (hW o (cN h));rcases H with ⟨h1,h2⟩|⟨h1,h2⟩
  ·exact .inl ⟨h1,hd _,h2⟩
  ·refine .inr ⟨h1,?_⟩;rcases h2 with ⟨v,w',h3,h4⟩|⟨w',h3,h4⟩|⟨f,args,w',h3,h4⟩|⟨v,w',h3,h4⟩
   ·exact .inl ⟨v,w',h3,hd _,h4⟩
   ·exact .inr (.inl ⟨w',h3,hd _,h4⟩)
   ·refine .inr (.inr (.inl ⟨f,args,w',h3,h4.mono fun e w'' he=> ?_⟩));cases e<;>first | exact ⟨hd _,he⟩|exact he
   ·exact .inr (.inr (.inr ⟨v,w',h3,h4⟩))
theorem Lw {i:Nat}{rest:List Nat}{a:Act}{w:World}{Q:Exit→Act→World→Prop}(H:DM P ops i a w (IR P ops rest Q) (fun c w=>Q (.panic c) a w)):
 IR P ops (i::rest) Q a w:=by
 unfold DM at H;split at H
 ·rename_i h
  refine LY (by simp [h]) ?_;simpa [h,Act.put]using H
 ·rename_i o h
  rcases H with ⟨h1,h2⟩|⟨h1,h2⟩
  ·exact LY (by simp [h,h1]) (by simpa [h]using h2)
  ·rcases h2 with ⟨v,w',h3,h4⟩|⟨w',h3,h4⟩|⟨f,args,w',h3,h4⟩|⟨v,w',h3,h4⟩
   ·exact Mi h h1 h3 h4
   ·exact Nl h h1 h3 h4
   ·exact Mk h h1 h3 h4
   ·exact Mj h h1 h3 h4
theorem J5 {i:Nat}{a:Act}{w:World}{K:Act→World→Prop}{Q:Exit→Act→World→Prop}(H:DM P ops i a w K (fun c w=>Q (.panic c) a w)):
 wpOp P ops Q i K a w:=by
 unfold DM at H;unfold wpOp;split at H
 ·rename_i h;simp only [h];exact H
 ·rename_i o h
  simp only [h];rcases H with ⟨h1,h2⟩|⟨h1,h2⟩
  ·simp only [h1,bZ,if_false];exact h2
  ·simp only [h1,if_true];refine .inl ?_;unfold Oper.wp;rcases h2 with ⟨v,w',h3,h4⟩|⟨w',h3,h4⟩|⟨f,args,w',h3,h4⟩|⟨v,w',h3,h4⟩
   ·rw [h3];exact h4
   ·rw [h3];exact h4
   ·rw [h3];exact Calls.mono h4 fun e w'' he=>by cases e<;>first | exact he | exact he.elim
   ·rw [h3];exact h4
def StepH (P:Program) (ops:Array Oper) (i:Nat) (K:Act→AE→Prop) (X:List PanicEntry→AE→Prop) (a:Act) (h:AE):Prop:=
 ∀w,w.heap=h→DM P ops i a w (fun a' w'=>Br w w'∧K a' w'.heap) (fun c w'=>Br w w'∧X c w'.heap)
theorem HB {i:Nat}{a:Act}{h:AE}{K K':Act→AE→Prop}{X X':List PanicEntry→AE→Prop}(hK:∀a h,K a h→K' a h) (hX:∀c h,X c h→X' c h)
 (H:StepH P ops i K X a h):StepH P ops i K' X' a h:=fun w hw=>GL (fun _ _ ⟨x,y⟩=>⟨x,hK _ _ y⟩) (fun _ _ ⟨x,y⟩=>⟨x,hX _ _ y⟩) (H w hw)
def Ml (ops:Array Oper) (e:Env) (o:Oper):Option Bool:=match o.guard with
 |none=>some true
 |some (j,want)=>match (ops[j]?).bind (·.dst) with
  |none=>none
  |some d=>match e.get? d with
   |some (.bool b)=>some (b==want)
   |some _=>some false
   |none=>none
theorem JY {e:Env}{a:Act}{o:Oper}{b:Bool}(h:Agrees e a.tmps) (hg:Ml ops e o=some b):Region.wanted o (yielded ops a.tmps)=b:=by
 unfold Ml at hg;unfold Region.wanted;split at hg
 ·rename_i h1;cases hg;simp [h1]
 ·rename_i j want h1
  simp only [h1];split at hg
  ·cases hg
  ·rename_i d h2
   split at hg
   ·rename_i b' h3
    cases hg
    have:=h d _ h3
    simp [yielded,h2,this]
   ·rename_i v h3 h4
    cases hg
    have:=h d _ h4
    have hy:yielded ops a.tmps j=none:=by
     unfold yielded;rw [h2];simp only [Option.bind_some,this];cases v<;>first | rfl | exact absurd rfl (h3 _)
    simp [hy]
   ·cases hg
def JZ (g:Bool) (v:Value) (k:Value→T):T:=match g,v with
 |true,.bool b=>cond b (k (.bool true)) (k (.bool false))
 |_,v=>k v
theorem Gp {g:Bool}{v:Value}{k:Value→T}{Q:Be→AE→Prop}{h:AE}(H:(JZ g v k).wp P Q h):(k v).wp P Q h:=by
 unfold JZ at H;split at H
 ·rename_i b;cases b<;>exact H
 ·exact H
def IQ (q:Bool) (P:Program) (ops:Array Oper) (gs:List Nat) (e:Env) (i:Nat) (k:Env→T):T:=match ops[i]? with
 |none=>k e
 |some o=>match Ml ops e o with
  |none=>.stuck
  |some false=>k (e.put o.dst undef)
  |some true=>bif o.op.operands.toList.all e.has then B2 q P e.ev o fun v=>JZ (gs.contains i) v fun v=>k (e.put o.dst v) else .stuck
theorem JG {q:Bool}{P:Program}{ρ:Operand→Value}{o:Oper}{k:Value→T}{Q:Be→AE→Prop}{h:AE}(H:(B2 q P ρ o k).wp P Q h) (cs:Array SelectCase) (b:Bool):o.op≠.select cs b:=by
 intro he;simp only [B2,he]at H;exact H
def Ex (W:List Nat) (a:Act):Prop:= ∀d∈W,d<a.tmps.size
theorem Ex.fr {W W':List Nat}{a a':Act}(h:Ex W a) (f:Fr W' a a'):Ex W a':=fun d hd=>by rw [f.1];exact h d hd
theorem IX {q:Bool}{gs:List Nat}{e:Env}{i:Nat}{k:Env→T}{QT:Be→AE→Prop}{a:Act}{h:AE}{W:List Nat}(hag:Agrees e a.tmps) (hW:∀o∈ops,∀d,o.dst=some d→d∈W) (hb:Ex W a)
 (H:(IQ q P ops gs e i k).wp P QT h):
 StepH P ops i (fun a' h'=>∃e',Agrees e' a'.tmps∧Fr W a a'∧(k e').wp P QT h') (fun c h'=>QT (.pan c) h') a h:=by
 intro w hw;subst hw;unfold IQ at H;unfold DM;cases ho:ops[i]? with
 |none=>rw [ho]at H;exact ⟨.refl w,e,hag,.refl W a,H⟩
 |some o=>
  rw [ho]at H;have hdW:∀d,o.dst=some d→d∈W:=hW o (cN ho);have hput:∀v,Agrees (e.put o.dst v) (a.put o.dst v).tmps:=fun v=>hag.put o.dst v fun d hd=>hb d (hdW d hd);dsimp only at H ⊢;cases hg:Ml ops e o with
  |none=>rw [hg]at H;exact H.elim
  |some b=>
   rw [hg]at H;have hwt:=JY hag hg;cases b with
   |false=>exact .inl ⟨hwt,.refl w,_,hput undef,Fr.put W a o.dst undef hdW,H⟩
   |true=>
    refine .inr ⟨hwt,?_⟩;dsimp only at H;cases hall:o.op.operands.toList.all e.has with
    |false=>rw [hall]at H;exact H.elim
    |true=>
     rw [hall]at H;simp only [cond_true]at H;have hcong:execOp a.eval o=execOp e.ev o:=execOp_congr o (JG H) fun x hx=>hag.ev (List.all_eq_true.1 hall x (Array.mem_toList_iff.2 hx));rw [hcong];rcases JC _ w (J3 H) with ⟨nx,w',h1,h2,h3⟩|⟨v,w',h1,h2,h3⟩
     ·cases nx<;>first | exact h3.elim | skip
      case value v=>exact .inl ⟨v,w',h1,h2,_,hput v,Fr.put W a o.dst v hdW,Gp h3⟩
      case skip=>exact .inr (.inl ⟨w',h1,h2,_,hput undef,Fr.put W a o.dst undef hdW,Gp h3⟩)
      case enter f args=>
       refine .inr (.inr (.inl ⟨f,args,w',h1,(by simpa using h3.2 w' rfl:Calls P f args w' _).mono fun e2 w'' he=> ?_⟩));cases e2 with
       |returned v=>exact ⟨h2.trans he.1,_,hput v,Fr.put W a o.dst v hdW,Gp he.2⟩
       |panicked ch=>exact ⟨h2.trans he.1,he.2⟩
       |outgrown=>exact he.2
     ·exact .inr (.inr (.inr ⟨v,w',h1,h2,h3⟩))
def OG (ops:Array Oper) (i:Nat):Option (Oper×SelectCase):=match ops[i]? with
 |some o=>match o.guard,o.op with
  |none,.select cs false=>match cs.toList with
   | [c] =>some (o,c)
   |_=>none
  |_,_=>none
 |none=>none
def OV (p:Option Nat) (k:Nat→T):T:=match p with
 |some r=>k r
 |none=>.stuck
def Mm (P:Program) (e:Env) (c:SelectCase) (k:Value→T):T:=
 bif e.has c.chan && c.send.toList.all e.has then
  match e.ev c.chan,(P.info? c.elem).bind (·.zero) with
  |.chan p,some z=>OV p fun r=>.sel r (c.send.map e.ev) z fun j ok v=>k (Hs (c.send.map e.ev) j ok v)
  |_,_=>.stuck
 else .stuck
def GM (P:Program) (ops:Array Oper) (gs:List Nat):List Nat→Env→(Env→T)→T
 | [],e,k=>k e
 |i::r,e,k=>match OG ops i with
  |some (o,c)=>Mm P e c fun v=>GM P ops gs r (e.put o.dst v) k
  |none=>IQ false P ops gs e i fun e'=>GM P ops gs r e' k
theorem Kq {gs:List Nat}{QT:Be→AE→Prop}{W:List Nat}{QC:Exit→Act→World→Prop}{k:Env→T}(hW:∀o∈ops,∀d,o.dst=some d→d∈W) (t:List Nat) (l:List Nat):
 ∀(e:Env) (a:Act) (w:World),Agrees e a.tmps→Ex W a→(GM P ops gs l e k).wp P QT w.heap→
  (∀e' a' w',Agrees e' a'.tmps→Fr W a a'→Br w w'→(k e').wp P QT w'.heap→IR P ops t QC a' w')→
  (∀c a' w',Fr W a a'→Br w w'→QT (.pan c) w'.heap→QC (.panic c) a' w')→IR P ops (l++t) QC a w:=by
 induction l with
 |nil=>intro e a w hag hb H hn hp;exact hn e a w hag (.refl W a) (.refl w) H
 |cons i r ih=>
  intro e a w hag hb H hn hp;unfold GM at H;split at H
  ·rename_i o c hs
   unfold OG at hs;split at hs
   ·rename_i o' ho
    split at hs
    ·rename_i cs hgd hop
     split at hs
     ·rename_i c' hcs
      simp only [Option.some.injEq,Prod.mk.injEq]at hs;obtain ⟨rfl,rfl⟩:=hs;unfold Mm at H;cases hk:(e.has c'.chan && c'.send.toList.all e.has) with
      |false=>rw [hk]at H;exact H.elim
      |true=>
       rw [hk]at H;simp only [cond_true]at H;split at H
       ·rename_i p z hch hz
        cases p with
        |none=>exact H.elim
        |some rr=>
         have hdW:∀d,o'.dst=some d→d∈W:=hW o' (cN ho);rw [eB]at hk;have e1:a.eval c'.chan= .chan (some rr):=by rw [hag.ev hk.1];exact hch
         have e2:c'.send.map a.eval=c'.send.map e.ev:=by
          cases hsd:c'.send with
          |none=>rfl
          |some x=>
           have:=hk.2
           simp only [hsd,Option.toList_some,List.all_cons,List.all_nil,Bool.and_true]at this;simp [hag.ev this]
         have e3:cs= #[c']:=by cases cs;simp at hcs;subst hcs;rfl
         obtain ⟨inf,hinf,hzero⟩:∃i,P.info? c'.elem=some i∧i.zero=some z:=by
          cases hi:P.info? c'.elem with
          |none=>simp [hi]at hz
          |some i=>exact ⟨i,rfl,by simpa [hi]using hz⟩
         have hrun:(execOp a.eval o').run P w= .ok (.comm #[{chan:=.chan (some rr),send:=c'.send.map e.ev,zero:=z}] false .select) w:=by
          simp [execOp,hop,e3,zeroValue,typeInfo,program,bind,bM,pure,hinf,hzero,bQ,e1,e2,Functor.map]
         refine Ls ho (by simp [Region.wanted,hgd]) hrun ?_;have H':Mc rr (c'.send.map e.ev) z (fun j ok v h'=>(GM P ops gs r (e.put o'.dst (Hs (c'.send.map e.ev) j ok v)) k).wp P QT h') w.heap:=H;obtain ⟨cap,buf,s,rc,hc,H'⟩:=H';refine ⟨cap,buf,s,rc,hc,?_⟩;have go:∀j ok v h',(GM P ops gs r (e.put o'.dst (Hs (c'.send.map e.ev) j ok v)) k).wp P QT h'→ ∀w',Br w w'→w'.heap=h'→
          IR P ops (r++t) QC (a.put o'.dst (Hs (c'.send.map e.ev) j ok v)) w':=fun j ok v h' hh w' hs hw'=>by
          subst hw';have hf:Fr W a (a.put o'.dst (Hs (c'.send.map e.ev) j ok v)):=Fr.put W a _ _ hdW;exact ih _ _ _ (hag.put o'.dst _ fun d hd=>hb d (hdW d hd)) (hb.fr hf) hh
           (fun e' a' w'' h1 h2 h3 h4=>hn e' a' w'' h1 (hf.trans h2) (hs.trans h3) h4) (fun c a' w'' h2 h3 h4=>hp c a' w'' (hf.trans h2) (hs.trans h3) h4)
         cases hsd:c'.send.map e.ev with
         |none=>
          rw [hsd]at H' go;by_cases hh:0<buf.size
          ·simp only [if_pos hh]at H' ⊢;exact go _ _ _ _ H'
          ·simp only [if_neg hh]at H' ⊢;exact go _ _ _ _ H'
         |some x=>
          rw [hsd]at H' go;by_cases hh:buf.size<cap
          ·simp only [if_pos hh]at H' ⊢;exact go _ _ _ _ H'
          ·simp only [if_neg hh]at H' ⊢;exact go _ _ _ _ H'
       ·exact H.elim
     ·cases hs
    ·cases hs
   ·cases hs
  ·refine Lw (GL (fun a' w' hx=> ?_) (fun c w' hx=> ?_) (IX hag hW hb H w rfl))
   ·obtain ⟨h1,e',h2,h3,h4⟩:=hx;exact ih e' a' w' h2 (hb.fr h3) h4 (fun e2 a2 w2 g1 g2 g3 g4=>hn e2 a2 w2 g1 (h3.trans g2) (h1.trans g3) g4) (fun c a2 w2 g2 g3 g4=>hp c a2 w2 (h3.trans g2) (h1.trans g3) g4)
   ·exact hp c a w' (.refl W a) hx.1 hx.2
theorem Lx {gs:List Nat}{QT:Be→AE→Prop}{W:List Nat}{QC:Exit→Act→World→Prop}{k:Env→T}(hW:∀o∈ops,∀d,o.dst=some d→d∈W) (l:List Nat)
 (e:Env) (a:Act) (w:World) (hag:Agrees e a.tmps) (hb:Ex W a) (H:(GM P ops gs l e k).wp P QT w.heap)
 (hn:∀e' a' w',Agrees e' a'.tmps→Fr W a a'→Br w w'→(k e').wp P QT w'.heap→QC .normal a' w')
 (hp:∀c a' w',Fr W a a'→Br w w'→QT (.pan c) w'.heap→QC (.panic c) a' w'):IR P ops l QC a w:=by
 have:=Kq (QC:=QC) hW [] l e a w hag hb H (fun e' a' w' h1 h2 h3 h4=>OU (hn e' a' w' h1 h2 h3 h4)) hp
 rwa [List.append_nil]at this
end
section
variable {P:Program}{ops:Array Oper}
def HC (m:List Nat) (o:Oper):Nat:=o.after.toList.foldl (fun s e=>bif Region.binds .any e then s ||| 2 ^ e.on ||| m.getD e.on 0 else s) 0
def DA (l:List Oper):List Nat:=l.foldl (fun m o=>m++ [HC m o]) []
def forced (ms:List Nat) (j i:Nat):Bool:=(ms.getD j 0).testBit i
theorem J6 (m:List Nat) (o:Oper) (i:Nat) (h:(HC m o).testBit i=true):
 ∃e∈o.after,Region.binds .any e=true∧(e.on=i∨(m.getD e.on 0).testBit i=true):=by
 unfold HC at h;have key:∀(l:List Edge) (s:Nat),(l.foldl (fun s e=>bif Region.binds .any e then s ||| 2 ^ e.on ||| m.getD e.on 0 else s) s).testBit i=true→
  s.testBit i=true∨ ∃e∈l,Region.binds .any e=true∧(e.on=i∨(m.getD e.on 0).testBit i=true):=by
  intro l
  induction l with
  |nil=>intro s h;exact .inl h
  |cons x r ih=>
   intro s h;rcases ih _ h with h1 | ⟨e,he,h1⟩
   ·dsimp only at h1;cases hx:Region.binds .any x with
    |false=>rw [hx]at h1;exact .inl h1
    |true=>
     rw [hx]at h1;simp only [cond_true,Nat.testBit_or,Bool.or_eq_true,Nat.testBit_two_pow,decide_eq_true_eq]at h1;rcases h1 with (h1 | h1)|h1
     ·exact .inl h1
     ·exact .inr ⟨x,by simp,hx,.inl h1⟩
     ·exact .inr ⟨x,by simp,hx,.inr h1⟩
   ·exact .inr ⟨e,by simp [he],h1⟩
 rcases key o.after.toList 0 h with h1 | ⟨e,he,h1⟩
 ·simp at h1
 ·exact ⟨e,Array.mem_toList_iff.1 he,h1⟩
theorem LZ {α:Type}{p:List α→Prop}(h0:p []) (hs:∀l a,p l→p (l++ [a])) (l:List α):p l:=by
 have key:∀r:List α,p r.reverse:=by
  intro r
  induction r with
  |nil=>exact h0
  |cons a r ih=>rw [List.reverse_cons];exact hs _ _ ih
 simpa using key l.reverse
theorem Gq (l:List Oper) (o:Oper):DA (l++ [o])=DA l++ [HC (DA l) o]:=by
 simp [DA]
theorem CY (l:List Oper):(DA l).length=l.length:=by
 refine LZ (p:=fun l=>(DA l).length=l.length) rfl (fun l o ih=> ?_) l;rw [Gq];simp [ih]
theorem JH (l:List Oper):∀(j i:Nat),((DA l).getD j 0).testBit i=true→
 ∃o,l[j]? =some o∧ ∃e∈o.after,Region.binds .any e=true∧(e.on=i∨(e.on<j∧((DA l).getD e.on 0).testBit i=true)):=by
 refine LZ (p:=fun l=>∀(j i:Nat),((DA l).getD j 0).testBit i=true→
  ∃o,l[j]? =some o∧ ∃e∈o.after,Region.binds .any e=true∧(e.on=i∨(e.on<j∧((DA l).getD e.on 0).testBit i=true))) (fun j i h=> ?_) (fun l o ih=> ?_) l
 ·simp [DA]at h
 ·intro j i h;rw [Gq]at h;rcases Nat.lt_trichotomy j l.length with hj | hj | hj
  ·have e1:(DA l++ [HC (DA l) o]).getD j 0=(DA l).getD j 0:=by
    simp only [bP];rw [bR (by rw [CY];exact hj)]
   rw [e1]at h;obtain ⟨o',ho',e,he,hb,hh⟩:=ih j i h;refine ⟨o',by rw [bR hj];exact ho',e,he,hb,hh.imp id fun ⟨h1,h2⟩=>⟨h1,?_⟩⟩;rw [Gq];simp only [bP]at h2 ⊢;rw [bR (by rw [CY];omega)];exact h2
  ·subst hj;have e1:(DA l++ [HC (DA l) o]).getD l.length 0=HC (DA l) o:=by
    simp only [bP];rw [cS (by rw [CY];omega),CY];simp
   rw [e1]at h;obtain ⟨e,he,hb,hh⟩:=J6 _ _ _ h;refine ⟨o,by simp,e,he,hb,hh.imp id fun h2=> ?_⟩;have hlt:e.on<l.length:=by
    rcases cA e.on l.length with h3 | h3
    ·exact h3
    ·rw [bP,bT (by rw [CY];exact h3)]at h2;simp at h2
   refine ⟨hlt,?_⟩;rw [Gq];simp only [bP]at h2 ⊢;rw [bR (by rw [CY];exact hlt)];exact h2
  ·rw [bP,bT (by simp [CY];omega)]at h;simp at h
def Ht (ops:Array Oper) (listed:Array Bool):Prop:= ∀j o,ops[j]? =some o→listed.getD j false=true→ ∀e∈o.after,Region.binds .any e=true→listed.getD e.on false=true
theorem I2 {listed:Array Bool}(hc:Ht ops listed):∀(j i:Nat),listed.getD j false=true→forced (DA ops.toList) j i=true→listed.getD i false=true:=by
 intro j
 induction j using Nat.strongRecOn with
 |_ j ih=>
  intro i hj hf;obtain ⟨o,ho,e,he,hb,hh⟩:=JH ops.toList j i hf;have ho':ops[j]? =some o:=by rw [←bX];exact ho
  have h1:=hc j o ho' hj e he hb;rcases hh with rfl | ⟨hlt,h2⟩
  ·exact h1
  ·exact ih e.on hlt i h1 h2
theorem Ja {listed:Array Bool}(hc:Ht ops listed) {j i:Nat}(hr:j∈Region.ready .any ops listed) (hf:forced (DA ops.toList) j i=true):listed.getD i false=true:=by
 obtain ⟨o,ho,e,he,hb,hh⟩:=JH ops.toList j i hf;have ho':ops[j]? =some o:=by rw [←bX];exact ho
 obtain ⟨_,o2,ho2,hall⟩:=mem_ready.1 hr;rw [ho']at ho2;cases ho2;have h1:=hall e he hb;rcases hh with rfl | ⟨_,h2⟩
 ·exact h1
 ·exact I2 hc e.on i h1 h2
theorem FY {listed:Array Bool}{j:Nat}(hc:Ht ops listed) (hr:j∈Region.ready .any ops listed):Ht ops (listed.setIfInBounds j true):=by
 intro m o ho hm e he hb;by_cases hjm:j=m
 ·subst hjm;obtain ⟨_,o2,ho2,hall⟩:=mem_ready.1 hr;rw [ho]at ho2;cases ho2;exact getD_set_true (hall e he hb)
 ·rw [getD_set_ne false hjm]at hm;exact getD_set_true (hc m o ho hm e he hb)
abbrev Mn:=List (Nat×(AE→Prop))
def GH (P:Program) (ops:Array Oper) (Qh:Act→AE→Prop) (X:List PanicEntry→AE→Prop):Nat→Array Bool→Mn→Act→AE→Prop
 | 0,listed,_,a,h=>Region.ready .any ops listed= [] ∧Qh a h
 |n+1,listed,pend,a,h=>(Region.ready .any ops listed= [] →Qh a h)∧
  ∀j∈Region.ready .any ops listed,StepH P ops j (fun a' h'=>(∀p∈pend,forced (DA ops.toList) j p.1=false→p.2 h')∧
   GH P ops Qh X n (listed.setIfInBounds j true) (pend.filter fun p=> !forced (DA ops.toList) j p.1) a' h') X a h
variable {Qh:Act→AE→Prop}{X:List PanicEntry→AE→Prop}
theorem Mo {Q:Exit→Act→World→Prop}{w0:World}{a0:Act}{W:List Nat}(hW:∀o∈ops,∀d,o.dst=some d→d∈W) (hn:∀a w,Br w0 w→Qh a w.heap→Q .normal a w) (hp:∀c a w,Fr W a0 a→Br w0 w→X c w.heap→Q (.panic c) a w):
 ∀(n:Nat) (listed:Array Bool) (pend:Mn) (a:Act) (w:World),Fr W a0 a→Br w0 w→GH P ops Qh X n listed pend a w.heap→wpAny P .any ops Q n listed a w:=by
 intro n
 induction n with
 |zero=>intro listed pend a w hd hs H;exact ⟨H.1,hn a w hs H.2⟩
 |succ n ih=>
  intro listed pend a w hd hs H;refine ⟨fun h0=>hn a w hs (H.1 h0),fun j hj=>J5 (GL (fun a' w' hx=> ?_) (fun c w' hx=> ?_) (Lu hW (H.2 j hj w rfl)))⟩
  ·exact ih _ _ a' w' (hd.trans hx.1) (hs.trans hx.2.1) hx.2.2.2
  ·exact hp c a w' hd (hs.trans hx.1) hx.2
theorem Nn:∀(n:Nat) (listed:Array Bool) (pend pend':Mn) (a:Act) (h:AE),(∀p∈pend',p∈pend)→GH P ops Qh X n listed pend a h→GH P ops Qh X n listed pend' a h:=by
 intro n
 induction n with
 |zero=>intro listed pend pend' a h hs H;exact H
 |succ n ih=>
  intro listed pend pend' a h hs H;refine ⟨H.1,fun j hj=>HB (fun a' h' ⟨h1,h2⟩=>⟨fun p hp hf=>h1 p (hs p hp) hf,ih _ _ _ a' h' (fun p hp=> ?_) h2⟩) (fun _ _ x=>x) (H.2 j hj)⟩;rw [eI]at hp ⊢;exact ⟨hs p hp.1,hp.2⟩
def O3 (P:Program) (s:Sem Next) (v:Value) (h:AE):Prop:=
 ∀w,w.heap=h→ ∃w',(s.run P w= .ok (.value v) w'∨(s.run P w= .ok .skip w'∧v=undef))∧Br w w'∧w'.heap=h
theorem Mp {j:Nat}{oi oj:Oper}{v:Value}{a:Act}{h:AE}{K:Act→AE→Prop}(hj:ops[j]? =some oj) (hap:oi.apart ops oj=true)
 (hsj:∀cs b,oj.op≠.select cs b) (H:StepH P ops j K X (a.put oi.dst v) h):
 StepH P ops j (fun a' h'=>(∃u,a'=a.put oj.dst u)∧K (a'.put oi.dst v) h') X a h:=by
 obtain ⟨h1,h2,h3⟩:=Oper.apart_spec hap;intro w hw;have H:=H w hw;unfold DM at *;simp only [hj]at H ⊢;rw [wanted_put oj a oi.dst v h1,execOp_put oj hsj a oi.dst v h1]at H;have cm:∀u,(a.put oi.dst v).put oj.dst u=(a.put oj.dst u).put oi.dst v:=fun u=>Act.put_comm a v u h2;rcases H with ⟨g1,g2⟩|⟨g1,g2⟩
 ·exact .inl ⟨g1,g2.1,⟨_,rfl⟩,by rw [←cm];exact g2.2⟩
 ·refine .inr ⟨g1,?_⟩;rcases g2 with ⟨u,w',h3,h4⟩|⟨w',h3,h4⟩|⟨f,args,w',h3,h4⟩|⟨u,w',h3,h4⟩
  ·exact .inl ⟨u,w',h3,h4.1,⟨_,rfl⟩,by rw [←cm];exact h4.2⟩
  ·exact .inr (.inl ⟨w',h3,h4.1,⟨_,rfl⟩,by rw [←cm];exact h4.2⟩)
  ·refine .inr (.inr (.inl ⟨f,args,w',h3,h4.mono fun e w'' he=> ?_⟩));cases e with
   |returned u=>exact ⟨he.1,⟨_,rfl⟩,by rw [←cm];exact he.2⟩
   |panicked c=>exact he
   |outgrown=>exact he
  ·exact .inr (.inr (.inr ⟨u,w',h3,h4⟩))
theorem J7 {i:Nat}{oi:Oper}{v:Value}{s:Sem Next}{b:Bool}{R:AE→Prop}(hi:ops[i]? =some oi) (hsel:∀(j:Nat) (o:Oper) cs b,ops[j]? =some o→o.op≠.select cs b)
 (hR:∀h,R h→b=true→O3 P s v h) (hv:b=false→v=undef):
 ∀(n:Nat) (listed:Array Bool) (pend:Mn) (a:Act) (h:AE),Ht ops listed→
  (∀j oj,ops[j]? =some oj→j≠i→listed.getD j true=false→(∀e∈oj.after,Region.binds .any e=true→e.on≠i)→oi.apart ops oj=true)→
  i∈Region.ready .any ops listed→execOp a.eval oi=s→Region.wanted oi (yielded ops a.tmps)=b→R h→(∀p∈pend,p.2 h)→
  GH P ops Qh X n (listed.setIfInBounds i true) ((i,R)::pend) (a.put oi.dst v) h→GH P ops Qh X (n+1) listed pend a h:=by
 intro n;have own:∀(n:Nat) (listed:Array Bool) (pend:Mn) (a:Act) (h:AE),execOp a.eval oi=s→Region.wanted oi (yielded ops a.tmps)=b→R h→(∀p∈pend,p.2 h)→
  GH P ops Qh X n (listed.setIfInBounds i true) ((i,R)::pend) (a.put oi.dst v) h→
  StepH P ops i (fun a' h'=>(∀p∈pend,forced (DA ops.toList) i p.1=false→p.2 h')∧
   GH P ops Qh X n (listed.setIfInBounds i true) (pend.filter fun p=> !forced (DA ops.toList) i p.1) a' h') X a h:=by
  intro n listed pend a h he hb hr hpend H w hw;unfold DM;simp only [hi];have H':=Nn n _ _ (pend.filter fun p=> !forced (DA ops.toList) i p.1) _ h (fun p hp=>cT _ (List.mem_filter.1 hp).1) H;cases b with
  |false=>
   refine .inl ⟨hb,.refl w,?_⟩;rw [hw]
   have:=hv rfl
   subst this;exact ⟨fun p hp _=>hpend p hp,H'⟩
  |true=>
   refine .inr ⟨hb,?_⟩;obtain ⟨w',h1,h2,h3⟩:=hR h hr rfl w hw;rw [he];rcases h1 with h1 | ⟨h1,rfl⟩
   ·refine .inl ⟨v,w',h1,h2,?_⟩;rw [h3];exact ⟨fun p hp _=>hpend p hp,H'⟩
   ·refine .inr (.inl ⟨w',h1,h2,?_⟩);rw [h3];exact ⟨fun p hp _=>hpend p hp,H'⟩
 induction n with
 |zero=>
  intro listed pend a h hcl hfree hr he hb hRh hpend H;refine ⟨fun h0=>(by rw [h0]at hr;cases hr),fun j hj=> ?_⟩;by_cases hji:j=i
  ·subst hji;exact own 0 listed pend a h he hb hRh hpend H
  ·have:=ready_mono hj hji
   rw [H.1]at this;cases this
 |succ n ih=>
  intro listed pend a h hcl hfree hr he hb hRh hpend H;refine ⟨fun h0=>(by rw [h0]at hr;cases hr),fun j hj=> ?_⟩;by_cases hji:j=i
  ·subst hji;exact own (n+1) listed pend a h he hb hRh hpend H
  ·have h1:=H.2 j (ready_mono hj hji);obtain ⟨hjun,oj,hoj,hall⟩:=mem_ready.1 hj;have hiun:listed.getD i false=false:=by
    have h0:=(mem_ready.1 hr).1;rcases cA i listed.size with h' | h'
    ·simpa [h']using h0
    ·simp [cJ h']
   have hnot:∀e∈oj.after,Region.binds .any e=true→e.on≠i:=fun e he hb heq=>by
    have h1:=hall e he hb;rw [heq,hiun]at h1;cases h1
   have hnf:forced (DA ops.toList) j i=false:=by
    cases hf:forced (DA ops.toList) j i with
    |false=>rfl
    |true=>have:=Ja hcl hj hf;rw [hiun]at this;cases this
   have hap:=hfree j oj hoj hji hjun hnot;obtain ⟨q1,q2,q3⟩:=Oper.apart_spec hap;have h2:=Mp hoj hap (fun cs b=>hsel j oj cs b hoj) h1;have hfree':∀k ok,ops[k]? =some ok→k≠i→(listed.setIfInBounds j true).getD k true=false→
    (∀e∈ok.after,Region.binds .any e=true→e.on≠i)→oi.apart ops ok=true:=fun k ok hk hki hun hno=>by
    refine hfree k ok hk hki ?_ hno;by_cases hjk:j=k
    ·subst hjk;exact hjun
    ·rw [getD_set_ne true hjk]at hun;exact hun
   refine HB (fun a' h' hx=> ?_) (fun _ _ x=>x) h2;obtain ⟨⟨u,rfl⟩,h3,h4⟩:=hx;refine ⟨fun p hp hf=>h3 p (cT _ hp) hf,?_⟩;refine ih (listed.setIfInBounds j true) _ (a.put oj.dst u) h' (FY hcl hj) hfree' (ready_mono hr (Ne.symm hji)) ?_ ?_ (h3 (i,R) (eR ..) hnf) ?_ ?_
   ·rw [execOp_put oi (fun cs b=>hsel i oi cs b hi) a oj.dst u q3];exact he
   ·rw [wanted_put oi a oj.dst u q3];exact hb
   ·intro p hp;rw [eI]at hp;exact h3 p (cT _ hp.1) (by simpa using hp.2)
   ·rw [Array.setIfInBounds_comm _ _ hji];rw [dE (by simp [hnf])]at h4;exact h4
end
section
variable {P:Program}{ops:Array Oper}
def Kr (u:Value):T:=.out [u]
def QV (v:Value) (h':AE) (l:Be) (hh:AE):Prop:=l= .out [v] ∧hh=h'
def Cu (P:Program) (D:(Value→T)→T):Prop:= ∀(k:Value→T) (Q:Be→AE→Prop) (h:AE),(D k).wp P Q h→ ∃v,(k v).wp P Q h∧ ∀h',(D Kr).wp P (QV v h') h'
theorem Az (v:Value):Cu P (fun k=>k v):=fun _ _ _ H=>⟨v,H,fun _=>⟨rfl,rfl⟩⟩
theorem AQ:Cu P (fun _=>.stuck):=fun _ _ _ H=>H.elim
theorem FZ {p:Option Addr}{D:Addr→(Value→T)→T}(hD:∀a,Cu P (D a)):Cu P (fun k=>AJ p fun a=>D a k):=by
 cases p with
 |none=>exact AQ
 |some a=>exact hD a
theorem Cv {c:Prop}[Decidable c] {D:(Value→T)→T}(hD:Cu P D):Cu P (fun k=>chk c (D k)):=by
 intro k Q h H;obtain ⟨v,h1,h2⟩:=hD k Q h H.2;exact ⟨v,h1,fun h'=>⟨H.1,h2 h'⟩⟩
theorem CZ {c:Prop}[Decidable c] {D D':(Value→T)→T}(hD:Cu P D) (hD':Cu P D'):Cu P (fun k=>if c then D k else D' k):=by
 by_cases hc:c
 ·simp only [if_pos hc];exact hD
 ·simp only [if_neg hc];exact hD'
theorem Ly {b:Bool}{D D':(Value→T)→T}(hD:Cu P D) (hD':Cu P D'):Cu P (fun k=>cond b (D k) (D' k)):=by
 cases b
 ·exact hD'
 ·exact hD
theorem DN {α:Type}(s:Sem α) {f:α→(Value→T)→T}(hf:∀a,Cu P (f a)):Cu P (fun k=>BD true P s fun a=>f a k):=by
 induction s with
 |pure a=>exact hf a
 |program g ih=>exact ih _
 |mark m g ih=>exact ih
 |halt x=>cases x<;>exact AQ
 |load m a g ih=>exact AQ
 |store m a v g ih=>exact AQ
 |new o g ih=>exact AQ
 |shape r g ih=>exact AQ
 |freeze a n g ih=>exact AQ
 |frozen a g ih=>exact AQ
 |getObj r g ih=>exact AQ
 |setObj r o g ih=>exact AQ
 |choose q g ih=>exact AQ
 |sys c g ih=>exact AQ
theorem BY (s:Sem Value):Cu P (fun k=>BD true P s k):=DN s (f:=fun a k=>k a) fun a=>Az a
theorem J8 {t:TypeId}{xs ys:Array Value}{f:Bool→(Value→T)→T}(hf:∀r,Cu P (f r)):Cu P (fun k=>IB P t xs ys (fun r=>f r k) .stuck):=by
 unfold IB;split
 ·split
  ·exact hf _
  ·exact AQ
 ·exact AQ
theorem Mq (op:BinOp) (t:TypeId) (x y:Operand) (a b:Value):Cu P (fun k=>IU true P op t x y a b k):=by
 unfold IU;split
 case h_1=>exact CZ (Az _) AQ
 case h_2=>exact CZ (Az _) AQ
 case h_3=>exact CZ (Az _) AQ
 case h_4=>exact CZ (Cv (Az _)) AQ
 case h_5=>exact CZ (Cv (Az _)) AQ
 case h_6=>exact Cv (Az _)
 case h_7=>exact Cv (Az _)
 case h_8=>exact CZ (Az _) AQ
 case h_9=>exact CZ (Az _) AQ
 case h_10=>exact CZ (Az _) AQ
 case h_11=>exact CZ (Az _) AQ
 case h_12=>exact CZ (Az _) AQ
 case h_13=>exact CZ (Az _) AQ
 case h_14=>exact Cv (Az _)
 case h_15=>exact Az _
 case h_16=>exact Az _
 case h_17 p=>exact DN _ (f:=fun (d:TypeDesc) (k:Value→T)=>match d with | .pointer _=>k (.bool p.isNone)|_=>.stuck) fun d=>by cases d<;>first | exact Az _ | exact AQ
 case h_18 p=>exact DN _ (f:=fun (d:TypeDesc) (k:Value→T)=>match d with | .pointer _=>k (.bool !p.isNone)|_=>.stuck) fun d=>by cases d<;>first | exact Az _ | exact AQ
 case h_19 p _ _ _ _=>exact DN _ (f:=fun (d:TypeDesc) (k:Value→T)=>match d with | .slice _=>k (.bool p.isNone)|_=>.stuck) fun d=>by cases d<;>first | exact Az _ | exact AQ
 case h_20 p _ _ _ _=>exact DN _ (f:=fun (d:TypeDesc) (k:Value→T)=>match d with | .slice _=>k (.bool !p.isNone)|_=>.stuck) fun d=>by cases d<;>first | exact Az _ | exact AQ
 case h_21 m n=>exact DN _ (f:=fun (d:TypeDesc) (k:Value→T)=>match d with | .bool=>k (.bool (m==n))|_=>.stuck) fun d=>by cases d<;>first | exact Az _ | exact AQ
 case h_22 m n=>exact DN _ (f:=fun (d:TypeDesc) (k:Value→T)=>match d with | .bool=>k (.bool !(m==n))|_=>.stuck) fun d=>by cases d<;>first | exact Az _ | exact AQ
 case h_23=>exact J8 (f:=fun r k=>k (.bool r)) fun r=>Az _
 case h_24=>exact J8 (f:=fun r k=>k (.bool !r)) fun r=>Az _
 case h_25=>exact AQ
 case h_26=>exact AQ
 case h_27=>exact BY _
theorem Ks (t:TypeId) (x:Value) (lo hi mx:Option Value):Cu P (fun k=>GI true P t x lo hi mx k):=by
 unfold GI;split
 ·split
  ·exact Cv (Az _)
  ·exact AQ
 ·split
  ·exact Cv (Az _)
  ·exact AQ
 ·exact AQ
theorem Lz (ρ:Operand→Value) (c:Call) (t:TypeId):Cu P (fun k=>HR true P ρ c t k):=by
 unfold HR;split
 ·rename_i b hc
  cases b<;>first | exact AQ | exact BY _ | skip
  case len=>
   dsimp only;split
   ·split<;>first | exact Az _ | exact AQ
   ·exact AQ
  case cap=>
   dsimp only;split
   ·split<;>first | exact Az _ | exact AQ
   ·exact AQ
 ·unfold Mf;split
  ·split
   ·split<;>exact AQ
   ·exact AQ
  ·exact AQ
 ·exact AQ
def Fa (a:Addr) (v:Value):List (Addr×Value):=match v with
 |.agg cs=>cs.toList.zipIdx.map fun c=>(a.add c.2,c.1)
 |v=>[(a,v)]
def G4 (ρ:Operand→Value) (o:Oper) (v:Value):List (Addr×Value):=match o.op with
 |.load _ x=>match ρ x with
  |.pointer (some a)=>Fa a v
  |_=>[]
 |_=>[]
def Holds (l:List (Addr×Value)) (h:AE):Prop:= ∀c∈l,B4 h c.1=some c.2
theorem Kt (l:List Bb) (a:Addr) {f:Array Value→(Value→T)→T}(hf:∀cs k,f cs k=k (.agg cs)):∀(i:Nat) (acc:Array Value) (k:Value→T) (Q:Be→AE→Prop) (h:AE),
 (E9 l a i acc fun cs=>f cs k).wp P Q h→ ∃r:List Value,r.length=l.length∧(k (.agg (acc++r.toArray))).wp P Q h∧(∀j v,r[j]? =some v→B4 h (a.add (i+j))=some v)∧
  ∀h',(∀j v,r[j]? =some v→B4 h' (a.add (i+j))=some v)→(E9 l a i acc fun cs=>f cs Kr).wp P (QV (.agg (acc++r.toArray)) h') h':=by
 induction l with
 |nil=>
  intro i acc k Q h H;refine ⟨[],rfl,?_,?_,?_⟩
  ·simpa [E9,hf]using H
  ·intro j v hj;simp at hj
  ·intro h' _;simp [E9,hf,Kr,T.wp,QV]
 |cons s r ih=>
  intro i acc k Q h H;obtain ⟨x,hx,H⟩:=H;obtain ⟨rr,h1,h2,h3,h4⟩:=ih (i+1) (acc.push (s.val x)) k Q h H;refine ⟨s.val x::rr,by simp [h1],?_,?_,?_⟩
  ·have e:acc++(s.val x::rr).toArray=acc.push (s.val x) ++rr.toArray:=by
    apply eS;simp
   rw [e];exact h2
  ·intro j v hj;cases j with
   |zero=>simp at hj;subst hj;exact hx
   |succ j=>
    simp at hj
    have:=h3 j v hj
    rw [show i+(j+1)=i+1+j by omega];exact this
  ·intro h' hh;refine ⟨x,by simpa using hh 0 (s.val x) (by simp),?_⟩;have e:acc++(s.val x::rr).toArray=acc.push (s.val x) ++rr.toArray:=by
    apply eS;simp
   rw [e];refine h4 h' fun j v hj=> ?_
   have:=hh (j+1) v (by simpa using hj)
   rw [show i+1+j=i+(j+1) by omega];exact this
theorem L0 {t:TypeId}{a:Addr}{k:Value→T}{Q:Be→AE→Prop}{h:AE}(H:(C7 P t a k).wp P Q h):
 ∃v,(k v).wp P Q h∧Holds (Fa a v) h∧ ∀h',Holds (Fa a v) h'→(C7 P t a Kr).wp P (QV v h') h':=by
 unfold C7 at H ⊢;split at H
 ·rename_i d i hd hi
  split at H
  ·rename_i l hag hsh
   split at H
   ·rename_i hlen
    obtain ⟨r,h1,h2,h3,h4⟩:=Kt (P:=P) l a (f:=fun cs k=>k (.agg cs)) (fun _ _=>rfl) 0 #[] k Q h H;refine ⟨.agg (#[] ++r.toArray),h2,?_,fun h' hh=> ?_⟩
    ·intro c hc;simp only [Fa,List.mem_map]at hc;obtain ⟨⟨v,j⟩,hm,rfl⟩:=hc
     have:=List.mem_zipIdx_iff_getElem?.1 hm
     simpa using h3 j v (by simpa using this)
    ·simp only [if_pos hlen];refine h4 h' fun j v hj=> ?_
     have:=hh (a.add j,v) (by
      simp only [Fa,List.mem_map];exact ⟨(v,j),List.mem_zipIdx_iff_getElem?.2 (by simpa using hj),rfl⟩)
     simpa using this
   ·exact H.elim
  ·rename_i s hag hsh
   obtain ⟨x,hx,H⟩:=H;have hc:Fa a (s.val x)= [(a,s.val x)]:=by
    have:=Bb.val_plain s x
    cases hv:s.val x<;>simp_all [Fa,Value.plain]
   refine ⟨s.val x,H,?_,fun h' hh=> ?_⟩
   ·rw [hc];intro c hcm;simp at hcm;subst hcm;exact hx
   ·exact ⟨x,hh (a,s.val x) (by rw [hc];simp),rfl,rfl⟩
  ·exact H.elim
 ·exact H.elim
theorem Ku {ρ:Operand→Value}{o:Oper}{k:Value→T}{Q:Be→AE→Prop}{h:AE}(H:(B2 true P ρ o k).wp P Q h):
 ∃v,(k v).wp P Q h∧Holds (G4 ρ o v) h∧ ∀h',Holds (G4 ρ o v) h'→(B2 true P ρ o Kr).wp P (QV v h') h':=by
 obtain ⟨dst,op,type,pos,after,guard⟩:=o;have fin:∀ {D:(Value→T)→T},Cu P D→(∀k,B2 true P ρ ⟨dst,op,type,pos,after,guard⟩ k=D k)→(∀v,G4 ρ ⟨dst,op,type,pos,after,guard⟩ v= [])→
  ∃v,(k v).wp P Q h∧Holds (G4 ρ ⟨dst,op,type,pos,after,guard⟩ v) h∧ ∀h',Holds (G4 ρ ⟨dst,op,type,pos,after,guard⟩ v) h'→(B2 true P ρ ⟨dst,op,type,pos,after,guard⟩ Kr).wp P (QV v h') h':=by
  intro D hD hk hp;rw [hk]at H;obtain ⟨v,h1,h2⟩:=hD k Q h H;refine ⟨v,h1,?_,fun h' _=> ?_⟩
  ·rw [hp];intro c hc;cases hc
  ·rw [hk];exact h2 h'
 cases op<;>first | exact H.elim | skip
 case move x=>exact fin (Az (ρ x)) (fun _=>rfl) (fun _=>rfl)
 case assign x=>exact fin (Az (ρ x)) (fun _=>rfl) (fun _=>rfl)
 case pick c a b=>
  cases hc:ρ c with
  |bool t=>exact fin (Ly (b:=t) (Az (ρ a)) (Az (ρ b))) (fun k=>by simp only [B2,hc]) (fun _=>rfl)
  |_=>simp only [B2,hc]at H;exact H.elim
 case alloc e=>exact fin (BY _) (fun _=>rfl) (fun _=>rfl)
 case build t ps=>exact fin (BY _) (fun _=>rfl) (fun _=>rfl)
 case buildSlice t n ps=>exact fin (BY _) (fun _=>rfl) (fun _=>rfl)
 case load t x=>
  simp only [B2]at H;cases hx:ρ x with
  |pointer p=>
   cases p with
   |none=>rw [hx]at H;exact H.elim
   |some a=>
    rw [hx]at H;obtain ⟨v,h1,h2,h3⟩:=L0 H;refine ⟨v,h1,by simpa [G4,hx]using h2,fun h' hh=> ?_⟩;simp only [B2,hx];exact h3 h' (by simpa [G4,hx]using hh)
  |_=>rw [hx]at H;exact H.elim
 case store t a x=>
  refine fin (D:=fun k=>B2 true P ρ ⟨_,.store t a x,type,pos,after,guard⟩ k) ?_ (fun _=>rfl) (fun _=>rfl);simp only [B2];split
  ·exact FZ (D:=fun b k=>BD true P (dP t (.pointer (some b)) (ρ x)) fun _=>k undef) fun b=>DN (dP t (.pointer (some b)) (ρ x)) (f:=fun _ k=>k undef) fun _=>Az undef
  ·exact DN (dP t _ (ρ x)) (f:=fun _ k=>k undef) fun _=>Az undef
 case nilCheck x=>
  cases hx:ρ x with
  |pointer p=>exact fin (FZ (p:=p) (D:=fun a k=>k (.pointer (some a))) fun a=>Az _) (fun k=>by simp only [B2,hx]) (fun _=>rfl)
  |func f a b=>
   cases f with
   |func g=>exact fin (Az (.func (.func g) a b)) (fun k=>by simp only [B2,hx]) (fun _=>rfl)
   |_=>simp only [B2,hx]at H;exact H.elim
  |iface t v=>exact fin (Az (.iface t v)) (fun k=>by simp only [B2,hx]) (fun _=>rfl)
  |_=>simp only [B2,hx]at H;exact H.elim
 case binOp op xt x y yt=>exact fin (Mq op xt x y (ρ x) (ρ y)) (fun _=>rfl) (fun _=>rfl)
 case unOp op xt x=>exact fin (BY _) (fun _=>rfl) (fun _=>rfl)
 case convert src dst x=>
  refine fin (D:=fun k=>B2 true P ρ ⟨_,.convert src dst x,type,pos,after,guard⟩ k) ?_ (fun _=>rfl) (fun _=>rfl);simp only [B2];split
  ·exact BY _
  ·exact BY _
  ·exact AQ
 case makeInterface t x=>exact fin (BY _) (fun _=>rfl) (fun _=>rfl)
 case makeFunc fn first captured=>exact fin (Az _) (fun _=>rfl) (fun _=>rfl)
 case makeMap t r=>exact fin (BY _) (fun _=>rfl) (fun _=>rfl)
 case slice t x lo hi mx=>exact fin (Ks t (ρ x) _ _ _) (fun _=>rfl) (fun _=>rfl)
 case fieldAddr s x f=>
  refine fin (D:=fun k=>B2 true P ρ ⟨_,.fieldAddr s x f,type,pos,after,guard⟩ k) ?_ (fun _=>rfl) (fun _=>rfl);simp only [B2];split
  ·exact FZ (D:=fun a k=>BD true P (eP s (.pointer (some a)) f) k) fun a=>BY _
  ·exact BY _
 case field t x f=>exact fin (BY _) (fun _=>rfl) (fun _=>rfl)
 case indexAddr t x ix=>
  refine fin (D:=fun k=>B2 true P ρ ⟨_,.indexAddr t x ix,type,pos,after,guard⟩ k) ?_ (fun _=>rfl) (fun _=>rfl);simp only [B2];split
  ·split
   ·exact FZ (D:=fun a k=>chk _ (k (.pointer (some (a.add _))))) fun a=>Cv (Az _)
   ·exact AQ
  ·split
   ·exact Cv (Az _)
   ·exact AQ
  ·exact AQ
 case index t x ix=>
  refine fin (D:=fun k=>B2 true P ρ ⟨_,.index t x ix,type,pos,after,guard⟩ k) ?_ (fun _=>rfl) (fun _=>rfl);simp only [B2];split
  ·exact Cv (Az _)
  ·exact BY _
 case extract t ix=>exact fin (BY _) (fun _=>rfl) (fun _=>rfl)
 case call c=>exact fin (Lz ρ c type) (fun _=>rfl) (fun _=>rfl)
 case panic x=>exact fin (BY _) (fun _=>rfl) (fun _=>rfl)
theorem L1 {ρ:Operand→Value}{o:Oper}{v:Value}{h:AE}(H:(B2 true P ρ o Kr).wp P (QV v h) h):O3 P (execOp ρ o) v h:=by
 intro w hw;subst hw;rcases JC _ w (J3 H) with ⟨nx,w',h1,h2,h3⟩|⟨u,w',h1,h2,h3⟩
 ·cases nx<;>first | exact h3.elim | skip
  case value u=>
   obtain ⟨h4,h5⟩:=h3;simp only [Be.out.injEq,List.cons.injEq,and_true]at h4;subst h4;exact ⟨w',.inl h1,h2,h5⟩
  case skip=>
   obtain ⟨h4,h5⟩:=h3;simp only [Be.out.injEq,List.cons.injEq,and_true]at h4;exact ⟨w',.inr ⟨h1,h4.symm⟩,h2,h5⟩
  case enter f args=>cases h3.1
 ·cases h3.1
end
def No (P:Program) (o:Oper):Bool:=match o.op with
 |.move _ | .assign _ | .pick _ _ _ | .load _ _ | .nilCheck _ | .binOp _ _ _ _ _ | .unOp _ _ _ | .slice _ _ _ _ _ | .index _ _ _ | .indexAddr _ _ _
 |.makeInterface _ _ | .makeFunc _ _ _ | .fieldAddr _ _ _ | .field _ _ _ | .extract _ _ | .build _ _=>true
 |.convert src dst _=>match P.underlying src,P.underlying dst with
  |some (.int _),some (.int _)=>true
  |some .string,some .string=>true
  |_,_=>false
 |.call c=>match c.callee with
  |.builtin .min | .builtin .max=>true
  |.builtin .len | .builtin .cap=>match c.argTypes[0]? with
   |some t=>match P.underlying t with
    |some .string | some (.slice _)|some (.array _ _)=>true
    |_=>false
   |none=>false
  |_=>false
 |_=>false
def Nq (P:Program) (ops:Array Oper) (i:Nat):Bool:=match ops[i]? with
 |some o=>No P o
 |none=>false
def Kv:List (Addr×Value)→T→T
 | [],t=>t
 |(a,v)::r,t=>.still a v (Kv r t)
def Jb:List T→T
 | [] =>.stuck
 | [t] =>t
 |t::r=>.both t (Jb r)
def IY (ops:Array Oper):List Nat:=ops.toList.filterMap fun o=>o.guard.map (·.1)
def Fb (P:Program) (ops:Array Oper) (gs ms:List Nat):Nat→Array Bool→List (Nat×List (Addr×Value))→Env→(Env→T)→T
 | 0,listed,_,e,k=>match Region.ready .any ops listed with
  | [] =>k e
  |_=>.stuck
 |n+1,listed,pend,e,k=>match Region.ready .any ops listed with
  | [] =>k e
  |r=>match r.find? fun i=>Nq P ops i && Region.free .any ops listed i with
   |some i=>match ops[i]? with
    |none=>.stuck
    |some o=>match Ml ops e o with
     |none=>.stuck
     |some false=>Fb P ops gs ms n (listed.setIfInBounds i true) ((i,[])::pend) (e.put o.dst undef) k
     |some true=>bif o.op.operands.toList.all e.has then
      B2 true P e.ev o fun v=>JZ (gs.contains i) v fun v=>Fb P ops gs ms n (listed.setIfInBounds i true) ((i,G4 e.ev o v)::pend) (e.put o.dst v) k
      else .stuck
   |none=>Jb (r.map fun j=>IQ false P ops gs e j fun e'=>
    Kv ((pend.filter fun p=> !forced ms j p.1).flatMap (·.2)) (Fb P ops gs ms n (listed.setIfInBounds j true) (pend.filter fun p=> !forced ms j p.1) e' k))
section
variable {P:Program}{ops:Array Oper}
theorem L2 {l:List (Addr×Value)}{t:T}{Q:Be→AE→Prop}{h:AE}(H:(Kv l t).wp P Q h):Holds l h∧t.wp P Q h:=by
 induction l with
 |nil=>exact ⟨fun c hc=>(by cases hc),H⟩
 |cons x r ih=>
  obtain ⟨a,v⟩:=x;obtain ⟨h1,h2⟩:=H;obtain ⟨h3,h4⟩:=ih h2;refine ⟨fun c hc=> ?_,h4⟩;rcases List.mem_cons.1 hc with rfl | hc
  ·exact h1
  ·exact h3 c hc
theorem Kw {l:List T}{Q:Be→AE→Prop}{h:AE}(H:(Jb l).wp P Q h):∀t∈l,t.wp P Q h:=by
 induction l with
 |nil=>exact H.elim
 |cons t r ih=>
  cases r with
  |nil=>intro t' ht;simp at ht;subst ht;exact H
  |cons t2 r=>
   obtain ⟨h1,h2⟩:=H;intro t' ht;rcases List.mem_cons.1 ht with rfl | ht
   ·exact h1
   ·exact ih h2 t' ht
theorem Kx {gs:List Nat}{k:Env→T}{QT:Be→AE→Prop}{W:List Nat}{a0:Act}(hsel:Region.noSelect ops=true) (hW:∀o∈ops,∀d,o.dst=some d→d∈W):
 ∀(n:Nat) (listed:Array Bool) (pend:List (Nat×List (Addr×Value))) (e:Env) (a:Act) (h:AE),Agrees e a.tmps→Ex W a→Fr W a0 a→Ht ops listed→(∀p∈pend,Holds p.2 h)→
  (Fb P ops gs (DA ops.toList) n listed pend e k).wp P QT h→
  GH P ops (fun a' h'=>∃e',Agrees e' a'.tmps∧Fr W a0 a'∧(k e').wp P QT h') (fun c h'=>QT (.pan c) h') n listed (pend.map fun p=>(p.1,Holds p.2)) a h:=by
 intro n
 induction n with
 |zero=>
  intro listed pend e a h hag hb hfr hcl hp H;unfold Fb at H;split at H
  ·rename_i hr;exact ⟨hr,e,hag,hfr,H⟩
  ·exact H.elim
 |succ n ih=>
  intro listed pend e a h hag hb hfr hcl hp H;unfold Fb at H;split at H
  ·rename_i hr
   refine ⟨fun _=>⟨e,hag,hfr,H⟩,fun j hj=> ?_⟩;rw [hr]at hj;cases hj
  ·rename_i hne
   split at H
   ·rename_i i hf
    have hmem:=dY hf;have hq:=List.find?_some hf;rw [eB]at hq;split at H
    ·exact H.elim
    ·rename_i o ho
     have hdW:∀d,o.dst=some d→d∈W:=hW o (cN ho);have hput:∀v,Agrees (e.put o.dst v) (a.put o.dst v).tmps:=fun v=>hag.put o.dst v fun d hd=>hb d (hdW d hd);have hfree:=fun j oj hoj hne hun hno=>Region.free_spec ho hq.2 j oj hoj hne hun hno;split at H
     ·exact H.elim
     ·rename_i hg
      have hf1:Fr W a (a.put o.dst undef):=Fr.put W a _ _ hdW;refine J7 (b:=false) (v:=undef) (s:=execOp a.eval o) (R:=Holds []) ho (Region.noSelect_spec hsel) (fun _ _ hh=>by cases hh) (fun _=>rfl) n listed _ a h hcl hfree hmem rfl (JY hag hg)
       (fun c hc=>by cases hc) (fun p hpm=> ?_) (ih _ ((i,[])::pend) _ _ h (hput undef) (hb.fr hf1) (hfr.trans hf1) (FY hcl hmem) (fun p hpm=> ?_) H)
      ·obtain ⟨p',hp',rfl⟩:=List.mem_map.1 hpm;exact hp p' hp'
      ·rcases List.mem_cons.1 hpm with rfl | hpm
       ·exact fun c hc=>by cases hc
       ·exact hp p hpm
     ·rename_i hg
      cases hall:o.op.operands.toList.all e.has with
      |false=>rw [hall]at H;exact H.elim
      |true=>
       rw [hall]at H;simp only [cond_true]at H;have hcong:execOp a.eval o=execOp e.ev o:=execOp_congr o (JG H) fun x hx=>hag.ev (List.all_eq_true.1 hall x (Array.mem_toList_iff.2 hx));obtain ⟨v,h1,h2,h3⟩:=Ku H;have h1:=Gp h1;have hf1:Fr W a (a.put o.dst v):=Fr.put W a _ _ hdW;refine J7 (b:=true) (v:=v) (s:=execOp e.ev o) (R:=Holds (G4 e.ev o v)) ho (Region.noSelect_spec hsel) (fun h' hh _=>L1 (h3 h' hh)) (fun hh=>by cases hh) n listed _ a h hcl hfree hmem hcong (JY hag hg)
        h2 (fun p hpm=> ?_) (ih _ ((i,G4 e.ev o v)::pend) _ _ h (hput v) (hb.fr hf1) (hfr.trans hf1) (FY hcl hmem) (fun p hpm=> ?_) h1)
       ·obtain ⟨p',hp',rfl⟩:=List.mem_map.1 hpm;exact hp p' hp'
       ·rcases List.mem_cons.1 hpm with rfl | hpm
        ·exact h2
        ·exact hp p hpm
   ·refine ⟨fun h0=>absurd h0 (by simpa using hne),fun j hj=> ?_⟩;have Hj:=Kw H _ (List.mem_map.2 ⟨j,hj,rfl⟩);refine HB (fun a' h' hx=> ?_) (fun _ _ x=>x) (IX hag hW hb Hj);obtain ⟨e',g1,g2,g3⟩:=hx;obtain ⟨g4,g5⟩:=L2 g3;have hpp:∀p∈pend.filter (fun p=> !forced (DA ops.toList) j p.1),Holds p.2 h':=fun p hpm c hc=>g4 c (List.mem_flatMap.2 ⟨p,hpm,hc⟩);refine ⟨fun p hpm hf=> ?_,?_⟩
    ·obtain ⟨p',hp',rfl⟩:=List.mem_map.1 hpm;exact hpp p' (List.mem_filter.2 ⟨hp',by simpa using hf⟩)
    ·have:=ih _ _ e' a' h' g1 (hb.fr g2) (hfr.trans g2) (FY hcl hj) hpp g5
     have e2:(pend.filter fun p=> !forced (DA ops.toList) j p.1).map (fun p=>(p.1,Holds p.2))=(pend.map fun p=>(p.1,Holds p.2)).filter fun p=> !forced (DA ops.toList) j p.1:=by
      rw [List.filter_map];rfl
     rw [←e2];exact this
def Gs (P:Program) (ops:Array Oper) (draw:Bool) (e:Env) (k:Env→T):T:=match draw with
 |false=>GM P ops (IY ops) (List.range ops.size) e k
 |true=>bif Region.noSelect ops then Fb P ops (IY ops) (DA ops.toList) ops.size (cL ops.size false) [] e k else .stuck
theorem HU {id:Nat}{draw:Bool}{k:Env→T}{QT:Be→AE→Prop}{W:List Nat}{QC:Exit→Act→World→Prop}{e:Env}{a:Act}{w:World}(hm:P.follows .mixedOrders=true)
 (hW:∀o∈ops,∀d,o.dst=some d→d∈W) (hag:Agrees e a.tmps) (hb:Ex W a) (H:(Gs P ops draw e k).wp P QT w.heap)
 (hn:∀e' a' w',Agrees e' a'.tmps→Fr W a a'→Br w w'→(k e').wp P QT w'.heap→QC .normal a' w')
 (hp:∀c a' w',Fr W a a'→Br w w'→QT (.pan c) w'.heap→QC (.panic c) a' w'):(Code.region id ops draw).wp P QC a w:=by
 cases draw with
 |false=>
  intro b k' cs;obtain ⟨ex,a',w',hq,harr⟩:=Lx (QC:=QC) hW (List.range ops.size) e a w hag hb H hn hp b k' cs;exact ⟨ex,a',w',hq,.of_steps (.one step_region) harr⟩
 |true=>
  unfold Gs at H;cases hs:Region.noSelect ops with
  |false=>rw [hs]at H;exact H.elim
  |true=>
   rw [hs]at H;simp only [cond_true]at H;have h0:∀j,(cL ops.size false).getD j false=false:=fun j=>by
    rw [cD,Array.getElem?_replicate]
    split<;>rfl
   have g:=Kx (a0:=a) hs hW ops.size (cL ops.size false) [] e a w.heap hag hb (.refl W a) (fun j o ho hj=>by rw [h0]at hj;cases hj) (fun p hpm=>by cases hpm) H;have hs0:Br w {w with drawn:=w.drawn+1} :=⟨rfl,rfl,rfl,dS _⟩;refine wp_region_any hm (Mo (Q:=QC) (w0:=w) (a0:=a) hW (fun a' w' hsm hq=> ?_) (fun c a' w' hd hsm hq=>hp c a' w' hd hsm hq) _ _ _ _ _ (.refl W a) hs0 g);obtain ⟨e',g1,g2,g3⟩:=hq;exact hn e' a' w' g1 g2 hsm g3
end
def Ak:Code→List Nat
 |.region _ ops _=>ops.toList.filterMap (·.dst)
 |.seq x y=>Ak x++Ak y
 |.cond _ x y=>Ak x++Ak y
 |.block _ x=>Ak x
 |.loop x=>Ak x
 |.scope x=>Ak x
 |_=>[]
def HV (id:Nat):Code→Bool
 |.seq x y=>HV id x || HV id y
 |.cond _ x y=>HV id x || HV id y
 |.block _ x=>HV id x
 |.loop x=>HV id x
 |.scope x=>HV id x
 |.exit j=>bV j id
 |_=>false
def IE:Code→Bool
 |.seq x y=>IE x && IE y
 |.cond _ x y=>IE x || IE y
 |.block id x=>IE x || HV id x
 |.scope x=>IE x
 |.loop _=>false
 |.exit _=>false
 |.ret=>false
 |_=>true
def OH:Code→Bool
 |.skip=>true
 |_=>false
def Env.kill (e:Env) (W:List Nat):Env:=e.filter fun p=> !W.contains p.1
def Env.puts (e:Env) (S:List Nat) (vs:List Value):Env:=S.zip vs++e
def Env.outs (e:Env) (S:List Nat):List Value:=S.map fun t=>(e.get? t).getD undef
def Env.slots (e:Env) (W:List Nat):List Nat:=((e.map (·.1)).filter W.contains).eraseDups
def Env.shapes (e:Env) (S:List Nat):List Sh1:=(e.outs S).map IA
def HD (P:Program) (ops:Array Oper):List (Nat×Sh1):=
 ops.toList.zipIdx.filterMap fun (o,i)=>match o.dst with
  |some d=>match o.op,bV (i+1) ops.size with
   |.assign _,_=>some (d,IA (GG P o.type))
   |_,true=>some (d,IA (GG P o.type))
   |_,_=>none
  |none=>none
def B5 (P:Program) (rt:Env→T):Code→List (Nat×List Nat)→Env→(Env→T)→T
 |.skip,_,e,k=>k e
 |.region _ ops draw,_,e,k=>match IY ops with
  | [] =>Gs P ops draw e k
  |_=>.join ((HD P ops).map (·.2)) (Gs P ops draw e fun e'=>.out (e'.outs ((HD P ops).map (·.1)))) fun y=>
   k ((e.kill (ops.toList.filterMap (·.dst))).puts ((HD P ops).map (·.1)) (Shs.vals _ y))
 |.seq x y,c,e,k=>B5 P rt x c e fun e'=>B5 P rt y c e' k
 |.cond b x y,c,e,k=>bif e.has b then (match e.ev b with
  |.bool t=>match IE x && IE y && !(OH x && OH y) with
   |true=>
    .join (e.shapes (e.slots (Ak x++Ak y)))
     (cond t (B5 P rt x c e fun e'=>.out (e'.outs (e.slots (Ak x++Ak y)))) (B5 P rt y c e fun e'=>.out (e'.outs (e.slots (Ak x++Ak y))))) fun z=>
     k ((e.kill (Ak x++Ak y)).puts (e.slots (Ak x++Ak y)) (Shs.vals _ z))
   |false=>cond t (B5 P rt x c e k) (B5 P rt y c e k)
  |_=>.stuck) else .stuck
 |.block id x,c,e,k=>match HV id x with
  |false=>B5 P rt x (c.filter fun p=> !Nat.beq p.1 id) e k
  |true=>.block id (e.shapes (e.slots (Ak x)))
   (B5 P rt x ((id,e.slots (Ak x))::c) e fun e'=>.out (e'.outs (e.slots (Ak x)))) fun z=>
   k ((e.kill (Ak x)).puts (e.slots (Ak x)) (Shs.vals _ z))
 |.loop x,c,e,_=>.loop (e.shapes (e.slots (Ak x))) (e.outs (e.slots (Ak x))) fun z=>
  B5 P rt x c ((e.kill (Ak x)).puts (e.slots (Ak x)) (Shs.vals _ z)) fun e'=>.out (e'.outs (e.slots (Ak x)))
 |.exit id,c,e,_=>match c.find? fun p=>bV p.1 id with
  |some p=>.brk id (e.outs p.2)
  |none=>.stuck
 |.ret,_,e,_=>rt e
 |.scope x,c,e,k=>B5 P rt x c e k
 |.label _,_,e,k=>k e
 |_,_,_,_=>.stuck
section
variable {P:Program}
theorem L3 (s:Sh1):s.of undef=none:=by
 cases s with
 |atom a=>cases a<;>rfl
 |agg l=>rfl
theorem Gt {e:Env}{tm:Array Value}(hag:Agrees e tm):∀(S:List Nat) (ss:List Sh1) (y:Shs.Ty ss),Shs.of ss (e.outs S)=some y→
 S.map (fun t=>tm[t]?)=(Shs.vals ss y).map some:=by
 intro S
 induction S with
 |nil=>
  intro ss y h;cases ss with
  |nil=>rfl
  |cons s r=>simp [Env.outs,Shs.of]at h
 |cons t r ih=>
  intro ss y h;cases ss with
  |nil=>simp [Env.outs,Shs.of]at h
  |cons s ss=>
   simp only [Env.outs,dQ,Shs.of]at h;split at h
   ·rename_i x1 y1 h1 h2
    cases h;cases hg:e.get? t with
    |none=>rw [hg]at h1;simp only [Option.getD_none]at h1;rw [L3]at h1;cases h1
    |some v=>
     rw [hg]at h1;simp only [Option.getD_some]at h1
     have:=hag t v hg
     simp only [dQ,Shs.vals,this,Sh1.of_val s v x1 h1];rw [ih ss y1 h2]
   ·cases h
theorem L4 {e:Env}{W:List Nat}:∀ {t:Nat}{v:Value},(e.kill W).get? t=some v→t∉W∧e.get? t=some v:=by
 induction e with
 |nil=>intro t v h;simp [Env.kill,Env.get?]at h
 |cons p r ih=>
  obtain ⟨i,u⟩:=p;intro t v h;unfold Env.kill at h;by_cases hi:W.contains i=true
  ·rw [eC (by simpa using hi)]at h;obtain ⟨h1,h2⟩:=ih h;refine ⟨h1,?_⟩;rw [Env.get?_cons]
   have:i≠t:=fun e=>h1 (e ▸ List.contains_iff_mem.1 hi)
   simp [this,h2]
  ·rw [dE (by simpa using hi)]at h;rw [Env.get?_cons]at h ⊢;by_cases hit:i=t
   ·subst hit;simp only [if_true]at h ⊢;exact ⟨fun hm=>hi (List.contains_iff_mem.2 hm),h⟩
   ·simp only [hit,if_false]at h ⊢;exact ih h
theorem IF {e:Env}{a a':Act}{W:List Nat}(hag:Agrees e a.tmps) (hf:Fr W a a'):Agrees (e.kill W) a'.tmps:=by
 intro t v h;obtain ⟨h1,h2⟩:=L4 h;rw [hf.2.2 t h1];exact hag t v h2
theorem IG {e:Env}{tm:Array Value}(hag:Agrees e tm):∀(S:List Nat) (vs:List Value),S.map (fun t=>tm[t]?)=vs.map some→Agrees (e.puts S vs) tm:=by
 intro S
 induction S with
 |nil=>intro vs h;simpa [Env.puts]using hag
 |cons t r ih=>
  intro vs h;cases vs with
  |nil=>simp at h
  |cons v vs=>
   simp only [dQ,List.cons.injEq]at h;intro t' v' hg;simp only [Env.puts,List.zip_cons_cons,List.cons_append,Env.get?_cons]at hg;by_cases ht:t=t'
   ·subst ht;simp only [if_true,Option.some.injEq]at hg;subst hg;exact h.1
   ·simp only [ht,if_false]at hg;exact ih vs h.2 t' v' hg
theorem Dt {e e':Env}{a a':Act}{W S:List Nat}{ss:List Sh1}{y:Shs.Ty ss}(hag:Agrees e a.tmps) (hf:Fr W a a') (hag':Agrees e' a'.tmps) (hy:Shs.of ss (e'.outs S)=some y):
 Agrees ((e.kill W).puts S (Shs.vals ss y)) a'.tmps:=IG (IF hag hf) S _ (Gt hag' S ss y hy)
theorem J9 {tm:Array Value}:∀(S:List Nat) (vs:List Value),S.map (fun t=>tm[t]?)=vs.map some→S.map (fun t=>tm.getD t undef)=vs:=by
 intro S
 induction S with
 |nil=>intro vs h;cases vs<;>simp_all
 |cons t r ih=>
  intro vs h;cases vs with
  |nil=>simp at h
  |cons v vs=>
   simp only [dQ,List.cons.injEq]at h ⊢;refine ⟨?_,ih vs h.2⟩;rw [cD,h.1];rfl
structure Ends (P:Program) (rt:Env→T) (c:List (Nat×List Nat)) (QT:Be→AE→Prop) (W:List Nat) (a:Act) (w:World) (QC:Exit→Act→World→Prop):Prop where
 brk:∀id p,c.find? (fun p=>bV p.1 id)=some p→ ∀e' a' w',Agrees e' a'.tmps→Fr W a a'→Br w w'→QT (.brk id (e'.outs p.2)) w'.heap→QC (.exit id) a' w'
 ret:∀e' a' w',Agrees e' a'.tmps→Fr W a a'→Br w w'→(rt e').wp P QT w'.heap→QC .ret a' w'
 pan:∀ch a' w',Fr W a a'→Br w w'→QT (.pan ch) w'.heap→QC (.panic ch) a' w'
theorem Ends.step {rt:Env→T}{c:List (Nat×List Nat)}{QT:Be→AE→Prop}{W W':List Nat}{a a':Act}{w w':World}{QC:Exit→Act→World→Prop}(E:Ends P rt c QT W a w QC)
 (hf:Fr W a a') (hs:Br w w') (hW:∀t,t∈W'→t∈W):Ends P rt c QT W' a' w' QC:=
 ⟨fun id p hp e2 a2 w2 h1 h2 h3 h4=>E.brk id p hp e2 a2 w2 h1 (hf.trans (h2.mono hW)) (hs.trans h3) h4,
  fun e2 a2 w2 h1 h2 h3 h4=>E.ret e2 a2 w2 h1 (hf.trans (h2.mono hW)) (hs.trans h3) h4,
  fun ch a2 w2 h2 h3 h4=>E.pan ch a2 w2 (hf.trans (h2.mono hW)) (hs.trans h3) h4⟩
def OW (P:Program) (rt:Env→T):Prop:= ∀(e:Env) (Q Q':Be→AE→Prop) (h:AE),(∀v h,Q (.ret v) h→Q' (.ret v) h)→(rt e).wp P Q h→(rt e).wp P Q' h
theorem Ends.inner {rt:Env→T}{c:List (Nat×List Nat)}{QT QT':Be→AE→Prop}{W:List Nat}{a:Act}{w:World}{QC:Exit→Act→World→Prop}(E:Ends P rt c QT W a w QC) (hrt:OW P rt)
 (hb:∀id vs h,QT' (.brk id vs) h→QT (.brk id vs) h) (hr:∀v h,QT' (.ret v) h→QT (.ret v) h) (hp:∀v h,QT' (.pan v) h→QT (.pan v) h):Ends P rt c QT' W a w QC:=
 ⟨fun id p hf e2 a2 w2 h1 h2 h3 h4=>E.brk id p hf e2 a2 w2 h1 h2 h3 (hb _ _ _ h4),
  fun e2 a2 w2 h1 h2 h3 h4=>E.ret e2 a2 w2 h1 h2 h3 (hrt e2 _ _ _ hr h4),
  fun ch a2 w2 h2 h3 h4=>E.pan ch a2 w2 h2 h3 (hp _ _ h4)⟩
theorem KA {c:List (Nat×List Nat)}{id id':Nat}{p:Nat×List Nat}(h:(c.filter fun p=> !Nat.beq p.1 id).find? (fun p=>bV p.1 id')=some p):
 id'≠id∧c.find? (fun p=>bV p.1 id')=some p:=by
 have hm:=dY h;have hp:=List.find?_some h;rw [eI]at hm;have e1:p.1=id':=bY hp;have e2:p.1≠id:=fun e=>by have:=hm.2;rw [e]at this;simp at this
 have hne:id'≠id:=e1 ▸ e2;refine ⟨hne,?_⟩;clear hm hp
 induction c with
 |nil=>simp at h
 |cons x r ih=>
  by_cases hx:x.1=id
  ·have:(!Nat.beq x.1 id)=false:=by rw [hx];simp
   rw [eC (by simp [this])]at h;rw [eJ];have hx':bV x.1 id'=false:=by
    cases hb:bV x.1 id' with
    |false=>rfl
    |true=>exact absurd ((bY hb).symm.trans hx) hne
   rw [hx'];exact ih h
  ·have:(!Nat.beq x.1 id)=true:=by
    cases hb:bV x.1 id with
    |false=>rfl
    |true=>exact absurd (bY hb) hx
   rw [dE (by simp [this])]at h;rw [eJ]at h ⊢;split
   ·rename_i hb;rw [hb]at h;exact h
   ·rename_i hb;rw [hb]at h;exact ih h
theorem Kz {rt:Env→T}(hm:P.follows .mixedOrders=true) (hrt:OW P rt) (code:Code):
 ∀(c:List (Nat×List Nat)) (e:Env) (k:Env→T) (QT:Be→AE→Prop) (a:Act) (w:World) (QC:Exit→Act→World→Prop),
  Agrees e a.tmps→Ex (Ak code) a→(B5 P rt code c e k).wp P QT w.heap→
  (∀e' a' w',Agrees e' a'.tmps→Fr (Ak code) a a'→Br w w'→(k e').wp P QT w'.heap→QC .normal a' w')→
  Ends P rt c QT (Ak code) a w QC→code.wp P QC a w:=by
 induction code with
 |skip=>intro c e k QT a w QC hag hb H hn E;exact wp_skip (hn e a w hag (.refl _ a) (.refl w) H)
 |region id ops draw=>
  intro c e k QT a w QC hag hb H hn E;have hW:∀o∈ops,∀d,o.dst=some d→d∈ops.toList.filterMap (·.dst):=fun o ho d hd=>List.mem_filterMap.2 ⟨o,Array.mem_toList_iff.2 ho,hd⟩;simp only [B5]at H;split at H
  ·exact HU hm hW hag hb H hn (fun ch a' w'=>E.pan ch a' w')
  ·simp only [T.wp]at H;refine HU hm hW hag hb H (fun e' a' w' h1 h2 h3 h4=> ?_) (fun ch a' w' h1 h2 h3=>E.pan ch a' w' h1 h2 h3);simp only [T.wp]at h4;split at h4
   ·rename_i y hy
    exact hn _ a' w' (Dt hag h2 h1 hy) h2 h3 h4
   ·exact h4.elim
 |seq x y ihx ihy=>
  intro c e k QT a w QC hag hb H hn E;refine wp_seq (ihx c e _ QT a w _ hag (fun d hd=>hb d (bU _ hd)) H (fun e' a' w' h1 h2 h3 h4=> ?_) ?_)
  ·have hf:Fr (Ak x++Ak y) a a':=h2.mono fun t ht=>bU _ ht;exact ihy c e' k QT a' w' QC h1 ((show Ex (Ak y) a from fun d hd=>hb d (cG _ hd)).fr hf) h4
    (fun e2 a2 w2 g1 g2 g3 g4=>hn e2 a2 w2 g1 (hf.trans (g2.mono fun t ht=>cG _ ht)) (h3.trans g3) g4)
    (E.step hf h3 fun t ht=>cG _ ht)
  ·exact ⟨fun id p hp e2 a2 w2 h1 h2 h3 h4=>E.brk id p hp e2 a2 w2 h1 (h2.mono fun t ht=>bU _ ht) h3 h4,fun e2 a2 w2 h1 h2=>E.ret e2 a2 w2 h1 (h2.mono fun t ht=>bU _ ht),fun ch a2 w2 h2=>E.pan ch a2 w2 (h2.mono fun t ht=>bU _ ht)⟩
 |cond b x y ihx ihy=>
  intro c e k QT a w QC hag hb H hn E;simp only [B5]at H;cases hhas:e.has b with
  |false=>rw [hhas]at H;exact H.elim
  |true=>
   rw [hhas]at H;simp only [cond_true]at H;have hev:=hag.ev hhas;split at H
   ·rename_i t ht
    have hc:a.eval b= .bool t:=hev.trans ht;have hbx:Ex (Ak x) a:=fun d hd=>hb d (bU _ hd);have hby:Ex (Ak y) a:=fun d hd=>hb d (cG _ hd);have hl:∀t,t∈Ak x→t∈Ak x++Ak y:=fun t ht=>bU _ ht;have hr:∀t,t∈Ak y→t∈Ak x++Ak y:=fun t ht=>cG _ ht;split at H
    ·simp only [T.wp]at H;refine wp_cond hc ?_;cases t with
     |true=>
      simp only [cond_true]at H;simp only [if_true];refine ihx c e _ _ a w QC hag hbx H (fun e' a' w' h1 h2 h3 h4=> ?_) ((E.step (.refl _ a) (.refl w) hl).inner hrt (fun _ _ _ h=>h) (fun _ _ h=>h) (fun _ _ h=>h));simp only [T.wp]at h4;split at h4
      ·rename_i z hz
       exact hn _ a' w' (Dt hag (h2.mono hl) h1 hz) (h2.mono hl) h3 h4
      ·exact h4.elim
     |false=>
      simp only [cond_false]at H;simp only [bZ,if_false];refine ihy c e _ _ a w QC hag hby H (fun e' a' w' h1 h2 h3 h4=> ?_) ((E.step (.refl _ a) (.refl w) hr).inner hrt (fun _ _ _ h=>h) (fun _ _ h=>h) (fun _ _ h=>h));simp only [T.wp]at h4;split at h4
      ·rename_i z hz
       exact hn _ a' w' (Dt hag (h2.mono hr) h1 hz) (h2.mono hr) h3 h4
      ·exact h4.elim
    ·refine wp_cond hc ?_;cases t with
     |true=>exact ihx c e k QT a w QC hag hbx H (fun e' a' w' h1 h2=>hn e' a' w' h1 (h2.mono hl)) (E.step (.refl _ a) (.refl w) hl)
     |false=>exact ihy c e k QT a w QC hag hby H (fun e' a' w' h1 h2=>hn e' a' w' h1 (h2.mono hr)) (E.step (.refl _ a) (.refl w) hr)
   ·exact H.elim
 |block id x ih=>
  intro c e k QT a w QC hag hb H hn E;simp only [B5]at H;refine wp_block ?_;split at H
  ·refine ih _ e k QT a w _ hag hb H hn ⟨fun id' p hp e2 a2 w2 h1 h2 h3 h4=> ?_,E.ret,E.pan⟩;obtain ⟨hne,hp'⟩:=KA hp;simp only [Exit.inBlock,if_neg hne];exact E.brk id' p hp' e2 a2 w2 h1 h2 h3 h4
  ·simp only [T.wp]at H;refine ih _ e _ _ a w _ hag hb H (fun e' a' w' h1 h2 h3 h4=> ?_) ⟨fun id' p hp e2 a2 w2 h1 h2 h3 h4=> ?_,fun e2 a2 w2 h1 h2 h3 h4=> ?_,fun ch a2 w2 h2 h3 h4=>E.pan ch a2 w2 h2 h3 h4⟩
   ·simp only [T.wp]at h4;split at h4
    ·rename_i z hz
     exact hn _ a' w' (Dt hag h2 h1 hz) h2 h3 h4
    ·exact h4.elim
   ·rw [eJ]at hp;by_cases hid:id'=id
    ·subst hid;have e1:bV id' id'=true:=by simp
     simp only [e1,Option.some.injEq]at hp;subst hp;simp only [e1,cond_true]at h4;simp only [Exit.inBlock,if_true];split at h4
     ·rename_i z hz
      exact hn _ a2 w2 (Dt hag h2 h1 hz) h2 h3 h4
     ·exact h4.elim
    ·have e1:bV id id'=false:=by
      cases hbq:bV id id' with
      |false=>rfl
      |true=>exact absurd (bY hbq).symm hid
     have e2':bV id' id=false:=by
      cases hbq:bV id' id with
      |false=>rfl
      |true=>exact absurd (bY hbq) hid
     simp only [e1]at hp;simp only [e2',cond_false]at h4;simp only [Exit.inBlock,if_neg hid];exact E.brk id' p hp e2 a2 w2 h1 h2 h3 h4
   ·refine E.ret e2 a2 w2 h1 h2 h3 (hrt e2 _ QT w2.heap ?_ h4);exact fun _ _ h=>h
 |loop x ih=>
  intro c e k QT a w QC hag hb H hn E;simp only [B5,T.wp]at H;obtain ⟨I,μ,⟨y0,hy0,hI0⟩,hround⟩:=H;refine wp_loop (fun a' w'=>Fr (Ak x) a a'∧Br w w'∧ ∃y,(e.slots (Ak x)).map (fun t=>a'.tmps[t]?)=(Shs.vals _ y).map some∧
   Shs.of (e.shapes (e.slots (Ak x))) (Shs.vals _ y)=some y∧I y w'.heap)
   (fun a' w'=>match Shs.of (e.shapes (e.slots (Ak x))) ((e.slots (Ak x)).map fun t=>a'.tmps.getD t undef) with
    |some y=>μ y w'.heap
    |none=>0) ?_ ?_
  ·exact ⟨.refl _ a,.refl w,y0,Gt hag _ _ y0 hy0,by rw [←Shs.of_vals _ _ _ hy0];exact hy0,hI0⟩
  ·rintro a' w' ⟨hf,hs,y,hv,hof,hI⟩;have hag':Agrees ((e.kill (Ak x)).puts (e.slots (Ak x)) (Shs.vals _ y)) a'.tmps:=IG (IF hag hf) _ _ hv;refine ih c _ _ _ a' w' _ hag' (Ex.fr hb hf) (hround y w'.heap hI) (fun e2 a2 w2 h1 h2 h3 h4=> ?_) ?_
   ·simp only [T.wp]at h4;split at h4
    ·rename_i y2 hy2
     refine ⟨⟨hf.trans h2,hs.trans h3,y2,Gt h1 _ _ y2 hy2,by rw [←Shs.of_vals _ _ _ hy2];exact hy2,h4.1⟩,?_⟩;have g1:=J9 _ _ (Gt h1 _ _ y2 hy2);have g2:=J9 _ _ hv;have g3:Shs.of (e.shapes (e.slots (Ak x))) (Shs.vals _ y2)=some y2:=by rw [←Shs.of_vals _ _ _ hy2];exact hy2
     simp only [g1,g2,g3,hof];exact h4.2
    ·exact h4.elim
   ·have E':Ends P rt c QT (Ak x) a' w' QC:=E.step hf hs fun t ht=>ht;refine ⟨fun id p hp e2 a2 w2 h1 h2 h3 h4=>E'.brk id p hp e2 a2 w2 h1 h2 h3 h4,fun e2 a2 w2 h1 h2 h3 h4=>E'.ret e2 a2 w2 h1 h2 h3 (hrt e2 _ QT w2.heap ?_ h4),fun ch a2 w2 h2 h3 h4=>E'.pan ch a2 w2 h2 h3 h4⟩;exact fun _ _ h=>h
 |exit id=>
  intro c e k QT a w QC hag hb H hn E;simp only [B5]at H;split at H
  ·rename_i p hp
   exact wp_exit (E.brk id p hp e a w hag (.refl _ a) (.refl w) H)
  ·exact H.elim
 |ret=>intro c e k QT a w QC hag hb H hn E;exact wp_ret (E.ret e a w hag (.refl _ a) (.refl w) H)
 |rangeFunc f ps x y ihx ihy=>intro c e k QT a w QC hag hb H hn E;exact H.elim
 |scope x ih=>
  intro c e k QT a w QC hag hb H hn E;exact wp_scope_straight (ih c e k QT a w (Exit.noGoto QC) hag hb H hn ⟨E.brk,E.ret,E.pan⟩)
 |label l=>intro c e k QT a w QC hag hb H hn E;exact wp_label (hn e a w hag (.refl _ a) (.refl w) H)
 |goto l=>intro c e k QT a w QC hag hb H hn E;exact H.elim
 |refuse s=>intro c e k QT a w QC hag hb H hn E;exact H.elim
def DO (P:Program):List ResultVar→Env→List Value→(List Value→T)→T
 | [],_,acc,k=>k acc.reverse
 |.tmp t::r,e,acc,k=>match e.get? t with
  |some v=>DO P r e (v::acc) k
  |none=>.stuck
 |.cell a t::r,e,acc,k=>match e.get? a with
  |some (.pointer (some ad))=>C7 P t ad fun v=>DO P r e (v::acc) k
  |_=>.stuck
def IZ:List Value→Value
 | [v] =>v
 |vs=>.tuple vs.toArray
def Nr (P:Program) (fn:Func) (e:Env):T:=DO P fn.results.toList e [] fun vs=>.ret (IZ vs)
def JI:Nat→List Value→Env
 |_,[] =>[]
 |i,v::r=>(i,v)::JI (i+1) r
def Af (P:Program) (fn:Func) (args:List Value):T:=match fn.body with
 |some c=>bif (Ak c).all fun d=>fH d fn.ntmps then B5 P (Nr P fn) c [] (JI 0 args) (Nr P fn) else .stuck
 |none=>.stuck
theorem KB (l:List Bb) (a:Addr) {f:Array Value→T}{Q Q':Be→AE→Prop}(hf:∀cs h,(f cs).wp P Q h→(f cs).wp P Q' h):∀(i:Nat) (acc:Array Value) (h:AE),
 (E9 l a i acc f).wp P Q h→(E9 l a i acc f).wp P Q' h:=by
 induction l with
 |nil=>intro i acc h H;exact hf _ _ H
 |cons s r ih=>intro i acc h H;obtain ⟨x,hx,H⟩:=H;exact ⟨x,hx,ih _ _ _ H⟩
theorem Jc {t:TypeId}{a:Addr}{k:Value→T}{Q Q':Be→AE→Prop}{h:AE}(hk:∀v h,(k v).wp P Q h→(k v).wp P Q' h) (H:(C7 P t a k).wp P Q h):(C7 P t a k).wp P Q' h:=by
 unfold C7 at H ⊢;split at H
 ·split at H
  ·split at H
   ·rename_i hlen;simp only [if_pos hlen];exact KB _ _ (fun cs h=>hk _ h) _ _ _ H
   ·exact H.elim
  ·obtain ⟨x,hx,H⟩:=H;exact ⟨x,hx,hk _ _ H⟩
  ·exact H.elim
 ·exact H.elim
theorem L5 (fn:Func):OW P (Nr P fn):=by
 intro e Q Q' h hq H;have key:∀(l:List ResultVar) (acc:List Value) (h:AE),(DO P l e acc fun vs=>.ret (IZ vs)).wp P Q h→(DO P l e acc fun vs=>.ret (IZ vs)).wp P Q' h:=by
  intro l
  induction l with
  |nil=>intro acc h H;exact hq _ _ H
  |cons x r ih=>
   intro acc h H;cases x with
   |tmp t=>
    simp only [DO]at H ⊢;split at H
    ·exact ih _ _ H
    ·exact H.elim
   |cell a t=>
    simp only [DO]at H ⊢;split at H
    ·exact Jc (fun v h=>ih _ _) H
    ·exact H.elim
 exact key _ _ _ H
theorem L7 (l:List Bb) (a:Addr) {f:Array Value→T}{Q:Be→AE→Prop}(w:World):∀(i:Nat) (acc:Array Value),(E9 l a i acc f).wp P Q w.heap→
 ∃cs,(loadCellsFrom a i l.length acc).run P w= .ok cs w∧(f cs).wp P Q w.heap:=by
 induction l with
 |nil=>intro i acc H;exact ⟨acc,rfl,H⟩
 |cons s r ih=>
  intro i acc H;obtain ⟨x,hx,H⟩:=H;obtain ⟨cs,h1,h2⟩:=ih (i+1) _ H;refine ⟨cs,?_,h2⟩;have hx':w.cell? (a.add i)=some (s.val x):=hx;simp only [dO,loadCellsFrom,load,bind,bM,bQ,hx'];exact h1
theorem Cw {α β:Type} (s:Sem α) (f:α→Sem β) {w w':World} {a:α} (h:s.run P w= .ok a w'):(s.bind f).run P w=(f a).run P w':=by
  induction s generalizing w with
  | pure b=>cases h; rfl
  | load m ad k ih=>
    simp only [bM,bQ] at h ⊢;split
    · rename_i v hv; rw [hv] at h; exact ih _ h
    · rename_i hv
      rw [hv] at h;simp only at h;split
      · rename_i v t he; rw [he] at h; exact ih _ h
      · rename_i x he; rw [he] at h; cases h
  | store m ad v k ih=>
    cases v<;>simp only [bM,bQ] at h ⊢ <;>first
      | cases h
      | (split<;>rename_i hv<;>rw [hv] at h<;>simp only at h
         · split<;>rename_i hf<;>simp only [hf] at h<;>first
             | (simp only [if_true] at h; cases h)
             | (simp only [bZ,if_false] at h; exact ih h)
             | exact ih (by simpa using h)
             | simp at h
         · split<;>rename_i he<;>rw [he] at h<;>first | exact ih h | cases h)
  | new o k ih=>simp only [bM,bQ] at h ⊢; exact ih _ h
  | shape r k ih=>simp only [bM,bQ] at h ⊢; exact ih _ h
  | freeze a n k ih=>simp only [bM,bQ] at h ⊢; exact ih h
  | frozen a k ih=>simp only [bM,bQ] at h ⊢; exact ih _ h
  | getObj r k ih=>
    simp only [bM,bQ] at h ⊢
    split<;>rename_i hv<;>rw [hv] at h<;>simp only at h<;>first | cases h | exact ih _ h
  | setObj r o k ih=>
    simp only [bM,bQ] at h ⊢
    split<;>rename_i hv<;>rw [hv] at h<;>simp only at h<;>first | cases h | exact ih h
  | choose q k ih=>
    simp only [bM,bQ] at h ⊢
    split<;>rename_i hv<;>simp only [hv] at h
    · exact ih _ (by simpa using h)
    · exact ih _ (by simpa using h)
  | sys c k ih=>simp only [bM,bQ] at h ⊢; exact ih _ h
  | program k ih=>simp only [bM,bQ] at h ⊢; exact ih _ h
  | mark m k ih=>simp only [bM,bQ] at h ⊢; exact ih h
  | halt x=>simp only [bQ] at h; cases h
theorem KC {t:TypeId}{a:Addr}{k:Value→T}{Q:Be→AE→Prop}(w:World) (H:(C7 P t a k).wp P Q w.heap):
 ∃v,(loadVar t a).run P w= .ok v w∧(k v).wp P Q w.heap:=by
 unfold C7 at H;split at H
 ·rename_i d i hd hi
  have e1:(isAgg t).run P w= .ok (JX d) w:=by
   simp only [isAgg,underlying,program,bind,bM,hd,pure,bQ];cases d<;>rfl
  have e2:(Go.sizeOf t).run P w= .ok i.size w:=by simp only [Go.sizeOf,typeInfo,program,bind,bM,hi,pure,bQ]
  split at H
  ·rename_i l hag hsh
   split at H
   ·rename_i hlen
    obtain ⟨cs,h1,h2⟩:=L7 l a w 0 #[] H;refine ⟨.agg cs,?_,h2⟩;unfold loadVar;refine (Cw _ _ e1).trans ?_;rw [hag];simp only [if_true];refine (Cw _ _ e2).trans ?_;rw [←hlen];exact (Cw _ _ h1).trans rfl
   ·exact H.elim
  ·rename_i s hag hsh
   obtain ⟨x,hx,H⟩:=H;refine ⟨s.val x,?_,H⟩;unfold loadVar;refine (Cw _ _ e1).trans ?_;rw [hag];have hx':w.cell? a=some (s.val x):=hx;simp only [bZ,if_false,load,bQ,hx']
  ·exact H.elim
 ·exact H.elim
def Ey (tmps:Array Value):ResultVar→Sem Value
 |.tmp t=>pure (tmps.getD t undef)
 |.cell a t=>do loadVar t (←asAddr (tmps.getD a undef))
theorem K0 (fn:Func) (tmps:Array Value):results fn tmps=(fn.results.mapM (Ey tmps)).bind fun vs=>.pure (if h:vs.size=1 then vs[0] else .tuple vs):=rfl
theorem La {fn:Func}{e:Env}{a:Act}{w:World}{QT:Be→AE→Prop}(hag:Agrees e a.tmps) (H:(Nr P fn e).wp P QT w.heap):
 ∃v,(results fn a.tmps).run P w= .ok v w∧QT (.ret v) w.heap:=by
 have key:∀(l:List ResultVar) (acc:List Value),(DO P l e acc fun vs=>.ret (IZ vs)).wp P QT w.heap→
  ∃vs,(l.mapM (Ey a.tmps)).run P w= .ok vs w∧QT (.ret (IZ (acc.reverse++vs))) w.heap:=by
  intro l
  induction l with
  |nil=>intro acc H;exact ⟨[],rfl,by simpa [DO,T.wp]using H⟩
  |cons x r ih=>
   intro acc H;rw [List.mapM_cons];cases x with
   |tmp t=>
    simp only [DO]at H;split at H
    ·rename_i v hv
     obtain ⟨vs,h1,h2⟩:=ih _ H;refine ⟨v::vs,?_,by simpa using h2⟩;have e1:(Ey a.tmps (.tmp t)).run P w= .ok v w:=by
      have:=hag t v hv
      simp [Ey,pure,cD,this]
     refine (Cw _ _ e1).trans ((Cw _ _ h1).trans rfl)
    ·exact H.elim
   |cell ad t=>
    simp only [DO]at H;split at H
    ·rename_i b hb
     obtain ⟨v,h0,H⟩:=KC w H;obtain ⟨vs,h1,h2⟩:=ih _ H;refine ⟨v::vs,?_,by simpa using h2⟩;have e1:(Ey a.tmps (.cell ad t)).run P w= .ok v w:=by
      have:=hag ad _ hb
      have e2:a.tmps.getD ad undef= .pointer (some b):=by rw [cD,this];rfl
      simp only [Ey,e2];exact h0
     refine (Cw _ _ e1).trans ((Cw _ _ h1).trans rfl)
    ·exact H.elim
 obtain ⟨vs,h1,h2⟩:=key fn.results.toList [] H;refine ⟨IZ vs,?_,by simpa using h2⟩;rw [K0];have e1:(fn.results.mapM (Ey a.tmps)).run P w= .ok vs.toArray w:=by
  rw [Array.mapM_eq_mapM_toList];show (bM (fn.results.toList.mapM (Ey a.tmps)) fun l=>.pure l.toArray).run P w=_;exact (Cw _ _ h1).trans rfl
 refine (Cw _ _ e1).trans ?_;show Result.ok _ w=_;congr 1;cases vs with
 |nil=>rfl
 |cons v r=>
  cases r with
  |nil=>rfl
  |cons v2 r=>simp [IZ]
theorem Jd (args:List Value):∀(i:Nat) (pre rest:List Value),pre.length=i→Agrees (JI i args) (pre++args++rest).toArray:=by
 induction args with
 |nil=>intro i pre rest _ t v h;simp [JI,Env.get?]at h
 |cons x r ih=>
  intro i pre rest hi t v h;simp only [JI,Env.get?_cons]at h;by_cases hit:i=t
  ·subst hit;simp only [if_true,Option.some.injEq]at h;subst h;simp [←hi]
  ·simp only [hit,if_false]at h
   have:=ih (i+1) (pre++ [x]) rest (by simp [hi]) t v h
   simpa using this
def Mr (R:Fin→AE→Prop):Be→AE→Prop
 |.ret v,h=>R (.ret v) h
 |.pan c,h=>R (.pan c) h
 |_,_=>False
theorem AV {f:FuncId}{fn:Func}{args:List Value}{h:AE}{R:Fin→AE→Prop}(hm:P.follows .mixedOrders=true) (hf:P.funcs[f]? =some fn)
 (H:(Af P fn args).wp P (Mr R) h):CallsH P f args h R:=by
 intro w hw;subst hw;unfold Af at H;split at H
 ·rename_i c hc
  cases hall:(Ak c).all fun d=>fH d fn.ntmps with
  |false=>rw [hall]at H;exact H.elim
  |true=>
   rw [hall]at H;simp only [cond_true]at H;refine calls_of_wp hf hc ?_;have hag:Agrees (JI 0 args) (args.toArray++cL (fn.ntmps - args.toArray.size) undef):=by
    have:=Jd args 0 [] (List.replicate (fn.ntmps - args.toArray.size) undef) rfl
    have e:([] ++args++List.replicate (fn.ntmps - args.toArray.size) undef).toArray=args.toArray++cL (fn.ntmps - args.toArray.size) undef:=by
     apply eS;simp
    rw [←e];exact this
   have hb:Ex (Ak c) {tmps:=args.toArray++cL (fn.ntmps - args.toArray.size) undef,defers:=[]} :=by
    intro d hd
    have:=List.all_eq_true.1 hall d hd
    have hlt:d<fn.ntmps:=by simpa [Nat.blt_eq]using this
    simp;omega
   refine Kz hm (L5 fn) c [] _ _ (Mr R) _ w _ hag hb H (fun e' a' w' h1 h2 h3 h4=> ?_) ⟨fun id p hp=>(by cases hp),fun e' a' w' h1 h2 h3 h4=> ?_,fun ch a' w' h1 h2 h3=>⟨h1.2.1,h2,h3⟩⟩
   ·obtain ⟨v,g1,g2⟩:=La h1 h4;exact ⟨h2.2.1,v,g1,h3,g2⟩
   ·obtain ⟨v,g1,g2⟩:=La h1 h4;exact ⟨h2.2.1,v,g1,h3,g2⟩
 ·exact H.elim
end
section
variable {P:Program}{Q:Be→AE→Prop}{h:AE}
theorem Hu {s:Bb}{a:Addr}{k:s.Ty→T}(x:s.Ty) (hx:B4 h a=some (s.val x)) (H:(k x).wp P Q h):(T.load s a k).wp P Q h:=⟨x,hx,H⟩
theorem Je {a:Addr}{v:Value}{k:T}(hp:Value.plain v=true) (hs:(B4 h a).isSome=true) (hf:EQ h a=false) (H:k.wp P Q (Bm h a v)):(T.store a v k).wp P Q h:=⟨hp,hs,hf,H⟩
theorem Ms {o:Obj}{k:Nat→T}(H:(k h.size).wp P Q (h.push o)):(T.new o k).wp P Q h:=H
theorem OX {f:FuncId}{args:List Value}{sh:Sh}{k:sh.Ty→T}{R:Fin→AE→Prop}(hc:CallsH P f args h R)
 (hk:∀e h',R e h'→ ∃x,e= .ret (sh.val x)∧(k x).wp P Q h'):(T.call f args sh k).wp P Q h:=by
 simp only [T.wp];refine hc.mono fun e h' hr=> ?_;obtain ⟨x,rfl,H⟩:=hk e h' hr;exact ⟨x,rfl,H⟩
theorem t_sem {s:Sem Value}{sh:Sh}{k:sh.Ty→T}(H:semWp P s (fun v h'=>∃x:sh.Ty,v=sh.val x∧(k x).wp P Q h') (fun _ _=>False) h):(T.sem s sh k).wp P Q h:=by
 simp only [T.wp];exact BC s (fun _ _ x=>x) (fun _ _ x=>x.elim) H
theorem AS {a:Addr}{v:Value}{k:T}(hx:B4 h a=some v) (H:k.wp P Q h):(T.still a v k).wp P Q h:=⟨hx,H⟩
theorem Jf {x y:T}(hx:x.wp P Q h) (hy:y.wp P Q h):(T.both x y).wp P Q h:=⟨hx,hy⟩
theorem BF {b:Bool}{x y:T}(hb:b=true) (hx:x.wp P Q h):(cond b x y).wp P Q h:=by subst hb;exact hx
theorem As {b:Bool}{x y:T}(hb:b=false) (hy:y.wp P Q h):(cond b x y).wp P Q h:=by subst hb;exact hy
theorem AH {p:Option Addr}{k:Addr→T}(a:Addr) (hp:p=some a) (H:(k a).wp P Q h):(AJ p k).wp P Q h:=by subst hp;exact H
theorem Am {p:Prop}[Decidable p] {k:T}(hp:p) (H:k.wp P Q h):(chk p k).wp P Q h:=⟨hp,H⟩
def O4 (P:Program) (ss:List Sh1) (k:Shs.Ty ss→T) (Q:Be→AE→Prop) (lf:Be) (h':AE):Prop:=match lf with
 |.out vs=>(match Shs.of ss vs with
  |some y=>(k y).wp P Q h'
  |none=>False)
 |lf=>Q lf h'
theorem OY {ss:List Sh1}{x:T}{k:Shs.Ty ss→T}(H:x.wp P (O4 P ss k Q) h):(T.join ss x k).wp P Q h:=by
 simp only [T.wp];exact H
theorem Ns {ss:List Sh1}{x:T}{k:Shs.Ty ss→T}(M:Shs.Ty ss→AE→Prop) (H:x.wp P (fun lf h'=>match lf with
 |.out vs=>∃y,Shs.of ss vs=some y∧M y h'
 |lf=>Q lf h') h) (hk:∀y h',M y h'→(k y).wp P Q h'):(T.join ss x k).wp P Q h:=by
 refine OY (T.wp_mono x (fun lf h' hl=> ?_) H);cases lf with
 |out vs=>
  obtain ⟨y,hy,hm⟩:=hl;show (match Shs.of ss vs with | some y=>(k y).wp P Q h' | none=>False)
  rw [hy];exact hk y h' hm
 |brk id vs=>exact hl
 |ret v=>exact hl
 |pan c=>exact hl
def Mt (P:Program) (id:Nat) (ss:List Sh1) (k:Shs.Ty ss→T) (Q:Be→AE→Prop) (lf:Be) (h':AE):Prop:=match lf with
 |.out vs=>(match Shs.of ss vs with
  |some y=>(k y).wp P Q h'
  |none=>False)
 |.brk id' vs=>bif bV id' id then (match Shs.of ss vs with
  |some y=>(k y).wp P Q h'
  |none=>False) else Q (.brk id' vs) h'
 |lf=>Q lf h'
theorem Nt {id:Nat}{ss:List Sh1}{x:T}{k:Shs.Ty ss→T}(H:x.wp P (Mt P id ss k Q) h):(T.block id ss x k).wp P Q h:=by
 simp only [T.wp];exact H
theorem Mu {id:Nat}{ss:List Sh1}{x:T}{k:Shs.Ty ss→T}(M:Shs.Ty ss→AE→Prop) (H:x.wp P (fun lf h'=>match lf with
 |.out vs=>∃y,Shs.of ss vs=some y∧M y h'
 |.brk id' vs=>bif bV id' id then (∃y,Shs.of ss vs=some y∧M y h') else Q (.brk id' vs) h'
 |lf=>Q lf h') h) (hk:∀y h',M y h'→(k y).wp P Q h'):(T.block id ss x k).wp P Q h:=by
 refine Nt (T.wp_mono x (fun lf h' hl=> ?_) H);cases lf with
 |out vs=>
  obtain ⟨y,hy,hm⟩:=hl;show (match Shs.of ss vs with | some y=>(k y).wp P Q h' | none=>False)
  rw [hy];exact hk y h' hm
 |brk id' vs=>
  unfold Mt;dsimp only at hl ⊢;cases hb:bV id' id with
  |true=>
   rw [hb]at hl;obtain ⟨y,hy,hm⟩:=hl;rw [hy];exact hk y h' hm
  |false=>rw [hb]at hl;exact hl
 |ret v=>exact hl
 |pan c=>exact hl
def OI (ss:List Sh1) (I:Shs.Ty ss→AE→Prop) (μ:Shs.Ty ss→AE→Nat) (m:Nat) (Q:Be→AE→Prop) (lf:Be) (h':AE):Prop:=match lf with
 |.out vs=>(match Shs.of ss vs with
  |some y'=>I y' h'∧μ y' h'<m
  |none=>False)
 |lf=>Q lf h'
theorem OZ {ss:List Sh1}{init:List Value}{body:Shs.Ty ss→T}(I:Shs.Ty ss→AE→Prop) (μ:Shs.Ty ss→AE→Nat) (y0:Shs.Ty ss) (h0:Shs.of ss init=some y0) (hi:I y0 h)
 (hr:∀y h,I y h→(body y).wp P (OI ss I μ (μ y h) Q) h):(T.loop ss init body).wp P Q h:=⟨I,μ,⟨y0,h0,hi⟩,hr⟩
theorem L8 {ss:List Sh1}{I:Shs.Ty ss→AE→Prop}{μ:Shs.Ty ss→AE→Nat}{m:Nat}{vs:List Value}(y:Shs.Ty ss) (hy:Shs.of ss vs=some y) (hI:I y h) (hm:μ y h<m):OI ss I μ m Q (.out vs) h:=by
 show (match Shs.of ss vs with | some y'=>I y' h∧μ y' h<m | none=>False)
 rw [hy];exact ⟨hI,hm⟩
section
variable {id:Nat}{ss:List Sh1}{I:Shs.Ty ss→AE→Prop}{μ:Shs.Ty ss→AE→Nat}{m:Nat}{M:Shs.Ty ss→AE→Prop}
end
@[simp] theorem OJ (a:Bb) (x:a.Ty):(Sh.one (Sh1.atom a)).val x=a.val x:=rfl
@[simp] theorem Nu (a:Bb) (x:a.Ty):(Sh1.atom a).val x=a.val x:=rfl
@[simp] theorem PI (k:IntKind) (x:Int):(Bb.int k).val x= .int k x:=rfl
@[simp] theorem O5 (x:Bool):Bb.bool.val x= .bool x:=rfl
@[simp] theorem Oa (x:ByteArray):Bb.string.val x= .string x:=rfl
@[simp] theorem OK (x:Option Addr):Bb.pointer.val x= .pointer x:=rfl
@[simp] theorem O1 (x:Option Addr×Nat×Nat):Bb.slice.val x= .slice x.1 x.2.1 x.2.2:=rfl
@[simp] theorem PJ (x:Option Nat):Bb.map.val x= .map x:=rfl
theorem w64 {n:Int}(h0: -9223372036854775808≤n) (h1:n≤9223372036854775807):dK .i64 n=n:=IntWalk.i64_in n ⟨h0,h1⟩
def BL (S:Value→AE→Prop) (e:Fin) (h':AE):Prop:= ∃v,e= .ret v∧S v h'
theorem Nv {f:FuncId}{args:List Value}{sh:Sh}{k:sh.Ty→T}{S:Value→AE→Prop}(hc:CallsH P f args h (BL S))
 (hk:∀v h',S v h'→ ∃x,v=sh.val x∧(k x).wp P Q h'):(T.call f args sh k).wp P Q h:=
 OX hc fun e h' ⟨v,he,hs⟩=>by
  obtain ⟨x,hx,H⟩:=hk v h' hs;exact ⟨x,by rw [he,hx],H⟩
theorem AB {S:Value→AE→Prop}{v:Value}(H:S v h):Mr (BL S) (.ret v) h:=⟨v,rfl,H⟩
end
def F0 (M:List Nat) (h h':AE):Prop:=h.size≤h'.size∧ ∀i,i<h.size→i∉M→h'[i]? =h[i]?
theorem F0.refl (M:List Nat) (h:AE):F0 M h h:=⟨dS _,fun _ _ _=>rfl⟩
theorem F0.trans {M:List Nat}{a b c:AE}(h:F0 M a b) (k:F0 M b c):F0 M a c:=
 ⟨Nat.le_trans h.1 k.1,fun i hi hm=>(k.2 i (Nat.lt_of_lt_of_le hi h.1) hm).trans (h.2 i hi hm)⟩
theorem F0.mono {M M':List Nat}{a b:AE}(h:F0 M a b) (hM:∀i,i∈M→i∈M'):F0 M' a b:=⟨h.1,fun i hi hm=>h.2 i hi fun h'=>hm (hM i h')⟩
theorem F0.push (M:List Nat) (h:AE) (o:Obj):F0 M h (h.push o):=⟨by simp,fun i hi _=>by rw [bO];simp;omega⟩
theorem Ez {h:AE}{a:Addr}{v:Value}{i:Nat}(hi:i≠a.block):(Bm h a v)[i]? =h[i]? :=by
 unfold Bm DK dZ;simp only [cP];rw [if_neg (by omega)]
theorem I4 {h:AE}{a:Addr}{v:Value}:(Bm h a v).size=h.size:=by
 unfold Bm DK dZ;simp
theorem F0.at {M:List Nat}{h h':AE}(k:F0 M h h') {i:Nat}{o:Obj}(ho:h[i]? =some o) (hm:i∉M):h'[i]? =some o:=by
 have hlt:i<h.size:=by
  rcases cA i h.size with g | g
  ·exact g
  ·rw [cJ g]at ho;cases ho
 rw [k.2 i hlt hm];exact ho
theorem Du {h:AE}{a:Addr}{c:Array Value}{t:TypeId}{f:Nat×Nat}(hb:h[a.block]? =some (.cells c t f)) (hs:a.spot=none):B4 h a=c[a.off]? :=by
 unfold B4 DK World.cell?;simp [hb,hs]
theorem JJ (a:Addr) (n:Nat):(a.add n).block=a.block:=by unfold eD;split<;>rfl
theorem add_zero (a:Addr):a.add 0=a:=by simp [eD]
theorem Fc (b o n:Nat):(⟨b,o,none⟩:Addr).add n=⟨b,o+n,none⟩:=by
 unfold eD;split
 ·rename_i h;subst h;rfl
 ·rfl
theorem Ac (a:Addr) (m n:Nat):(a.add m).add n=a.add (m+n):=by
 unfold eD;by_cases hm:m=0
 ·subst hm;simp
 ·by_cases hn:n=0
  ·subst hn;simp
  ·simp [hm,hn,Nat.add_assoc]
def CE (h:AE) (p:Option Addr) (vs:List Value):Prop:= ∀i v,vs[i]? =some v→ ∃a,p=some a∧B4 h (a.add i)=some v
def blk:Option Addr→List Nat
 |some a=>[a.block]
 |none=>[]
theorem CE.nil (h:AE) (p:Option Addr):CE h p []:=fun i v hv=>by simp at hv
def Own (sz:Nat) (ty:TypeId) (h:AE) (p:Option Addr) (n c:Nat) (vs:List Value):Prop:=
 (p=none∧n=0∧c=0∧vs= [])∨
 (∃b off arr,p=some ⟨b,off,none⟩∧h[b]? =some (.cells arr ty (0,0))∧vs.length=n *sz∧n≤c∧off+c *sz≤arr.size∧ ∀i v,vs[i]? =some v→arr[off+i]? =some v)
theorem Own.cells {sz:Nat}{ty:TypeId}{h:AE}{p:Option Addr}{n c:Nat}{vs:List Value}(o:Own sz ty h p n c vs):CE h p vs:=by
 rcases o with ⟨rfl,_,_,rfl⟩|⟨b,off,arr,rfl,hb,h1,h2,h3,h4⟩
 ·exact CE.nil h none
 ·intro i v hv;exact ⟨_,rfl,by rw [Fc,Du hb rfl];exact h4 i v hv⟩
theorem Own.length {sz:Nat}{ty:TypeId}{h:AE}{p:Option Addr}{n c:Nat}{vs:List Value}(o:Own sz ty h p n c vs):vs.length=n *sz:=by
 rcases o with ⟨_,rfl,_,rfl⟩|⟨b,off,arr,_,hb,h1,_⟩
 ·simp
 ·exact h1
theorem Own.nil (sz:Nat) (ty:TypeId) (h:AE):Own sz ty h none 0 0 []:=.inl ⟨rfl,rfl,rfl,rfl⟩
theorem Own.cap {sz:Nat}{ty:TypeId}{h:AE}{p:Option Addr}{n c:Nat}{vs:List Value}(o:Own sz ty h p n c vs):n≤c:=by
 rcases o with ⟨rfl,rfl,rfl,_⟩|⟨b,off,arr,rfl,hb,_,h,_⟩
 ·exact dS _
 ·exact h
theorem Own.old {sz:Nat}{ty:TypeId}{h:AE}{p:Option Addr}{n c:Nat}{vs:List Value}(o:Own sz ty h p n c vs):∀i,i∈blk p→i<h.size:=by
 rcases o with ⟨rfl,_⟩|⟨b,off,arr,rfl,hb,_⟩
 ·intro i hi;cases hi
 ·intro i hi;simp [blk]at hi;subst hi;rcases cA i h.size with g | g
  ·exact g
  ·rw [cJ g]at hb;cases hb
theorem HW {P:Program}{X:Value→AE→Prop}{h:AE}{a:Addr}:∀(vs:List Value) (i:Nat) (acc:Array Value) {K:Array Value→AE→Prop},
 (∀j v,vs[j]? =some v→B4 h (a.add (i+j))=some v)→K (acc++vs.toArray) h→semWp P (loadCellsFrom a i vs.length acc) K X h:=by
 intro vs
 induction vs with
 |nil=>intro i acc K _ hk;simpa [loadCellsFrom,pure,semWp]using hk
 |cons v r ih=>
  intro i acc K hc hk;refine ⟨v,by simpa using hc 0 v rfl,?_⟩;refine ih (i+1) (acc.push v) (fun j u hj=> ?_) ?_
  ·have:=hc (j+1) u (by simpa using hj)
   rw [show i+1+j=i+(j+1) by omega];exact this
  ·have e:acc++(v::r).toArray=acc.push v++r.toArray:=by
    apply eS;simp
   rw [←e];exact hk
theorem E0 {h:AE}{b off:Nat}{arr:Array Value}{ty:TypeId}{f:Nat×Nat}{v:Value}(hb:h[b]? =some (.cells arr ty f)):
 (Bm h ⟨b,off,none⟩ v)[b]? =some (.cells (arr.setIfInBounds off v) ty f):=by
 unfold Bm DK dZ;simp [cP,hb]
theorem I5 {P:Program}{X:Value→AE→Prop}{b off:Nat}{ty:TypeId}:∀(vs:List Value) (i:Nat) (h:AE) (arr:Array Value) {K:Unit→AE→Prop},
 (∀v∈vs,Value.plain v=true)→h[b]? =some (.cells arr ty (0,0))→off+i+vs.length≤arr.size→
 (∀h' arr',h'[b]? =some (.cells arr' ty (0,0))→arr'.size=arr.size→(∀j,(j<off+i∨off+i+vs.length≤j)→arr'[j]? =arr[j]?)→(∀j v,vs[j]? =some v→arr'[off+i+j]? =some v)→
  h'.size=h.size→(∀k,k≠b→h'[k]? =h[k]?)→K () h')→semWp P (storeCells ⟨b,off,none⟩ vs i) K X h:=by
 intro vs
 induction vs with
 |nil=>intro i h arr K _ hb _ hk;exact hk h arr hb rfl (fun _ _=>rfl) (fun j v hj=>by simp at hj) rfl (fun _ _=>rfl)
 |cons v r ih=>
  intro i h arr K hp hb hle hk;simp only [dO]at hle;have hcell:B4 h (eD ⟨b,off,none⟩ i)=arr[off+i]? :=by rw [Fc,Du (c:=arr) (t:=ty) (f:=(0,0)) hb rfl]
  refine ⟨hp v (eR ..),?_,?_,?_⟩
  ·rw [hcell];simp;omega
  ·rw [Fc];unfold EQ DK dR;simp [hb]
  ·rw [Fc];have hb1:=E0 (off:=off+i) (v:=v) hb;refine ih (i+1) (Bm h ⟨b,off+i,none⟩ v) (arr.setIfInBounds (off+i) v) (fun u hu=>hp u (cT _ hu)) hb1 (by simp;omega) ?_;intro h' arr' g1 g2 g3 g4 g5 g6;refine hk h' arr' g1 (by simpa using g2) (fun j hj=> ?_) (fun j u hj=> ?_) (by rw [g5,I4]) (fun k hk'=>by rw [g6 k hk'];exact Ez hk')
   ·simp only [dO]at hj;rw [g3 j (by omega),bN (by omega)]
   ·cases j with
    |zero=>
     simp at hj;subst hj;rw [g3 (off+i+0) (by omega),Nat.add_zero];rw [cC];simp only [if_true];rw [if_pos (by omega)]
    |succ j=>
     have:=g4 j u (by simpa using hj)
     rw [show off+i+(j+1)=off+(i+1)+j by omega];exact this
structure G0 (P:Program) (st xt elem:TypeId) (sz:Nat):Prop where
 st:P.underlying st=some (.slice elem)
 xt:P.underlying xt=some (.slice elem)∨P.underlying xt=some .string
 info:∃i,P.info? elem=some i∧i.size=sz∧(∃z,i.zero=some z∧z.cells.size=sz)∧0<i.bytes∧i.bytes≤120
 pos:0<sz
theorem L9 (newLen:Nat):∀(r c:Nat),eM newLen r c≤max c (newLen+(newLen+768) / 4):=by
 intro r
 induction r with
 |zero=>intro c;simp only [eM];omega
 |succ r ih=>
  intro c;simp only [eM];split
  ·omega
  ·have:=ih (c+(c+768) / 4)
   omega
theorem K1 (need c:Nat) (h:c<need):cU need c≤2 *need+200:=by
 unfold cU;split
 ·omega
 ·split
  ·omega
  ·have:=L9 need 4 c
   omega
def O6 (sz:Nat) (elem:TypeId) (h h':AE) (p:Option Addr) (c:Nat) (p':Option Addr) (c':Nat):Prop:=
 (p'=p∧c'=c∧ ∀b off,p=some ⟨b,off,none⟩→ ∀arr f,h[b]? =some (.cells arr elem f)→ ∃arr',h'[b]? =some (.cells arr' elem (0,0))∧arr'.size=arr.size)∨
 (p'=some ⟨h.size,0,none⟩∧c'≤maxLen∧ ∃arr,h'[h.size]? =some (.cells arr elem (0,0))∧arr.size=c' *sz)
theorem K4 {P:Program}{h:AE}{st xt rt elem:TypeId}{sz:Nat}(A:G0 P st xt elem sz) {p xp:Option Addr}{n c m xc:Nat}{vs ws:List Value}
 (o:Own sz elem h p n c vs) (cx:CE h xp ws) (hm:ws.length=m *sz) (hpl:∀v∈ws,Value.plain v=true) (hle:n+m≤1099512676352)
 {K:Value→AE→Prop} {X:Value→AE→Prop}
 (hk:∀p' c' h',Own sz elem h' p' (n+m) c' (vs++ws)→F0 (blk p) h h'→(∀i,i∈blk p'→i∈blk p∨h.size≤i)→O6 sz elem h h' p c p' c'→K (.slice p' (n+m) c') h'):
 semWp P (dU #[st,xt] rt #[.slice p n c,.slice xp m xc]) K X h:=by
 obtain ⟨i,hi,hsz,⟨z,hz,hzs⟩,hb0,hb⟩:=A.info;have hxt:∃d,P.underlying xt=some d∧(d matches .int _)=false:=by
  rcases A.xt with g | g<;>exact ⟨_,g,rfl⟩
 obtain ⟨d,hd,hdi⟩:=hxt;have first:∀ {K':Array Value→AE→Prop} (q:Option Addr) (k kc:Nat) (us:List Value),CE h q us→us.length=k *sz→K' us.toArray h→
  semWp P (cF sz k (.slice q k kc)) K' X h:=by
  intro K' q k kc us hq hl hk';cases q with
  |none=>
   cases us with
   |nil=>exact hk'
   |cons u r=>obtain ⟨a,ha,_⟩:=hq 0 u rfl;cases ha
  |some a=>
   show semWp P (loadCellsFrom a 0 (k *sz) #[]) K' X h;rw [←hl];refine HW us 0 #[] (fun j v hj=> ?_) (by simpa using hk');obtain ⟨a',ha',hc⟩:=hq j v hj;cases ha';simpa using hc
 unfold dU;simp only [List.getElem?_toArray,eF,eG];refine AW A.st<|HA hi ?_;rw [hsz];have key:∀(K:Value→AE→Prop),(∀p' c' h',Own sz elem h' p' (n+m) c' (vs++ws)→F0 (blk p) h h'→(∀i,i∈blk p'→i∈blk p∨h.size≤i)→O6 sz elem h h' p c p' c'→K (.slice p' (n+m) c') h')→
  (n+m≤c→semWp P ((cF sz m (cI xp m xc)).bind fun new=>
   match p with
   |some a=>(storeCells (a.add (n *sz)) new.toList).bind fun __r=>dJ (cI p (n+m) c)
   |_=>dJ (cI p (n+m) c)) K X h)∧
  (¬n+m≤c→semWp P ((choose (Question.appendCap (n+m) c elem)).bind fun newCap=>
   (typeInfo elem).bind fun i=>
    (askRoom (newCap *i.bytes)).bind fun __r=>
     (cF sz n (cI p n c)).bind fun old=>
      (cF sz m (cI xp m xc)).bind fun new=>
       (zeroValue elem).bind fun z=>
        (newRow elem (old++new++cQ z.cells (newCap - (n+m)))).bind
         fun a=>dJ (cI (some a) (n+m) newCap)) K X h):=by
  intro K hk;have hlen:=o.length;constructor
  ·intro hfit;refine Ab _ _ (first xp m xc ws cx hm ?_);rcases o with ⟨rfl,rfl,rfl,rfl⟩|⟨b,off,arr,rfl,hbk,h1,h2,h3,h4⟩
   ·have:m=0:=by omega
    subst this
    have:ws= []:=cB (by simpa using hm)
    subst this;exact hk none 0 h (Own.nil sz elem h) (F0.refl _ h) (fun i hi=>.inl hi) (.inl ⟨rfl,rfl,fun b off e=>by cases e⟩)
   ·dsimp only;refine Ab _ _ ?_;rw [Fc];have hmul:(n+m) *sz≤c *sz:=cV sz hfit;rw [bW]at hmul;refine I5 ws 0 h arr hpl hbk (by rw [hm];omega) ?_;intro h' arr' g1 g2 g3 g4 g5 g6;refine hk _ c h' (.inr ⟨b,off,arr',rfl,g1,?_,hfit,by omega,?_⟩) ⟨by omega,fun i _ hi=>g6 i (by simpa [blk]using hi)⟩ (fun i hi=>.inl hi) (.inl ⟨rfl,rfl,fun b' off' e arr0 f e0=>by cases e;rw [hbk]at e0;cases e0;exact ⟨arr',g1,g2⟩⟩)
    ·rw [cK,h1,hm,bW]
    ·intro i v hv;rcases cA i vs.length with hi' | hi'
     ·rw [bR hi']at hv;rw [g3 (off+i) (by omega)];exact h4 i v hv
     ·rw [cS hi']at hv
      have:=g4 (i - vs.length) v hv
      rw [show off+i=off+n *sz+0+(i - vs.length) by omega];exact this
  ·intro hgrow;show semWp P (.choose _ _) K X h;simp only [semWp];rw [if_neg (by simp [Question.forced])];intro t;have hcut:n+m≤(Question.appendCap (n+m) c elem).cut t:=by simp only [Question.cut];omega
   have hnc:(Question.appendCap (n+m) c elem).cut t≤maxLen:=by
    simp only [Question.cut]
    have:=Nat.mod_lt t (y:=2 ^ 63 - (n+m)) (by omega)
    unfold maxLen;omega
   generalize (Question.appendCap (n+m) c elem).cut t=nc at hcut hnc
   refine FX hi ?_;have rest:semWp P ((cF sz n (cI p n c)).bind fun old=>
    (cF sz m (cI xp m xc)).bind fun new=>
     (zeroValue elem).bind fun z=>
      (newRow elem (old++new++cQ z.cells (nc - (n+m)))).bind
       fun a=>dJ (cI (some a) (n+m) nc)) K X h:=by
    refine Ab _ _ (first p n c vs o.cells hlen ?_);refine Ab _ _ (first xp m xc ws cx hm ?_);have ez:(zeroValue elem)=Sem.program fun P'=>((match P'.info? elem with | some i=>Sem.pure i | none=>stuck "no such type").bind fun i=>match i.zero with | some v=>Sem.pure v | none=>unsupported (.resourceLimit "a value of more than 2^22 cells")):=rfl
    rw [ez];simp only [bM,semWp,hi,hz];show semWp P (Sem.new _ _) K X h;have hzc:(cQ z.cells (nc - (n+m))).size=(nc - (n+m)) *sz:=by simp [cQ,hzs]
    refine hk _ nc _ (.inr ⟨h.size,0,vs.toArray++ws.toArray++cQ z.cells (nc - (n+m)),rfl,by rw [bO,if_pos rfl],?_,hcut,?_,?_⟩) (F0.push _ h _) (fun i hi=>.inr (by simp [blk]at hi;omega)) (.inr ⟨rfl,hnc,_,by rw [bO,if_pos rfl],?_⟩)
    ·rw [cK,hlen,hm,bW]
    ·simp only [eW,eX,hzc,hlen,hm];rw [←bW,←bW,show n+m+(nc - (n+m))=nc by omega];omega
    ·intro i v hv;have hlt:i< (vs++ws).length:=by
      rcases cA i (vs++ws).length with g | g
      ·exact g
      ·rw [bT g]at hv;cases hv
     have e:(vs.toArray++ws.toArray:Array Value)=(vs++ws).toArray:=by simp
     rw [e,dL,cX (by simpa using hlt)];simpa using hv
    ·simp only [eW,eX,hzc,hlen,hm];rw [←bW,←bW,show n+m+(nc - (n+m))=nc by omega]
   refine Ab _ _ ?_;unfold askRoom;split
   ·exact rest
   ·exact rest
 obtain ⟨k1,k2⟩:=key K hk;have hnb:∀(b:Prop),¬(((n+m:Nat):Int) >IntKind.i64.max∧b):=by
  intro b hh
  have:((n+m:Nat):Int) ≤1099512676352:=by omega
  have e:IntKind.i64.max=9223372036854775807:=rfl;omega
 have hcap:¬n+m≤c→ ¬cU (n+m) c *i.bytes>2 ^ 48:=by
  intro hg;have h1:=K1 (n+m) c (by omega);have h2:cU (n+m) c *i.bytes≤(2 *(n+m)+200) *120:=Nat.mul_le_mul h1 hb;omega
 rcases A.xt with g | g
 all_goals
  refine AW g ?_;simp only [bind,bM,pure,bZ,if_false,Builtin.lenOf,Bool.not_false,if_true];by_cases hfit:n+m≤c
  ·rw [if_pos hfit];exact k1 hfit
  ·rw [if_neg hfit];refine FX hi ?_;rw [if_neg (hnb _)];refine FX hi ?_;rw [if_neg (hcap hfit)];exact k2 hfit
theorem K5 {P:Program}{X:Value→AE→Prop}{h:AE}:∀(l:List UInt8) (acc:ByteArray) {K:ByteArray→AE→Prop},K ⟨acc.data++l.toArray⟩ h→
 semWp P (forIn (l.map fun b=>dG .u8 (b.toNat:Int)) acc fun c s=>match c with
  |.int .u8 n=>(pure (ForInStep.yield (s.push (dH n.toNat))):Sem (ForInStep ByteArray))
  | _=>stuck "bytesToString: byte expected") K X h:=by
 intro l
 induction l with
 |nil=>intro acc K hk;show K acc h;simpa using hk
 |cons b r ih=>
  intro acc K hk;simp only [dQ,List.forIn_cons];have e:dH ((b.toNat:Int)).toNat=b:=by simp
  rw [e];refine ih (acc.push b) ?_;simpa [ByteArray.push]using hk
theorem Jg {P:Program}{src dst e:TypeId}{h:AE}{p:Option Addr}{c:Nat}{l:List UInt8}(hs:P.underlying src=some (.slice e)) (he:P.underlying e=some (.int .u8)) (hd:P.underlying dst=some .string)
 (hp:CE h p (l.map fun b=>dG .u8 (b.toNat:Int))) {K X:Value→AE→Prop} (hk:K (.string ⟨l.toArray⟩) h):semWp P (convert src dst (.slice p l.length c)) K X h:=by
 unfold convert;refine AW hs (AW hd ?_);refine AW he ?_;dsimp only;unfold Conv.bytesToString;cases p with
 |none=>
  cases l with
  |nil=>exact hk
  |cons b r=>obtain ⟨a,ha,_⟩:=hp 0 _ rfl;cases ha
 |some a=>
  dsimp only;refine Ab _ _ ?_;show semWp P (loadCellsFrom a 0 l.length #[]) _ X h;have hl:l.length=(l.map fun b=>dG .u8 (b.toNat:Int)).length:=by simp
  rw [hl];refine HW (l.map fun b=>dG .u8 (b.toNat:Int)) 0 #[] (fun j v hj=>by
   obtain ⟨a',ha',hc⟩:=hp j v hj;cases ha';simpa using hc) ?_
  refine Ab _ _ ?_;have e0:(#[] ++(l.map fun b=>dG .u8 (b.toNat:Int)).toArray:Array Value)=(l.map fun b=>dG .u8 (b.toNat:Int)).toArray:=by simp
  rw [e0,List.forIn_toArray];exact K5 l _ (show K _ h by simpa using hk)
abbrev Slc:=Option Addr×Nat×Nat
abbrev AF:=Nat→Option Obj
def BX (h:AE):AF:=fun i=>h[i]?
def Sub (φ ψ:AF):Prop:= ∀i o,φ i=some o→ψ i=some o
theorem Sub.refl (φ:AF):Sub φ φ:=fun _ _ h=>h
theorem Sub.trans {a b c:AF}(h:Sub a b) (k:Sub b c):Sub a c:=fun i o ho=>k i o (h i o ho)
def GN (φ:AF) (a:Addr):Option Value:=match φ a.block with
 |some (.cells c _ _)=>if a.spot.isSome then none else c[a.off]?
 |_=>none
theorem HE (h:AE) (a:Addr):GN (BX h) a=B4 h a:=rfl
theorem HF {φ ψ:AF}(hs:Sub φ ψ) {a:Addr}{v:Value}(hc:GN φ a=some v):GN ψ a=some v:=by
 unfold GN at hc ⊢;cases hb:φ a.block with
 |none=>rw [hb]at hc;cases hc
 |some o=>rw [hs _ _ hb];rw [hb]at hc;exact hc
theorem AD {φ:AF}{h:AE}(hs:Sub φ (BX h)) {a:Addr}{v:Value}(hc:GN φ a=some v):B4 h a=some v:=by
 rw [←HE];exact HF hs hc
def EC (φ:AF) (p:Option Addr) (vs:List Value):Prop:= ∀i v,vs[i]? =some v→ ∃a,p=some a∧GN φ (a.add i)=some v
theorem EC.mono {φ ψ:AF}(hs:Sub φ ψ) {p:Option Addr}{vs:List Value}(hc:EC φ p vs):EC ψ p vs:=fun i v hv=>by
 obtain ⟨a,ha,h⟩:=hc i v hv;exact ⟨a,ha,HF hs h⟩
theorem EC.heap {φ:AF}{h:AE}(hs:Sub φ (BX h)) {p:Option Addr}{vs:List Value}(hc:EC φ p vs):CE h p vs:=fun i v hv=>by
 obtain ⟨a,ha,h⟩:=hc i v hv;exact ⟨a,ha,AD hs h⟩
structure Ro (α:Type) where
 sz:Nat
 is:AF→List Value→α→Prop
 len:∀ {φ cs x},is φ cs x→cs.length=sz
 mono:∀ {φ ψ cs x},Sub φ ψ→is φ cs x→is ψ cs x
 plain:∀ {φ cs x},is φ cs x→ ∀v∈cs,Value.plain v=true
namespace Ro
def atom (a:Bb):Ro a.Ty where
 sz:=1
 is _ cs x:=cs= [a.val x]
 len h:=by rw [h];rfl
 mono _ h:=h
 plain h v hv:=by rw [h]at hv;simp at hv;rw [hv];exact Bb.val_plain _ _
abbrev int (k:IntKind):Ro Int:=atom (.int k)
abbrev bool:Ro Bool:=atom .bool
abbrev str:Ro ByteArray:=atom .string
def prod {α β:Type}(r:Ro α) (s:Ro β):Ro (α×β) where
 sz:=r.sz+s.sz
 is φ cs x:= ∃a b,cs=a++b∧r.is φ a x.1∧s.is φ b x.2
 len h:=by obtain ⟨a,b,rfl,ha,hb⟩:=h;rw [cK,r.len ha,s.len hb]
 mono hs h:=by obtain ⟨a,b,e,ha,hb⟩:=h;exact ⟨a,b,e,r.mono hs ha,s.mono hs hb⟩
 plain h v hv:=by
  obtain ⟨a,b,rfl,ha,hb⟩:=h;rcases List.mem_append.1 hv with h | h
  ·exact r.plain ha v h
  ·exact s.plain hb v h
inductive All {α:Type}(r:Ro α) (φ:AF):List Value→List α→Prop where
 |nil:All r φ [] []
 |cons {a b:List Value} {x:α} {l:List α} :r.is φ a x→All r φ b l→All r φ (a++b) (x::l)
theorem All.mono {α:Type}{r:Ro α}{φ ψ:AF}(hs:Sub φ ψ) {vs:List Value}{l:List α}(h:All r φ vs l):All r ψ vs l:=by
 induction h with
 |nil=>exact .nil
 |cons h _ ih=>exact .cons (r.mono hs h) ih
theorem All.length {α:Type}{r:Ro α}{φ:AF}{vs:List Value}{l:List α}(h:All r φ vs l):vs.length=l.length *r.sz:=by
 induction h with
 |nil=>simp
 |cons h _ ih=>rw [cK,r.len h,ih,dO,bW,fE,eY]
theorem All.plain {α:Type}{r:Ro α}{φ:AF}{vs:List Value}{l:List α}(h:All r φ vs l):∀v∈vs,Value.plain v=true:=by
 induction h with
 |nil=>intro v hv;cases hv
 |cons h _ ih=>intro v hv;rcases List.mem_append.1 hv with g | g;exact r.plain h v g;exact ih v g
theorem All.append {α:Type}{r:Ro α}{φ:AF}{vs ws:List Value}{l m:List α}(h:All r φ vs l) (k:All r φ ws m):All r φ (vs++ws) (l++m):=by
 induction h with
 |nil=>exact k
 |cons h _ ih=>rw [List.append_assoc];exact .cons h ih
theorem All.one {α:Type}{r:Ro α}{φ:AF}{vs:List Value}{x:α}(h:r.is φ vs x):All r φ vs [x]:=by
 have:=All.cons h (.nil (r:=r) (φ:=φ))
 rwa [List.append_nil]at this
theorem All.at {α:Type}{r:Ro α}{φ:AF}{vs:List Value}{l:List α}(h:All r φ vs l):∀ {i:Nat}{x:α},l[i]? =some x→ ∃cs,r.is φ cs x∧ ∀j v,cs[j]? =some v→vs[i *r.sz+j]? =some v:=by
 induction h with
 |nil=>intro i x hx;simp at hx
 | @cons a b y l h hb ih=>
  intro i x hx;cases i with
  |zero=>
   simp at hx;subst hx;refine ⟨a,h,fun j v hv=> ?_⟩
   have:j<a.length:=by
    rcases cA j a.length with g | g
    ·exact g
    ·rw [bT g]at hv;cases hv
   rw [Nat.zero_mul,dL,bR this];exact hv
  |succ i=>
   obtain ⟨cs,h1,h2⟩:=ih (by simpa using hx);refine ⟨cs,h1,fun j v hv=> ?_⟩;have e:(i+1) *r.sz+j=a.length+(i *r.sz+j):=by rw [r.len h,bW];omega
   rw [e,cS (by omega),dI];exact h2 j v hv
theorem All.take {α:Type}{r:Ro α}{φ:AF}{vs:List Value}{l:List α}(h:All r φ vs l):∀n,All r φ (vs.take (n *r.sz)) (l.take n):=by
 induction h with
 |nil=>intro n;simp;exact .nil
 | @cons a b y l h hb ih=>
  intro n;cases n with
  |zero=>simp;exact .nil
  |succ n=>
   have e:(a++b).take ((n+1) *r.sz)=a++b.take (n *r.sz):=by
    rw [bW,fE,eY,←r.len h,List.take_length_add_append]
   rw [e,List.take_succ_cons];exact .cons h (ih n)
theorem All.drop {α:Type}{r:Ro α}{φ:AF}{vs:List Value}{l:List α}(h:All r φ vs l):∀n,All r φ (vs.drop (n *r.sz)) (l.drop n):=by
 induction h with
 |nil=>intro n;simp;exact .nil
 | @cons a b y l h hb ih=>
  intro n;cases n with
  |zero=>simp;exact .cons h hb
  |succ n=>
   have e:(a++b).drop ((n+1) *r.sz)=b.drop (n *r.sz):=by
    rw [bW,fE,eY,←r.len h,List.drop_append,List.drop_eq_nil_of_le (by omega),List.nil_append];congr 1;omega
   rw [e,List.drop_succ_cons];exact ih n
def SliceIs {α:Type}(r:Ro α) (φ:AF) (t:Slc) (l:List α):Prop:=l.length=t.2.1∧t.2.1≤t.2.2∧t.2.2≤maxLen∧(t.1=none→l= [])∧ ∃vs,All r φ vs l∧EC φ t.1 vs
theorem SliceIs.mono {α:Type}{r:Ro α}{φ ψ:AF}{t:Slc}{l:List α}(h:SliceIs r φ t l) (hs:Sub φ ψ):SliceIs r ψ t l:=by
 obtain ⟨h1,h2,h3,h0,vs,h4,h5⟩:=h;exact ⟨h1,h2,h3,h0,vs,h4.mono hs,h5.mono hs⟩
def list {α:Type}(r:Ro α):Ro (List α) where
 sz:=1
 is φ cs l:= ∃t:Slc,cs= [.slice t.1 t.2.1 t.2.2] ∧SliceIs r φ t l
 len h:=by obtain ⟨t,rfl,_⟩:=h;rfl
 mono hs h:=by obtain ⟨t,e,h⟩:=h;exact ⟨t,e,h.mono hs⟩
 plain h v hv:=by obtain ⟨t,rfl,_⟩:=h;simp at hv;subst hv;rfl
def via {α β:Type}(r:Ro α) (f:β→α):Ro β where
 sz:=r.sz
 is φ cs x:=r.is φ cs (f x)
 len h:=r.len h
 mono hs h:=r.mono hs h
 plain h:=r.plain h
def ptr {α:Type}(r:Ro α):Ro (Option α) where
 sz:=1
 is φ cs x:=match x with
  |none=>cs= [.pointer none]
  |some x=>∃a vs,cs= [.pointer (some a)] ∧r.is φ vs x∧EC φ (some a) vs
 len {φ cs x} h:=by
  cases x with
  |none=>rw [h];rfl
  |some x=>obtain ⟨a,vs,rfl,_⟩:=h;rfl
 mono {φ ψ cs x} hs h:=by
  cases x with
  |none=>exact h
  |some x=>obtain ⟨a,vs,e,h1,h2⟩:=h;exact ⟨a,vs,e,r.mono hs h1,h2.mono hs⟩
 plain {φ cs x} h v hv:=by
  cases x with
  |none=>rw [h]at hv;simp at hv;subst hv;rfl
  |some x=>obtain ⟨a,vs,rfl,_⟩:=h;simp at hv;subst hv;rfl
end Ro
abbrev F1:=Nat→Prop
structure Rep (α:Type) where
 sz:Nat
 is:AF→AE→F1→List Value→α→Prop
 len:∀ {φ h F cs x},is φ h F cs x→cs.length=sz
 mono:∀ {φ ψ h F cs x},Sub φ ψ→is φ h F cs x→is ψ h F cs x
 loc:∀ {φ h h' F cs x},(∀i,F i→h'[i]? =h[i]?)→is φ h F cs x→is φ h' F cs x
 lt:∀ {φ h F cs x},is φ h F cs x→ ∀i,F i→i<h.size
 plain:∀ {φ h F cs x},is φ h F cs x→ ∀v∈cs,Value.plain v=true
theorem A8 {h:AE}{i:Nat}{o:Obj}(ho:h[i]? =some o):i<h.size:=by
 rcases cA i h.size with g | g
 ·exact g
 ·rw [cJ g]at ho;cases ho
namespace Rep
def ro {α:Type}(r:Ro α):Rep α where
 sz:=r.sz
 is φ _ F cs x:=(∀i,¬F i)∧r.is φ cs x
 len h:=r.len h.2
 mono hs h:=⟨h.1,r.mono hs h.2⟩
 loc _ h:=h
 lt h i hi:=(h.1 i hi).elim
 plain h:=r.plain h.2
def prod {α β:Type}(r:Rep α) (s:Rep β):Rep (α×β) where
 sz:=r.sz+s.sz
 is φ h F cs x:= ∃a b A B,cs=a++b∧r.is φ h A a x.1∧s.is φ h B b x.2∧(∀i,A i→B i→False)∧(∀i,F i↔A i∨B i)
 len h:=by obtain ⟨a,b,A,B,rfl,ha,hb,_⟩:=h;rw [cK,r.len ha,s.len hb]
 mono hs h:=by obtain ⟨a,b,A,B,e,ha,hb,g⟩:=h;exact ⟨a,b,A,B,e,r.mono hs ha,s.mono hs hb,g⟩
 loc hl h:=by
  obtain ⟨a,b,A,B,e,ha,hb,g,gg⟩:=h;exact ⟨a,b,A,B,e,r.loc (fun i hi=>hl i ((gg i).2 (.inl hi))) ha,s.loc (fun i hi=>hl i ((gg i).2 (.inr hi))) hb,g,gg⟩
 lt h i hi:=by
  obtain ⟨a,b,A,B,e,ha,hb,g,gg⟩:=h;rcases (gg i).1 hi with g | g
  ·exact r.lt ha i g
  ·exact s.lt hb i g
 plain h v hv:=by
  obtain ⟨a,b,A,B,rfl,ha,hb,_⟩:=h;rcases List.mem_append.1 hv with g | g
  ·exact r.plain ha v g
  ·exact s.plain hb v g
def via {α β:Type}(r:Rep α) (f:β→α):Rep β where
 sz:=r.sz
 is φ h F cs x:=r.is φ h F cs (f x)
 len h:=r.len h
 mono hs h:=r.mono hs h
 loc hl h:=r.loc hl h
 lt h:=r.lt h
 plain h:=r.plain h
def PM (sz:Nat) (h:AE) (p:Option Addr) (c:Nat):Prop:= ∀b off s,p=some ⟨b,off,s⟩→off=0∧ ∀arr ty f,h[b]? =some (.cells arr ty f)→arr.size=c *sz
def row {α:Type}(ty:TypeId) (r:Ro α):Rep (List α) where
 sz:=1
 is φ h F cs l:= ∃p n c vs,cs= [.slice p n c] ∧l.length=n∧c≤maxLen∧PM r.sz h p c∧Own r.sz ty h p n c vs∧r.All φ vs l∧(∀i,F i↔i∈blk p)
 len h:=by obtain ⟨p,n,c,vs,rfl,_⟩:=h;rfl
 mono hs h:=by obtain ⟨p,n,c,vs,e,h1,h2,hf,h3,h4,h5⟩:=h;exact ⟨p,n,c,vs,e,h1,h2,hf,h3,h4.mono hs,h5⟩
 loc hl h:=by
  obtain ⟨p,n,c,vs,e,h1,h2,hf,h3,h4,h5⟩:=h;refine ⟨p,n,c,vs,e,h1,h2,?_,?_,h4,h5⟩
  ·intro b off s hp;obtain ⟨g1,g2⟩:=hf b off s hp;refine ⟨g1,fun arr ty f harr=>g2 arr ty f ?_⟩;rw [←hl b ((h5 b).2 (by rw [hp];simp [blk]))];exact harr
  ·rcases h3 with h3 | ⟨b,off,arr,rfl,hb,g⟩
   ·exact .inl h3
   ·exact .inr ⟨b,off,arr,rfl,by rw [hl b ((h5 b).2 (by simp [blk]))];exact hb,g⟩
 lt h i hi:=by
  obtain ⟨p,n,c,vs,e,h1,h2,hf,h3,h4,h5⟩:=h;exact h3.old i ((h5 i).1 hi)
 plain h v hv:=by obtain ⟨p,n,c,vs,rfl,_⟩:=h;simp at hv;subst hv;rfl
def raw (ty:TypeId):Rep (List Value) where
 sz:=1
 is _ h F cs vs:= ∃b,cs= [.pointer (some ⟨b,0,none⟩)] ∧h[b]? =some (.cells vs.toArray ty (0,0))∧(∀i,F i↔i=b)
 len h:=by obtain ⟨b,rfl,_⟩:=h;rfl
 mono _ h:=h
 loc hl h:=by obtain ⟨b,e,hb,hF⟩:=h;exact ⟨b,e,by rw [hl b ((hF b).2 rfl)];exact hb,hF⟩
 lt h i hi:=by obtain ⟨b,e,hb,hF⟩:=h;rw [(hF i).1 hi];exact A8 hb
 plain h v hv:=by obtain ⟨b,rfl,_⟩:=h;simp at hv;subst hv;rfl
def obj {α:Type}(ty:TypeId) (R:Rep α):Rep α where
 sz:=1
 is φ h F cs x:= ∃b vs G,cs= [.pointer (some ⟨b,0,none⟩)] ∧h[b]? =some (.cells vs.toArray ty (0,0))∧R.is φ h G vs x∧ ¬G b∧(∀i,F i↔i=b∨G i)
 len h:=by obtain ⟨b,vs,G,rfl,_⟩:=h;rfl
 mono hs h:=by obtain ⟨b,vs,G,e,hb,hR,g⟩:=h;exact ⟨b,vs,G,e,hb,R.mono hs hR,g⟩
 loc hl h:=by
  obtain ⟨b,vs,G,e,hb,hR,g,hF⟩:=h;exact ⟨b,vs,G,e,by rw [hl b ((hF b).2 (.inl rfl))];exact hb,R.loc (fun i hi=>hl i ((hF i).2 (.inr hi))) hR,g,hF⟩
 lt h i hi:=by
  obtain ⟨b,vs,G,e,hb,hR,g,hF⟩:=h;rcases (hF i).1 hi with rfl | g
  ·exact A8 hb
  ·exact R.lt hR i g
 plain h v hv:=by obtain ⟨b,vs,G,rfl,_⟩:=h;simp at hv;subst hv;rfl
end Rep
structure Chk where
 {α:Type}
 R:Rep α
 cs:List Value
 x:α
def Chk.on (φ:AF) (h:AE) (F:F1) (c:Chk):Prop:=c.R.is φ h F c.cs c.x
def StX (φ:AF) (h:AE):List Chk→F1→Prop
 | [],_=>Sub φ (BX h)
 |c::Γ,X=>∃F,c.on φ h F∧(∀k,F k→φ k=none∧ ¬X k)∧StX φ h Γ (fun k=>X k∨F k)
def St (φ:AF) (Γ:List Chk) (h:AE):Prop:=StX φ h Γ fun _=>False
theorem StX.sub {φ:AF}{h:AE}:∀ {Γ:List Chk}{X:F1},StX φ h Γ X→Sub φ (BX h):=by
 intro Γ
 induction Γ with
 |nil=>intro X H;exact H
 |cons c Γ ih=>intro X ⟨F,_,_,H⟩;exact ih H
theorem StX.less {φ:AF}{h:AE}:∀ {Γ:List Chk}{X Y:F1},StX φ h Γ X→(∀k,Y k→X k)→StX φ h Γ Y:=by
 intro Γ
 induction Γ with
 |nil=>intro X Y H _;exact H
 |cons c Γ ih=>intro X Y ⟨F,h1,h2,H⟩ hY;exact ⟨F,h1,fun k hk=>⟨(h2 k hk).1,fun g=>(h2 k hk).2 (hY k g)⟩,ih H fun k hk=>hk.imp (hY k) id⟩
theorem StX.more {φ:AF}{h:AE}:∀ {Γ:List Chk}{X Y:F1},StX φ h Γ X→(∀k,Y k→h.size≤k∨X k∨φ k≠none)→StX φ h Γ Y:=by
 intro Γ
 induction Γ with
 |nil=>intro X Y H _;exact H
 |cons c Γ ih=>
  intro X Y ⟨F,h1,h2,H⟩ hY;refine ⟨F,h1,fun k hk=>⟨(h2 k hk).1,fun g=> ?_⟩,ih H fun k hk=> ?_⟩
  ·rcases hY k g with g | g | g
   ·have:=c.R.lt h1 k hk;omega
   ·exact (h2 k hk).2 g
   ·exact g (h2 k hk).1
  ·rcases hk with hk | hk
   ·rcases hY k hk with g | g | g
    ·exact .inl g
    ·exact .inr (.inl (.inl g))
    ·exact .inr (.inr g)
   ·exact .inr (.inl (.inr hk))
theorem StX.heap {φ:AF}{h h':AE}:∀ {Γ:List Chk}{X:F1},StX φ h Γ X→(∀k,k<h.size→ ¬X k→h'[k]? =h[k]?)→Sub φ (BX h')→StX φ h' Γ X:=by
 intro Γ
 induction Γ with
 |nil=>intro X H _ hs;exact hs
 |cons c Γ ih=>
  intro X ⟨F,h1,h2,H⟩ hh hs;exact ⟨F,c.R.loc (fun i hi=>hh i (c.R.lt h1 i hi) (h2 i hi).2) h1,h2,ih H (fun k hk hX=>hh k hk fun g=>hX (.inl g)) hs⟩
theorem StX.grow {φ ψ:AF}{h:AE}:∀ {Γ:List Chk}{X:F1},StX φ h Γ X→Sub φ ψ→Sub ψ (BX h)→(∀k,ψ k≠none→φ k=none→X k)→StX ψ h Γ X:=by
 intro Γ
 induction Γ with
 |nil=>intro X H _ hs _;exact hs
 |cons c Γ ih=>
  intro X ⟨F,h1,h2,H⟩ hs hs' hX;refine ⟨F,c.R.mono hs h1,fun k hk=>⟨?_,(h2 k hk).2⟩,ih H hs hs' fun k hk hn=>.inl (hX k hk hn)⟩;cases hψ:ψ k with
  |none=>rfl
  |some o=>exact ((h2 k hk).2 (hX k (by rw [hψ];simp) (h2 k hk).1)).elim
theorem St.sub {φ:AF}{Γ:List Chk}{h:AE}(H:St φ Γ h):Sub φ (BX h):=StX.sub H
theorem StX.swap {φ:AF}{h:AE}{a b:Chk}{Γ:List Chk}{X:F1}(H:StX φ h (a::b::Γ) X):StX φ h (b::a::Γ) X:=by
 obtain ⟨A,a1,a2,B,b1,b2,H⟩:=H;refine ⟨B,b1,fun k hk=>⟨(b2 k hk).1,fun g=>(b2 k hk).2 (.inl g)⟩,A,a1,fun k hk=>⟨(a2 k hk).1,fun g=> ?_⟩,H.less fun k hk=> ?_⟩
 ·rcases g with g | g
  ·exact (a2 k hk).2 g
  ·exact (b2 k g).2 (.inr hk)
 ·rcases hk with (hk | hk)|hk
  ·exact .inl (.inl hk)
  ·exact .inr hk
  ·exact .inl (.inr hk)
theorem StX.perm {φ:AF}{h:AE}{Γ Δ:List Chk}(p:Γ.Perm Δ):∀ {X:F1},StX φ h Γ X→StX φ h Δ X:=by
 induction p with
 |nil=>intro X H;exact H
 |cons c _ ih=>intro X ⟨F,h1,h2,H⟩;exact ⟨F,h1,h2,ih H⟩
 |swap a b l=>intro X H;exact H.swap
 |trans _ _ ih1 ih2=>intro X H;exact ih2 (ih1 H)
theorem StX.tail {φ:AF}{h:AE}{c:Chk}{Γ:List Chk}{X:F1}(H:StX φ h (c::Γ) X):StX φ h Γ X:=by
 obtain ⟨F,_,_,H⟩:=H;exact H.less fun k hk=>.inl hk
theorem St.tail {φ:AF}{h:AE}{c:Chk}{Γ:List Chk}(H:St φ (c::Γ) h):St φ Γ h:=StX.tail H
theorem St.perm {φ:AF}{h:AE}{Γ Δ:List Chk}(H:St φ Γ h) (p:Γ.Perm Δ):St φ Δ h:=StX.perm p H
def Lb (i:Nat) (Γ:List Chk):List Chk:=match Γ[i]? with
 |some c=>c::Γ.eraseIdx i
 |none=>Γ
theorem BT:∀(i:Nat) (Γ:List Chk),Γ.Perm (Lb i Γ):=by
 intro i
 induction i with
 |zero=>intro Γ;cases Γ<;>exact eN _
 |succ i ih=>
  intro Γ;cases Γ with
  |nil=>exact eN _
  |cons a Γ=>
   unfold Lb;simp only [eG,List.eraseIdx_cons_succ]
   have:=ih Γ
   unfold Lb at this;cases hc:Γ[i]? with
   |none=>exact eN _
   |some c=>
    rw [hc]at this;exact (List.Perm.cons a this).trans (fF c a _)
theorem St.at {φ:AF}{h:AE}{Γ:List Chk}(H:St φ Γ h) (i:Nat):St φ (Lb i Γ) h:=H.perm (BT i Γ)
def idx {α:Type}(l:List α) (i:Int):Option α:=if 0≤i then l[i.toNat]? else none
def GO {α:Type}(l:List α) (i:Int) (x:α):Option (List α):=if 0≤i∧i< (l.length:Int) then some (l.set i.toNat x) else none
def app {α:Type}(l m:List α):Option (List α):=if l.length+m.length≤1099512676352 then some (l++m) else none
def cut {α:Type}(l:List α) (a b:Int):Option (List α):=if 0≤a∧a≤b∧b≤(l.length:Int) then some ((l.take b.toNat).drop a.toNat) else none
inductive AT (σ β:Type) where
 |next (s:σ)
 |done (b:β)
def FB {σ β:Type}(f:σ→Option (AT σ β)):Nat→σ→Option β
 | 0,_=>none
 |n+1,s=>match f s with
  |none=>none
  |some (.done b)=>some b
  |some (.next s')=>FB f n s'
theorem Gu {σ β:Type}{f:σ→Option (AT σ β)}{b:β}:∀ {n m:Nat}{s:σ},FB f n s=some b→n≤m→FB f m s=some b:=by
 intro n
 induction n with
 |zero=>intro m s h;cases h
 |succ n ih=>
  intro m s h hm;obtain ⟨m,rfl⟩:∃k,m=k+1:=⟨m - 1,by omega⟩;simp only [FB]at h ⊢;cases hf:f s with
  |none=>rw [hf]at h;cases h
  |some e=>
   rw [hf]at h;cases e with
   |done b'=>exact h
   |next s'=>exact ih h (by omega)
open Classical in
noncomputable def Jh {σ β:Type}(s:σ) (f:σ→Option (AT σ β)):Option β:=if h:∃n b,FB f n s=some b then FB f h.choose s else none
noncomputable def loop {σ β:Type}(s:σ) (f:σ→Option (AT σ β)):Option β:=match FB f 4096 s with
 |some b=>some b
 |none=>Jh s f
theorem KD {σ β:Type}{f:σ→Option (AT σ β)}{s:σ}{b:β}:Jh s f=some b↔∃n,FB f n s=some b:=by
 unfold Jh;constructor
 ·intro h;split at h
  ·exact ⟨_,h⟩
  ·cases h
 ·rintro ⟨n,h⟩;have hx:∃n b,FB f n s=some b:=⟨n,b,h⟩;rw [dif_pos hx];obtain ⟨b',hb'⟩:=hx.choose_spec;rw [hb'];rcases Nat.le_total n hx.choose with g | g
  ·rw [←Gu h g,hb']
  ·rw [←h,Gu hb' g]
theorem Cx {σ β:Type}{f:σ→Option (AT σ β)}{s:σ}{b:β}:loop s f=some b↔∃n,FB f n s=some b:=by
 unfold loop;split
 ·rename_i b' h'
  constructor
  ·rintro h;exact ⟨4096,by rw [h',h]⟩
  ·rintro ⟨n,h⟩;rcases Nat.le_total n 4096 with g | g
   ·rw [←Gu h g,h']
   ·rw [←h,Gu h' g]
 ·exact KD
theorem Ji {σ β:Type}(s:σ) (f:σ→Option (AT σ β)):loop s f=(f s).bind fun e=>match e with
 |.done b=>some b
 |.next s'=>loop s' f:=by
 apply Option.ext;intro b;constructor
 ·intro h;obtain ⟨n,hn⟩:=Cx.1 h;cases n with
  |zero=>cases hn
  |succ n=>
   simp only [FB]at hn;cases hf:f s with
   |none=>rw [hf]at hn;cases hn
   |some e=>
    rw [hf]at hn;cases e with
    |done b'=>exact hn
    |next s'=>exact Cx.2 ⟨n,hn⟩
 ·intro h;cases hf:f s with
  |none=>rw [hf]at h;cases h
  |some e=>
   rw [hf]at h;cases e with
   |done b'=>exact Cx.2 ⟨1,by simp only [FB,hf];exact h⟩
   |next s'=>
    obtain ⟨n,hn⟩:=Cx.1 h;exact Cx.2 ⟨n+1,by simp only [FB,hf];exact hn⟩
def Fz {σ β:Type}(f:Int→σ→Option (AT σ β)):Nat→Int→σ→Option (AT σ β)
 | 0,_,s=>some (.next s)
 |n+1,i,s=>(f i s).bind fun e=>match e with
  |.next s'=>Fz f n (i+1) s'
  |.done b=>some (.done b)
def CV {σ β:Type}(i e:Int) (s:σ) (f:Int→σ→Option (AT σ β)):Option (AT σ β):=if 0≤i∧e≤9223372036854775807 then Fz f (e - i).toNat i s else none
def HG {σ:Type}(f:Int→σ→Option σ):Nat→Int→σ→Option σ
 | 0,_,s=>some s
 |n+1,i,s=>(f i s).bind fun s'=>HG f n (i+1) s'
def Fe {σ:Type}(i e:Int) (s:σ) (f:Int→σ→Option σ):Option σ:=if 0≤i∧e≤9223372036854775807 then HG f (e - i).toNat i s else none
theorem Ea {α:Type}{l:List α}{i:Int}{x:α}(h:idx l i=some x):0≤i∧i< (l.length:Int)∧l[i.toNat]? =some x:=by
 unfold idx at h;split at h
 ·rename_i h0
  have:i.toNat<l.length:=by
   rcases cA i.toNat l.length with g | g
   ·exact g
   ·rw [bT g]at h;cases h
  exact ⟨h0,by omega,h⟩
 ·cases h
theorem GP {α:Type}{l m k:List α}(h:app l m=some k):l.length+m.length≤1099512676352∧k=l++m:=by
 unfold app at h;split at h
 ·rename_i g;exact ⟨g,(Option.some.inj h).symm⟩
 ·cases h
theorem FI {α:Type}{l m:List α}{i:Int}{x:α}(h:GO l i x=some m):0≤i∧i< (l.length:Int)∧m=l.set i.toNat x:=by
 unfold GO at h;split at h
 ·rename_i g;exact ⟨g.1,g.2,(Option.some.inj h).symm⟩
 ·cases h
theorem Mv {α:Type}{l m:List α}{a b:Int}(h:cut l a b=some m):0≤a∧a≤b∧b≤(l.length:Int)∧m=(l.take b.toNat).drop a.toNat:=by
 unfold cut at h;split at h
 ·rename_i g;exact ⟨g.1,g.2.1,g.2.2,(Option.some.inj h).symm⟩
 ·cases h
theorem Ro.SliceIs.get {α:Type}{r:Ro α}{φ:AF}{t:Slc}{l:List α}{i:Int}{x:α}(H:Ro.SliceIs r φ t l) (hx:idx l i=some x):
 ∃a cs,t.1=some a∧(0≤i∧i< (t.2.1:Nat))∧r.is φ cs x∧ ∀j v,cs[j]? =some v→GN φ (a.add (i.toNat *r.sz+j))=some v:=by
 obtain ⟨h0,h1,hx⟩:=Ea hx;obtain ⟨e,_,_,hn,vs,ha,hc⟩:=H;obtain ⟨cs,hr,hcs⟩:=ha.at hx;cases hp:t.1 with
 |none=>rw [hn hp]at hx;simp at hx
 |some a=>
  refine ⟨a,cs,rfl,⟨h0,by omega⟩,hr,fun j v hv=> ?_⟩;obtain ⟨a',ha',hcell⟩:=hc _ v (hcs j v hv);rw [hp]at ha';cases ha';exact hcell
theorem Ro.SliceIs.nil {α:Type}(r:Ro α) (φ:AF):Ro.SliceIs r φ (none,0,0) []:=⟨rfl,dS _,Nat.zero_le _,fun _=>rfl,[],.nil,fun i v hv=>by simp at hv⟩
theorem Ro.SliceIs.length {α:Type}{r:Ro α}{φ:AF}{t:Slc}{l:List α}(H:Ro.SliceIs r φ t l):t.2.1=l.length:=H.1.symm
theorem Ro.SliceIs.cut {α:Type}{r:Ro α}{φ:AF}{t:Slc}{l m:List α}{a b:Int}{sz:Nat}(H:Ro.SliceIs r φ t l) (hm:cut l a b=some m) (hsz:r.sz=sz):
 (0≤a∧a≤b∧b≤(t.2.2:Nat))∧Ro.SliceIs r φ ((if t.2.2=a.toNat then t.1 else eT (fun x=>eD x (a.toNat *sz)) t.1),b.toNat - a.toNat,t.2.2 - a.toNat) m:=by
 obtain ⟨h0,h1,h2,rfl⟩:=Mv hm;obtain ⟨e,hc,hm,hn,vs,ha,hcs⟩:=H;subst hsz;refine ⟨⟨h0,h1,by omega⟩,?_,?_,?_,?_,(vs.take (b.toNat *r.sz)).drop (a.toNat *r.sz),(ha.take _).drop _,?_⟩
 ·simp only [List.length_drop,List.length_take];omega
 ·dsimp only;omega
 ·dsimp only;omega
 ·intro h;dsimp only at h;cases hp:t.1 with
  |none=>rw [hn hp];simp
  |some x=>
   rw [hp]at h;split at h<;>cases h
 ·intro i v hv;rw [List.getElem?_drop,List.getElem?_take]at hv;split at hv
  ·rename_i hlt
   obtain ⟨x,hx,hcell⟩:=hcs _ v hv;rw [hx];dsimp only;split
   ·rename_i hca
    have hl:=ha.length
    have:vs[a.toNat *r.sz+i]? =none:=by
     rw [bT];rw [hl]
     have:l.length *r.sz≤a.toNat *r.sz:=cV _ (by omega)
     omega
    rw [this]at hv;cases hv
   ·exact ⟨_,rfl,by rw [Ac];exact hcell⟩
  ·cases hv
section
variable {φ:AF}{h:AE}{Γ:List Chk}{X:F1}
theorem StX.ro {α:Type}{r:Ro α}{cs:List Value}{x:α}(H:StX φ h (⟨Rep.ro r,cs,x⟩::Γ) X):r.is φ cs x∧StX φ h Γ X:=by
 obtain ⟨F,h1,_,H⟩:=H;exact ⟨h1.2,H.less fun k hk=>.inl hk⟩
theorem St.ro {α:Type}{r:Ro α}{cs:List Value}{x:α}(H:St φ (⟨Rep.ro r,cs,x⟩::Γ) h):r.is φ cs x∧St φ Γ h:=StX.ro H
theorem St.unro {α:Type}{r:Ro α}{cs:List Value}{x:α}(H:St φ Γ h) (hr:r.is φ cs x):St φ (⟨Rep.ro r,cs,x⟩::Γ) h:=
 ⟨fun _=>False,⟨fun _ h=>h,hr⟩,fun _ hk=>hk.elim,H.less fun _ hk=>hk.elim id id⟩
theorem St.pair {α β:Type}{R:Rep α}{S:Rep β}{cs:List Value}{x:α×β}(H:St φ (⟨Rep.prod R S,cs,x⟩::Γ) h):∃a b,cs=a++b∧a.length=R.sz∧St φ (⟨R,a,x.1⟩::⟨S,b,x.2⟩::Γ) h:=by
 obtain ⟨F,⟨a,b,A,B,rfl,ha,hb,hd,hF⟩,h2,H⟩:=H;refine ⟨a,b,rfl,R.len ha,A,ha,fun k hk=>h2 k ((hF k).2 (.inl hk)),B,hb,fun k hk=>⟨(h2 k ((hF k).2 (.inr hk))).1,fun g=> ?_⟩,H.less fun k hk=> ?_⟩
 ·rcases g with g | g
  ·exact g
  ·exact hd k g hk
 ·rcases hk with (hk | hk)|hk
  ·exact hk.elim
  ·exact .inr ((hF k).2 (.inl hk))
  ·exact .inr ((hF k).2 (.inr hk))
theorem St.unpair {α β:Type}{R:Rep α}{S:Rep β}{a b:List Value}{x:α}{y:β}(H:St φ (⟨R,a,x⟩::⟨S,b,y⟩::Γ) h):St φ (⟨Rep.prod R S,a++b,(x,y)⟩::Γ) h:=by
 obtain ⟨A,ha,hA,B,hb,hB,H⟩:=H;refine ⟨fun k=>A k∨B k,⟨a,b,A,B,rfl,ha,hb,fun i hi hj=>(hB i hj).2 (.inr hi),fun _=>eZ⟩,fun k hk=> ?_,H.less fun k hk=> ?_⟩
 ·rcases hk with hk | hk
  ·exact hA k hk
  ·exact ⟨(hB k hk).1,fun g=>g⟩
 ·rcases hk with hk | hk | hk
  ·exact hk.elim
  ·exact .inl (.inr hk)
  ·exact .inr hk
theorem St.open {α:Type}{ty:TypeId}{R:Rep α}{cs:List Value}{x:α}(H:St φ (⟨Rep.obj ty R,cs,x⟩::Γ) h):
 ∃b vs,cs= [.pointer (some ⟨b,0,none⟩)] ∧vs.length=R.sz∧St φ (⟨Rep.raw ty,[.pointer (some ⟨b,0,none⟩)],vs⟩::⟨R,vs,x⟩::Γ) h:=by
 obtain ⟨F,⟨b,vs,G,rfl,hb,hR,hG,hF⟩,h2,H⟩:=H;refine ⟨b,vs,rfl,R.len hR,fun i=>i=b,⟨b,rfl,hb,fun _=>eZ⟩,fun k hk=>h2 k ((hF k).2 (.inl hk)),G,hR,fun k hk=>⟨(h2 k ((hF k).2 (.inr hk))).1,fun g=> ?_⟩,H.less fun k hk=> ?_⟩
 ·rcases g with g | g
  ·exact g
  ·subst g;exact hG hk
 ·rcases hk with (hk | hk)|hk
  ·exact hk.elim
  ·exact .inr ((hF k).2 (.inl hk))
  ·exact .inr ((hF k).2 (.inr hk))
theorem St.shut {α:Type}{ty:TypeId}{R:Rep α}{cs vs:List Value}{x:α}(H:St φ (⟨Rep.raw ty,cs,vs⟩::⟨R,vs,x⟩::Γ) h):St φ (⟨Rep.obj ty R,cs,x⟩::Γ) h:=by
 obtain ⟨A,⟨b,rfl,hb,hA'⟩,hA,B,hR,hB,H⟩:=H;refine ⟨fun k=>k=b∨B k,⟨b,vs,B,rfl,hb,hR,fun hk=>(hB b hk).2 (.inr ((hA' b).2 rfl)),fun _=>eZ⟩,fun k hk=> ?_,H.less fun k hk=> ?_⟩
 ·rcases hk with hk | hk
  ·exact hA k ((hA' k).2 hk)
  ·exact ⟨(hB k hk).1,fun g=>g⟩
 ·rcases hk with hk | hk | hk
  ·exact hk.elim
  ·exact .inl (.inr ((hA' k).2 hk))
  ·exact .inr hk
theorem St.new {ty:TypeId}(vs:List Value) (H:St φ Γ h):St φ (⟨Rep.raw ty,[.pointer (some ⟨h.size,0,none⟩)],vs⟩::Γ) (h.push (.cells vs.toArray ty (0,0))):=by
 have hs:=H.sub;refine ⟨fun i=>i=h.size,⟨h.size,rfl,by rw [bO,if_pos rfl],fun _=>eZ⟩,fun k hk=>⟨?_,fun g=>g⟩,?_⟩
 ·subst hk;cases hφ:φ h.size with
  |none=>rfl
  |some o=>have:=A8 (hs _ _ hφ);omega
 ·refine StX.heap (StX.more H fun k hk=> ?_) (fun k hk _=>by rw [bO];simp;omega) fun i o ho=> ?_
  ·rcases hk with hk | hk
   ·exact hk.elim
   ·left;omega
  ·have hlt:=A8 (hs i o ho);show (h.push _)[i]? =some o;rw [bO,if_neg (by omega)];exact hs i o ho
theorem St.nil {α:Type}(ty:TypeId) (r:Ro α) (H:St φ Γ h):St φ (⟨Rep.row ty r,[.slice none 0 0],[]⟩::Γ) h:=
 ⟨fun _=>False,⟨none,0,0,[],rfl,rfl,Nat.zero_le _,(fun _ _ _ h=>by cases h),.inl ⟨rfl,rfl,rfl,rfl⟩,.nil,fun i=>by simp [blk]⟩,fun _ hk=>hk.elim,H.less fun _ hk=>hk.elim id id⟩
theorem St.lit {α:Type}{ty:TypeId}{r:Ro α}{b n:Nat}{vs:List Value}{l:List α}(H:St φ (⟨Rep.raw ty,[.pointer (some ⟨b,0,none⟩)],vs⟩::Γ) h) (ha:r.All φ vs l) (hn:l.length=n) (hb:n≤maxLen):
 St φ (⟨Rep.row ty r,[.slice (some ⟨b,0,none⟩) n n],l⟩::Γ) h:=by
 obtain ⟨F,⟨b',e,hcell,hF⟩,h2,H⟩:=H;cases e;refine ⟨F,⟨_,n,n,vs,rfl,hn,hb,(fun b' off s e=>by cases e;exact ⟨rfl,fun arr ty f harr=>by rw [hcell]at harr;cases harr;simp [ha.length,hn]⟩),.inr ⟨b,0,vs.toArray,rfl,hcell,by rw [ha.length,hn],dS _,by simp [ha.length,hn],fun i v hv=>by simpa using hv⟩,ha,fun i=>by rw [hF];simp [blk]⟩,h2,H⟩
def Frz {α:Type}(R:Rep α) (r:Ro α):Prop:= ∀ {φ ψ:AF}{h:AE}{F:F1}{cs:List Value}{x:α},R.is φ h F cs x→Sub φ ψ→(∀i,F i→ψ i=h[i]?)→r.is ψ cs x
theorem St.freeze {α:Type}{R:Rep α}{r:Ro α}{cs:List Value}{x:α}(hz:Frz R r) (H:St φ (⟨R,cs,x⟩::Γ) h):∃ψ,Sub φ ψ∧r.is ψ cs x∧St ψ Γ h:=by
 classical
 obtain ⟨F,h1,h2,H⟩:=H;have hs:=H.sub;have le:Sub φ (fun i=>if F i then h[i]? else φ i):=fun i o ho=>by
  show (if F i then h[i]? else φ i)=some o;rw [if_neg]
  ·exact ho
  ·intro hF;have e:=(h2 i hF).1;rw [e]at ho;cases ho
 refine ⟨fun i=>if F i then h[i]? else φ i,le,hz h1 le fun i hi=>if_pos hi,?_⟩;refine StX.less (StX.grow H le (fun i o ho=> ?_) fun k hk hn=> ?_) fun k hk=>hk.elim
 ·split at ho
  ·exact ho
  ·exact hs i o ho
 ·split at hk
  ·exact .inr (by assumption)
  ·exact absurd hn hk
theorem Mw {α:Type}(r:Ro α):Frz (Rep.ro r) r:=fun h hs _=>r.mono hs h.2
theorem HX {ψ:AF}{p:Option Addr}{vs:List Value}(hc:CE h p vs) (hψ:∀i,i∈blk p→ψ i=h[i]?):EC ψ p vs:=fun i v hv=>by
 obtain ⟨a,rfl,hcell⟩:=hc i v hv;refine ⟨a,rfl,?_⟩;have e:=hψ a.block (by simp [blk]);unfold GN;rw [JJ,e]
 have:GN (BX h) (a.add i)=some v:=hcell
 unfold GN at this;rw [JJ]at this;exact this
theorem Nw {α:Type}(ty:TypeId) (r:Ro α):Frz (Rep.row ty r) (Ro.list r):=by
 rintro φ ψ h F cs l ⟨p,n,c,vs,rfl,hn,hc,hfu,ho,ha,hF⟩ hsub hψ;refine ⟨(p,n,c),rfl,hn,ho.cap,hc,fun hp=> ?_,vs,ha.mono hsub,HX ho.cells fun i hi=>hψ i ((hF i).2 hi)⟩;rcases ho with ⟨_,h0,_,_⟩|⟨b,off,arr,rfl,_⟩
 ·exact cB (by omega)
 ·cases hp
theorem Nx {α:Type}{ty:TypeId}{R:Rep α}{r:Ro α}(hr:Frz R r):Frz (Rep.obj ty R) (Ro.via (Ro.ptr r) some):=by
 rintro φ ψ h F cs x ⟨b,vs,G,rfl,hb,hR,hG,hF⟩ hsub hψ;have hc:CE h (some ⟨b,0,none⟩) vs:=fun i v hv=>by
  refine ⟨⟨b,0,none⟩,rfl,?_⟩;rw [Fc,Du (c:=vs.toArray) (t:=ty) (f:=(0,0)) hb rfl];simpa using hv
 have hk:∀i,i∈blk (some (⟨b,0,none⟩:Addr))→ψ i=h[i]? :=fun i hi=>by
  simp [blk]at hi;rw [hi];exact hψ b ((hF b).2 (.inl rfl))
 exact ⟨⟨b,0,none⟩,vs,rfl,hr hR hsub fun i hi=>hψ i ((hF i).2 (.inr hi)),HX hc hk⟩
theorem St.cell {ty:TypeId}{b j:Nat}{vs:List Value}{v:Value}(H:St φ (⟨Rep.raw ty,[.pointer (some ⟨b,0,none⟩)],vs⟩::Γ) h) (hv:vs[j]? =some v):B4 h ⟨b,j,none⟩=some v:=by
 obtain ⟨F,⟨b',e,hb,hF⟩,h2,H⟩:=H;cases e;rw [Du (c:=vs.toArray) (t:=ty) (f:=(0,0)) hb rfl];simpa using hv
theorem St.cells {ty:TypeId}{b:Nat}{vs:List Value}(H:St φ (⟨Rep.raw ty,[.pointer (some ⟨b,0,none⟩)],vs⟩::Γ) h):CE h (some ⟨b,0,none⟩) vs:=fun i v hv=>⟨_,rfl,by rw [Fc,dL];exact H.cell hv⟩
theorem St.put {ty:TypeId}{b j:Nat}{vs:List Value}(v:Value) (H:St φ (⟨Rep.raw ty,[.pointer (some ⟨b,0,none⟩)],vs⟩::Γ) h) (hj:j<vs.length):
 (B4 h ⟨b,j,none⟩).isSome=true∧EQ h ⟨b,j,none⟩=false∧St φ (⟨Rep.raw ty,[.pointer (some ⟨b,0,none⟩)],vs.set j v⟩::Γ) (Bm h ⟨b,j,none⟩ v):=by
 obtain ⟨F,⟨b',e,hb,hF⟩,h2,H⟩:=H;cases e;refine ⟨?_,?_,F,⟨b,rfl,?_,hF⟩,h2,?_⟩
 ·rw [Du (c:=vs.toArray) (t:=ty) (f:=(0,0)) hb rfl];simp;omega
 ·unfold EQ DK dR;simp [hb]
 ·rw [E0 hb];simp
 ·have hs:=H.sub;have hne:∀k,¬F k→(Bm h ⟨b,j,none⟩ v)[k]? =h[k]? :=fun k hk=>Ez fun e=>hk ((hF k).2 e);refine StX.heap H (fun k _ hX=>hne k fun g=>hX (.inr g)) fun i o ho=> ?_;show (Bm h _ v)[i]? =some o;rw [hne i fun g=>by rw [(h2 i g).1]at ho;cases ho];exact hs i o ho
theorem St.get {α:Type}{ty:TypeId}{r:Ro α}{t:Slc}{l:List α}{i:Int}{x:α}(H:St φ (⟨Rep.row ty r,[.slice t.1 t.2.1 t.2.2],l⟩::Γ) h) (hx:idx l i=some x):
 ∃a cs,t.1=some a∧(0≤i∧i< (t.2.1:Nat))∧r.is φ cs x∧ ∀j v,cs[j]? =some v→B4 h (a.add (i.toNat *r.sz+j))=some v:=by
 obtain ⟨F,⟨p,n,c,vs,e,hn,hc,hfu,ho,ha,hF⟩,h2,H⟩:=H;have hn:l.length=n:=hn;simp only [List.cons.injEq,Value.slice.injEq,and_true]at e;obtain ⟨e1,e2,e3⟩:=e;obtain ⟨h0,h1,hx⟩:=Ea hx;obtain ⟨cs,hr,hcs⟩:=ha.at hx;have hcells:=ho.cells;rw [e1];cases p with
 |none=>
  rcases ho with ⟨_,hn0,_,_⟩|⟨b,off,arr,hp,_⟩
  ·omega
  ·cases hp
 |some a=>
  refine ⟨a,cs,rfl,⟨h0,by rw [e2];omega⟩,hr,fun j v hv=> ?_⟩;obtain ⟨a',ha',hcell⟩:=hcells _ v (hcs j v hv);cases ha';exact hcell
theorem St.rowLen {α:Type}{ty:TypeId}{r:Ro α}{t:Slc}{l:List α}(H:St φ (⟨Rep.row ty r,[.slice t.1 t.2.1 t.2.2],l⟩::Γ) h):t.2.1=l.length:=by
 obtain ⟨F,⟨p,n,c,vs,e,hn,hc,hfu,ho,ha,hF⟩,h2,H⟩:=H;have hn:l.length=n:=hn;simp only [List.cons.injEq,Value.slice.injEq,and_true]at e;omega
theorem St.rowMax {α:Type}{ty:TypeId}{r:Ro α}{t:Slc}{l:List α}(H:St φ (⟨Rep.row ty r,[.slice t.1 t.2.1 t.2.2],l⟩::Γ) h):l.length≤maxLen:=by
 obtain ⟨F,⟨p,n,c,vs,e,hn,hc,hfu,ho,ha,hF⟩,h2,H⟩:=H
 have:=ho.cap
 have hn:l.length=n:=hn;omega
theorem St.all {α:Type}{ty:TypeId}{r:Ro α}{t:Slc}{l:List α}(H:St φ (⟨Rep.row ty r,[.slice t.1 t.2.1 t.2.2],l⟩::Γ) h):∃vs,r.All φ vs l∧CE h t.1 vs:=by
 obtain ⟨F,⟨p,n,c,vs,e,hn,hc,hfu,ho,ha,hF⟩,h2,H⟩:=H;have hn:l.length=n:=hn;simp only [List.cons.injEq,Value.slice.injEq,and_true]at e;rw [e.1];exact ⟨vs,ha,ho.cells⟩
end
section
variable {P:Program}{Q:Be→AE→Prop}{φ:AF}{h:AE}{Γ:List Chk}
theorem AZ {ty:TypeId}{vs:List Value}{k:Nat→T}(H:St φ Γ h) (hk:∀r h',St φ (⟨Rep.raw ty,[.pointer (some ⟨r,0,none⟩)],vs⟩::Γ) h'→(k r).wp P Q h'):(T.new (.cells vs.toArray ty (0,0)) k).wp P Q h:=
 Ms (hk _ _ (H.new vs))
theorem AN {s:Bb}{a:Addr}{k:s.Ty→T}{x:s.Ty}{v:Value}(hc:B4 h a=some v) (hv:v=s.val x) (H:(k x).wp P Q h):(T.load s a k).wp P Q h:=Hu x (by rw [hc,hv]) H
theorem AA {s:Bb}{ty:TypeId}{b j:Nat}{vs:List Value}{k:s.Ty→T}{x:s.Ty}(H:St φ (⟨Rep.raw ty,[.pointer (some ⟨b,0,none⟩)],vs⟩::Γ) h) (hv:vs[j]? =some (s.val x)) (hk:(k x).wp P Q h):(T.load s ⟨b,j,none⟩ k).wp P Q h:=
 Hu x (H.cell hv) hk
theorem O7 {ty:TypeId}{b j:Nat}{vs:List Value}{v:Value}{k:T}(H:St φ (⟨Rep.raw ty,[.pointer (some ⟨b,0,none⟩)],vs⟩::Γ) h) (hp:Value.plain v=true) (hj:j<vs.length)
 (hk:∀h',St φ (⟨Rep.raw ty,[.pointer (some ⟨b,0,none⟩)],vs.set j v⟩::Γ) h'→k.wp P Q h'):(T.store ⟨b,j,none⟩ v k).wp P Q h:=by
 obtain ⟨h1,h2,h3⟩:=H.put v hj;exact Je hp h1 h2 (hk _ h3)
theorem Mx {α:Type}{ty:TypeId}{r:Ro α}{t:Slc}{l m:List α}{i:Int}{x:α}{v:Value}{k:T}{a:Addr}(H:St φ (⟨Rep.row ty r,[.slice t.1 t.2.1 t.2.2],l⟩::Γ) h) (hm:GO l i x=some m) (hr:r.is φ [v] x) (ha:t.1=some a)
 (hk:∀h',St φ (⟨Rep.row ty r,[.slice t.1 t.2.1 t.2.2],m⟩::Γ) h'→k.wp P Q h'):(T.store (a.add (i.toNat *1)) v k).wp P Q h:=by
 obtain ⟨F,⟨p,n,c,vs,e,hn,hc,hfu,ho,hall,hF⟩,h2,H⟩:=H;have hn:l.length=n:=hn;simp only [List.cons.injEq,Value.slice.injEq,and_true]at e;obtain ⟨e1,e2,e3⟩:=e;obtain ⟨h0,h1,rfl⟩:=FI hm;have hsz:r.sz=1:=(r.len hr).symm;rw [e1]at ha;subst ha;rcases ho with ⟨hp,_⟩|⟨b,off,arr,hp,hb,g1,g2,g3,g4⟩
 ·cases hp
 ·cases hp;rw [hsz]at g1 g3;have hlt:off+i.toNat<arr.size:=by omega
  have hcell:(eD ⟨b,off,none⟩ (i.toNat *1))=⟨b,off+i.toNat,none⟩:=by rw [Fc,Nat.mul_one]
  rw [hcell];have hb1:=E0 (off:=off+i.toNat) (v:=v) hb;refine Je (r.plain hr v (by simp)) ?_ ?_ (hk _ ?_)
  ·rw [Du (c:=arr) (t:=ty) (f:=(0,0)) hb rfl];simp;omega
  ·unfold EQ DK dR;simp [hb]
  ·have hs:=H.sub;have hne:∀k,¬F k→(Bm h ⟨b,off+i.toNat,none⟩ v)[k]? =h[k]? :=fun k hk=>Ez fun e=>hk ((hF k).2 (by simp [blk];exact e));refine ⟨F,⟨some ⟨b,off,none⟩,n,c,vs.set i.toNat v,by rw [e1,e2,e3],by simp;exact hn,hc,(fun b' off' s' e=>by cases e;obtain ⟨q1,q2⟩:=hfu _ _ _ rfl;exact ⟨q1,fun arr' ty' f' harr=>by rw [hb1]at harr;cases harr;rw [dB];exact q2 _ _ _ hb⟩),.inr ⟨b,off,_,rfl,hb1,by simp [hsz];omega,g2,by simp [hsz];omega,fun j u hu=> ?_⟩,?_,hF⟩,h2,StX.heap H (fun k _ hX=>hne k fun g=>hX (.inr g)) fun j o ho=> ?_⟩
   ·rw [fA]at hu;split at hu
    ·rename_i hj
     subst hj;split at hu
     ·cases hu;rw [cC];simp;omega
     ·cases hu
    ·rw [bN (by omega)];exact g4 j u hu
   ·clear hk hb1 hne hm
    have:∀ {vs:List Value} {l:List α},r.All φ vs l→ ∀i:Nat,r.All φ (vs.set i v) (l.set i x):=by
     intro vs l hall
     induction hall with
     |nil=>intro i;simp;exact .nil
     | @cons a b y l hy hb ih=>
      intro i;have hl:a.length=1:=by rw [r.len hy,hsz]
      match a,hl with
      | [w],_=>
       cases i with
       |zero=>exact .cons (a:=[v]) hr hb
       |succ i=>exact .cons (a:=[w]) hy (ih i)
    exact this hall i.toNat
   ·show (Bm h _ v)[j]? =some o;rw [hne j fun g=>by rw [(h2 j g).1]at ho;cases ho];exact hs j o ho
theorem Aa {α:Type}{st xt rt elem:TypeId}{sz:Nat}{r:Ro α}{p xp:Option Addr}{n c m xc:Nat}{l l':List α}{ms:List α}{ws:List Value}{k:Slc→T}(A:G0 P st xt elem sz)
 (H:St φ (⟨Rep.row elem r,[.slice p n c],l⟩::Γ) h) (hsz:r.sz=sz) (hw:CE h xp ws) (ha:r.All φ ws ms) (hm:ms.length=m) (hD:app l ms=some l')
 (hk:∀(t:Slc) h',St φ (⟨Rep.row elem r,[.slice t.1 t.2.1 t.2.2],l'⟩::Γ) h'→(k t).wp P Q h'):
 (T.sem (dU #[st,xt] rt #[.slice p n c,.slice xp m xc]) (.one (.atom .slice)) k).wp P Q h:=by
 obtain ⟨F,⟨p',n',c',vs,e,hn,hc,hfu,ho,hall,hF⟩,h2,H⟩:=H;have hn:l.length=n':=hn;simp only [List.cons.injEq,Value.slice.injEq,and_true]at e;obtain ⟨rfl,rfl,rfl⟩:=e;obtain ⟨hle,rfl⟩:=GP hD;subst hsz;have hs:=H.sub;refine t_sem (K4 A ho hw (by rw [ha.length,hm]) ha.plain (by omega) fun p' c' h' o' k' n' g'=>⟨(p',n+m,c'),rfl,hk _ _ ?_⟩);have hFk:∀k,k<h.size→ ¬F k→h'[k]? =h[k]? :=fun k hk hF'=>k'.2 k hk fun hb=>hF' ((hF k).2 hb);refine ⟨fun i=>i∈blk p',⟨p',n+m,c',vs++ws,rfl,by simp;omega,?_,?_,o',hall.append ha,fun i=>eZ⟩,fun k hk=>⟨?_,fun g=>g⟩,?_⟩
 ·rcases g' with ⟨_,rfl,_⟩|⟨_,g,_⟩
  ·exact hc
  ·exact g
 ·intro b off s e;rcases g' with ⟨rfl,rfl,g⟩|⟨rfl,_,arr,g1,g2⟩
  ·subst e;obtain ⟨q1,q2⟩:=hfu _ _ _ rfl;refine ⟨q1,fun arr ty f harr=> ?_⟩;rcases ho with ⟨hp,_⟩|⟨b',off',arr',hp,hb',_⟩
   ·cases hp
   ·cases hp;obtain ⟨arr2,e1,e2⟩:=g _ _ rfl _ _ hb';rw [e1]at harr;cases harr;rw [e2];exact q2 _ _ _ hb'
  ·cases e;refine ⟨rfl,fun arr' ty f harr=> ?_⟩;rw [g1]at harr;cases harr;exact g2
 ·rcases n' k hk with g | g
  ·exact (h2 k ((hF k).2 g)).1
  ·cases hφ:φ k with
   |none=>rfl
   |some o=>have:=A8 (hs _ _ hφ);omega
 ·have H1:StX φ h Γ (fun k=>F k∨h.size≤k):=StX.more H fun k hk=>by
   rcases hk with hk | hk
   ·exact .inr (.inl (.inr hk))
   ·exact .inl hk
  have H2:StX φ h' Γ (fun k=>F k∨h.size≤k):=StX.heap H1 (fun k hk hX=>hFk k hk fun g=>hX (.inl g)) fun i o ho=>by
   show h'[i]? =some o;rw [hFk i (A8 (hs i o ho)) fun g=>by rw [(h2 i g).1]at ho;cases ho];exact hs i o ho
  refine H2.less fun k hk=> ?_;rcases hk with hk | hk
  ·exact hk.elim
  ·exact (n' k hk).imp (fun g=>(hF k).2 g) id
theorem AM {f:FuncId}{args:List Value}{sh:Sh}{k:sh.Ty→T}{S:Value→AE→Prop}(hc:CallsH P f args h (BL S)) (hk:∀v h',S v h'→ ∃x,v=sh.val x∧(k x).wp P Q h'):(T.call f args sh k).wp P Q h:=
 Nv hc hk
theorem JK {p:Nat→Prop}(h:∃n,p n):∃n,p n∧ ∀m,p m→n≤m:=by
 obtain ⟨n,hn⟩:=h
 induction n using Nat.strongRecOn with
 |ind n ih=>
  by_cases hx:∃m,m<n∧p m
  ·obtain ⟨m,hm,hp⟩:=hx;exact ih m hm hp
  ·refine ⟨n,hn,fun m hm=> ?_⟩;rcases cA m n with g | g
   ·exact absurd ⟨m,g,hm⟩ hx
   ·exact g
def Ob {γ:Type}(ss:List Sh1) (M:Shs.Ty ss→AE→γ→Prop) (g:γ) (Q:Be→AE→Prop) (lf:Be) (h':AE):Prop:=match lf with
 |.out vs=>∃y,Shs.of ss vs=some y∧M y h' g
 |lf=>Q lf h'
theorem Ai {γ:Type}{ss:List Sh1}{x:T}{k:Shs.Ty ss→T}(M:Shs.Ty ss→AE→γ→Prop) {g:γ}(H:x.wp P (Ob ss M g Q) h) (hk:∀y h',M y h' g→(k y).wp P Q h'):(T.join ss x k).wp P Q h:=
 Ns (fun y h'=>M y h' g) (T.wp_mono x (fun lf h' hl=>by cases lf<;>exact hl) H) hk
theorem AP {γ:Type}{ss:List Sh1}{M:Shs.Ty ss→AE→γ→Prop}{g:γ}{vs:List Value}(y:Shs.Ty ss) (hy:Shs.of ss vs=some y) (hM:M y h g):(T.out vs).wp P (Ob ss M g Q) h:=⟨y,hy,hM⟩
theorem My {γ:Type}{ss:List Sh1}{M:Shs.Ty ss→AE→γ→Prop}{g:γ}{v:Value}(H:Q (.ret v) h):Ob ss M g Q (.ret v) h:=H
def HY {γ:Type}(id:Nat) (ss:List Sh1) (M:Shs.Ty ss→AE→γ→Prop) (g:γ) (Q:Be→AE→Prop) (lf:Be) (h':AE):Prop:=match lf with
 |.out vs=>∃y,Shs.of ss vs=some y∧M y h' g
 |.brk id' vs=>bif bV id' id then (∃y,Shs.of ss vs=some y∧M y h' g) else Q (.brk id' vs) h'
 |lf=>Q lf h'
theorem Bc {γ:Type}{id:Nat}{ss:List Sh1}{x:T}{k:Shs.Ty ss→T}(M:Shs.Ty ss→AE→γ→Prop) {g:γ}(H:x.wp P (HY id ss M g Q) h) (hk:∀y h',M y h' g→(k y).wp P Q h'):(T.block id ss x k).wp P Q h:=
 Mu (fun y h'=>M y h' g) (T.wp_mono x (fun lf h' hl=>by cases lf<;>exact hl) H) hk
section
variable {γ:Type}{id:Nat}{ss:List Sh1}{M:Shs.Ty ss→AE→γ→Prop}{g:γ}
theorem Oc {vs:List Value}(y:Shs.Ty ss) (hy:Shs.of ss vs=some y) (hM:M y h g):(T.out vs).wp P (HY id ss M g Q) h:=⟨y,hy,hM⟩
theorem AR {vs:List Value}(y:Shs.Ty ss) (hy:Shs.of ss vs=some y) (hM:M y h g):HY id ss M g Q (.brk id vs) h:=by
 unfold HY
 have:bV id id=true:=by simp
 simp only [this,cond_true];exact ⟨y,hy,hM⟩
theorem Ah {v:Value}(H:Q (.ret v) h):HY id ss M g Q (.ret v) h:=H
end
def ED {σ:Type}(ss:List Sh1) (I:Shs.Ty ss→AE→σ→Prop) (e:Option σ) (Q:Be→AE→Prop) (lf:Be) (h':AE):Prop:=match lf with
 |.out vs=>∃y s,Shs.of ss vs=some y∧e=some s∧I y h' s
 |lf=>Q lf h'
def AT.go {σ β:Type}:AT σ β→Option σ
 |.next s=>some s
 |.done _=>none
theorem Cr {σ β:Type}{ss:List Sh1}{init:List Value}{body:Shs.Ty ss→T}{d:σ→Option (AT σ β)}{s0:σ}{b:β}(hD:loop s0 d=some b) (I:Shs.Ty ss→AE→σ→Prop) (y0:Shs.Ty ss) (h0:Shs.of ss init=some y0) (hi:I y0 h s0)
 (hr:∀y h s e,I y h s→d s=some e→(∀b',e= .done b'→b'=b)→(body y).wp P (ED ss I e.go Q) h):(T.loop ss init body).wp P Q h:=by
 obtain ⟨n0,hn0⟩:=Cx.1 hD
 classical
 let μ:Shs.Ty ss→AE→Nat:=fun y h=>if hx:∃n s,I y h s∧FB d n s=some b then (JK hx).choose else 0
 refine OZ (fun y h=>∃n s,I y h s∧FB d n s=some b) μ y0 h0 ⟨n0,s0,hi,hn0⟩ fun y g hx=> ?_;obtain ⟨⟨s,hI,hn⟩,hmin⟩:=(JK hx).choose_spec;have hμ:μ y g=(JK hx).choose:=dif_pos hx;rw [hμ]
 generalize (JK hx).choose=n at hn hmin
 cases n with
 |zero=>cases hn
 |succ n=>
  simp only [FB]at hn;cases hd:d s with
  |none=>rw [hd]at hn;cases hn
  |some e=>
   rw [hd]at hn;refine T.wp_mono _ (fun lf h' hl=> ?_) (hr y g s e hI hd fun b' hb=>by subst hb;exact Option.some.inj hn);cases lf with
   |out vs=>
    obtain ⟨y',s',hy,he,hI'⟩:=hl;cases e with
    |done b'=>cases he
    |next s''=>
     cases he;have hx':∃n s,I y' h' s∧FB d n s=some b:=⟨n,_,hI',hn⟩;refine L8 y' hy hx' ?_;have h1:μ y' h'=(JK hx').choose:=dif_pos hx';have h2:=(JK hx').choose_spec.2 n ⟨_,hI',hn⟩;omega
   |brk id vs=>exact hl
   |ret v=>exact hl
   |pan c=>exact hl
theorem Al {σ:Type}{ss:List Sh1}{I:Shs.Ty ss→AE→σ→Prop}{e:Option σ}{vs:List Value}(y:Shs.Ty ss) (s:σ) (hy:Shs.of ss vs=some y) (he:e=some s) (hI:I y h s):(T.out vs).wp P (ED ss I e Q) h:=⟨y,s,hy,he,hI⟩
theorem AO {σ:Type}{ss:List Sh1}{I:Shs.Ty ss→AE→σ→Prop}{e:Option σ}{id:Nat}{vs:List Value}(H:Q (.brk id vs) h):ED ss I e Q (.brk id vs) h:=H
theorem Ae {σ:Type}{ss:List Sh1}{I:Shs.Ty ss→AE→σ→Prop}{e:Option σ}{v:Value}(H:Q (.ret v) h):ED ss I e Q (.ret v) h:=H
theorem K6 {σ β:Type}{f:Int→σ→Option (AT σ β)}{e:Int}{r:AT σ β}:∀ {n:Nat}{i:Int}{s:σ},(e - i).toNat=n→Fz f n i s=some r→
 loop (i,s) (fun x=>if x.1<e then (f x.1 x.2).bind fun q=>match q with | .next s'=>some (.next (x.1+1,s'))|.done b=>some (.done (AT.done b)) else some (.done (.next x.2)))=some r:=by
 intro n
 induction n with
 |zero=>
  intro i s hn h;rw [Ji,if_neg (by dsimp only;omega)];exact h
 |succ n ih=>
  intro i s hn h;rw [Ji,if_pos (by dsimp only;omega)];simp only [Fz]at h;dsimp only;cases hf:f i s with
  |none=>rw [hf]at h;cases h
  |some q=>
   rw [hf]at h;cases q with
   |done b=>exact h
   |next s'=>exact ih (by omega) h
theorem Jj {σ β:Type}{ss:List Sh1}{init:List Value}{body:Shs.Ty ss→T}{f:Int→σ→Option (AT σ β)}{i0 e0:Int}{s0:σ}{r:AT σ β}(hD:CV i0 e0 s0 f=some r) (I:Int→Shs.Ty ss→AE→σ→Prop) (y0:Shs.Ty ss) (h0:Shs.of ss init=some y0) (hi:I i0 y0 h s0)
 (hr:∀i y h s e,I i y h s→f i s=some e→i0≤i→i<e0→dK .i64 (i+1)=i+1→(∀b',e= .done b'→r= .done b')→(body y).wp P (ED ss (I (i+1)) e.go Q) h)
 (hx:∀i y h s,I i y h s→e0≤i→r= .next s→(body y).wp P (ED ss (I i) (none:Option σ) Q) h):(T.loop ss init body).wp P Q h:=by
 unfold CV at hD;split at hD
 ·rename_i hg
  have hl:=K6 rfl hD;refine Cr hl (fun y h x=>i0≤x.1∧I x.1 y h x.2) y0 h0 ⟨Int.le_refl _,hi⟩ fun y h x e ⟨hle,hI⟩ he hb=> ?_;by_cases hlt:x.1<e0
  ·rw [if_pos hlt]at he;cases hf:f x.1 x.2 with
   |none=>rw [hf]at he;cases he
   |some q=>
    rw [hf]at he;refine T.wp_mono _ (fun lf h' hl=> ?_) (hr x.1 y h x.2 q hI hf hle hlt (w64 (by omega) (by omega)) fun b' hq=> ?_)
    ·cases lf with
     |out vs=>
      obtain ⟨y',s',hy,hq,hI'⟩:=hl;cases q with
      |done b'=>cases hq
      |next s''=>
       cases hq;cases he;exact ⟨y',_,hy,rfl,by dsimp only;omega,hI'⟩
     |brk id vs=>exact hl
     |ret v=>exact hl
     |pan c=>exact hl
    ·subst hq;cases he;exact (hb _ rfl).symm
  ·rw [if_neg hlt]at he;cases he;refine T.wp_mono _ (fun lf h' hl=> ?_) (hx x.1 y h x.2 hI (by omega) (hb _ rfl).symm);cases lf with
   |out vs=>obtain ⟨y',s',hy,hq,hI'⟩:=hl;cases hq
   |brk id vs=>exact hl
   |ret v=>exact hl
   |pan c=>exact hl
 ·cases hD
theorem MA {σ:Type}{f:Int→σ→Option σ}:∀ {n:Nat}{i:Int}{s r:σ},HG f n i s=some r→Fz (β:=Empty) (fun i s=>(f i s).map AT.next) n i s=some (.next r):=by
 intro n
 induction n with
 |zero=>intro i s r h;simp only [HG]at h;simp only [Fz];cases h;rfl
 |succ n ih=>
  intro i s r h;simp only [HG]at h;simp only [Fz];cases hf:f i s with
  |none=>rw [hf]at h;cases h
  |some s'=>rw [hf]at h;exact ih h
theorem K7 {σ:Type}{ss:List Sh1}{init:List Value}{body:Shs.Ty ss→T}{f:Int→σ→Option σ}{i0 e0:Int}{s0 r:σ}(hD:Fe i0 e0 s0 f=some r) (I:Int→Shs.Ty ss→AE→σ→Prop) (y0:Shs.Ty ss) (h0:Shs.of ss init=some y0) (hi:I i0 y0 h s0)
 (hr:∀i y h s e,I i y h s→f i s=some e→i0≤i→i<e0→dK .i64 (i+1)=i+1→(body y).wp P (ED ss (I (i+1)) (some e) Q) h)
 (hx:∀i y h,I i y h r→e0≤i→(body y).wp P (ED ss (I i) (none:Option σ) Q) h):(T.loop ss init body).wp P Q h:=by
 unfold Fe at hD;split at hD
 ·rename_i hg
  have hD':CV (β:=Empty) i0 e0 s0 (fun i s=>(f i s).map AT.next)=some (.next r):=by
   unfold CV;rw [if_pos hg];exact MA hD
  refine Jj hD' I y0 h0 hi (fun i y h s e hI he h1 h2 hw hb=> ?_) fun i y h s hI he hs=> ?_
  ·cases hf:f i s with
   |none=>rw [hf]at he;cases he
   |some s'=>
    rw [hf]at he;cases he;exact hr i y h s s' hI hf h1 h2 hw
  ·cases hs;exact hx i y h hI he
 ·cases hD
theorem Ca {σ:Type}{id:Nat}{ss:List Sh1}{init:List Value}{body k:Shs.Ty ss→T}{f:Int→σ→Option σ}{i0 e0:Int}{s0 r:σ}(hD:Fe i0 e0 s0 f=some r) (I:Int→Shs.Ty ss→AE→σ→Prop) (y0:Shs.Ty ss) (h0:Shs.of ss init=some y0) (hi:I i0 y0 h s0)
 (hr:∀i y h s e,I i y h s→f i s=some e→i0≤i→i<e0→dK .i64 (i+1)=i+1→(body y).wp P (ED ss (I (i+1)) (some e) (HY id ss (fun y h g=>∃i,I i y h g) r Q)) h)
 (hx:∀i y h,I i y h r→e0≤i→(body y).wp P (ED ss (I i) (none:Option σ) (HY id ss (fun y h g=>∃i,I i y h g) r Q)) h)
 (hk:∀y h',(∃i,I i y h' r)→(k y).wp P Q h'):(T.block id ss (T.loop ss init body) k).wp P Q h:=
 Bc (fun y h g=>∃i,I i y h g) (K7 hD I y0 h0 hi hr hx) hk
theorem BN {σ β:Type}{id:Nat}{ss:List Sh1}{init:List Value}{body k:Shs.Ty ss→T}{f:Int→σ→Option (AT σ β)}{i0 e0:Int}{s0:σ}{r:AT σ β}(hD:CV i0 e0 s0 f=some r) (I:Int→Shs.Ty ss→AE→σ→Prop) (y0:Shs.Ty ss) (h0:Shs.of ss init=some y0) (hi:I i0 y0 h s0)
 (hr:∀i y h s e,I i y h s→f i s=some e→i0≤i→i<e0→dK .i64 (i+1)=i+1→(∀b',e= .done b'→r= .done b')→(body y).wp P (ED ss (I (i+1)) e.go (HY id ss (fun y h g=>∃s,AT.next s=g∧ ∃i,I i y h s) r Q)) h)
 (hx:∀i y h s,I i y h s→e0≤i→r= .next s→(body y).wp P (ED ss (I i) (none:Option σ) (HY id ss (fun y h g=>∃s,AT.next s=g∧ ∃i,I i y h s) r Q)) h)
 (hk:∀y h',(∃s,AT.next s=r∧ ∃i,I i y h' s)→(k y).wp P Q h'):(T.block id ss (T.loop ss init body) k).wp P Q h:=
 Bc (fun y h g=>∃s,AT.next s=g∧ ∃i,I i y h s) (Jj hD I y0 h0 hi hr hx) hk
def need {α:Type}(p:Prop) [Decidable p] (k:Option α):Option α:=if p then k else none
theorem MB {α:Type}{p:Prop}[Decidable p] {k:Option α}{x:α}(h:need p k=some x):p∧k=some x:=by
 unfold need at h;split at h
 ·exact ⟨by assumption,h⟩
 ·cases h
def AT.get {σ:Type}:AT σ σ→σ
 |.next s=>s
 |.done s=>s
theorem AG {γ:Type}{b bD:Bool}{x y:T}{dx dy:Option γ}{g:γ}(hd:cond bD dx dy=some g) (e:b=bD) (hx:bD=true→dx=some g→x.wp P Q h) (hy:bD=false→dy=some g→y.wp P Q h):(cond b x y).wp P Q h:=by
 subst e;cases b
 ·exact hy rfl hd
 ·exact hx rfl hd
theorem Cb {γ:Type}{p pD:Prop}[Decidable p] [Decidable pD] {k:T}{d:Option γ}{g:γ}(hd:need pD d=some g) (e:pD→p) (hk:pD→d=some g→k.wp P Q h):(chk p k).wp P Q h:=by
 obtain ⟨h1,h2⟩:=MB hd;exact Am (e h1) (hk h1 h2)
theorem St.at1 {a b:Chk}(H:St φ (a::b::Γ) h):St φ (b::a::Γ) h:=H.perm (fF b a Γ)
theorem St.at2 {a b c:Chk}(H:St φ (a::b::c::Γ) h):St φ (c::a::b::Γ) h:=H.perm (BT 2 (a::b::c::Γ))
theorem St.at3 {a b c d:Chk}(H:St φ (a::b::c::d::Γ) h):St φ (d::a::b::c::Γ) h:=H.perm (BT 3 (a::b::c::d::Γ))
theorem St.at4 {a b c d e:Chk}(H:St φ (a::b::c::d::e::Γ) h):St φ (e::a::b::c::d::Γ) h:=H.perm (BT 4 (a::b::c::d::e::Γ))
theorem St.at5 {a b c d e f:Chk}(H:St φ (a::b::c::d::e::f::Γ) h):St φ (f::a::b::c::d::e::Γ) h:=H.perm (BT 5 (a::b::c::d::e::f::Γ))
theorem St.at6 {a b c d e f g:Chk}(H:St φ (a::b::c::d::e::f::g::Γ) h):St φ (g::a::b::c::d::e::f::Γ) h:=H.perm (BT 6 (a::b::c::d::e::f::g::Γ))
theorem St.at7 {a b c d e f g i:Chk}(H:St φ (a::b::c::d::e::f::g::i::Γ) h):St φ (i::a::b::c::d::e::f::g::Γ) h:=H.perm (BT 7 (a::b::c::d::e::f::g::i::Γ))
theorem St.at8 {a b c d e f g i j:Chk}(H:St φ (a::b::c::d::e::f::g::i::j::Γ) h):St φ (j::a::b::c::d::e::f::g::i::Γ) h:=H.perm (BT 8 (a::b::c::d::e::f::g::i::j::Γ))
theorem St.at9 {a b c d e f g i j k:Chk}(H:St φ (a::b::c::d::e::f::g::i::j::k::Γ) h):St φ (k::a::b::c::d::e::f::g::i::j::Γ) h:=H.perm (BT 9 (a::b::c::d::e::f::g::i::j::k::Γ))
theorem Ro.SliceIs.heap {α:Type}{r:Ro α}{t:Slc}{l:List α}(H:Ro.SliceIs r φ t l) (hs:Sub φ (BX h)):∃vs,r.All φ vs l∧CE h t.1 vs:=by
 obtain ⟨_,_,_,_,vs,ha,hc⟩:=H;exact ⟨vs,ha,hc.heap hs⟩
theorem St.rowCs {α:Type}{ty:TypeId}{r:Ro α}{cs:List Value}{l:List α}(H:St φ (⟨Rep.row ty r,cs,l⟩::Γ) h):∃t:Slc,cs= [.slice t.1 t.2.1 t.2.2]:=by
 obtain ⟨F,⟨p,n,c,vs,e,_⟩,_⟩:=H;exact ⟨(p,n,c),e⟩
theorem St.freezeRow {α:Type}{ty:TypeId}{r:Ro α}{t:Slc}{l:List α}(H:St φ (⟨Rep.row ty r,[.slice t.1 t.2.1 t.2.2],l⟩::Γ) h):∃ψ,Sub φ ψ∧Ro.SliceIs r ψ t l∧St ψ Γ h:=by
 obtain ⟨ψ,h1,⟨t',e,h2⟩,h3⟩:=H.freeze (Nw ty r);simp only [List.cons.injEq,Value.slice.injEq,and_true]at e;obtain ⟨e1,e2,e3⟩:=e
 have:t=t':=by
  obtain ⟨a,b,c⟩:=t;obtain ⟨a',b',c'⟩:=t';simp only at e1 e2 e3;rw [e1,e2,e3]
 subst this;exact ⟨ψ,h1,h2,h3⟩
theorem St.there {α:Type}{ty:TypeId}{r:Ro α}{t:Slc}{l m:List α}{i:Int}{x:α}(H:St φ (⟨Rep.row ty r,[.slice t.1 t.2.1 t.2.2],l⟩::Γ) h) (hm:GO l i x=some m):∃a,t.1=some a∧(0≤i∧i< (t.2.1:Nat)):=by
 obtain ⟨h0,h1,_⟩:=FI hm;have hlt:i.toNat<l.length:=by omega
 have:idx l i=some l[i.toNat]:=by unfold idx;rw [if_pos h0];exact cH hlt
 obtain ⟨a,_,h1,h2,_⟩:=H.get this;exact ⟨a,h1,h2⟩
theorem EC.at {a:Addr}{vs:List Value}(H:EC φ (some a) vs) (j:Nat) {v:Value}(hv:vs[j]? =some v):GN φ (a.add j)=some v:=by
 obtain ⟨a',e,hc⟩:=H j v hv;cases e;exact hc
theorem St.keep {h':AE}(H:St φ Γ h) (hs:Sub (BX h) (BX h')):St φ Γ h':=by
 refine StX.heap H (fun k hk _=> ?_) (H.sub.trans hs);have h1:BX h k=some h[k]:=dA hk;have h2:=hs _ _ h1;show h'[k]? =h[k]?;have h3:h'[k]? =some h[k]:=h2;rw [h3,dA hk]
end
def defers (ops:Array Oper):Bool:=match ops[ops.size - 1]? with
 |some o=>match o.op with
  |.defer _=>true
  |_=>false
 |none=>false
section
variable {P:Program}{ops:Array Oper}
end
section
variable {P:Program}{Q:Be→AE→Prop}{φ:AF}{h:AE}{Γ:List Chk}
end
end Go.Eng
namespace Go.Eng
open Go Go.Sort
theorem St.rowPut {α:Type}{φ:AF}{h h':AE}{Γ:List Chk}{ty:TypeId}{r:Ro α}{t:Slc}{l m:List α}{vs':List Value}
 (H:St φ (⟨Rep.row ty r,[.slice t.1 t.2.1 t.2.2],l⟩::Γ) h) (hall:r.All φ vs' m) (hm:m.length=l.length)
 (hb:∀b off,t.1=some ⟨b,off,none⟩→ ∀arr,h[b]? =some (.cells arr ty (0,0))→ ∃arr',h'[b]? =some (.cells arr' ty (0,0))∧arr'.size=arr.size∧ ∀i v,vs'[i]? =some v→arr'[off+i]? =some v)
 (hk:∀k,k<h.size→(∀b off,t.1=some ⟨b,off,none⟩→k≠b)→h'[k]? =h[k]?):St φ (⟨Rep.row ty r,[.slice t.1 t.2.1 t.2.2],m⟩::Γ) h':=by
 have hs:=H.sub;obtain ⟨F,⟨p,n,c,vs,e,hn,hc,hfu,ho,hall0,hF⟩,h2,H⟩:=H;have hn:l.length=n:=hn;simp only [List.cons.injEq,Value.slice.injEq,and_true]at e;obtain ⟨e1,e2,e3⟩:=e;have hvs:vs'.length=n *r.sz:=by rw [hall.length,hm,hn]
 rcases ho with ⟨hp,hn0,hc0,hv0⟩|⟨b,off,arr,hp,hb0,g1,g2,g3,g4⟩
 ·have hne:∀b off,t.1≠some ⟨b,off,none⟩:=fun b off he=>by rw [e1,hp]at he;cases he
  have hkk:∀k,k<h.size→h'[k]? =h[k]? :=fun k hk'=>hk k hk' fun b off he=>absurd he (hne b off);refine ⟨F,⟨p,n,c,vs',by rw [e1,e2,e3],by rw [hm];exact hn,hc,?_,.inl ⟨hp,hn0,hc0,?_⟩,hall,hF⟩,h2,StX.heap H (fun k hk' _=>hkk k hk') fun j o ho=> ?_⟩
  ·intro b' off' s' he;rw [hp]at he;cases he
  ·exact cB (by rw [hvs,hn0];omega)
  ·have h1:=hs j o ho
   have:=A8 h1
   show h'[j]? =some o;rw [hkk j this];exact h1
 ·have e1':t.1=some ⟨b,off,none⟩:=by rw [e1,hp]
  obtain ⟨arr',a1,a2,a3⟩:=hb b off e1' arr hb0;have hkk:∀k,k<h.size→k≠b→h'[k]? =h[k]? :=fun k hk' hkb=>hk k hk' fun b' off' he=>by rw [e1']at he;cases he;exact hkb
  have hbF:F b:=(hF b).2 (by rw [hp];simp [blk]);refine ⟨F,⟨p,n,c,vs',by rw [e1,e2,e3],by rw [hm];exact hn,hc,?_,.inr ⟨b,off,arr',hp,a1,hvs,g2,by rw [a2];exact g3,a3⟩,hall,hF⟩,h2,
   StX.heap H (fun k hk' hX=>hkk k hk' fun he=>hX (.inr (by rw [he];exact hbF))) fun j o ho=> ?_⟩
  ·intro b' off' s' he;rw [hp]at he;cases he;obtain ⟨q1,q2⟩:=hfu _ _ _ hp;exact ⟨q1,fun arr'' ty' f' harr=>by rw [a1]at harr;cases harr;rw [a2];exact q2 _ _ _ hb0⟩
  ·have h1:=hs j o ho;have hlt:=A8 h1;have hjb:j≠b:=fun he=>by
    have:=(h2 b hbF).1
    rw [he,this]at ho;cases ho
   show h'[j]? =some o;rw [hkk j hlt hjb];exact h1
theorem St.rowHolds {α β:Type}[Inhabited β] {φ:AF}{w:World}{Γ:List Chk}{ty:TypeId}{r:Ro α}{t:Slc}{l:List α}(H:St φ (⟨Rep.row ty r,[.slice t.1 t.2.1 t.2.2],l⟩::Γ) w.heap)
 (hsz:r.sz=1) (enc:β→Value) (hbs:∀vs,r.All φ vs l→ ∃bs:List β,vs=bs.map enc):
 (l= [] ∧t.2.1=0)∨ ∃(b off:Nat) (bs:List β),t.1=some ⟨b,off,none⟩∧r.All φ (bs.map enc) l∧t.2.1=bs.length∧l.length=bs.length∧b<w.heap.size∧(∀arr,w.heap[b]? =some (.cells arr ty (0,0))→off+l.length≤arr.size)∧Sort.Holds enc w b off bs.toArray:=by
 obtain ⟨F,⟨p,n,c,vs,e,hn,hc,hfu,ho,hall,hF⟩,h2,H⟩:=H;have hn:l.length=n:=hn;simp only [List.cons.injEq,Value.slice.injEq,and_true]at e;obtain ⟨e1,e2,e3⟩:=e;rcases ho with ⟨hp,hn0,hc0,hv0⟩|⟨b,off,arr,hp,hb0,g1,g2,g3,g4⟩
 ·exact .inl ⟨cB (by omega),by omega⟩
 ·right
  obtain ⟨bs,rfl⟩:=hbs vs hall;have hlen:bs.length=n:=by
   rw [List.length_map,hsz]at g1;omega
  refine ⟨b,off,bs,by rw [e1,hp],hall,by omega,by omega,A8 hb0,fun arr' ha=> ?_,fun j hj=> ?_⟩
  ·rw [hb0]at ha;cases ha;rw [hsz]at g3;omega
  have hj':j<bs.length:=by simpa using hj
  have hc:=g4 j (enc bs[j]) (by rw [fB,cH hj'];rfl);refine ⟨?_,?_⟩
  ·unfold World.cell?;dsimp only;rw [hb0];dsimp only;rw [getElem!_pos _ j hj];simpa using hc
  ·unfold dR;dsimp only;rw [hb0];simp
theorem St.rowSorted {α β:Type}[Inhabited β] {φ:AF}{w:World}{Γ:List Chk}{ty:TypeId}{r:Ro α}{t:Slc}{l m:List α}(H:St φ (⟨Rep.row ty r,[.slice t.1 t.2.1 t.2.2],l⟩::Γ) w.heap)
 {b off:Nat} (ht:t.1=some ⟨b,off,none⟩) (enc:β→Value) (ms:List β) (hall:r.All φ (ms.map enc) m) (hm:m.length=l.length) (hms:ms.length=l.length) (hfit:∀arr,w.heap[b]? =some (.cells arr ty (0,0))→off+l.length≤arr.size) (k:Nat) (os:Array Obj):
 St φ (⟨Rep.row ty r,[.slice t.1 t.2.1 t.2.2],m⟩::Γ) (grow (putRow enc (Sort.ahead w k) b off ms.toArray) os).heap:=by
 have hheap:(grow (putRow enc (Sort.ahead w k) b off ms.toArray) os).heap=w.heap.modify b (onCells (putCells enc off ms.toArray)) ++os:=rfl;rw [hheap];refine H.rowPut hall hm (fun b' off' he arr harr=> ?_) fun j hj hne=> ?_
 ·rw [ht]at he;cases he;have hlt:=A8 harr;refine ⟨putCells enc off ms.toArray arr,?_,by simp [putCells],fun i v hv=> ?_⟩
  ·rw [cX (by simpa using hlt),cP,if_pos rfl,harr];rfl
  ·rw [fB,Option.map_eq_some_iff]at hv;obtain ⟨x,hx,rfl⟩:=hv;have hi:i<ms.length:=by
    rcases cA i ms.length with g | g
    ·exact g
    ·rw [bT g]at hx;cases hx
   have hf:=hfit arr harr;unfold putCells;rw [Array.getElem?_mapIdx,dA (by omega)];have hc:off≤off+i∧off+i<off+ms.toArray.size:=by simp;exact hi
   simp only [Option.map_some];rw [if_pos hc,dI,getElem!_pos _ i (by simpa using hi)];rw [cH hi]at hx;cases hx;simp
 ·rw [cX (by simpa using hj),cP,if_neg fun e=>hne b off ht e.symm]
end Go.Eng
namespace Go.Eng
open Go
theorem JL (a b:ByteArray):(a==b)=decide (a=b):=by
 cases a with | mk a=>cases b with | mk b=>
 have e:((fI a==fI b):Bool)=(a==b):=rfl;rw [e];by_cases h:a=b
 ·subst h;simp
 ·rw [decide_eq_false (by intro g;exact h (ByteArray.mk.inj g))];exact beq_eq_false_iff_ne.2 h
structure Ky (κ:Type) [DecidableEq κ] where
 val:κ→Value
 on:Program→TypeId→Prop
 desc:∀ {P:Program} {kt:TypeId},on P kt→ ∃d,P.underlying kt=some d∧((∀k k',dC d (val k) (val k')=some (decide (k=k')))∨
  ((∀k k',dC d (val k) (val k')=none)∧ ∀(k k':κ) (h:AE) (K:Bool→AE→Prop) (X:Value→AE→Prop),K (decide (k=k')) h→semWp P (Op.equal kt (val k) (val k')) K X h))
 bits:∀k,eO 10000 (val k) (val k)=true
 ok:∀ {P:Program} {kt:TypeId} {b:Bool} {k:κ} {h:AE} {K:Unit→AE→Prop} {X:Value→AE→Prop},on P kt→K () h→semWp P (dM b 10000 kt (val k)) K X h
def kyS:Ky ByteArray where
 val:=.string
 on P kt:=P.underlying kt=some .string
 desc h:=⟨_,h,.inl fun k k'=>by simp only [dC,JL]⟩
 bits k:=by unfold eO;rw [JL];simp
 ok hk H:=by unfold dM;exact AW hk H
def kyI (j:IntKind):Ky Int where
 val:=.int j
 on P kt:=P.underlying kt=some (.int j)
 desc h:=⟨_,h,.inl fun k k'=>by
  simp only [dC,if_true];by_cases e:k=k'
  ·subst e;simp
  ·rw [decide_eq_false e];simp [e]⟩
 bits k:=by unfold eO;simp
 ok hk H:=by unfold dM;exact AW hk H
structure PK (P:Program) (kt:TypeId):Prop where
 fl: ∃f g:Field,P.underlying kt=some (.struct #[f,g])∧P.stoodInHeld kt=false∧f.name ≠ "_" ∧g.name ≠ "_" ∧f.offset=0∧g.offset=1∧P.underlying f.type=some (.int .i64)∧P.underlying g.type=some (.int .i64)
section
variable {κ:Type}[DecidableEq κ]
def CW {β:Type}(k:κ):List (κ×β)→Option β
 | [] =>none
 |(k',v)::m=>if k=k' then some v else CW k m
def F2 {β:Type}(k:κ) (v:β):List (κ×β)→List (κ×β)
 | [] =>[(k,v)]
 |(k',v')::m=>if k=k' then (k',v)::m else (k',v')::F2 k v m
theorem JM {β:Type}(k:κ) (v:β) (k':κ):∀m:List (κ×β),CW k' (F2 k v m)=if k'=k then some v else CW k' m:=by
 intro m
 induction m with
 |nil=>simp only [F2,CW]
 |cons a m ih=>
  simp only [F2];split
  ·rename_i h;subst h;simp only [CW];split<;>simp_all
  ·rename_i h
   simp only [CW];split
   ·rename_i h2;subst h2;rw [if_neg fun e=>h e.symm]
   ·exact ih
inductive F3 {β:Type}(kk:Ky κ) (vv:Ro β) (φ:AF):List MapEntry→List (κ×β)→Prop where
 |nil:F3 kk vv φ [] []
 |cons {e:MapEntry} {es:List MapEntry} {k:κ} {x:β} {m:List (κ×β)} :e.key=kk.val k→vv.is φ [e.val] x→F3 kk vv φ es m→F3 kk vv φ (e::es) ((k,x)::m)
variable {kk:Ky κ}
theorem F3.mono {β:Type}{vv:Ro β}{φ ψ:AF}(hs:Sub φ ψ) {es:List MapEntry}{m:List (κ×β)}(H:F3 kk vv φ es m):F3 kk vv ψ es m:=by
 induction H with
 |nil=>exact .nil
 |cons h1 h2 _ ih=>exact .cons h1 (vv.mono hs h2) ih
def Rep.kmap {β:Type}(kk:Ky κ) (vv:Ro β):Rep (List (κ×β)) where
 sz:=1
 is φ h F cs m:= ∃r es clock,cs= [.map (some r)] ∧h[r]? =some (.map es clock)∧F3 kk vv φ es.toList m∧(∀i,F i↔i=r)
 len h:=by obtain ⟨r,es,c,rfl,_⟩:=h;rfl
 mono hs h:=by obtain ⟨r,es,c,e,hr,he,hF⟩:=h;exact ⟨r,es,c,e,hr,he.mono hs,hF⟩
 loc hl h:=by obtain ⟨r,es,c,e,hr,he,hF⟩:=h;exact ⟨r,es,c,e,by rw [hl r ((hF r).2 rfl)];exact hr,he,hF⟩
 lt h i hi:=by obtain ⟨r,es,c,e,hr,he,hF⟩:=h;rw [(hF i).1 hi];exact A8 hr
 plain h v hv:=by obtain ⟨r,es,c,rfl,_⟩:=h;simp at hv;subst hv;rfl
theorem Jk {β:Type}{vv:Ro β}{φ:AF}{k:κ}{d:TypeDesc}(hn:∀k k',dC d (kk.val k) (kk.val k')=some (decide (k=k'))):∀ {es:List MapEntry}{m:List (κ×β)}(i:Nat),F3 kk vv φ es m→CW k m=none→cE d (kk.val k) es i=some none:=by
 intro es m i H
 induction H generalizing i with
 |nil=>intro _;rfl
 | @cons e es k' x m h1 h2 _ ih=>
  intro hm;simp only [CW]at hm;split at hm
  ·cases hm
  ·rename_i hk
   unfold cE;rw [h1,hn,decide_eq_false hk];exact ih (i+1) hm
theorem KE {P:Program}{kt:TypeId}{β:Type}{vv:Ro β}{φ:AF}{k:κ}{h:AE}{X:Value→AE→Prop}(ha:∀(k k':κ) (h:AE) (K:Bool→AE→Prop) (X:Value→AE→Prop),K (decide (k=k')) h→semWp P (Op.equal kt (kk.val k) (kk.val k')) K X h):
 ∀ {es:List MapEntry} {m:List (κ×β)} (i:Nat) {K:Option (Nat×Value)→AE→Prop},F3 kk vv φ es m→CW k m=none→K none h→semWp P (cZ kt (kk.val k) es i) K X h:=by
 intro es m i K H
 induction H generalizing i with
 |nil=>intro _ H;exact H
 | @cons e es k' x m h1 h2 _ ih=>
  intro hm HK;simp only [CW]at hm;split at hm
  ·cases hm
  ·rename_i hk
   unfold cZ;rw [h1];refine Ab _ _ (ha _ _ _ _ _ ?_);rw [decide_eq_false hk];exact ih (i+1) hm HK
theorem MC {β:Type}{vv:Ro β}{φ:AF}{k:κ}{x:β}:∀ {es:List MapEntry}{m:List (κ×β)},F3 kk vv φ es m→CW k m=some x→
 ∃j e,es[j]? =some e∧e.key=kk.val k∧vv.is φ [e.val] x∧
  (∀(y:β) (v:Value),vv.is φ [v] y→F3 kk vv φ (es.modify j fun e=>{e with key:=kk.val k,val:=v}) (F2 k y m))∧
  (∀d,(∀k k',dC d (kk.val k) (kk.val k')=some (decide (k=k')))→ ∀i,cE d (kk.val k) es i=some (some (i+j,e.val)))∧
  (∀(P:Program) (kt:TypeId),(∀(k k':κ) (h:AE) (K:Bool→AE→Prop) (X:Value→AE→Prop),K (decide (k=k')) h→semWp P (Op.equal kt (kk.val k) (kk.val k')) K X h)→
   ∀(i:Nat) (h:AE) (K:Option (Nat×Value)→AE→Prop) (X:Value→AE→Prop),K (some (i+j,e.val)) h→semWp P (cZ kt (kk.val k) es i) K X h):=by
 intro es m H
 induction H with
 |nil=>intro hm;cases hm
 | @cons e es k' x' m h1 h2 h3 ih=>
  intro hm;simp only [CW]at hm;split at hm
  ·rename_i hk
   cases hm;subst hk;refine ⟨0,e,rfl,h1,h2,fun y v hy=> ?_,fun d hn i=> ?_,fun P kt ha i h K X HK=> ?_⟩
   ·simp only [F2,if_true,fC];exact .cons rfl hy h3
   ·unfold cE;rw [h1,hn,decide_eq_true rfl];rfl
   ·unfold cZ;rw [h1];refine Ab _ _ (ha _ _ _ _ _ ?_);rw [decide_eq_true rfl];exact HK
  ·rename_i hk
   obtain ⟨j,e',g1,g2,g3,g4,g5,g6⟩:=ih hm;refine ⟨j+1,e',by simpa using g1,g2,g3,fun y v hy=> ?_,fun d hn i=> ?_,fun P kt ha i h K X HK=> ?_⟩
   ·simp only [F2,if_neg hk,fC];exact .cons h1 h2 (g4 y v hy)
   ·unfold cE;rw [h1,hn,decide_eq_false hk];dsimp only;rw [g5 d hn,show i+1+j=i+(j+1) by omega]
   ·unfold cZ;rw [h1];refine Ab _ _ (ha _ _ _ _ _ ?_);rw [decide_eq_false hk];refine g6 P kt ha (i+1) h K X ?_;rw [show i+1+j=i+(j+1) by omega];exact HK
theorem HZ {P:Program}{kt:TypeId}{β:Type}{vv:Ro β}{φ:AF}{k:κ}{es:List MapEntry}{m:List (κ×β)}{h:AE}{K:Option (Nat×Value)→AE→Prop}{X:Value→AE→Prop}(ho:kk.on P kt) (he:F3 kk vv φ es m) (hm:CW k m=none) (H:K none h):
 semWp P (dD kt (kk.val k) es) K X h:=by
 obtain ⟨d,hu,hd⟩:=kk.desc ho;unfold dD;refine AW hu ?_;rcases hd with hn | ⟨hn,ha⟩
 ·rw [Jk hn 0 he hm];exact H
 ·cases he with
  |nil=>exact H
  |cons h1 h2 h3=>
   rename_i e es' k' x' m'
   have:cE d (kk.val k) (e::es') 0=none:=by unfold cE;rw [h1,hn]
   rw [this];exact KE ha 0 (.cons h1 h2 h3) hm H
theorem Ha {P:Program}{kt:TypeId}{β:Type}{vv:Ro β}{φ:AF}{k:κ}{x:β}{es:List MapEntry}{m:List (κ×β)}(ho:kk.on P kt) (he:F3 kk vv φ es m) (hm:CW k m=some x):
 ∃j e,es[j]? =some e∧e.key=kk.val k∧vv.is φ [e.val] x∧(∀(y:β) (v:Value),vv.is φ [v] y→F3 kk vv φ (es.modify j fun e=>{e with key:=kk.val k,val:=v}) (F2 k y m))∧
  ∀(h:AE) (K:Option (Nat×Value)→AE→Prop) (X:Value→AE→Prop),K (some (j,e.val)) h→semWp P (dD kt (kk.val k) es) K X h:=by
 obtain ⟨d,hu,hd⟩:=kk.desc ho;obtain ⟨j,e,g1,g2,g3,g4,g5,g6⟩:=MC he hm;refine ⟨j,e,g1,g2,g3,g4,fun h K X H=> ?_⟩;unfold dD;refine AW hu ?_;rcases hd with hn | ⟨hn,ha⟩
 ·rw [g5 d hn 0,dL];exact H
 ·cases he with
  |nil=>cases hm
  |cons h1 h2 h3=>
   rename_i e1 es' k' x' m'
   have:cE d (kk.val k) (e1::es') 0=none:=by unfold cE;rw [h1,hn]
   rw [this];refine g6 P kt ha 0 h K X ?_;rw [dL];exact H
theorem F3.push {β:Type}{vv:Ro β}{φ:AF}{k:κ}{y:β}{e:MapEntry}:∀ {es:List MapEntry}{m:List (κ×β)},F3 kk vv φ es m→CW k m=none→e.key=kk.val k→vv.is φ [e.val] y→F3 kk vv φ (es++ [e]) (F2 k y m):=by
 intro es m H
 induction H with
 |nil=>intro _ h1 h2;exact .cons h1 h2 .nil
 | @cons e' es k' x m g1 g2 _ ih=>
  intro hm h1 h2;simp only [CW]at hm;split at hm
  ·cases hm
  ·rename_i hk
   simp only [F2,if_neg hk];exact .cons g1 g2 (ih hm h1 h2)
section
variable {P:Program}{Q:Be→AE→Prop}{φ:AF}{h:AE}{Γ:List Chk}
theorem KF {β:Type}(kk:Ky κ) (vv:Ro β) {k:Nat→T}(H:St φ Γ h) (hk:∀r h',St φ (⟨Rep.kmap kk vv,[.map (some r)],[]⟩::Γ) h'→(k r).wp P Q h'):(T.new (.map #[] 0) k).wp P Q h:=by
 refine Ms (hk _ _ ?_);have hs:=H.sub;refine ⟨fun i=>i=h.size,⟨h.size,#[],0,rfl,by rw [bO,if_pos rfl],.nil,fun _=>eZ⟩,fun k hk=>⟨?_,fun g=>g⟩,?_⟩
 ·subst hk;cases hφ:φ h.size with
  |none=>rfl
  |some o=>have:=A8 (hs _ _ hφ);omega
 ·refine StX.heap (StX.more H fun k hk=> ?_) (fun k hk _=>by rw [bO];simp;omega) fun i o ho=> ?_
  ·rcases hk with hk | hk
   ·exact hk.elim
   ·left;omega
  ·have hlt:=A8 (hs i o ho);show (h.push _)[i]? =some o;rw [bO,if_neg (by omega)];exact hs i o ho
theorem I6 {t:TypeId}{i:TypeInfo}{z:Value}(hi:P.info? t=some i) (hz:i.zero=some z) {K:Value→AE→Prop}{X:Value→AE→Prop}(H:K z h):semWp P (zeroValue t) K X h:=by
 have ez:(zeroValue t)=Sem.program fun P'=>((match P'.info? t with | some i=>Sem.pure i | none=>stuck "no such type").bind fun i=>match i.zero with | some v=>Sem.pure v | none=>unsupported (.resourceLimit "a value of more than 2^22 cells")):=rfl
 rw [ez];simp only [bM,semWp,hi,hz];exact H
theorem Ia {a:Bb}{mt kt vt:TypeId}{r:Nat}{k:κ}{m:List (κ×a.Ty)}{ok:Bool}{K:Value→AE→Prop}{X:Value→AE→Prop}(hm:P.underlying mt=some (.map kt vt)) (hk:kk.on P kt)
 {i:TypeInfo} {z:a.Ty} (hi:P.info? vt=some i) (hz:i.zero=some (a.val z)) (H:St φ (⟨Rep.kmap kk (Ro.atom a),[.map (some r)],m⟩::Γ) h) (hK:K (if ok then .tuple #[a.val ((CW k m).getD z),.bool (CW k m).isSome] else a.val ((CW k m).getD z)) h):
 semWp P (dW mt (.map (some r)) (kk.val k) ok) K X h:=by
 obtain ⟨F,⟨r',es,c,e,hr,he,hF⟩,h2,H⟩:=H;cases e;unfold dW;refine AW hm ?_;refine ⟨_,hr,(fun _ _ _ g=>by cases g),?_⟩;show semWp P (bM (dM _ 10000 kt (kk.val k)) fun _=>bM (dD kt (kk.val k) es.toList) fun r=>_) _ _ h;refine Ab _ _ (kk.ok hk (Ab _ _ ?_));cases hg:CW k m with
 |none=>
  refine HZ hk he hg ?_;show semWp P (bM (zeroValue vt) fun z=>_) _ _ h;rw [hg]at hK;exact Ab _ _ (I6 hi hz hK)
 |some x=>
  obtain ⟨q,e,g1,g2,g3,_,g5⟩:=Ha hk he hg;refine g5 _ _ _ ?_;have hv:e.val=a.val x:=by
   have: [e.val] = [a.val x]:=g3
   simpa using this
  dsimp only;rw [hg]at hK;rw [hv];exact hK
theorem MD {a:Bb}{mt kt vt:TypeId}{r:Nat}{k:κ}{m:List (κ×a.Ty)}{K:a.Ty×Bool×Unit→T}(z:a.Ty) (hm:P.underlying mt=some (.map kt vt)) (hk:kk.on P kt)
 {i:TypeInfo} (hi:P.info? vt=some i) (hz:i.zero=some (a.val z)) (H:St φ (⟨Rep.kmap kk (Ro.atom a),[.map (some r)],m⟩::Γ) h) (hK:∀y:a.Ty×Bool×Unit,y=((CW k m).getD z,(CW k m).isSome,())→(K y).wp P Q h):
 (T.sem (dW mt (.map (some r)) (kk.val k) true) (.tuple [.atom a,.atom .bool]) K).wp P Q h:=
 t_sem (Ia hm hk hi hz H (ok:=true) ⟨((CW k m).getD z,(CW k m).isSome,()),rfl,hK _ rfl⟩)
theorem ME {a:Bb}{mt kt vt:TypeId}{r:Nat}{k:κ}{m:List (κ×a.Ty)}{K:a.Ty→T}(z:a.Ty) (hm:P.underlying mt=some (.map kt vt)) (hk:kk.on P kt)
 {i:TypeInfo} (hi:P.info? vt=some i) (hz:i.zero=some (a.val z)) (H:St φ (⟨Rep.kmap kk (Ro.atom a),[.map (some r)],m⟩::Γ) h) (hK:(K ((CW k m).getD z)).wp P Q h):
 (T.sem (dW mt (.map (some r)) (kk.val k) false) (.one (.atom a)) K).wp P Q h:=
 t_sem (Ia hm hk hi hz H (ok:=false) ⟨(CW k m).getD z,rfl,hK⟩)
theorem KG {β:Type}{vv:Ro β}{mt kt vt:TypeId}{r:Nat}{k:κ}{m:List (κ×β)}{y:β}{v:Value}{K:Unit→T}(hm:P.underlying mt=some (.map kt vt)) (hk:kk.on P kt)
 (H:St φ (⟨Rep.kmap kk vv,[.map (some r)],m⟩::Γ) h) (hv:vv.is φ [v] y) (hK:∀h',St φ (⟨Rep.kmap kk vv,[.map (some r)],F2 k y m⟩::Γ) h'→(K ()).wp P Q h'):
 (T.sem (bM (eH mt (.map (some r)) (kk.val k) v) fun _=>.pure undef) (.tuple []) K).wp P Q h:=by
 obtain ⟨F,⟨r',es,c,e,hr,he,hF⟩,h2,H⟩:=H;cases e;have hs:=H.sub;have key:∀(es':Array MapEntry) (c':Nat),F3 kk vv φ es'.toList (F2 k y m)→(K ()).wp P Q (h.setIfInBounds r (.map es' c')):=fun es' c' he'=>by
  have hlt:=A8 hr;have hne:∀k,¬F k→(h.setIfInBounds r (Obj.map es' c'))[k]? =h[k]? :=fun k hk=>bN fun e=>hk ((hF k).2 e.symm);refine hK _ ⟨F,⟨r,es',c',rfl,?_,he',hF⟩,h2,StX.heap H (fun k _ hX=>hne k fun g=>hX (.inr g)) fun i o ho=> ?_⟩
  ·rw [cC,if_pos rfl,if_pos hlt]
  ·show (h.setIfInBounds r _)[i]? =some o;rw [hne i fun g=>by rw [(h2 i g).1]at ho;cases ho];exact hs i o ho
 refine t_sem<|Ab _ _ ?_;unfold eH;refine AW hm ?_;refine ⟨_,hr,(fun _ _ _ g=>by cases g),?_⟩;show semWp P (bM (dM _ 10000 kt (kk.val k)) fun _=>bM (dD kt (kk.val k) es.toList) fun r=>_) _ _ h;refine Ab _ _ (kk.ok hk (Ab _ _ ?_));cases hg:CW k m with
 |none=>
  refine HZ hk he hg ?_;dsimp only;refine ⟨⟨_,hr,(fun _ _ _ g=>by cases g)⟩,(),rfl,key _ _ ?_⟩;rw [Array.toList_push];exact he.push hg rfl hv
 |some x=>
  obtain ⟨q,e,g1,g2,g3,g4,g5⟩:=Ha hk he hg;refine g5 _ _ _ ?_;have hq:es[q]? =some e:=by simpa using g1
  have hks:dX ((eT (fun x=>x.key) es[q]?).getD (kk.val k)) (kk.val k)=dJ (kk.val k):=by
   rw [hq];dsimp only [eT,Option.getD];rw [g2];unfold dX;rw [kk.bits];rfl
  show semWp P (bM (dX ((eT (fun x=>x.key) es[q]?).getD (kk.val k)) (kk.val k)) fun key=>setObj r (Obj.map (es.modify q fun e=>{e with key,val:=v}) c)) _ _ h;rw [hks];refine ⟨⟨_,hr,(fun _ _ _ g=>by cases g)⟩,(),rfl,key _ _ ?_⟩;rw [Array.toList_modify];exact g4 y v hv
end
end
section
variable {P:Program}{Q:Be→AE→Prop}{φ:AF}{h:AE}{Γ:List Chk}
theorem FJ {a:Bb}{vs:List Value}{l:List a.Ty}(H:(Ro.atom a).All φ vs l):vs=l.map a.val:=by
 induction H with
 |nil=>rfl
 |cons h _ ih=>have h':_= [_]:=h;rw [h',ih];rfl
def GQ (x:Int):Bool:=decide (0≤x) && decide (x<256)
def Lc (l:List Int):Option ByteArray:=if l.all GQ then some ⟨(l.map fun x=>dH x.toNat).toArray⟩ else none
theorem St.bytes {ty:TypeId}{t:Slc}{l:List Int}(H:St φ (⟨Rep.row ty (Ro.int .u8),[.slice t.1 t.2.1 t.2.2],l⟩::Γ) h):l.length=t.2.1∧CE h t.1 (l.map (Bb.int .u8).val):=by
 have hl:=H.rowLen;obtain ⟨vs,ha,hc⟩:=H.all;rw [FJ ha]at hc;exact ⟨hl.symm,hc⟩
theorem K8 {src dst e:TypeId}{t:Slc}{l:List Int}{x:ByteArray}{K:ByteArray→T}(hs:P.underlying src=some (.slice e)) (he:P.underlying e=some (.int .u8)) (hd:P.underlying dst=some .string)
 (hc:l.length=t.2.1∧CE h t.1 (l.map (Bb.int .u8).val)) (hx:Lc l=some x) (hK:(K x).wp P Q h):(T.sem (convert src dst (.slice t.1 t.2.1 t.2.2)) (.one (.atom .string)) K).wp P Q h:=by
 obtain ⟨hl,hc⟩:=hc;unfold Lc at hx;split at hx
 ·rename_i hall
  cases hx;have e1:l.map (Bb.int .u8).val=(l.map fun x=>dH x.toNat).map fun b=>dG .u8 (b.toNat:Int):=by
   rw [List.map_map];refine List.map_congr_left fun x hx=> ?_
   have:=List.all_eq_true.1 hall x hx
   simp only [GQ,eB,decide_eq_true_eq]at this;show dG .u8 x=dG .u8 _;have e:(dH x.toNat).toNat=x.toNat:=by simp;omega
   rw [show ((dH x.toNat).toNat:Int)=x by rw [e];omega]
  rw [e1]at hc;have hl2:t.2.1=(l.map fun x=>dH x.toNat).length:=by simp [←hl]
  refine t_sem ?_;rw [hl2];exact Jg hs he hd hc ⟨_,rfl,hK⟩
 ·cases hx
end
structure PS (P:Program) (t elem:TypeId) (z:Value):Prop where
 st:P.underlying t=some (.slice elem)
 info:∃i,P.info? elem=some i∧i.size=1∧(∃zv,i.zero=some zv∧zv.cells= #[z])∧i.bytes≤4096
section
variable {P:Program}{Q:Be→AE→Prop}{φ:AF}{h:AE}{Γ:List Chk}
end
section
variable {P:Program}{Q:Be→AE→Prop}{φ:AF}{h:AE}{Γ:List Chk}
end
theorem bS {α β:Type}{o:Option α}{f:α→Option β}{x:β}(h:o.bind f=some x):∃a,o=some a∧f a=some x:=Option.bind_eq_some_iff.1 h
theorem iS {α:Type}{a b:α}(h:some a=some b):a=b:=Option.some.inj h
abbrev sv (t:Slc):Value:=.slice t.1 t.2.1 t.2.2
abbrev pv (b:Nat):Value:=.pointer (some ⟨b,0,none⟩)
abbrev cR {α:Type}(e:TypeId) (r:Ro α) (t:Slc) (l:List α):Chk:=⟨Rep.row e r,[.slice t.1 t.2.1 t.2.2],l⟩
abbrev cO {α:Type}(e:TypeId) (R:Rep α) (p:Option Addr) (x:α):Chk:=⟨Rep.obj e R,[.pointer p],x⟩
abbrev cW (e:TypeId) (b:Nat) (vs:List Value):Chk:=⟨Rep.raw e,[.pointer (some ⟨b,0,none⟩)],vs⟩
abbrev cM {κ β:Type}[DecidableEq κ] (kk:Ky κ) (vv:Ro β) (r:Nat) (m:List (κ×β)):Chk:=⟨Rep.kmap kk vv,[.map (some r)],m⟩
abbrev Ro.slc:Ro Slc:=Ro.atom .slice
def Pt {α:Type}(r:Ro α) (φ:AF) (p:Option Addr) (x:α):Prop:= ∃a vs,p=some a∧r.is φ vs x∧EC φ (some a) vs
theorem Pt.mono {α:Type}{r:Ro α}{φ ψ:AF}{p:Option Addr}{x:α}(H:Pt r φ p x) (hs:Sub φ ψ):Pt r ψ p x:=by
 obtain ⟨a,vs,e,h1,h2⟩:=H;exact ⟨a,vs,e,r.mono hs h1,h2.mono hs⟩
def Np {α:Type}(r:Ro α) (φ:AF) (p:Option Addr) (x:Option α):Prop:=match x with
 |none=>p=none
 |some x=>Pt r φ p x
theorem Np.mono {α:Type}{r:Ro α}{φ ψ:AF}{p:Option Addr}{x:Option α}(H:Np r φ p x) (hs:Sub φ ψ):Np r ψ p x:=by
 cases x with
 |none=>exact H
 |some x=>exact Pt.mono H hs
theorem Np.nil {α:Type}{r:Ro α}{φ:AF}{p:Option Addr}{x:Option α}(H:Np r φ p x):p.isNone=x.isNone:=by
 cases x with
 |none=>rw [show p=none from H];rfl
 |some x=>obtain ⟨a,vs,rfl,_⟩:=H;rfl
theorem Np.get {α:Type}{r:Ro α}{φ:AF}{p:Option Addr}{x:Option α}{y:α}(H:Np r φ p x) (e:x=some y):Pt r φ p y:=by subst e;exact H
theorem Np.none {α:Type}(r:Ro α) (φ:AF):Np r φ Option.none (Option.none:Option α):=rfl
section
variable {P:Program}{Q:Be→AE→Prop}{φ:AF}{h:AE}{Γ:List Chk}
theorem AI {ty:TypeId}{b j:Nat}{vs:List Value}{v:Value}{k:T}(H:St φ (⟨Rep.raw ty,[.pointer (some ⟨b,0,none⟩)],vs⟩::Γ) h) (hp:Value.plain v=true) (hj:fH j vs.length=true)
 (hk:∀h',St φ (cW ty b (vs.set j v)::Γ) h'→k.wp P Q h'):(T.store ⟨b,j,none⟩ v k).wp P Q h:=
 O7 H hp (eK hj) hk
theorem GR {ty:TypeId}{vs:List Value}{k:Nat→T}(H:St φ Γ h) (hk:∀r h',(∀a v,B4 h a=some v→B4 h' a=some v)→St φ (cW ty r vs::Γ) h'→(k r).wp P Q h'):(T.new (.cells vs.toArray ty (0,0)) k).wp P Q h:=
 Ms (hk _ _ (fun a v ha=>by
  rw [←HE]at ha ⊢;refine HF (fun i o ho=> ?_) ha
  have:=A8 ho
  show (h.push _)[i]? =some o;rw [bO,if_neg (by omega)];exact ho) (H.new vs))
theorem St.shutR {α:Type}{ty:TypeId}{r:Ro α}{cs vs:List Value}{x:α}(H:St φ (⟨Rep.raw ty,cs,vs⟩::Γ) h) (hr:r.is φ vs x):St φ (⟨Rep.obj ty (Rep.ro r),cs,x⟩::Γ) h:=
 St.shut (St.at1 (St.unro (r:=r) H hr))
theorem St.openR {α:Type}{ty:TypeId}{r:Ro α}{p:Option Addr}{x:α}(H:St φ (⟨Rep.obj ty (Rep.ro r),[.pointer p],x⟩::Γ) h):
 ∃b vs,p=some ⟨b,0,none⟩∧r.is φ vs x∧St φ (cW ty b vs::Γ) h:=by
 obtain ⟨b,vs,e,_,s⟩:=H.open;obtain ⟨h1,h2⟩:=St.ro s.at1;exact ⟨b,vs,by simpa using e,h1,h2⟩
theorem St.at10 {c0 c1 c2 c3 c4 c5 c6 c7 c8 c9 c10:Chk}(H:St φ (c0::c1::c2::c3::c4::c5::c6::c7::c8::c9::c10::Γ) h):St φ (c10::c0::c1::c2::c3::c4::c5::c6::c7::c8::c9::Γ) h:=H.perm (BT 10 (c0::c1::c2::c3::c4::c5::c6::c7::c8::c9::c10::Γ))
theorem St.at11 {c0 c1 c2 c3 c4 c5 c6 c7 c8 c9 c10 c11:Chk}(H:St φ (c0::c1::c2::c3::c4::c5::c6::c7::c8::c9::c10::c11::Γ) h):St φ (c11::c0::c1::c2::c3::c4::c5::c6::c7::c8::c9::c10::Γ) h:=H.perm (BT 11 (c0::c1::c2::c3::c4::c5::c6::c7::c8::c9::c10::c11::Γ))
theorem St.at12 {c0 c1 c2 c3 c4 c5 c6 c7 c8 c9 c10 c11 c12:Chk}(H:St φ (c0::c1::c2::c3::c4::c5::c6::c7::c8::c9::c10::c11::c12::Γ) h):St φ (c12::c0::c1::c2::c3::c4::c5::c6::c7::c8::c9::c10::c11::Γ) h:=H.perm (BT 12 (c0::c1::c2::c3::c4::c5::c6::c7::c8::c9::c10::c11::c12::Γ))
theorem St.at14 {c0 c1 c2 c3 c4 c5 c6 c7 c8 c9 c10 c11 c12 c13 c14:Chk}(H:St φ (c0::c1::c2::c3::c4::c5::c6::c7::c8::c9::c10::c11::c12::c13::c14::Γ) h):St φ (c14::c0::c1::c2::c3::c4::c5::c6::c7::c8::c9::c10::c11::c12::c13::Γ) h:=H.perm (BT 14 (c0::c1::c2::c3::c4::c5::c6::c7::c8::c9::c10::c11::c12::c13::c14::Γ))
theorem St.at15 {c0 c1 c2 c3 c4 c5 c6 c7 c8 c9 c10 c11 c12 c13 c14 c15:Chk}(H:St φ (c0::c1::c2::c3::c4::c5::c6::c7::c8::c9::c10::c11::c12::c13::c14::c15::Γ) h):St φ (c15::c0::c1::c2::c3::c4::c5::c6::c7::c8::c9::c10::c11::c12::c13::c14::Γ) h:=H.perm (BT 15 (c0::c1::c2::c3::c4::c5::c6::c7::c8::c9::c10::c11::c12::c13::c14::c15::Γ))
theorem St.at16 {c0 c1 c2 c3 c4 c5 c6 c7 c8 c9 c10 c11 c12 c13 c14 c15 c16:Chk}(H:St φ (c0::c1::c2::c3::c4::c5::c6::c7::c8::c9::c10::c11::c12::c13::c14::c15::c16::Γ) h):St φ (c16::c0::c1::c2::c3::c4::c5::c6::c7::c8::c9::c10::c11::c12::c13::c14::c15::Γ) h:=H.perm (BT 16 (c0::c1::c2::c3::c4::c5::c6::c7::c8::c9::c10::c11::c12::c13::c14::c15::c16::Γ))
theorem St.freezeR {α:Type}{ty:TypeId}{R:Rep α}{r:Ro α}{p:Option Addr}{x:α}(hz:Frz R r) (H:St φ (⟨Rep.obj ty R,[.pointer p],x⟩::Γ) h):∃ψ,Sub φ ψ∧Pt r ψ p x∧St ψ Γ h:=by
 obtain ⟨ψ,h1,⟨a,vs,e,g1,g2⟩,h3⟩:=St.freeze (Nx hz) H;exact ⟨ψ,h1,⟨a,vs,by simpa using e,g1,g2⟩,h3⟩
theorem Ro.All.setCell {α:Type}{r:Ro α}{x x':α}{j:Nat}{v:Value}(hr:∀cs,r.is φ cs x→r.is φ (cs.set j v) x') (hj:j<r.sz) {vs:List Value}{l:List α}(hall:r.All φ vs l):∀i:Nat,l[i]? =some x→r.All φ (vs.set (i *r.sz+j) v) (l.set i x'):=by
 induction hall with
 |nil=>intro i hi;simp at hi
 | @cons a b y l hy hb ih=>
  intro i hi;have hl:=r.len hy;cases i with
  |zero=>
   simp only [eF,Option.some.injEq]at hi;subst hi;rw [Nat.zero_mul,dL,List.set_append_left _ _ (by omega)];exact .cons (hr _ hy) hb
  |succ i=>
   have e:(i+1) *r.sz+j=a.length+(i *r.sz+j):=by rw [hl,bW];omega
   rw [e,List.set_append_right _ _ (by omega),dI];exact .cons hy (ih i (by simpa using hi))
theorem Jl {α:Type}{ty:TypeId}{r:Ro α}{t:Slc}{l m:List α}{i:Int}{x x':α}{v:Value}{k:T}{a A:Addr}{j:Nat}(H:St φ (⟨Rep.row ty r,[.slice t.1 t.2.1 t.2.2],l⟩::Γ) h) (hx:idx l i=some x) (hm:GO l i x'=some m)
 (hr:∀cs,r.is φ cs x→r.is φ (cs.set j v) x') (hj:fH j r.sz=true) (hpl:Value.plain v=true) (ha:t.1=some a) (hA:A=a.add (i.toNat *r.sz+j))
 (hk:∀h',St φ (cR ty r t m::Γ) h'→k.wp P Q h'):(T.store A v k).wp P Q h:=by
 have hj:j<r.sz:=eK hj;obtain ⟨F,⟨p,n,c,vs,e,hn,hc,hfu,ho,hall,hF⟩,h2,H⟩:=H;have hn:l.length=n:=hn;simp only [List.cons.injEq,Value.slice.injEq,and_true]at e;obtain ⟨e1,e2,e3⟩:=e;obtain ⟨h0,h1,rfl⟩:=FI hm;obtain ⟨_,_,hx'⟩:=Ea hx;rw [e1]at ha;subst ha;subst hA;rcases ho with ⟨hp,_⟩|⟨b,off,arr,hp,hb,g1,g2,g3,g4⟩
 ·cases hp
 ·cases hp;have hin:i.toNat *r.sz+j<n *r.sz:=by
   have:i.toNat+1≤n:=by omega
   have:=cV r.sz this
   rw [bW]at this;omega
  have hcn:n *r.sz≤c *r.sz:=cV _ g2;have hlt:off+(i.toNat *r.sz+j) <arr.size:=by omega
  rw [Fc];have hb1:=E0 (off:=off+(i.toNat *r.sz+j)) (v:=v) hb;refine Je hpl ?_ ?_ (hk _ ?_)
  ·rw [Du (c:=arr) (t:=ty) (f:=(0,0)) hb rfl];simp;omega
  ·unfold EQ DK dR;simp [hb]
  ·have hs:=H.sub;have hne:∀k,¬F k→(Bm h ⟨b,off+(i.toNat *r.sz+j),none⟩ v)[k]? =h[k]? :=fun k hk=>Ez fun e=>hk ((hF k).2 (by simp [blk];exact e));refine ⟨F,⟨some ⟨b,off,none⟩,n,c,vs.set (i.toNat *r.sz+j) v,by dsimp only;rw [e1,e2,e3],by simp;exact hn,hc,(fun b' off' s' e=>by cases e;obtain ⟨q1,q2⟩:=hfu _ _ _ rfl;exact ⟨q1,fun arr' ty' f' harr=>by rw [hb1]at harr;cases harr;rw [dB];exact q2 _ _ _ hb⟩),.inr ⟨b,off,_,rfl,hb1,by rw [List.length_set];exact g1,g2,by rw [dB];exact g3,fun q u hu=> ?_⟩,Ro.All.setCell hr hj hall i.toNat hx',hF⟩,h2,StX.heap H (fun k _ hX=>hne k fun g=>hX (.inr g)) fun q o ho=> ?_⟩
   ·rw [fA]at hu;split at hu
    ·rename_i hq
     subst hq;split at hu
     ·cases hu;rw [cC];simp;omega
     ·cases hu
    ·rw [bN (by omega)];exact g4 q u hu
   ·show (Bm h _ v)[q]? =some o;rw [hne q fun g=>by rw [(h2 q g).1]at ho;cases ho];exact hs q o ho
end
def Jm (φ:AF) (h:AE):List Chk→F1→Prop
 | [],F=>∀k,¬F k
 |c::Γ,F=>∃A B:F1,c.on φ h A∧Jm φ h Γ B∧(∀k,A k→B k→False)∧ ∀k,F k↔A k∨B k
theorem Jm.mono {φ ψ:AF}{h:AE}(hs:Sub φ ψ):∀ {Γ:List Chk}{F:F1},Jm φ h Γ F→Jm ψ h Γ F:=by
 intro Γ
 induction Γ with
 |nil=>intro F H;exact H
 |cons c Γ ih=>intro F ⟨A,B,h1,h2,h3,h4⟩;exact ⟨A,B,c.R.mono hs h1,ih h2,h3,h4⟩
structure Pk (α:Type) where
 sz:Nat
 L:AF→List Value→α→List Chk→Prop
 len:∀ {φ cs x Γ},L φ cs x Γ→cs.length=sz
 mono:∀ {φ ψ cs x Γ},Sub φ ψ→L φ cs x Γ→L ψ cs x Γ
 plain:∀ {φ cs x Γ},L φ cs x Γ→ ∀v∈cs,Value.plain v=true
def Ro.at {α:Type}(r:Ro α):Ro α where
 sz:=1
 is φ cs x:= ∃p,cs= [.pointer p] ∧Pt r φ p x
 len h:=by obtain ⟨p,rfl,_⟩:=h;rfl
 mono hs h:=by obtain ⟨p,e,h⟩:=h;exact ⟨p,e,h.mono hs⟩
 plain h v hv:=by obtain ⟨p,rfl,_⟩:=h;simp at hv;subst hv;rfl
abbrev Ro.map:Ro (Option Nat):=Ro.atom .map
section
variable {P:Program}{Q:Be→AE→Prop}{h:AE}{φ ψ:AF}{Γ:List Chk}
theorem Dv {a:Bb}{t:Slc}{l:List a.Ty}{i:Int}{x:a.Ty}{K:a.Ty→T}(k:Ro.SliceIs (Ro.atom a) φ t l) (hx:idx l i=some x) (hs:Sub φ (BX h)) (hK:(K x).wp P Q h):
 (AJ t.1 fun A=>chk (0≤i∧i< (t.2.1:Nat))<|T.load a (A.add (fG i *1)) K).wp P Q h:=by
 obtain ⟨A1,cs,ea,hi,r1,cl⟩:=k.get hx;refine AH _ ea (Am hi ?_);obtain rfl:cs= [a.val x]:=r1;exact AN (x:=x) (AD hs (cl 0 _ rfl)) rfl hK
theorem Hv {α:Type}{r:Ro α}{t:Slc}{l:List (List α)}{i:Int}{x:List α}{K:Slc→T}(k:Ro.SliceIs (Ro.list r) φ t l) (hx:idx l i=some x) (hs:Sub φ (BX h)) (hK:∀u,Ro.SliceIs r φ u x→(K u).wp P Q h):
 (AJ t.1 fun A=>chk (0≤i∧i< (t.2.1:Nat))<|T.load .slice (A.add (fG i *1)) K).wp P Q h:=by
 obtain ⟨A1,cs,ea,hi,r1,cl⟩:=k.get hx;refine AH _ ea (Am hi ?_);obtain ⟨u,rfl,ku⟩:=r1;exact AN (x:=u) (AD hs (cl 0 _ rfl)) rfl (hK u ku)
theorem Jn {a:Bb}{ty:TypeId}{t:Slc}{l:List a.Ty}{i:Int}{x:a.Ty}{K:a.Ty→T}(H:St φ (cR ty (Ro.atom a) t l::Γ) h) (hx:idx l i=some x) (hK:(K x).wp P Q h):
 (AJ t.1 fun A=>chk (0≤i∧i< (t.2.1:Nat))<|T.load a (A.add (fG i *1)) K).wp P Q h:=by
 obtain ⟨A1,cs,ea,hi,r1,cl⟩:=St.get H hx;refine AH _ ea (Am hi ?_);obtain rfl:cs= [a.val x]:=r1;exact AN (x:=x) (cl 0 _ rfl) rfl hK
end
abbrev aI:Sh1:=.atom (.int .i64)
abbrev aB:Sh1:=.atom .bool
abbrev aS:Sh1:=.atom .slice
abbrev aP:Sh1:=.atom .pointer
abbrev wN (x:Int):Int:=dK .i64 (x+(1:Int))
theorem dT {i:Int}{a b:Nat}(n:a=b) (h:i< ((b:Nat):Int)):decide (i< ((a:Nat):Int))=true:=by rw [n];exact decide_eq_true h
theorem dF {i:Int}{a b:Nat}(n:a=b) (h:((b:Nat):Int) ≤i):decide (i< ((a:Nat):Int))=false:=by rw [n];exact decide_eq_false (Int.not_lt.2 h)
abbrev Pl6:Type:=Slc×Slc×Slc×Slc×Slc×Slc×Unit
abbrev aH (a b c d e f:Slc):Value:=.agg #[sv a,sv b,sv c,sv d,sv e,sv f]
abbrev aG (p:Pl6):Value:=.agg #[sv p.1,sv p.2.1,sv p.2.2.1,sv p.2.2.2.1,sv p.2.2.2.2.1,sv p.2.2.2.2.2.1]
noncomputable abbrev L6 (r:Nat) (k:Slc→Slc→Slc→Slc→Slc→Slc→T):T:=T.load .slice ⟨r,0,none⟩ fun (a:Slc)=>T.load .slice ⟨r,1,none⟩ fun (b:Slc)=>T.load .slice ⟨r,2,none⟩ fun (c:Slc)=>T.load .slice ⟨r,3,none⟩ fun (d:Slc)=>T.load .slice ⟨r,4,none⟩ fun (e:Slc)=>T.load .slice ⟨r,5,none⟩ fun (f:Slc)=>k a b c d e f
noncomputable abbrev M6 (r:Addr) (k:Slc→Slc→Slc→Slc→Slc→Slc→T):T:=T.load .slice r fun (a:Slc)=>T.load .slice (r.add 1) fun (b:Slc)=>T.load .slice (r.add 2) fun (c:Slc)=>T.load .slice (r.add 3) fun (d:Slc)=>T.load .slice (r.add 4) fun (e:Slc)=>T.load .slice (r.add 5) fun (f:Slc)=>k a b c d e f
noncomputable abbrev S6 (r:Nat) (a b c d e f:Slc) (k:T):T:=T.still ⟨r,0,none⟩ (sv a)<|T.still ⟨r,1,none⟩ (sv b)<|T.still ⟨r,2,none⟩ (sv c)<|T.still ⟨r,3,none⟩ (sv d)<|T.still ⟨r,4,none⟩ (sv e)<|T.still ⟨r,5,none⟩ (sv f)<|k
end Go.Eng
namespace Go.Proofs.YteoafgapjneblaaGreatDoor
open Go Go.Eng
abbrev Aj:Type:=(Int×Int)
abbrev Av:Ro Aj:=(Ro.prod (Ro.int .i64) (Ro.int .i64))
abbrev GS:Type:=(Int×Int)
abbrev ES:Ro GS:=(Ro.prod (Ro.int .i64) (Ro.int .i64))
abbrev Hw:Type:=(ByteArray×ByteArray×Bool)
abbrev Jo:Ro Hw:=(Ro.prod Ro.str (Ro.prod Ro.str Ro.bool))
abbrev HH:Type:=(ByteArray×ByteArray×ByteArray×Bool)
abbrev Hb:Ro HH:=(Ro.prod Ro.str (Ro.prod Ro.str (Ro.prod Ro.str Ro.bool)))
abbrev DP:Type:=(Int×List ByteArray)
abbrev E1:Ro DP:=(Ro.prod (Ro.int .i64) (Ro.list Ro.str))
abbrev Dw:Type:=(ByteArray×List ByteArray×ByteArray×ByteArray)
abbrev HI:Ro Dw:=(Ro.prod Ro.str (Ro.prod (Ro.list Ro.str) (Ro.prod Ro.str Ro.str)))
abbrev A0:Type:=(Int×List Int×Int)
abbrev A5:Ro A0:=(Ro.prod (Ro.int .i64) (Ro.prod (Ro.list (Ro.int .i64)) (Ro.int .i64)))
abbrev Aw:Type:=(List ByteArray×List ByteArray×List A0×List Int×List Int×List ByteArray)
abbrev Da:Type:=(List HH×List Hw×List DP×ByteArray×List Dw)
abbrev Ib:Type:=(Int×Int×List Int×List (List Int)×List Int×List Int×List Int)
abbrev O8:Type:=(List Aj×List Aj×List GS×Int×Int)
abbrev Od:Ro O8:=(Ro.prod (Ro.list Av) (Ro.prod (Ro.list Av) (Ro.prod (Ro.list ES) (Ro.prod (Ro.int .i64) (Ro.int .i64)))))
abbrev ET:Type:=(List ByteArray×List ByteArray×List A0×List Int×List Int×List ByteArray×List O8×Int)
abbrev Ic:Ro ET:=(Ro.prod (Ro.list Ro.str) (Ro.prod (Ro.list Ro.str) (Ro.prod (Ro.list A5) (Ro.prod (Ro.list (Ro.int .i64)) (Ro.prod (Ro.list (Ro.int .i64)) (Ro.prod (Ro.list Ro.str) (Ro.prod (Ro.list Od) (Ro.int .i64))))))))
abbrev G5:Type:=(List ByteArray×List ByteArray×List A0×List Int×List Int×List ByteArray×Slc×Int)
abbrev CH:Ro G5:=(Ro.prod (Ro.list Ro.str) (Ro.prod (Ro.list Ro.str) (Ro.prod (Ro.list A5) (Ro.prod (Ro.list (Ro.int .i64)) (Ro.prod (Ro.list (Ro.int .i64)) (Ro.prod (Ro.list Ro.str) (Ro.prod Ro.slc (Ro.int .i64))))))))
abbrev Bv:Type:=(Int×Int×Int)
abbrev Dx:Ro Bv:=(Ro.prod (Ro.int .i64) (Ro.prod (Ro.int .i64) (Ro.int .i64)))
abbrev I7:Type:=(List ByteArray×List ByteArray×List A0×List Int×List Int×List ByteArray×List (List Aj)×List (List Aj)×List (List GS)×List Int×List Int×Int)
abbrev Mz:Ro I7:=(Ro.prod (Ro.list Ro.str) (Ro.prod (Ro.list Ro.str) (Ro.prod (Ro.list A5) (Ro.prod (Ro.list (Ro.int .i64)) (Ro.prod (Ro.list (Ro.int .i64)) (Ro.prod (Ro.list Ro.str) (Ro.prod (Ro.list (Ro.list Av)) (Ro.prod (Ro.list (Ro.list Av)) (Ro.prod (Ro.list (Ro.list ES)) (Ro.prod (Ro.list (Ro.int .i64)) (Ro.prod (Ro.list (Ro.int .i64)) (Ro.int .i64))))))))))))
abbrev FC:Rep Aw:=(Rep.prod (Rep.row 9 Ro.str) (Rep.prod (Rep.row 9 Ro.str) (Rep.prod (Rep.row 105 A5) (Rep.prod (Rep.row 3 (Ro.int .i64)) (Rep.prod (Rep.row 3 (Ro.int .i64)) (Rep.row 9 Ro.str))))))
theorem Dk {φ:AF}{h:AE}{Γ:List Chk}{p:Option Addr}{x:Aw}(H:St φ (cO 32 FC p x::Γ) h):∃(b:Nat) (t0:Slc) (t1:Slc) (t2:Slc) (t3:Slc) (t4:Slc) (t5:Slc),p=some ⟨b,0,none⟩∧St φ (cR 9 Ro.str t5 x.2.2.2.2.2::cR 3 (Ro.int .i64) t4 x.2.2.2.2.1::cR 3 (Ro.int .i64) t3 x.2.2.2.1::cR 105 A5 t2 x.2.2.1::cR 9 Ro.str t1 x.2.1::cR 9 Ro.str t0 x.1::cW 32 b [sv t0,sv t1,sv t2,sv t3,sv t4,sv t5]::Γ) h:=by
 obtain ⟨b,vs,e,_,H⟩:=H.open;have H:=H.at1;obtain ⟨_,_,rfl,_,H⟩:=H.pair;obtain ⟨t0,e0⟩:=H.rowCs;subst e0;have H:=H.at1;obtain ⟨_,_,rfl,_,H⟩:=H.pair;obtain ⟨t1,e1⟩:=H.rowCs;subst e1;have H:=H.at1;obtain ⟨_,_,rfl,_,H⟩:=H.pair;obtain ⟨t2,e2⟩:=H.rowCs;subst e2;have H:=H.at1;obtain ⟨_,_,rfl,_,H⟩:=H.pair;obtain ⟨t3,e3⟩:=H.rowCs;subst e3;have H:=H.at1;obtain ⟨_,_,rfl,_,H⟩:=H.pair;obtain ⟨t4,e4⟩:=H.rowCs;subst e4;have H:=H.at1;obtain ⟨t5,e5⟩:=H.rowCs;subst e5;exact ⟨b,t0,t1,t2,t3,t4,t5,by simpa using e,H⟩
theorem Ff {φ:AF}{h:AE}{Γ:List Chk}{b:Nat}{t0:Slc}{t1:Slc}{t2:Slc}{t3:Slc}{t4:Slc}{t5:Slc}{x0:List ByteArray}{x1:List ByteArray}{x2:List A0}{x3:List Int}{x4:List Int}{x5:List ByteArray}(H:St φ (cR 9 Ro.str t5 x5::cR 3 (Ro.int .i64) t4 x4::cR 3 (Ro.int .i64) t3 x3::cR 105 A5 t2 x2::cR 9 Ro.str t1 x1::cR 9 Ro.str t0 x0::cW 32 b [sv t0,sv t1,sv t2,sv t3,sv t4,sv t5]::Γ) h):St φ (cO 32 FC (some ⟨b,0,none⟩) (x0,x1,x2,x3,x4,x5)::Γ) h:=by
 have H:=H.at1;have H:=St.unpair H;have H:=H.at1;have H:=St.unpair H;have H:=H.at1;have H:=St.unpair H;have H:=H.at1;have H:=St.unpair H;have H:=H.at1;have H:=St.unpair H;exact St.shut H.at1
abbrev Fg:Rep Da:=(Rep.prod (Rep.row 99 Hb) (Rep.prod (Rep.ro (Ro.list Jo)) (Rep.prod (Rep.row 102 E1) (Rep.prod (Rep.ro Ro.str) (Rep.row 95 HI)))))
theorem Fh {φ:AF}{h:AE}{Γ:List Chk}{p:Option Addr}{x:Da}(H:St φ (cO 65 Fg p x::Γ) h):∃(b:Nat) (t0:Slc) (t1:Slc) (t2:Slc) (t4:Slc),p=some ⟨b,0,none⟩∧Ro.SliceIs Jo φ t1 x.2.1∧St φ (cR 95 HI t4 x.2.2.2.2::cR 102 E1 t2 x.2.2.1::cR 99 Hb t0 x.1::cW 65 b [sv t0,sv t1,sv t2,.string (x.2.2.2.1),sv t4]::Γ) h:=by
 obtain ⟨b,vs,e,_,H⟩:=H.open;have H:=H.at1;obtain ⟨_,_,rfl,_,H⟩:=H.pair;obtain ⟨t0,e0⟩:=H.rowCs;subst e0;have H:=H.at1;obtain ⟨_,_,rfl,_,H⟩:=H.pair;obtain ⟨g,H⟩:=H.ro;obtain ⟨t1,e1,k1⟩:=g;subst e1;obtain ⟨_,_,rfl,_,H⟩:=H.pair;obtain ⟨t2,e2⟩:=H.rowCs;subst e2;have H:=H.at1;obtain ⟨_,_,rfl,_,H⟩:=H.pair;obtain ⟨g,H⟩:=H.ro;subst g;obtain ⟨t4,e4⟩:=H.rowCs;subst e4;exact ⟨b,t0,t1,t2,t4,by simpa using e,k1,H⟩
theorem EE {φ:AF}{h:AE}{Γ:List Chk}{b:Nat}{t0:Slc}{t1:Slc}{t2:Slc}{t4:Slc}{x0:List HH}{x1:List Hw}{x2:List DP}{x3:ByteArray}{x4:List Dw}(H:St φ (cR 95 HI t4 x4::cR 102 E1 t2 x2::cR 99 Hb t0 x0::cW 65 b [sv t0,sv t1,sv t2,.string (x3),sv t4]::Γ) h) (k1:Ro.SliceIs Jo φ t1 x1):St φ (cO 65 Fg (some ⟨b,0,none⟩) (x0,x1,x2,x3,x4)::Γ) h:=by
 have H:=St.unro (r:=Ro.str) (cs:=[.string x3]) (x:=x3) H rfl;have H:=St.unpair H;have H:=H.at1;have H:=St.unpair H;have H:=St.unro (r:=(Ro.list Jo)) (cs:=[.slice t1.1 t1.2.1 t1.2.2]) (x:=x1) H ⟨t1,rfl,k1⟩;have H:=St.unpair H;have H:=H.at1;have H:=St.unpair H;exact St.shut H.at1
end Go.Proofs.YteoafgapjneblaaGreatDoor
