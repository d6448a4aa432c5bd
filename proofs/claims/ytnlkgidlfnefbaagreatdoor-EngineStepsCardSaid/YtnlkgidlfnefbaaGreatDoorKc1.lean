/- The parts EngA to EngF, put together. Conditions: each tells its own. -/
import Derived.Calls
import Derived.Defers
import Derived.Orders
import Derived.Laws.StructEq
import Derived.Conc.LoneSelect
open Go.Sem renaming bind → bD,run → hC,bind_assoc' → kJ,pure → kZ
open List renaming getD_eq_getElem?_getD → bO,getElem?_append_left → hA,mem_cons_of_mem → kI,mem_filter → kQ,getElem?_eq_none → kT
open Array renaming getElem?_toList → eE,getElem?_setIfInBounds_ne → kF,mem_of_getElem? → kG,mem_toList_iff → kV
open Go.Builtin renaming len_ → hM,cap_ → kY
open Go.Instr renaming sliceBound → kH,sliceAt → kO,indexAt → kW,sliceBounds → lA,index → lB
open Bool renaming false_eq_true → kK,or_eq_false_iff → kU
open Option renaming isSome_iff_exists → kL
open Nat renaming beq → kX
open Go renaming Value → lC,TypeId → lD,Program → lF,World → lG,Addr → lH
namespace Go.Eng
open Go
abbrev AH:=Array Obj
def D3 (h:AH):lG:={heap:=h,tape:=λ_ _=>0,drawn:=0,os:=default,output:=#[]}
def BJ (h:AH) (a:lH):Option lC:=(D3 h).cell? a
def eS (h:AH) (r:Nat):Option (lD×Nat):=(D3 h).shape? r
def HC (h:AH) (a:lH):Bool:=(D3 h).frozen? a
def Sn (h:AH) (a:lH) (n:Nat):AH:=((D3 h).freeze a n).heap
def CT (h:AH) (a:lH) (v:lC):AH:=((D3 h).setCell a v).heap
theorem Vb (w:lG) (a:lH):w.cell? a=BJ w.heap a:=rfl
theorem UA (w:lG) (a:lH) (n:Nat):(w.freeze a n).heap=Sn w.heap a n:=by
 unfold Sn World.freeze
 split<;>rfl
structure B4 (w w':lG):Prop where
 os:w'.os=w.os
 tape:w'.tape=w.tape
 output:w'.output=w.output
 size:w.heap.size≤w'.heap.size
theorem B4.refl (w:lG):B4 w w:=⟨rfl,rfl,rfl,Nat.le_refl _⟩
theorem B4.trans {a b c:lG}(h:B4 a b) (k:B4 b c):B4 a c:=⟨k.os.trans h.os,k.tape.trans h.tape,k.output.trans h.output,Nat.le_trans h.size k.size⟩
theorem B4.freeze (w:lG) (a:lH) (n:Nat):B4 w (w.freeze a n):=by
 unfold World.freeze;split
 all_goals exact⟨rfl,rfl,rfl,by simp⟩
theorem B4.setCell (w:lG) (a:lH) (v:lC):B4 w (w.setCell a v):=⟨rfl,rfl,rfl,by unfold World.setCell;simp⟩
theorem B4.push (w:lG) (o:Obj):B4 w {w with heap:=w.heap.push o} :=⟨rfl,rfl,rfl,by simp⟩
theorem B4.setObj (w:lG) (r:Nat) (o:Obj):B4 w {w with heap:=w.heap.setIfInBounds r o} :=⟨rfl,rfl,rfl,by simp⟩
def Value.plain:lC→Bool
 |.agg _ | .tuple _=>false
 |_=>true
def Ab (P:lF) {α:Type}:Sem α→(α→AH→Prop)→(lC→AH→Prop)→AH→Prop
 |.pure a,K,_,h=>K a h
 |.load _ a k,K,X,h=>∃v,BJ h a=some v∧Ab P (k v) K X h
 |.store _ a v k,K,X,h=>Value.plain v=true∧(BJ h a).isSome=true∧HC h a=false∧Ab P k K X (CT h a v)
 |.new o k,K,X,h=>Ab P (k h.size) K X (h.push o)
 |.shape r k,K,X,h=>Ab P (k (eS h r)) K X h
 |.freeze a n k,K,X,h=>Ab P k K X (Sn h a n)
 |.frozen a k,K,X,h=>Ab P (k (HC h a)) K X h
 |.getObj r k,K,X,h=>∃o,h[r]? =some o∧(∀c e f,o≠.cells c e f)∧Ab P (k o) K X h
 |.setObj r o k,K,X,h=>(∃b,h[r]? =some b∧(∀c e f,b≠.cells c e f))∧Ab P k K X (h.setIfInBounds r o)
 |.choose q k,K,X,h=>if q.forced=true then Ab P (k 0) K X h else ∀t,Ab P (k (q.cut t)) K X h
 |.sys _ _,_,_,_=>False
 |.program k,K,X,h=>Ab P (k P) K X h
 |.mark _ k,K,X,h=>Ab P k K X h
 |.halt (.panic v),_,X,h=>X v h
 |.halt _,_,_,_=>False
theorem Rx {P:lF}{α:Type}(s:Sem α):∀ {K:α→AH→Prop}{X:lC→AH→Prop}(w:lG),Ab P s K X w.heap→
 (∃a d,s.run P w= .ok a d∧B4 w d∧K a d.heap)∨(∃v d,s.run P w= .halt (.panic v) d∧B4 w d∧X v d.heap):=by
 induction s with
 |pure a=>intro K X w h;exact .inl ⟨a,w,rfl,.refl w,h⟩
 |load m a k f=>
  intro K X w h;obtain⟨v,t,l⟩:=h
  have:w.cell? a=some v:=t
  simp only[hC,this];exact f v w l
 |store m a v k f=>
  intro K X w h;obtain⟨F,u,y,l⟩:=h;have⟨x,z⟩:=kL.1 u;have A:w.cell? a=some x:=z;have B:w.frozen? a=false:=y;have j:hC P (.store m a v k) w=k.run P (w.setCell a v):=by
   cases v<;>simp_all [Value.plain,hC]
  rw[j];rcases f (w.setCell a v) l with⟨b,d,g,e,i⟩|⟨b,d,g,e,i⟩
  ·exact .inl ⟨b,d,g,(B4.setCell w a v).trans e,i⟩
  ·exact .inr ⟨b,d,g,(B4.setCell w a v).trans e,i⟩
 |new o k f=>
  intro K X w h;simp only[hC];rcases f w.heap.size {w with heap:=w.heap.push o} h with⟨b,d,g,e,i⟩|⟨b,d,g,e,i⟩
  ·exact .inl ⟨b,d,g,(B4.push w o).trans e,i⟩
  ·exact .inr ⟨b,d,g,(B4.push w o).trans e,i⟩
 |shape r k f=>intro K X w h;simp only[hC];exact f _ w h
 |freeze a n k f=>
  intro K X w h;simp only[hC];rcases f (w.freeze a n) (by rw[UA];exact h) with⟨b,d,g,e,i⟩|⟨b,d,g,e,i⟩
  ·exact .inl ⟨b,d,g,(B4.freeze w a n).trans e,i⟩
  ·exact .inr ⟨b,d,g,(B4.freeze w a n).trans e,i⟩
 |frozen a k f=>intro K X w h;simp only[hC];exact f _ w h
 |getObj r k f=>
  intro K X w h;obtain⟨o,C,D,l⟩:=h;have j:hC P (.getObj r k) w=(k o).run P w:=by
   cases o<;>simp_all [hC]
  rw[j];exact f o w l
 |setObj r o k f=>
  intro K X w h;obtain⟨⟨E,C,D⟩,l⟩:=h;have j:hC P (.setObj r o k) w=k.run P {w with heap:=w.heap.setIfInBounds r o} :=by
   cases E<;>simp_all [hC]
  rw[j];rcases f {w with heap:=w.heap.setIfInBounds r o} l with⟨b,d,g,e,i⟩|⟨b,d,g,e,i⟩
  ·exact .inl ⟨b,d,g,(B4.setObj w r o).trans e,i⟩
  ·exact .inr ⟨b,d,g,(B4.setObj w r o).trans e,i⟩
 |choose q k f=>
  intro K X w h;simp only[Ab]at h;simp only[hC];split at h
  ·rename_i p;simp only[p,if_true];exact f _ w h
  ·rename_i p
   simp only[p];rcases f (q.cut (w.tape w.drawn q)) {w with drawn:=w.drawn+1} (h _) with⟨b,d,g,e,i⟩|⟨b,d,g,e,i⟩
   ·exact .inl ⟨b,d,g,⟨e.os,e.tape,e.output,e.size⟩,i⟩
   ·exact .inr ⟨b,d,g,⟨e.os,e.tape,e.output,e.size⟩,i⟩
 |sys c k f=>intro K X w h;exact h.elim
 |program k f=>intro K X w h;simp only[hC];exact f _ w h
 |mark m k f=>intro K X w h;simp only[hC];exact f w h
 |halt x=>
  intro K X w h;cases x<;>first | exact h.elim | exact .inr ⟨_,w,rfl,.refl w,h⟩
theorem Bg {P:lF}{α:Type}(s:Sem α):∀ {K g:α→AH→Prop}{X X':lC→AH→Prop}{h:AH},
 (∀a h,K a h→g a h)→(∀a h,X a h→X' a h)→Ab P s K X h→Ab P s g X' h:=by
 induction s with
 |pure a=>intro K g X X' h d e H;exact d _ _ H
 |load m a k f=>intro K g X X' h d e ⟨v,hv,H⟩;exact⟨v,hv,f v d e H⟩
 |store m a v k f=>intro K g X X' h d e ⟨a,b,c,H⟩;exact⟨a,b,c,f d e H⟩
 |new o k f=>intro K g X X' h d e H;exact f _ d e H
 |shape r k f=>intro K g X X' h d e H;exact f _ d e H
 |freeze a n k f=>intro K g X X' h d e H;exact f d e H
 |frozen a k f=>intro K g X X' h d e H;exact f _ d e H
 |getObj r k f=>intro K g X X' h d e ⟨o,a,b,H⟩;exact⟨o,a,b,f o d e H⟩
 |setObj r o k f=>intro K g X X' h d e ⟨a,H⟩;exact⟨a,f d e H⟩
 |choose q k f=>
  intro K g X X' h d e H;simp only[Ab]at H ⊢;split at H
  ·rename_i i;simp only[i,if_true];exact f _ d e H
  ·rename_i i;simp only[i];exact λt=>f _ d e (H t)
 |sys c k f=>intro K g X X' h d e H;exact H
 |program k f=>intro K g X X' h d e H;exact f _ d e H
 |mark m k f=>intro K g X X' h d e H;exact f d e H
 |halt x=>intro K g X X' h d e H;cases x<;>first | exact H | exact e _ _ H
theorem An {P:lF}{α β:Type}(s:Sem α) (f:α→Sem β):∀ {K:β→AH→Prop}{X:lC→AH→Prop}{h:AH},
 Ab P s (λa g=>Ab P (f a) K X g) X h→Ab P (s.bind f) K X h:=by
 induction s with
 |pure a=>intro K X h H;exact H
 |load m a k d=>intro K X h ⟨v,hv,H⟩;exact⟨v,hv,d v H⟩
 |store m a v k d=>intro K X h ⟨a,b,c,H⟩;exact⟨a,b,c,d H⟩
 |new o k d=>intro K X h H;exact d _ H
 |shape r k d=>intro K X h H;exact d _ H
 |freeze a n k d=>intro K X h H;exact d H
 |frozen a k d=>intro K X h H;exact d _ H
 |getObj r k d=>intro K X h ⟨o,a,b,H⟩;exact⟨o,a,b,d o H⟩
 |setObj r o k d=>intro K X h ⟨a,H⟩;exact⟨a,d H⟩
 |choose q k d=>
  intro K X h H;simp only[Ab,bD]at H ⊢;split at H
  ·rename_i e;simp only[e,if_true];exact d _ H
  ·rename_i e;simp only[e];exact λt=>d _ (H t)
 |sys c k d=>intro K X h H;exact H
 |program k d=>intro K X h H;exact d _ H
 |mark m k d=>intro K X h H;exact d H
 |halt x=>intro K X h H;cases x<;>exact H
inductive BP where
 |int (k:IntKind)|bool | string | pointer | slice | map | chan | func | iface
 deriving DecidableEq,Inhabited
abbrev BP.Ty:BP→Type
 |.int _=>Int
 |.bool=>Bool
 |.string=>ByteArray
 |.pointer=>Option lH
 |.slice=>Option lH×Nat×Nat
 |.map=>Option Nat
 |.chan=>Option Nat
 |.func=>Option (Fn×Array lC×Array lC)
 |.iface=>Option (lD×lC)
def BP.val:(a:BP)→a.Ty→lC
 |.int k,n=>.int k n
 |.bool,b=>.bool b
 |.string,s=>.string s
 |.pointer,p=>.pointer p
 |.slice,x=>.slice x.1 x.2.1 x.2.2
 |.map,r=>.map r
 |.chan,r=>.chan r
 |.func,none=>.nilFunc
 |.func,some x=>.func x.1 x.2.1 x.2.2
 |.iface,none=>.nilIface
 |.iface,some x=>.iface x.1 x.2
def BP.of:(a:BP)→lC→Option a.Ty
 |.int k,.int k' n=>if k'=k then some n else none
 |.bool,.bool b=>some b
 |.string,.string s=>some s
 |.pointer,.pointer p=>some p
 |.slice,.slice p n c=>some (p,n,c)
 |.map,.map r=>some r
 |.chan,.chan r=>some r
 |.func,.nilFunc=>some none
 |.func,.func f a b=>some (some (f,a,b))
 |.iface,.nilIface=>some none
 |.iface,.iface t v=>some (some (t,v))
 |_,_=>none
theorem BP.of_val:∀(a:BP) (v:lC) (x:a.Ty),a.of v=some x→v=a.val x:=by
 intro a v x h;cases a<;>cases v<;>simp only[BP.of]at h<;>first
  |(split at h<;>simp_all [BP.val];done)
  |(cases h<;>rfl)
theorem BP.val_plain (a:BP) (x:a.Ty):Value.plain (a.val x)=true:=by cases a<;>first | rfl | (cases x<;>rfl)
abbrev Atoms.Ty:List BP→Type
 | [] =>Unit
 |a::r=>a.Ty×Atoms.Ty r
def Atoms.vals:(l:List BP)→Atoms.Ty l→List lC
 | [],_=>[]
 |a::r,x=>a.val x.1::Atoms.vals r x.2
def Atoms.of:(l:List BP)→List lC→Option (Atoms.Ty l)
 | [],[] =>some ()
 |a::r,v::vs=>match a.of v,Atoms.of r vs with
  |some x,some y=>some (x,y)
  |_,_=>none
 |_,_=>none
theorem Atoms.of_vals:∀(l:List BP) (vs:List lC) (x:Atoms.Ty l),Atoms.of l vs=some x→vs=Atoms.vals l x:=by
 intro l
 induction l with
 |nil=>intro vs x h;cases vs<;>simp_all [Atoms.of,Atoms.vals]
 |cons a r b=>
  intro vs x h;cases vs with
  |nil=>simp[Atoms.of]at h
  |cons v vs=>
   simp only[Atoms.of]at h;split at h
   ·rename_i x1 c d e
    cases h;rw[BP.of_val a v x1 d,b vs c e];rfl
   ·cases h
inductive Sh1 where
 |atom (a:BP)
 |agg (l:List BP)
 deriving Inhabited
abbrev Sh1.Ty:Sh1→Type
 |.atom a=>a.Ty
 |.agg l=>Atoms.Ty l
def Sh1.val:(s:Sh1)→s.Ty→lC
 |.atom a,x=>a.val x
 |.agg l,x=>.agg (Atoms.vals l x).toArray
def Sh1.of:(s:Sh1)→lC→Option s.Ty
 |.atom a,v=>a.of v
 |.agg l,.agg cs=>Atoms.of l cs.toList
 |.agg _,_=>none
theorem Sh1.of_val (s:Sh1) (v:lC) (x:s.Ty) (h:s.of v=some x):v=s.val x:=by
 cases s with
 |atom a=>exact BP.of_val a v x h
 |agg l=>
  cases v<;>simp only[Sh1.of]at h<;>first | cases h | skip
  rename_i cs
  have:=Atoms.of_vals l cs.toList x h
  simp only[Sh1.val,←this]
abbrev Shs.Ty:List Sh1→Type
 | [] =>Unit
 |s::r=>s.Ty×Shs.Ty r
def Shs.vals:(l:List Sh1)→Shs.Ty l→List lC
 | [],_=>[]
 |a::r,x=>a.val x.1::Shs.vals r x.2
def Shs.of:(l:List Sh1)→List lC→Option (Shs.Ty l)
 | [],[] =>some ()
 |a::r,v::vs=>match a.of v,Shs.of r vs with
  |some x,some y=>some (x,y)
  |_,_=>none
 |_,_=>none
theorem Shs.of_vals:∀(l:List Sh1) (vs:List lC) (x:Shs.Ty l),Shs.of l vs=some x→vs=Shs.vals l x:=by
 intro l
 induction l with
 |nil=>intro vs x h;cases vs<;>simp_all [Shs.of,Shs.vals]
 |cons a r b=>
  intro vs x h;cases vs with
  |nil=>simp[Shs.of]at h
  |cons v vs=>
   simp only[Shs.of]at h;split at h
   ·rename_i x1 c d e
    cases h;rw[Sh1.of_val a v x1 d,b vs c e];rfl
   ·cases h
inductive Sh where
 |one (s:Sh1)
 |tuple (l:List Sh1)
 deriving Inhabited
abbrev Sh.Ty:Sh→Type
 |.one s=>s.Ty
 |.tuple l=>Shs.Ty l
def Sh.val:(s:Sh)→s.Ty→lC
 |.one s,x=>s.val x
 |.tuple l,x=>.tuple (Shs.vals l x).toArray
inductive Bs where
 |out (vs:List lC)
 |brk (id:Nat) (vs:List lC)
 |ret (v:lC)
 |pan (chain:List PanicEntry)
inductive T:Type 1 where
 |out (vs:List lC)
 |brk (id:Nat) (vs:List lC)
 |ret (v:lC)
 |pan (v:lC)
 |stuck
 |load (s:BP) (a:lH) (k:s.Ty→T)
 |store (a:lH) (v:lC) (k:T)
 |new (o:Obj) (k:Nat→T)
 |sem (s:Sem lC) (sh:Sh) (k:sh.Ty→T)
 |call (f:FuncId) (args:List lC) (sh:Sh) (k:sh.Ty→T)
 |still (a:lH) (v:lC) (k:T)
 |both (x y:T)
 |join (ss:List Sh1) (x:T) (k:Shs.Ty ss→T)
 |block (id:Nat) (ss:List Sh1) (x:T) (k:Shs.Ty ss→T)
 |loop (ss:List Sh1) (init:List lC) (body:Shs.Ty ss→T)
 |sel (c:Nat) (send:Option lC) (zero:lC) (k:Int→Bool→lC→T)
 |later (f:FuncId) (args:List lC) (x k:T)
 |must (p:Prop) (k:T)
def deref (p:Option lH) (k:lH→T):T:=match p with
 |some a=>k a
 |none=>.stuck
abbrev chk (p:Prop) [Decidable p] (k:T):T:=.must p k
inductive Fin where
 |ret (v:lC)
 |pan (chain:List PanicEntry)
def CallsH (P:lF) (f:FuncId) (args:List lC) (h:AH) (R:Fin→AH→Prop):Prop:=
 ∀w,w.heap=h→Calls P f args.toArray w λe a=>B4 w a∧match e with
  |.returned v=>R (.ret v) a.heap
  |.panicked chain=>R (.pan chain) a.heap
  |.outgrown=>False
theorem CallsH.mono {P:lF}{f:FuncId}{args:List lC}{h:AH}{R b:Fin→AH→Prop}(H:CallsH P f args h R)
 (d:∀e h',R e h'→b e h'):CallsH P f args h b:=λw g=>(H w g).mono λe i a=>⟨a.1,by
 have c:=a.2;cases e<;>first | exact d _ _ c | exact c⟩
def I6 (P:lF) (f:FuncId) (args:List lC) (u:FrameMode) (h:AH) (R:Fin→FrameMode→AH→Prop):Prop:=
 ∀w,w.heap=h→CallsD P f args.toArray u w λe b a=>B4 w a∧match e with
  |.returned v=>R (.ret v) b a.heap
  |.panicked chain=>R (.pan chain) b a.heap
  |.outgrown=>False
theorem I6.mono {P:lF}{f:FuncId}{args:List lC}{u:FrameMode}{h:AH}{R c:Fin→FrameMode→AH→Prop}(H:I6 P f args u h R)
 (g:∀e b h',R e b h'→c e b h'):I6 P f args u h c:=λw i=>(H w i).mono λe b j a=>⟨a.1,by
 have d:=a.2;cases e<;>first | exact g _ _ _ d | exact d⟩
def Yv (c:Nat) (send:Option lC) (zero:lC) (k:Int→Bool→lC→AH→Prop) (h:AH):Prop:=
 ∃cap a s r,h[c]? =some (.chan cap a false s r false)∧match send with
  |some v=>if a.size<cap then k 0 false zero (h.setIfInBounds c (.chan cap (a.push v) false (s+1) r false)) else k (-1) false zero h
  |none=>if 0<a.size then k 0 true (a.getD 0 undef) (h.setIfInBounds c (.chan cap (a.extract 1 a.size) false s (r+1) false)) else k (-1) false zero h
def T.wp (P:lF):T→(Bs→AH→Prop)→AH→Prop
 |.out vs,Q,h=>Q (.out vs) h
 |.brk id vs,Q,h=>Q (.brk id vs) h
 |.ret v,Q,h=>Q (.ret v) h
 |.pan v,Q,h=>Q (.pan [{v,recovered:=false}]) h
 |.stuck,_,_=>False
 |.load s a k,Q,h=>∃x:s.Ty,BJ h a=some (s.val x)∧(k x).wp P Q h
 |.store a v k,Q,h=>Value.plain v=true∧(BJ h a).isSome=true∧HC h a=false∧k.wp P Q (CT h a v)
 |.new o k,Q,h=>(k h.size).wp P Q (h.push o)
 |.sem s sh k,Q,h=>Ab P s (λv b=>∃x:sh.Ty,v=sh.val x∧(k x).wp P Q b) (λv b=>Q (.pan [{v,recovered:=false}]) b) h
 |.call f args sh k,Q,h=>CallsH P f args h λe b=>match e with
  |.ret v=>∃x:sh.Ty,v=sh.val x∧(k x).wp P Q b
  |.pan chain=>Q (.pan chain) b
 |.still a v k,Q,h=>BJ h a=some v∧k.wp P Q h
 |.both x y,Q,h=>x.wp P Q h∧y.wp P Q h
 |.join ss x k,Q,h=>x.wp P (λd b=>match d with
  |.out vs=>(match Shs.of ss vs with
   |some y=>(k y).wp P Q b
   |none=>False)
  |d=>Q d b) h
 |.block id ss x k,Q,h=>x.wp P (λd b=>match d with
  |.out vs=>(match Shs.of ss vs with
   |some y=>(k y).wp P Q b
   |none=>False)
  |.brk id' vs=>bif kX id' id then(match Shs.of ss vs with
   |some y=>(k y).wp P Q b
   |none=>False) else Q (.brk id' vs) b
  |d=>Q d b) h
 |.loop ss init body,Q,h=>∃(I:Shs.Ty ss→AH→Prop) (μ:Shs.Ty ss→AH→Nat),
  (∃y,Shs.of ss init=some y∧I y h)∧
  ∀y h,I y h→(body y).wp P (λd b=>match d with
   |.out vs=>(match Shs.of ss vs with
    |some j=>I j b∧μ j b<μ y h
    |none=>False)
   |d=>Q d b) h
 |.sel c send zero k,Q,h=>Yv c send zero (λi ok v b=>(k i ok v).wp P Q b) h
 |.must p k,Q,h=>p∧k.wp P Q h
 |.later f args x k,Q,h=>x.wp P (λd b=>match d with
  |.ret _=>I6 P f args .returning b λe u g=>match e with
   |.ret _=>settle u= .returning∧k.wp P Q g
   |.pan _=>False
  |.pan chain=>I6 P f args (.panicking chain) b λe u g=>match e with
   |.ret _=>(match settle u with
    |.returning=>k.wp P Q g
    |.panicking c=>Q (.pan c) g
    |.run=>False)
   |.pan _=>False
  |_=>False) h
theorem T.wp_mono {P:lF}(t:T):∀ {Q i:Bs→AH→Prop}{h:AH},(∀l h,Q l h→i l h)→t.wp P Q h→t.wp P i h:=by
 induction t with
 |out vs=>intro Q i h d H;exact d _ _ H
 |brk id vs=>intro Q i h d H;exact d _ _ H
 |ret v=>intro Q i h d H;exact d _ _ H
 |pan v=>intro Q i h d H;exact d _ _ H
 |stuck=>intro Q i h d H;exact H
 |load s a k j=>intro Q i h d ⟨x,C,H⟩;exact⟨x,C,j x d H⟩
 |store a v k j=>intro Q i h d ⟨a,b,c,H⟩;exact⟨a,b,c,j d H⟩
 |new o k j=>intro Q i h d H;exact j _ d H
 |sem s sh k j=>intro Q i h d H;exact Bg s (λv B ⟨x,C,D⟩=>⟨x,C,j x d D⟩) (λv B D=>d _ _ D) H
 |call f args sh k j=>
  intro Q i h d H;simp only[T.wp]at H ⊢;refine CallsH.mono H λe B w=> ?_;cases e with
  |ret v=>obtain⟨x,C,D⟩:=w;exact⟨x,C,j x d D⟩
  |pan c=>exact d _ _ w
 |still a v k j=>intro Q i h d ⟨x,H⟩;exact⟨x,j d H⟩
 |both x y n F=>intro Q i h d ⟨a,b⟩;exact⟨n d a,F d b⟩
 |join ss x k n q=>
  intro Q i h d H;simp only[T.wp]at H ⊢;refine n (λz B g=> ?_) H;cases z with
  |out vs=>
   dsimp only at g ⊢;split at g
   ·exact q _ d g
   ·exact g
  |brk id vs=>exact d _ _ g
  |ret v=>exact d _ _ g
  |pan v=>exact d _ _ g
 |block id ss x k n q=>
  intro Q i h d H;simp only[T.wp]at H ⊢;refine n (λz B g=> ?_) H;cases z with
  |out vs=>
   dsimp only at g ⊢;split at g
   ·exact q _ d g
   ·exact g
  |brk G vs=>
   dsimp only at g ⊢;cases hb:kX G id with
   |true=>
    simp only[hb,cond_true]at g ⊢;split at g
    ·exact q _ d g
    ·exact g
   |false=>simp only[hb,cond_false]at g ⊢;exact d _ _ g
  |ret v=>exact d _ _ g
  |pan v=>exact d _ _ g
 |loop ss L body j=>
  intro Q i h d ⟨I,μ,M,hr⟩;refine⟨I,μ,M,λy h N=>j y (λz B g=> ?_) (hr y h N)⟩;cases z with
  |out vs=>exact g
  |brk id vs=>exact d _ _ g
  |ret v=>exact d _ _ g
  |pan v=>exact d _ _ g
 |sel c send zero k j=>
  intro Q i h d H;obtain⟨cap,A,s,r,O,H⟩:=H;refine⟨cap,A,s,r,O,?_⟩;cases send with
  |none=>
   by_cases E:0<A.size
   ·simp only[if_pos E]at H ⊢;exact j _ _ _ d H
   ·simp only[if_neg E]at H ⊢;exact j _ _ _ d H
  |some v=>
   by_cases E:A.size<cap
   ·simp only[if_pos E]at H ⊢;exact j _ _ _ d H
   ·simp only[if_neg E]at H ⊢;exact j _ _ _ d H
 |must p k j=>intro Q i h d H;exact⟨H.1,j d H.2⟩
 |later f args x k n q=>
  intro Q i h d H;simp only[T.wp]at H ⊢;refine n (λz B g=> ?_) H;cases z with
  |out vs=>exact g
  |brk id vs=>exact g
  |ret v=>
   exact I6.mono g λe u J w=>by
    cases e with
    |ret v=>exact⟨w.1,q d w.2⟩
    |pan c=>exact w
  |pan K=>
   exact I6.mono g λe u J w=>by
    cases e with
    |ret v=>
     dsimp only at w ⊢
     generalize settle u=m at w ⊢
     cases m with
     |run=>exact w
     |returning=>exact q d w
     |panicking c=>exact d _ _ w
    |pan c=>exact w
def Bh (q:Bool) (P:lF) {α:Type}:Sem α→(α→T)→T
 |.pure a,k=>k a
 |.program f,k=>Bh q P (f P) k
 |.new o f,k=>bif q then .stuck else .new o λr=>Bh q P (f r) k
 |.store _ a v f,k=>bif q then .stuck else .store a v (Bh q P f k)
 |.mark _ f,k=>Bh q P f k
 |.halt (.panic v),_=>bif q then .stuck else .pan v
 |_,_=>.stuck
theorem Bl {q:Bool}{P:lF}{α:Type}(s:Sem α):∀ {k:α→T}{Q:Bs→AH→Prop}{h:AH},(Bh q P s k).wp P Q h→
 Ab P s (λa d=>(k a).wp P Q d) (λv d=>Q (.pan [{v,recovered:=false}]) d) h:=by
 induction s with
 |pure a=>intro k Q h H;exact H
 |load m a k b=>intro k Q h H;exact H.elim
 |store m a v k b=>
  intro k Q h H;cases q with
  |true=>exact H.elim
  |false=>exact⟨H.1,H.2.1,H.2.2.1,b H.2.2.2⟩
 |new o k b=>
  intro k Q h H;cases q with
  |true=>exact H.elim
  |false=>exact b _ H
 |shape r k b=>intro k Q h H;exact H.elim
 |freeze a n k b=>intro k Q h H;exact H.elim
 |frozen a k b=>intro k Q h H;exact H.elim
 |getObj r k b=>intro k Q h H;exact H.elim
 |setObj r o k b=>intro k Q h H;exact H.elim
 |choose q k b=>intro k Q h H;exact H.elim
 |sys c k b=>intro k Q h H;exact H.elim
 |program k b=>intro k Q h H;exact b _ H
 |mark m k b=>intro k Q h H;exact b H
 |halt x=>intro k Q h H;cases q<;>cases x<;>first | exact H | exact H.elim
def Yw:lC→BP
 |.int k _=>.int k
 |.bool _=>.bool
 |.string _=>.string
 |.pointer _=>.pointer
 |.slice _ _ _=>.slice
 |.map _=>.map
 |.chan _=>.chan
 |.func _ _ _=>.func
 |.nilFunc=>.func
 |_=>.iface
def Pc:lC→Sh1
 |.agg cs=>.agg (cs.toList.map Yw)
 |v=>.atom (Yw v)
def bc:lC→Sh
 |.tuple vs=>.tuple (vs.toList.map Pc)
 |v=>.one (Pc v)
def KX (P:lF) (t:lD):lC:=((P.info? t).bind (·.zero)).getD .nilIface
def UB (P:lF) (fn:Func):Sh:=match fn.resultTypes.toList with
 | [t] =>.one (Pc (KX P t))
 |ts=>.tuple (ts.map λt=>Pc (KX P t))
def IJ:List BP→lH→Nat→Array lC→(Array lC→T)→T
 | [],_,_,acc,k=>k acc
 |s::r,a,i,acc,k=>.load s (a.add i) λx=>IJ r a (i+1) (acc.push (s.val x)) k
def So:TypeDesc→Bool
 |.struct _ | .array _ _=>true
 |_=>false
def E6 (P:lF) (t:lD) (a:lH) (k:lC→T):T:=
 match P.underlying t,P.info? t with
 |some d,some i=>
  match So d,Pc (i.zero.getD .nilIface) with
  |true,.agg l=>if l.length=i.size then IJ l a 0 #[] λcs=>k (.agg cs) else .stuck
  |false,.atom s=>.load s a λx=>k (s.val x)
  |_,_=>.stuck
 |_,_=>.stuck
def M2 (q:Bool) (s:Sem lC) (sh:Sh) (k:sh.Ty→T):T:=bif q then .stuck else .sem s sh k
def Rd (q:Bool) (P:lF) (s:Sem lC) (t:lD) (k:lC→T):T:=
 M2 q s (bc (KX P t)) λx=>k ((bc (KX P t)).val x)
def gG (q:Bool) (s:Sem Unit) (k:lC→T):T:=
 M2 q (s.bind λ_=>.pure undef) (.tuple []) λ_=>k undef
def FB (s:ByteArray) (i:Nat):UInt8:=s.data.toList.getD i 0
def KY (P:lF) (t:lD):lC→lC→Option Bool
 |.int j m,.int j' n=>match P.underlying t with
  |some (.int _)=>if j=j' then some (m==n) else none
  |_=>none
 |.string m,.string n=>match P.underlying t with
  |some .string=>some (m==n)
  |_=>none
 |.bool m,.bool n=>match P.underlying t with
  |some .bool=>some (m==n)
  |_=>none
 |_,_=>none
def KZ (P:lF) (c d:Array lC):List Field→Option Bool
 | [] =>some true
 | f::fs=>if f.name= "_" then none else match c[f.offset]?,d[f.offset]? with
  |some a,some b=>match KY P f.type a b,KZ P c d fs with
   |some r,some r'=>some (r && r')
   |_,_=>none
  |_,_=>none
def Yx (P:lF) (t:lD) (a b:Array lC) (i:Nat):Option Bool:=match P.underlying t,P.info? t,P.stoodInHeld t with
 |some (.struct gs),some inf,false=>KZ P (a.extract i (i+inf.size)) (b.extract i (i+inf.size)) gs.toList
 |_,_,_=>none
def Wp (P:lF) (f:Field) (c d:Array lC):Option Bool:=match c[f.offset]?,d[f.offset]? with
 |some a,some b=>match KY P f.type a b with
  |some r=>some r
  |none=>Yx P f.type c d f.offset
 |_,_=>none
def Lg (P:lF) (a b:Array lC):List Field→Option Bool
 | [] =>some true
 | f::fs=>if f.name= "_" then none else match Wp P f a b,Lg P a b fs with
  |some r,some r'=>some (r && r')
  |_,_=>none
def Pd (P:lF) (t:lD) (a b:Array lC) (k:Bool→T) (old:T):T:=match P.underlying t with
 |some (.struct fs)=>match P.eqGuardType P.depth t || P.stoodInHeld t,Lg P a b fs.toList with
  |false,some r=>k r
  |_,_=>old
 |_=>old
def QP (q:Bool) (P:lF) (c:BinOp) (t:lD) (x y:Operand) (a b:lC) (k:lC→T):T:=
 match c,a,b with
 |.add,.int j m,.int j' n=>if j=j' then k (.int j (j.wrap (m+n))) else .stuck
 |.sub,.int j m,.int j' n=>if j=j' then k (.int j (j.wrap (m - n))) else .stuck
 |.mul,.int j m,.int j' n=>if j=j' then k (.int j (j.wrap (m *n))) else .stuck
 |.quo,.int j m,.int j' n=>if j=j' then chk (n≠0) (k (.int j (j.wrap (m.tdiv n)))) else .stuck
 |.rem,.int j m,.int j' n=>if j=j' then chk (n≠0) (k (.int j (m.tmod n))) else .stuck
 |.shl,.int j m,.int _ n=>chk (0≤n) (k (.int j (j.wrap (m *2 ^ (min n.toNat j.bits)))))
 |.shr,.int j m,.int _ n=>chk (0≤n) (k (.int j (m.fdiv (2 ^ (min n.toNat j.bits)))))
 |.eql,.int j m,.int j' n=>if j=j' then k (.bool (m==n)) else .stuck
 |.neq,.int j m,.int j' n=>if j=j' then k (.bool (m !=n)) else .stuck
 |.lss,.int j m,.int j' n=>if j=j' then k (.bool (m<n)) else .stuck
 |.leq,.int j m,.int j' n=>if j=j' then k (.bool (m≤n)) else .stuck
 |.gtr,.int j m,.int j' n=>if j=j' then k (.bool (m>n)) else .stuck
 |.geq,.int j m,.int j' n=>if j=j' then k (.bool (m≥n)) else .stuck
 |.add,.string m,.string n=>chk (((m.size+n.size:Nat):Int) ≤IntKind.i64.max) (k (.string (m++n)))
 |.eql,.string m,.string n=>k (.bool (m.toList==n.toList))
 |.neq,.string m,.string n=>k (.bool !(m.toList==n.toList))
 |.eql,.pointer p,.pointer none=>Bh q P (underlying t) fun | .pointer _=>k (.bool p.isNone)|_=>.stuck
 |.neq,.pointer p,.pointer none=>Bh q P (underlying t) fun | .pointer _=>k (.bool !p.isNone)|_=>.stuck
 |.eql,.slice p _ _,.slice none _ _=>Bh q P (underlying t) fun | .slice _=>k (.bool p.isNone)|_=>.stuck
 |.neq,.slice p _ _,.slice none _ _=>Bh q P (underlying t) fun | .slice _=>k (.bool !p.isNone)|_=>.stuck
 |.eql,.bool m,.bool n=>Bh q P (underlying t) fun | .bool=>k (.bool (m==n))|_=>.stuck
 |.neq,.bool m,.bool n=>Bh q P (underlying t) fun | .bool=>k (.bool !(m==n))|_=>.stuck
 |.eql,.agg a,.agg b=>Pd P t a b (λr=>k (.bool r)) (M2 q (do eqGuard .eql t x y (.agg a) (.agg b);binOp .eql t (.agg a) (.agg b)) (.one (.atom .bool)) λr=>k (.bool r))
 |.neq,.agg a,.agg b=>Pd P t a b (λr=>k (.bool !r)) (M2 q (do eqGuard .neq t x y (.agg a) (.agg b);binOp .neq t (.agg a) (.agg b)) (.one (.atom .bool)) λr=>k (.bool r))
 |.eql,a,b=>M2 q (do eqGuard .eql t x y a b;binOp .eql t a b) (.one (.atom .bool)) λr=>k (.bool r)
 |.neq,a,b=>M2 q (do eqGuard .neq t x y a b;binOp .neq t a b) (.one (.atom .bool)) λr=>k (.bool r)
 |c,a,b=>Bh q P (do eqGuard c t x y a b;binOp c t a b) k
def bound (d:Int):Option lC→Option Int
 |none=>some d
 |some (.int _ n)=>some n
 |_=>none
def Ka (q:Bool) (P:lF) (t:lD) (x:lC) (lo a mx:Option lC) (k:lC→T):T:=
 match mx,P.underlying t,x with
 |none,some .string,.string s=>match bound 0 lo,bound s.size a with
  |some l,some h=>chk (0≤l∧l≤h∧h≤s.size) (k (.string (s.extract l.toNat h.toNat)))
  |_,_=>.stuck
 |none,some (.slice e),.slice p n c=>match bound 0 lo,bound n a,P.info? e with
  |some l,some h,some i=>chk (0≤l∧l≤h∧h≤c) (k (.slice (if c=l.toNat then p else p.map (·.add (l.toNat *i.size))) (h.toNat - l.toNat) (c - l.toNat)))
  |_,_,_=>.stuck
 |_,_,_=>Rd q P (kO t x lo a mx) t k
def Hy (q:Bool) (P:lF) (f:lC) (args:Array lC) (k:lC→T):T:=match f with
 |.func (.func g) first cap=>match P.funcs[g]? with
  | some fn=>match fn.name== "runtime.NumGoroutine",fn.body.isNone with
   |false,false=>bif q then .stuck else .call g ((first++args) ++cap).toList (UB P fn) λx=>k ((UB P fn).val x)
   |_,_=>.stuck
  |none=>.stuck
 |_=>.stuck
def Ns (q:Bool) (P:lF) (ρ:Operand→lC) (c:Call) (t:lD) (k:lC→T):T:=
 match c.callee with
 |.builtin b=>
  let args:=c.args.map ρ
  match b with
  |.len=>match c.argTypes.toList,args.toList with
   |at0::_,x::_=>match P.underlying at0,x with
    |some .string,.string s=>k (goInt s.size)
    |some (.slice _),.slice _ n _=>k (goInt n)
    |some (.array n _),_=>k (goInt n)
    |_,_=>Rd q P (hM c.argTypes t args) t k
   |_,_=>.stuck
  |.cap=>match c.argTypes.toList,args.toList with
   |at0::_,x::_=>match P.underlying at0,x with
    |some (.slice _),.slice _ _ n=>k (goInt n)
    |_,_=>Rd q P (kY c.argTypes t args) t k
   |_,_=>.stuck
  |.max=>Bh q P (Builtin.max_ c.argTypes t args) k
  |.min=>Bh q P (Builtin.min_ c.argTypes t args) k
  |.append=>Rd q P (Builtin.append_ c.argTypes t args) t k
  |.copy=>M2 q (Builtin.copy_ c.argTypes t args) (.one (.atom (.int .i64))) λn=>k (.int .i64 n)
  |.delete=>M2 q (Builtin.delete_ c.argTypes t args) (.tuple []) λ_=>k undef
  |.clear=>M2 q (Builtin.clear_ c.argTypes t args) (.tuple []) λ_=>k undef
  |_=>.stuck
 |.value f=>Hy q P (ρ f) (c.args.map ρ) k
 |_=>.stuck
def C8 (q:Bool) (P:lF) (ρ:Operand→lC) (o:Oper) (k:lC→T):T:=
 match o.op with
 |.move x | .assign x=>k (ρ x)
 |.pick c a b=>match ρ c with
  |.bool t=>cond t (k (ρ a)) (k (ρ b))
  |_=>.stuck
 |.load t a=>match ρ a with
  |.pointer p=>deref p λa=>E6 P t a k
  |_=>.stuck
 |.nilCheck x=>match ρ x with
  |.pointer p=>deref p λa=>k (.pointer (some a))
  |.func (.func f) a b=>k (.func (.func f) a b)
  |.iface t v=>k (.iface t v)
  |_=>.stuck
 |.binOp op t x y _=>QP q P op t x y (ρ x) (ρ y) k
 |.slice t x lo hi mx=>Ka q P t (ρ x) (lo.map ρ) (hi.map ρ) (mx.map ρ) k
 |.index t x ix=>match P.underlying t,ρ x,ρ ix with
  |some .string,.string s,.int _ i=>chk (0≤i∧i<s.size) (k (.int .u8 (FB s i.toNat).toNat))
  |_,x,ix=>Bh q P (lB t x ix) k
 |.indexAddr t x ix=>match P.underlying t,ρ x,ρ ix with
  |some (.slice e),.slice p n _,.int _ i=>match P.info? e with
   |some d=>deref p λa=>chk (0≤i∧i<n) (k (.pointer (some (a.add (i.toNat *d.size)))))
   |none=>.stuck
  |some (.array n e),.pointer (some a),.int _ i=>match P.info? e with
   |some d=>chk (0≤i∧i<n) (k (.pointer (some (a.add (i.toNat *d.size)))))
   |none=>.stuck
  |_,_,_=>.stuck
 |.call c=>Ns q P ρ c o.type k
 |.alloc elem=>Bh q P (Instr.alloc elem true (.tuple #[])) k
 |.box elem x=>Bh q P (Instr.box elem (ρ x)) k
 |.build t parts=>Bh q P (Instr.build t (parts.map λ(i,x)=>(i,ρ x))) k
 |.buildSlice t len parts=>Bh q P (Instr.buildSlice t len (parts.map λ(i,x)=>(i,ρ x))) k
 |.store t a x=>match ρ a with
  |.pointer p=>deref p λa=>Bh q P (Instr.storeAt t (.pointer (some a)) (ρ x)) λ_=>k undef
  |v=>Bh q P (Instr.storeAt t v (ρ x)) λ_=>k undef
 |.unOp op _ x=>Bh q P (Op.unary op (ρ x)) k
 |.convert src dst x=>match P.underlying src,P.underlying dst with
  |some (.int _),some (.int _)=>Bh q P (convert src dst (ρ x)) k
  |some .string,some .string=>Bh q P (convert src dst (ρ x)) k
  |_,_=>Rd q P (convert src dst (ρ x)) dst k
 |.makeInterface t x=>Bh q P (Instr.makeInterface t (ρ x)) k
 |.makeFunc fn first captured=>k (.func fn (first.map ρ) (captured.map ρ))
 |.makeMap t r=>Bh q P (Instr.makeMap t (r.map ρ)) k
 |.makeChan t s=>Rd q P (Instr.makeChan t (ρ s)) t k
 |.makeSlice t l c=>Rd q P (Instr.makeSlice t (ρ l) (ρ c)) t k
 |.fieldAddr s x f=>match ρ x with
  |.pointer p=>deref p λa=>Bh q P (Instr.fieldAt s (.pointer (some a)) f) k
  |v=>Bh q P (Instr.fieldAt s v f) k
 |.field t x f=>Bh q P (Instr.field t (ρ x) f) k
 |.extract t ix=>Bh q P (Instr.extract (ρ t) ix) k
 |.lookup t x ix ok=>Rd q P (Instr.lookup t (ρ x) (ρ ix) ok) o.type k
 |.mapUpdate t m key x | .insert t m key x=>gG q (Instr.mapUpdate t (ρ m) (ρ key) (ρ x)) k
 |.range t x=>M2 q (Instr.range t (ρ x)) (.one (.atom .pointer)) λp=>k (.pointer p)
 |.next it isString=>M2 q (Instr.next (ρ it) isString o.type) (bc (KX P o.type)) λx=>k ((bc (KX P o.type)).val x)
 |.typeAssert x xt at_ ok=>Rd q P (Instr.typeAssert (ρ x) xt at_ ok) o.type k
 |.panic x=>Bh q P (Instr.panic (ρ x)) k
 |_=>.stuck
def dq (q:Bool) (P:lF) (k:lC→T) (Q:Bs→AH→Prop):Next→AH→Prop
 |.value v,h=>(k v).wp P Q h
 |.skip,h=>(k undef).wp P Q h
 |.enter f args,h=>q=false∧CallsH P f args.toList h λe a=>match e with
  |.ret v=>(k v).wp P Q a
  |.pan c=>Q (.pan c) a
 |_,_=>False
def OpOk (q:Bool) (P:lF) (s:Sem Next) (k:lC→T) (Q:Bs→AH→Prop) (h:AH):Prop:=
 Ab P s (dq q P k Q) (λv a=>Q (.pan [{v,recovered:=false}]) a) h
section
variable {q:Bool}{P:lF}{ρ:Operand→lC}{k:lC→T}{Q:Bs→AH→Prop}{h:AH}
theorem FC {s:Sem lC}(H:Ab P s (λv h'=>(k v).wp P Q h') (λv h'=>Q (.pan [{v,recovered:=false}]) h') h):
 OpOk q P (do pure (.value (←s))) k Q h:=An s _ H
theorem eT {s:Sem Unit}(H:Ab P s (λ_ h'=>(k undef).wp P Q h') (λv h'=>Q (.pan [{v,recovered:=false}]) h') h):
 OpOk q P (do s;pure .skip) k Q h:=An s _ H
theorem Kb {p:Option lH}{f:lH→T}(H:(deref p f).wp P Q h):∃a,p=some a∧(f a).wp P Q h:=by
 cases p with
 |none=>exact H.elim
 |some a=>exact⟨a,rfl,H⟩
theorem GB {p:Prop}[Decidable p] {t:T}(H:(chk p t).wp P Q h):p∧t.wp P Q h:=by exact H
theorem GC {s:Sem lC}{sh:Sh}{f:sh.Ty→T}(H:(M2 q s sh f).wp P Q h):
 Ab P s (λv a=>∃x:sh.Ty,v=sh.val x∧(f x).wp P Q a) (λv a=>Q (.pan [{v,recovered:=false}]) a) h:=by
 cases q with
 |true=>exact H.elim
 |false=>
  simp only[M2,cond_false]at H;simpa only[T.wp]using H
theorem HD {s:Sem lC}{t:lD}(H:(Rd q P s t k).wp P Q h):
 Ab P s (λv a=>(k v).wp P Q a) (λv a=>Q (.pan [{v,recovered:=false}]) a) h:=
 Bg s (λ_ _ ⟨_,b,c⟩=>b ▸ c) (λ_ _ b=>b) (GC H)
theorem QQ (s:Sem Unit):∀ {K:lC→AH→Prop}{X:lC→AH→Prop}{h:AH},Ab P (s.bind λ_=>.pure undef) K X h→
 Ab P s (λ_ f=>K undef f) X h:=by
 induction s with
 |pure a=>intro K X h H;exact H
 |load m a k d=>intro K X h ⟨v,hv,H⟩;exact⟨v,hv,d v H⟩
 |store m a v k d=>intro K X h ⟨a,b,c,H⟩;exact⟨a,b,c,d H⟩
 |new o k d=>intro K X h H;exact d _ H
 |shape r k d=>intro K X h H;exact d _ H
 |freeze a n k d=>intro K X h H;exact d H
 |frozen a k d=>intro K X h H;exact d _ H
 |getObj r k d=>intro K X h ⟨o,a,b,H⟩;exact⟨o,a,b,d o H⟩
 |setObj r o k d=>intro K X h ⟨a,H⟩;exact⟨a,d H⟩
 |choose q k d=>
  intro K X h H;simp only[Ab,bD]at H ⊢;split at H
  ·rename_i e;simp only[e,if_true];exact d _ H
  ·rename_i e;simp only[e];exact λt=>d _ (H t)
 |sys c k d=>intro K X h H;exact H
 |program k d=>intro K X h H;exact d _ H
 |mark m k d=>intro K X h H;exact d H
 |halt x=>intro K X h H;cases x<;>exact H
theorem Wq {s:Sem Unit}(H:(gG q s k).wp P Q h):
 Ab P s (λ_ a=>(k undef).wp P Q a) (λv a=>Q (.pan [{v,recovered:=false}]) a) h:=
 Bg s (λ_ _ ⟨_,_,b⟩=>b) (λ_ _ c=>c) (QQ s (GC H))
theorem Xo (l:List BP):∀(a:lH) (i:Nat) (b:Array lC) {f:Array lC→T},(IJ l a i b f).wp P Q h→
 Ab P (loadCellsFrom a i l.length b) (λcs c=>c=h∧(f cs).wp P Q c) (λ_ _=>False) h:=by
 induction l with
 |nil=>intro a i b f H;exact⟨rfl,H⟩
 |cons s r d=>
  intro a i b f H;obtain⟨x,e,H⟩:=H;exact⟨s.val x,e,d a (i+1) (b.push (s.val x)) H⟩
theorem Aj {t:lD}{d:TypeDesc}(hd:P.underlying t=some d) {α:Type}{f:TypeDesc→Sem α}{K:α→AH→Prop}{X:lC→AH→Prop}
 (H:Ab P (f d) K X h):Ab P (do let d ←underlying t;f d) K X h:=by show Ab P (bD (underlying t) f) K X h;simp only[underlying,program,bind,bD,Ab,hd,pure];exact H
theorem HE {t:lD}{i:TypeInfo}(a:P.info? t=some i) {α:Type}{f:TypeInfo→Sem α}{K:α→AH→Prop}{X:lC→AH→Prop}
 (H:Ab P (f i) K X h):Ab P (do let i ←typeInfo t;f i) K X h:=by show Ab P (bD (typeInfo t) f) K X h;simp only[typeInfo,program,bind,bD,Ab,a,pure];exact H
theorem Ry {t:lD}{d:TypeDesc}(hd:P.underlying t=some d) {α:Type}{f:Bool→Sem α}{K:α→AH→Prop}{X:lC→AH→Prop}
 (H:Ab P (f (So d)) K X h):Ab P (do let b ←isAgg t;f b) K X h:=by show Ab P (bD (isAgg t) f) K X h;simp only[isAgg,underlying,program,bind,bD,Ab,hd,pure];cases d<;>exact H
theorem I7 {t:lD}{i:TypeInfo}(a:P.info? t=some i) {α:Type}{f:Nat→Sem α}{K:α→AH→Prop}{X:lC→AH→Prop}
 (H:Ab P (f i.size) K X h):Ab P (do let n ←Go.sizeOf t;f n) K X h:=by show Ab P (bD (Go.sizeOf t) f) K X h;simp only[Go.sizeOf,typeInfo,program,bind,bD,Ab,a,pure];exact H
theorem Vc {t:lD}{a:lH}(H:(E6 P t a k).wp P Q h):
 Ab P (loadVar t a) (λv e=>e=h∧(k v).wp P Q e) (λ_ _=>False) h:=by
 unfold E6 at H;split at H
 ·rename_i d i hd j
  split at H
  ·rename_i l b f
   split at H
   ·rename_i c
    unfold loadVar;refine Ry hd ?_;rw[b];simp only[if_true];refine I7 j ?_;rw[←c];show Ab P (bD (loadCellsFrom a 0 l.length #[]) _) _ _ _;refine An _ _ (Bg _ (λcs e g=> ?_) (λ_ _ x=>x) (Xo l a 0 #[] H));exact⟨g.1,g.2⟩
   ·exact H.elim
  ·rename_i s b f
   unfold loadVar;refine Ry hd ?_;rw[b];obtain⟨x,m,H⟩:=H;exact⟨_,m,rfl,H⟩
  ·exact H.elim
 ·exact H.elim
end
section
variable {q:Bool}{P:lF}{ρ:Operand→lC}{k:lC→T}{Q:Bs→AH→Prop}{h:AH}
def BinOk (P:lF) (d:BinOp) (t:lD) (x y:Operand) (a b:lC) (k:lC→T) (Q:Bs→AH→Prop) (h:AH):Prop:=
 Ab P (do eqGuard d t x y a b;binOp d t a b) (λv c=>(k v).wp P Q c) (λv c=>Q (.pan [{v,recovered:=false}]) c) h
theorem FY {a:BinOp}{t:lD}{x y:Operand}{j:IntKind}{m n:Int}{s:Sem lC}(c:a≠.shl) (b:a≠.shr) (d:(match a with
 |.add | .sub | .mul=>Op.intArith a j m n
 |.quo | .rem=>Op.intDiv a j m n
 |.and | .or | .xor | .andNot=>Op.intBits a j m n
 |_=>Op.intCmp a m n)=s)
 (H:Ab P s (λv h'=>(k v).wp P Q h') (λv h'=>Q (.pan [{v,recovered:=false}]) h') h):BinOk P a t x y (.int j m) (.int j n) k Q h:=by subst d;unfold BinOk;cases a<;>first | exact absurd rfl c | exact absurd rfl b | (simpa[eqGuard,binOp,bind,bD,Ab,pure]using H)
theorem HV {p:Prop}[Decidable p] {t:T}(H:(if p then t else T.stuck).wp P Q h):p∧t.wp P Q h:=by
 by_cases a:p
 ·rw[if_pos a]at H;exact⟨a,H⟩
 ·rw[if_neg a]at H;exact H.elim
theorem Ia {t:lD}{f:TypeDesc→T}(H:(Bh q P (underlying t) f).wp P Q h):∃d,P.underlying t=some d∧(f d).wp P Q h:=by
 simp only[underlying,program,bind,bD,Bh]at H;cases hd:P.underlying t with
 |none=>rw[hd]at H;exact H.elim
 |some d=>rw[hd]at H;exact⟨d,rfl,H⟩
theorem eU {t:lD}{x y:Operand}{j a:IntKind}{m n:Int}(b:0≤n) (H:(k (.int j (j.wrap (m *2 ^ (min n.toNat j.bits))))).wp P Q h):
 BinOk P .shl t x y (.int j m) (.int a n) k Q h:=by show Ab P (Op.shift .shl j m a n) _ _ h;unfold Op.shift;rw[if_neg (show ¬n<0 by omega)];exact H
theorem eV {t:lD}{x y:Operand}{j a:IntKind}{m n:Int}(b:0≤n) (H:(k (.int j (m.fdiv (2 ^ (min n.toNat j.bits))))).wp P Q h):
 BinOk P .shr t x y (.int j m) (.int a n) k Q h:=by show Ab P (Op.shift .shr j m a n) _ _ h;unfold Op.shift;rw[if_neg (show ¬n<0 by omega)];exact H
theorem be {t:lD}{x y:Operand}{m n:ByteArray}(a:((m.size+n.size:Nat):Int) ≤IntKind.i64.max) (H:(k (.string (m++n))).wp P Q h):
 BinOk P .add t x y (.string m) (.string n) k Q h:=by show Ab P (Op.stringOp .add m n) _ _ h;simp only[Op.stringOp];rw[if_neg (show ¬((m.size+n.size:Nat):Int) >IntKind.i64.max by omega)];exact H
theorem Vd {t:lD}{x y:Operand}{a b:lC}{r:Bool}(c:eqGuard .eql t x y a b=pure ()) (d:binOp .eql t a b=(do pure (.bool (←Op.equal t a b))))
 (e:∀K X,K r h→Ab P (Op.equal t a b) K X h) (H:(k (.bool r)).wp P Q h):BinOk P .eql t x y a b k Q h:=by unfold BinOk;rw[c,d];exact An (Op.equal t a b) _ (e _ _ H)
theorem Ve {t:lD}{x y:Operand}{a b:lC}{r:Bool}(c:eqGuard .neq t x y a b=pure ()) (d:binOp .neq t a b=(do pure (.bool (!(←Op.equal t a b)))))
 (e:∀K X,K r h→Ab P (Op.equal t a b) K X h) (H:(k (.bool !r)).wp P Q h):BinOk P .neq t x y a b k Q h:=by unfold BinOk;rw[c,d];exact An (Op.equal t a b) _ (e _ _ H)
theorem Rz {t e:lD}(hd:P.underlying t=some (.pointer e)) (p:Option lH) (K:Bool→AH→Prop) (X:lC→AH→Prop) (H:K p.isNone h):
 Ab P (Op.equal t (.pointer p) (.pointer none)) K X h:=by show Ab P (Op.equalIn (9999+1) t _ _) K X h;rw[Op.equalIn];refine Aj hd ?_;cases p<;>exact H
theorem Pe {t e:lD}(hd:P.underlying t=some (.slice e)) (p:Option lH) (n c:Nat) (a b:Nat) (K:Bool→AH→Prop) (X:lC→AH→Prop) (H:K p.isNone h):
 Ab P (Op.equal t (.slice p n c) (.slice none a b)) K X h:=by show Ab P (Op.equalIn (9999+1) t _ _) K X h;rw[Op.equalIn];refine Aj hd ?_;cases p<;>exact H
theorem QR {t:lD}(hd:P.underlying t=some .bool) (a b:Bool) (K:Bool→AH→Prop) (X:lC→AH→Prop) (H:K (a==b) h):
 Ab P (Op.equal t (.bool a) (.bool b)) K X h:=by show Ab P (Op.equalIn (9999+1) t _ _) K X h;rw[Op.equalIn];refine Aj hd<|H
theorem R0 {d:Nat}{t:lD}{a b:lC}{r:Bool}(c:KY P t a b=some r) (K:Bool→AH→Prop) (X:lC→AH→Prop) (H:K r h):Ab P (Op.equalIn (d+1) t a b) K X h:=by
 unfold KY at c;split at c
 ·split at c
  ·rename_i e
   split at c
   ·rename_i f
    cases c;subst f;rw[Op.equalIn];refine Aj e ?_;simp only[if_true];exact H
   ·cases c
  ·cases c
 ·split at c
  ·rename_i e
   cases c;rw[Op.equalIn];exact Aj e H
  ·cases c
 ·split at c
  ·rename_i e
   cases c;rw[Op.equalIn];exact Aj e H
  ·cases c
 ·cases c
theorem Nt {t:lD}{a b:lC}{r:Bool}(c:KY P t a b=some r) {g:Array lC}{i:Nat}{v:lC}(j:g[i]? =some v) {K:lC→AH→Prop}{X:lC→AH→Prop}(H:K v h):Ab P (part t g i) K X h:=by
 have e:∀d,P.underlying t=some d→So d=false→Ab P (part t g i) K X h:=λd f hd=>by
  unfold part isAgg;simp only[bind,bD,underlying,program,Ab,f];cases d<;>first | (cases hd;done)|(simp only[j];exact H)
 unfold KY at c;split at c
 ·split at c
  ·rename_i f;exact e _ f rfl
  ·cases c
 ·split at c
  ·rename_i f;exact e _ f rfl
  ·cases c
 ·split at c
  ·rename_i f;exact e _ f rfl
  ·cases c
 ·cases c
theorem Pf {d:Nat}(i j:Array lC) (X:lC→AH→Prop):∀(e:List Field) {r:Bool},KZ P i j e=some r→ ∀(K:Bool→AH→Prop),K r h→Ab P (Op.eqFields (d+1) i j e) K X h:=by
 intro e
 induction e with
 |nil=>intro r c K H;cases c;exact H
 |cons f e k=>
  intro r c K H;unfold KZ at c;split at c
  ·cases c
  ·rename_i l
   split at c
   ·rename_i a b m n
    split at c
    ·rename_i o q g p
     cases c;unfold Op.eqFields;rw[if_pos l];refine An _ _ (Nt g m ?_);refine An _ _ (Nt g n ?_);refine An _ _ (R0 g _ _ ?_);cases o with
     |false=>exact H
     |true=>exact k p _ H
    ·cases c
   ·cases c
theorem Lh {d:Nat}{t:lD}{c:Array Field}(e:P.underlying t=some (.struct c)) (k:P.stoodInHeld t=false) {g i:Array lC}{K:Bool→AH→Prop}{X:lC→AH→Prop}
 (H:Ab P (Op.eqFields d g i c.toList) K X h):Ab P (Op.equalIn (d+1) t (.agg g) (.agg i)) K X h:=by
 rw[Op.equalIn];refine Aj e ?_;simp only[program,bind,bD,Ab,k,kK,if_false];rw[←Array.forIn_toList];refine Eq.mpr (congrArg (λs=>Ab P s K X h) ?_) H
 generalize c.toList=l
 clear H e
 induction l with
 |nil=>rfl
 |cons f l j=>
  rw[List.forIn_cons];unfold Op.eqFields;refine(kJ _ _ _).trans ?_;split
  ·refine(kJ _ _ _).trans ?_;show bD _ _=bD _ _;congr 1;funext a;refine(kJ _ _ _).trans ?_;show bD _ _=bD _ _;congr 1;funext b;refine(kJ _ _ _).trans ?_;show bD _ _=bD _ _;congr 1;funext r;cases r with
   |false=>rfl
   |true=>exact j
  ·exact j
theorem Wr {t:lD}{b:Array Field}{inf:TypeInfo}(c:P.underlying t=some (.struct b)) (d:P.info? t=some inf) {a:Array lC}{i:Nat}{K:lC→AH→Prop}{X:lC→AH→Prop}(H:K (.agg (a.extract i (i+inf.size))) h):Ab P (part t a i) K X h:=by unfold part isAgg;simp only[bind,bD,underlying,program,Ab,c,pure,Go.sizeOf,typeInfo,d,if_true];exact H
theorem Nu {d:Nat}(k l:Array lC) (X:lC→AH→Prop):∀(j:List Field) {r:Bool},Lg P k l j=some r→ ∀(K:Bool→AH→Prop),K r h→Ab P (Op.eqFields (d+2) k l j) K X h:=by
 intro j
 induction j with
 |nil=>intro r g K H;cases g;exact H
 |cons f j s=>
  intro r g K H;unfold Lg at g;split at g
  ·cases g
  ·rename_i t
   split at g
   ·rename_i p y c u
    cases g;unfold Op.eqFields;rw[if_pos t];have i:∀m:Bool→AH→Prop,(m=λr h=>Ab P (if(!r)=true then pure false else Op.eqFields (d+2) k l j) K X h)→m p h:=λm e=>by
     subst e;cases p with
     |false=>exact H
     |true=>exact s u _ H
    unfold Wp at c;split at c
    ·rename_i a b v w
     split at c
     ·rename_i z n
      cases c;exact An _ _ (Nt n v (An _ _ (Nt n w (An _ _ (R0 n _ _ (i _ rfl))))))
     ·unfold Yx at c;split at c
      ·rename_i A inf o q x
       exact An _ _ (Wr o q (An _ _ (Wr o q (An _ _ (Lh o x (Pf _ _ _ _ c _ (i _ rfl)))))))
      ·cases c
    ·cases c
   ·cases g
theorem Pg {b:BinOp}{t:lD}{x y:Operand}{d g:Array lC}{α:Type}{f:Unit→Sem α}{K:α→AH→Prop}{X:lC→AH→Prop}(i:P.eqGuardType P.depth t=false) (k:b= .eql∨b= .neq) (H:Ab P (f ()) K X h):
 Ab P ((eqGuard b t x y (.agg d) (.agg g)).bind f) K X h:=by
 have c:Ab P (eqGuard b t x y (.agg d) (.agg g)) (λ_ j=>j=h) X h:=by
  rcases k with rfl | rfl
  ·show Ab P (if(!P.eqGuardType P.depth t)=true then pure () else _) _ X h;rw[i];rfl
  ·show Ab P (if(!P.eqGuardType P.depth t)=true then pure () else _) _ X h;rw[i];rfl
 exact An _ _ (Bg _ (λa j e=>by subst e;exact H) (λ_ _ x=>x) c)
theorem Yy {t:lD}{x y:Operand}{a b:Array lC}(H:(Pd P t a b (λr=>k (.bool r)) (M2 q (do eqGuard .eql t x y (.agg a) (.agg b);binOp .eql t (.agg a) (.agg b)) (.one (.atom .bool)) λr=>k (.bool r))).wp P Q h):BinOk P .eql t x y (.agg a) (.agg b) k Q h:=by
 unfold Pd at H;split at H
 ·rename_i l g
  split at H
  ·rename_i r c i
   rw[kU]at c;refine Pg c.1 (.inl rfl)<|An (Op.equal t (.agg a) (.agg b)) _ (Lh (d:=9999) g c.2 (Nu (d:=9997) a b _ _ i _ H))
  ·exact Bg _ (λv j ⟨r,e,f⟩=>e ▸ f) (λ_ _ x=>x) (GC H)
 ·exact Bg _ (λv j ⟨r,e,f⟩=>e ▸ f) (λ_ _ x=>x) (GC H)
theorem Yz {t:lD}{x y:Operand}{a b:Array lC}(H:(Pd P t a b (λr=>k (.bool !r)) (M2 q (do eqGuard .neq t x y (.agg a) (.agg b);binOp .neq t (.agg a) (.agg b)) (.one (.atom .bool)) λr=>k (.bool r))).wp P Q h):BinOk P .neq t x y (.agg a) (.agg b) k Q h:=by
 unfold Pd at H;split at H
 ·rename_i l g
  split at H
  ·rename_i r c i
   rw[kU]at c;refine Pg c.1 (.inr rfl)<|An (Op.equal t (.agg a) (.agg b)) _ (Lh (d:=9999) g c.2 (Nu (d:=9997) a b _ _ i _ H))
  ·exact Bg _ (λv j ⟨r,e,f⟩=>e ▸ f) (λ_ _ x=>x) (GC H)
 ·exact Bg _ (λv j ⟨r,e,f⟩=>e ▸ f) (λ_ _ x=>x) (GC H)
theorem Xp {l:BinOp}{t:lD}{x y:Operand}{a b:lC}(H:(QP q P l t x y a b k).wp P Q h):BinOk P l t x y a b k Q h:=by
 unfold QP at H;split at H
 case h_1=>have⟨e,c⟩:=HV H;subst e;exact FY (by simp) (by simp) rfl c
 case h_2=>have⟨e,c⟩:=HV H;subst e;exact FY (by simp) (by simp) rfl c
 case h_3=>have⟨e,c⟩:=HV H;subst e;exact FY (by simp) (by simp) rfl c
 case h_4=>
  have⟨e,c⟩:=HV H;subst e;have⟨f,g⟩:=GB c;refine FY (by simp) (by simp) rfl ?_;simp only[Op.intDiv,if_neg f];exact g
 case h_5=>
  have⟨e,c⟩:=HV H;subst e;have⟨f,g⟩:=GB c;refine FY (by simp) (by simp) rfl ?_;simp only[Op.intDiv,if_neg f];exact g
 case h_6=>
  have⟨f,c⟩:=GB H;exact eU f c
 case h_7=>
  have⟨f,c⟩:=GB H;exact eV f c
 case h_8=>have⟨e,c⟩:=HV H;subst e;exact FY (by simp) (by simp) rfl c
 case h_9=>have⟨e,c⟩:=HV H;subst e;exact FY (by simp) (by simp) rfl c
 case h_10=>have⟨e,c⟩:=HV H;subst e;exact FY (by simp) (by simp) rfl c
 case h_11=>have⟨e,c⟩:=HV H;subst e;exact FY (by simp) (by simp) rfl c
 case h_12=>have⟨e,c⟩:=HV H;subst e;exact FY (by simp) (by simp) rfl c
 case h_13=>have⟨e,c⟩:=HV H;subst e;exact FY (by simp) (by simp) rfl c
 case h_14=>
  have⟨f,c⟩:=GB H;exact be f c
 case h_15=>exact H
 case h_16=>exact H
 case h_17=>
  have⟨d,hd,c⟩:=Ia H;cases d<;>first | exact c.elim | exact Vd rfl rfl (Rz hd _) c
 case h_18=>
  have⟨d,hd,c⟩:=Ia H;cases d<;>first | exact c.elim | exact Ve rfl rfl (Rz hd _) c
 case h_19=>
  have⟨d,hd,c⟩:=Ia H;cases d<;>first | exact c.elim | exact Vd rfl rfl (Pe hd _ _ _ _ _) c
 case h_20=>
  have⟨d,hd,c⟩:=Ia H;cases d<;>first | exact c.elim | exact Ve rfl rfl (Pe hd _ _ _ _ _) c
 case h_21=>
  have⟨d,hd,c⟩:=Ia H;cases d<;>first | exact c.elim | exact Vd rfl rfl (QR hd _ _) c
 case h_22=>
  have⟨d,hd,c⟩:=Ia H;cases d<;>first | exact c.elim | exact Ve rfl rfl (QR hd _ _) c
 case h_23=>exact Yy H
 case h_24=>exact Yz H
 case h_25=>exact Bg _ (λv m ⟨r,i,j⟩=>i ▸ j) (λ_ _ x=>x) (GC H)
 case h_26=>exact Bg _ (λv m ⟨r,i,j⟩=>i ▸ j) (λ_ _ x=>x) (GC H)
 case h_27=>exact Bl _ H
theorem UC {v:Option lC}{d l:Int}(a:bound d v=some l):(v=none∧l=d)∨ ∃j,v=some (.int j l):=by
 cases v with
 |none=>simp[bound]at a;exact .inl ⟨rfl,a.symm⟩
 |some v=>
  cases v<;>simp[bound]at a
  subst a;exact .inr ⟨_,rfl⟩
theorem GN {α:Type}{j:IntKind}{l:Int}{y:Nat}{a:BoundsCode}{f:Nat→Sem α}{K:α→AH→Prop}{X:lC→AH→Prop}
 (b:0≤l) (c:l≤y) (H:Ab P (f l.toNat) K X h):Ab P (do let n ←kH (.int j l) y a;f n) K X h:=by
 show Ab P (bD (kH (.int j l) y a) f) K X h;have e:kH (.int j l) y a= .pure l.toNat:=by
  show(if 0≤l∧l≤y then kZ l.toNat else boundsPanic j l y a)=_;rw[if_pos ⟨b,c⟩]
 rw[e];exact H
theorem Kc {b:Bool}{len cap:Nat}{lo c:Option lC}{l a:Int}(k:bound 0 lo=some l) (d:bound len c=some a)
 (g:0≤l) (o:l≤a) (i:a≤cap) {α:Type} {f:Nat×Nat×Nat→Sem α} {K:α→AH→Prop} {X:lC→AH→Prop}
 (H:Ab P (f (l.toNat,a.toNat,cap)) K X h):
 Ab P (do let r ←lA b len cap lo c none;f r) K X h:=by
 show Ab P (bD (lA b len cap lo c none) f) K X h;refine An _ _ ?_;have e:l≤(a.toNat:Int):=by omega
 rcases UC k with⟨rfl,rfl⟩|⟨j,rfl⟩ <;>rcases UC d with⟨rfl,rfl⟩|⟨j',rfl⟩
 ·exact H
 ·exact GN (f:=λn=>kZ (0,n,cap)) (by omega) i H
 ·refine GN (f:=λn=>kZ (n,len,cap)) g (by omega) H
 ·refine GN (f:=λm=>bD (kH (.int j l) m .sliceB) λn=>kZ (n,m,cap)) (by omega) i<|GN (f:=λn=>kZ (n,a.toNat,cap)) g e H
theorem UD {t:lD}{x:lC}{lo b mx:Option lC}(H:(Ka q P t x lo b mx k).wp P Q h):
 Ab P (kO t x lo b mx) (λv d=>(k v).wp P Q d) (λv d=>Q (.pan [{v,recovered:=false}]) d) h:=by
 unfold Ka at H;split at H
 ·rename_i s hd
  split at H
  ·rename_i l r f a
   obtain⟨⟨g,j,m⟩,o⟩:=GB H;unfold kO;refine Aj hd ?_;unfold Instr.slice;refine Aj hd<|Kc f a g j m o
  ·exact H.elim
 ·rename_i e p n c hd
  split at H
  ·rename_i l r i f a b
   obtain⟨⟨g,j,m⟩,o⟩:=GB H;unfold kO;refine Aj hd ?_;unfold Instr.slice;refine Aj hd<|Kc f a g j m<|I7 b o
  ·exact H.elim
 ·exact HD H
theorem Vf {c:Call}{t:lD}(H:(Ns q P ρ c t k).wp P Q h):
 OpOk q P (do let d ←resolve ρ c t;invoke d.target d.args) k Q h:=by
 unfold Ns at H;split at H
 ·rename_i b p
  have e:resolve ρ c t= .pure {target:=.builtin b c.argTypes t (c.args.map fun | .const _=>true | _=>false),args:=c.args.map ρ} :=by
   unfold resolve;rw[p];rfl
  rw[e];show OpOk q P (builtin b c.argTypes t _ (c.args.map ρ)) k Q h;cases b<;>first | exact H.elim | skip
  case append=>exact FC (HD H)
  case cap=>
   dsimp only at H;split at H<;>first | exact H.elim | skip
   rename_i at0 _ x _ r s
   refine FC ?_;have m:c.argTypes[0]? =some at0:=by rw[←eE,r];rfl
   have o:(c.args.map ρ)[0]? =some x:=by rw[←eE,s];rfl
   split at H
   ·rename_i hd
    show Ab P (kY c.argTypes t (c.args.map ρ)) _ _ _;unfold kY;rw[m,o];exact Aj hd H
   ·exact HD H
  case clear=>exact FC (Bg _ (λ_ _ ⟨_,a,i⟩=>by subst a;exact i) (λ_ _ x=>x) (GC H))
  case copy=>exact FC (Bg _ (λ_ _ ⟨_,a,i⟩=>by subst a;exact i) (λ_ _ x=>x) (GC H))
  case delete=>exact FC (Bg _ (λ_ _ ⟨_,a,i⟩=>by subst a;exact i) (λ_ _ x=>x) (GC H))
  case len=>
   dsimp only at H;split at H<;>first | exact H.elim | skip
   rename_i at0 _ x _ r s
   refine FC ?_;have m:c.argTypes[0]? =some at0:=by rw[←eE,r];rfl
   have o:(c.args.map ρ)[0]? =some x:=by rw[←eE,s];rfl
   split at H
   ·rename_i hd
    show Ab P (hM c.argTypes t (c.args.map ρ)) _ _ _;unfold hM;rw[m,o];exact Aj hd H
   ·rename_i hd
    show Ab P (hM c.argTypes t (c.args.map ρ)) _ _ _;unfold hM;rw[m,o];exact Aj hd H
   ·rename_i x _ _ n e hd
    show Ab P (hM c.argTypes t (c.args.map ρ)) _ _ _;unfold hM;rw[m,o];refine Aj hd ?_;cases x<;>exact H
   ·exact HD H
  case max=>exact FC (Bl _ H)
  case min=>exact FC (Bl _ H)
 ·rename_i f p
  unfold Hy at H;split at H
  ·rename_i g first cap y
   split at H
   ·rename_i fn u
    split at H
    ·rename_i j l
     have e:resolve ρ c t= .pure {target:=.fn (.func g) cap,args:=first++c.args.map ρ} :=by
      unfold resolve;rw[p];simp only[y,Deferred.ofValue];rfl
     rw[e];show OpOk q P (callFunc g ((first++c.args.map ρ) ++cap)) k Q h;unfold OpOk callFunc;simp only[program,bind,bD,Ab,u,j,l,kK,if_false];cases q with
     |true=>exact H.elim
     |false=>
     simp only[cond_false,T.wp]at H;simp only[pure,Ab,dq];refine⟨trivial,CallsH.mono H λe z w=> ?_⟩;cases e with
     |ret v=>obtain⟨x,a,i⟩:=w;subst a;exact i
     |pan c=>exact w
    ·exact H.elim
   ·exact H.elim
  ·exact H.elim
 ·exact H.elim
theorem UE {o:Oper}(H:(C8 q P ρ o k).wp P Q h):OpOk q P (execOp ρ o) k Q h:=by
 obtain⟨E,F,L,pos,G,I⟩:=o;cases F<;>simp only[C8]at H<;>first | exact H.elim | skip
 case move x=>exact H
 case assign x=>exact H
 case pick c a b=>
  split at H
  ·rename_i t M
   show OpOk q P (do pure (.value (if ←asBool (ρ c) then ρ a else ρ b))) k Q h;rw[M];cases t<;>exact H
  ·exact H.elim
 case alloc e=>exact FC (Bl _ H)
 case box e x=>exact FC (Bl _ H)
 case build t ps=>exact FC (Bl _ H)
 case buildSlice t n ps=>exact FC (Bl _ H)
 case insert t m key x=>exact eT (Wq H)
 case load t a=>
  split at H
  ·rename_i p J
   obtain⟨N,rfl,w⟩:=Kb H;refine FC ?_;show Ab P (Instr.loadAt t (ρ a)) _ _ _;rw[J];exact Bg _ (λ_ _ ⟨O,R⟩=>O ▸ R) (λ_ _ g=>g.elim) (Vc w)
  ·exact H.elim
 case store t a x=>
  refine eT ?_;split at H
  ·rename_i p J
   obtain⟨N,rfl,w⟩:=Kb H;rw[J];exact Bl _ w
  ·exact Bl _ H
 case nilCheck x=>
  split at H
  ·rename_i p z
   obtain⟨a,rfl,w⟩:=Kb H;simp only[execOp,z];exact w
  ·rename_i f a b z
   simp only[execOp,z];exact H
  ·rename_i t v z
   simp only[execOp,z];exact H
  ·exact H.elim
 case binOp F xt x y yt=>exact FC (Xp H)
 case unOp F xt x=>exact FC (Bl _ H)
 case convert src E x=>
  refine FC ?_;split at H
  ·exact Bl _ H
  ·exact Bl _ H
  ·exact HD H
 case makeInterface t x=>exact FC (Bl _ H)
 case makeFunc fn first captured=>exact H
 case makeMap t r=>exact FC (Bl _ H)
 case makeChan t s=>exact FC (HD H)
 case makeSlice t l c=>exact FC (HD H)
 case slice t x lo hi mx=>exact FC (UD H)
 case fieldAddr s x f=>
  refine FC ?_;split at H
  ·rename_i p z
   obtain⟨a,rfl,w⟩:=Kb H;rw[z];exact Bl _ w
  ·exact Bl _ H
 case field t x f=>exact FC (Bl _ H)
 case indexAddr t x ix=>
  refine FC ?_;show Ab P (kW t (ρ x) (ρ ix)) _ _ _;split at H
  ·rename_i e p n c j i hd g u
   split at H
   ·rename_i A d
    obtain⟨a,rfl,w⟩:=Kb H;have⟨B,C⟩:=GB w;rw[g,u];simp only[kW,Instr.sureAddr,asIntOf,underlying,program,bind,bD,Ab,hd,pure,Go.sizeOf,typeInfo,d,if_pos B];exact C
   ·exact H.elim
  ·rename_i n e a j i hd g u
   split at H
   ·rename_i A d
    have⟨B,C⟩:=GB H;rw[g,u];simp only[kW,Instr.sureAddr,asIntOf,underlying,program,bind,bD,Ab,hd,pure,Go.sizeOf,typeInfo,d,if_pos B];exact C
   ·exact H.elim
  ·exact H.elim
 case index t x ix=>
  refine FC ?_;show Ab P (lB t (ρ x) (ρ ix)) _ _ _;split at H
  ·rename_i s j i hd g u
   have⟨B,C⟩:=GB H;rw[g,u];unfold lB;simp only[asIntOf];refine Aj hd ?_;have e:(if 0≤i then s[i.toNat]? else none)=some (FB s i.toNat):=by
    rw[if_pos B.1];have D:i.toNat<s.size:=by omega
    rw[getElem?_pos s i.toNat D];unfold FB
    have:i.toNat<s.data.toList.length:=by simpa using D
    rw[bO,List.getElem?_eq_getElem this];rfl
   dsimp only;rw[e];exact C
  ·exact Bl _ H
 case lookup t x ix ok=>exact FC (HD H)
 case mapUpdate t m key x=>exact eT (Wq H)
 case range t x=>exact FC (Bg _ (λ_ _ ⟨_,g,K⟩=>by subst g;exact K) (λ_ _ x=>x) (GC H))
 case next it b=>exact FC (Bg _ (λ_ _ ⟨_,g,K⟩=>by subst g;exact K) (λ_ _ x=>x) (GC H))
 case typeAssert x xt at_ ok=>exact FC (HD H)
 case extract t ix=>exact FC (Bl _ H)
 case call c=>exact Vf H
 case panic x=>exact FC (Bl _ H)
end
abbrev Env:=List (Nat×lC)
def Env.get?:Env→Nat→Option lC
 | [],_=>none
 |(i,v)::r,t=>bif kX i t then some v else Env.get? r t
def Env.put (e:Env) (a:Option Tmp) (v:lC):Env:=match a with
 |some d=>(d,v)::e
 |none=>e
def Env.ev (e:Env):Operand→lC
 |.tmp t=>(e.get? t).getD undef
 |.const v=>v
 |.global g=>.pointer (some ⟨g,0,none⟩)
 |.func f=>.func (.func f) #[] #[]
def Env.has (e:Env):Operand→Bool
 |.tmp t=>(e.get? t).isSome
 |_=>true
def Agrees (e:Env) (tm:Array lC):Prop:= ∀t v,e.get? t=some v→tm[t]? =some v
theorem Env.get?_cons (i:Nat) (v:lC) (r:Env) (t:Nat):Env.get? ((i,v)::r) t=if i=t then some v else Env.get? r t:=by
 show(bif kX i t then some v else Env.get? r t)=_;by_cases h:i=t
 ·subst h;simp
 ·have:kX i t=false:=by
   cases hb:kX i t with
   |false=>rfl
   |true=>exact absurd (Nat.eq_of_beq_eq_true hb) h
  simp[this,h]
theorem Agrees.ev {e:Env}{a:Act}(h:Agrees e a.tmps) {x:Operand}(c:e.has x=true):a.eval x=e.ev x:=by
 cases x with
 |tmp t=>
  have⟨v,b⟩:=kL.1 c
  have:=h t v b
  simp[Act.eval,Env.ev,b,this]
 |const v=>rfl
 |global g=>rfl
 |func f=>rfl
theorem Agrees.put {e:Env}{a:Act}(h:Agrees e a.tmps) (b:Option Tmp) (v:lC) (hd:∀d,b=some d→d<a.tmps.size):Agrees (e.put b v) (a.put b v).tmps:=by
 cases b with
 |none=>exact h
 |some d=>
  intro t u f;simp only[Env.put,Env.get?_cons]at f;have g:=hd d rfl;by_cases c:d=t
  ·subst c;simp only[if_true,Option.some.injEq]at f;subst f;simp[Act.put,g]
  ·simp only[c,if_false]at f;simp only[Act.put,kF c];exact h t u f
theorem Act.put_size (a:Act) (b:Option Tmp) (v:lC):(a.put b v).tmps.size=a.tmps.size:=by cases b<;>simp[Act.put]
theorem Act.put_defers' (a:Act) (b:Option Tmp) (v:lC):(a.put b v).defers=a.defers:=by cases b<;>rfl
def Fr (W:List Nat) (a b:Act):Prop:=b.tmps.size=a.tmps.size∧b.defers=a.defers∧ ∀t,t∉W→b.tmps[t]? =a.tmps[t]?
theorem Fr.refl (W:List Nat) (a:Act):Fr W a a:=⟨rfl,rfl,λ_ _=>rfl⟩
theorem Fr.trans {W:List Nat}{a b c:Act}(h:Fr W a b) (k:Fr W b c):Fr W a c:=⟨k.1.trans h.1,k.2.1.trans h.2.1,λt d=>(k.2.2 t d).trans (h.2.2 t d)⟩
theorem Fr.mono {W c:List Nat}{a b:Act}(h:Fr W a b) (d:∀t,t∈W→t∈c):Fr c a b:=⟨h.1,h.2.1,λt e=>h.2.2 t (λf=>e (d t f))⟩
theorem Fr.put (W:List Nat) (a:Act) (b:Option Tmp) (v:lC) (h:∀d,b=some d→d∈W):Fr W a (a.put b v):=by
 refine⟨Act.put_size a b v,Act.put_defers' a b v,λt c=> ?_⟩;cases b with
 |none=>rfl
 |some d=>
  have:d≠t:=λe=>c (e ▸ h d rfl)
  simp[Act.put,kF this]
def IR (P:lF) (ops:Array Oper) (l:List Nat) (Q:Exit→Act→lG→Prop) (a:Act) (w:lG):Prop:=
 ∀(b:Frame) (k:List Item) (cs:List Frame),
  ∃e c d,Q e c d∧Arrives P (lone (b.at a (.inRegion ops l::k)) cs w) b k cs e c d
section
variable {P:lF}{ops:Array Oper}{Q:Exit→Act→lG→Prop}{a:Act}{w:lG}
theorem eW (h:Q .normal a w):IR P ops [] Q a w:=λ_ _ _=>⟨.normal,a,w,h,.one step_region_end⟩
theorem Ws {i:Nat}{rest:List Nat}(h:((ops[i]?).map (Region.wanted · (yielded ops a.tmps))).getD false=false)
 (H:IR P ops rest Q (a.put ((ops[i]?).bind (·.dst)) undef) w):IR P ops (i::rest) Q a w:=λb k cs=>by
 obtain⟨e,d,f,g,c⟩:=H b k cs;exact⟨e,d,f,g,.of_steps (.one (step_op_skip h)) c⟩
theorem Y0 {i:Nat}{rest:List Nat}{o:Oper}{v:lC}{g:lG}(h:ops[i]? =some o) (j:Region.wanted o (yielded ops a.tmps)=true)
 (l:(execOp a.eval o).run P w= .ok (.value v) g) (H:IR P ops rest Q (a.put o.dst v) g):IR P ops (i::rest) Q a w:=λb k cs=>by
 obtain⟨e,m,f,n,c⟩:=H b k cs;refine⟨e,m,f,n,.of_steps (.one (step_lone_go ?_)) c⟩;have d:(b.at a (.inRegion ops (i::rest)::k)).finish v=b.at (a.put o.dst v) (.inRegion ops rest::k):=by rw[Frame.finish_at,h];rfl
 rw[stepG_op h j,←d];simp[stepG.apply,l]
theorem bh {i:Nat}{rest:List Nat}{o:Oper}{g:lG}(h:ops[i]? =some o) (j:Region.wanted o (yielded ops a.tmps)=true)
 (l:(execOp a.eval o).run P w= .ok .skip g) (H:IR P ops rest Q (a.put o.dst undef) g):IR P ops (i::rest) Q a w:=λb k cs=>by
 obtain⟨e,m,f,n,c⟩:=H b k cs;refine⟨e,m,f,n,.of_steps (.one (step_lone_go ?_)) c⟩;have d:(b.at a (.inRegion ops (i::rest)::k)).finish undef=b.at (a.put o.dst undef) (.inRegion ops rest::k):=by rw[Frame.finish_at,h];rfl
 rw[stepG_op h j,←d];simp[stepG.apply,l]
theorem Y2 {i:Nat}{rest:List Nat}{o:Oper}{v:lC}{c:lG}(d:ops[i]? =some o) (e:Region.wanted o (yielded ops a.tmps)=true)
 (f:(execOp a.eval o).run P w= .halt (.panic v) c) (H:Q (.panic [{v,recovered:=false}]) a c):IR P ops (i::rest) Q a w:=λb k cs=>by
 refine⟨_,a,c,H,.inRegion ops (i::rest)::k,.one (step_lone_go ?_)⟩;rw[stepG_op d e,←Frame.raise_at];simp[stepG.apply,f]
theorem Y3 {i:Nat}{rest:List Nat}{o:Oper}{f:FuncId}{args:Array lC}{n:lG}(q:ops[i]? =some o) (r:Region.wanted o (yielded ops a.tmps)=true)
 (s:(execOp a.eval o).run P w= .ok (.enter f args) n)
 (H:Calls P f args n λe j=>match e with
  |.returned v=>IR P ops rest Q (a.put o.dst v) j
  |.panicked c=>Q (.panic c) a j
  |.outgrown=>False):IR P ops (i::rest) Q a w:=λb k cs=>by
 obtain⟨e,j,fr,p,d,_,g⟩:=H (b.at a (.inRegion ops (i::rest)::k)::cs);have h:step P (lone (b.at a (.inRegion ops (i::rest)::k)) cs w)=
  .next (lone (Frame.enter P f args .normal) (b.at a (.inRegion ops (i::rest)::k)::cs) n):=
  step_lone_go (by rw[stepG_op q r];simp[stepG.apply,s,Frame.at])
 cases e with
 |returned v=>
  obtain⟨e,t,u,x,l⟩:=p b k cs;refine⟨e,t,u,x,.of_steps (.head h (d.trans (.one ?_))) l⟩;have m:(b.at a (.inRegion ops (i::rest)::k)).finish v=b.at (a.put o.dst v) (.inRegion ops rest::k):=by rw[Frame.finish_at,q];rfl
  rw[←m];exact step_leave_returned g
 |panicked c=>
  refine⟨.panic c,a,j,p,.inRegion ops (i::rest)::k,.head h (d.trans (.one ?_))⟩;rw[←Frame.raise_at];exact step_leave_panicked g
 |outgrown=>exact p.elim
theorem UF {b:Frame}{k:List Item}{cs:List Frame}{i:Nat}{rest:List Nat}{o:Oper}{d:Array CommCase}{c:Bool}{shape:CommShape}(e:ops[i]? =some o)
 (f:Region.wanted o (yielded ops a.tmps)=true) (g:(execOp a.eval o).run P w= .ok (.comm d c shape) w):
 ∃es,stepG P true (Conc.G (b.at a (.inRegion ops (i::rest)::k)) cs) w= .comm (Conc.G (b.at a (.inRegion ops (i::rest)::k)) cs) d c shape w es:=by
 have h:=stepG_op (P:=P) (b:=b) (k:=k) (cs:=cs) (w:=w) (rest:=rest) e f
 have:stepG P true (Conc.G (b.at a (.inRegion ops (i::rest)::k)) cs) w=stepG.apply P true (b.at a (.inRegion ops (i::rest)::k)) cs none (execOp a.eval o) w:=h
 rw[this];refine⟨(stepG.apply P true (b.at a (.inRegion ops (i::rest)::k)) cs none (execOp a.eval o) w).es,?_⟩;simp[stepG.apply,g,Conc.G,Frame.at,GStep.after,GStep.es]
def Oz (send:Option lC) (i:Int) (ok:Bool) (v:lC):lC:=match send with
 |some _=>.tuple #[goInt i,.bool ok]
 |none=>.tuple #[goInt i,.bool ok,v]
theorem Xq {i:Nat}{rest:List Nat}{o:Oper}{c:Nat}{send:Option lC}{zero:lC}(t:ops[i]? =some o) (u:Region.wanted o (yielded ops a.tmps)=true)
 (x:(execOp a.eval o).run P w= .ok (.comm #[{chan:=.chan (some c),send,zero}] false .select) w)
 (H:Yv c send zero (λj ok v h'=>∀g,B4 w g→g.heap=h'→IR P ops rest Q (a.put o.dst (Oz send j ok v)) g) w.heap):IR P ops (i::rest) Q a w:=by
 intro b k cs;have⟨es,h⟩:=UF (b:=b) (k:=k) (cs:=cs) (rest:=rest) t u x;obtain⟨cap,f,s,r,q,H⟩:=H;have fin:∀v,(b.at a (.inRegion ops (i::rest)::k)).finish v=b.at (a.put o.dst v) (.inRegion ops rest::k):=λv=>by rw[Frame.finish_at,t];rfl
 cases send with
 |none=>
  by_cases l:0<f.size
  ·simp only[if_pos l]at H;have m:=Conc.step_lone_select_recv_buf h q l;obtain⟨e,n,g,p,d⟩:=H (w.setChan c cap (f.extract 1 f.size) false s (r+1) false) ⟨rfl,rfl,rfl,by unfold World.setChan;simp⟩ rfl b k cs;refine⟨e,n,g,p,.of_steps (.one ?_) d⟩;rw[←fin];exact m
  ·simp only[if_neg l]at H;have y:f= #[]:=by
    have:f.size=0:=by omega
    exact Array.eq_empty_of_size_eq_zero this
   subst y;have m:=Conc.step_lone_select_default h q;obtain⟨e,n,g,p,d⟩:=H w (.refl w) rfl b k cs;refine⟨e,n,g,p,.of_steps (.one ?_) d⟩;rw[←fin];exact m
 |some v=>
  by_cases l:f.size<cap
  ·simp only[if_pos l]at H;have m:=Conc.step_lone_select_send_room h q l;obtain⟨e,n,g,p,d⟩:=H (w.setChan c cap (f.push v) false (s+1) r false) ⟨rfl,rfl,rfl,by unfold World.setChan;simp⟩ rfl b k cs;refine⟨e,n,g,p,.of_steps (.one ?_) d⟩;rw[←fin];exact m
  ·simp only[if_neg l]at H;have m:=Conc.step_lone_select_send_full h q (by omega);obtain⟨e,n,g,p,d⟩:=H w (.refl w) rfl b k cs;refine⟨e,n,g,p,.of_steps (.one ?_) d⟩;rw[←fin];exact m
end
section
variable {P:lF}{ops:Array Oper}
def FZ (P:lF) (ops:Array Oper) (i:Nat) (a:Act) (w:lG) (K:Act→lG→Prop) (X:List PanicEntry→lG→Prop):Prop:=
 match ops[i]? with
 |none=>K a w
 |some o=>
  (Region.wanted o (yielded ops a.tmps)=false∧K (a.put o.dst undef) w)∨
  (Region.wanted o (yielded ops a.tmps)=true∧
   ((∃v b,(execOp a.eval o).run P w= .ok (.value v) b∧K (a.put o.dst v) b)∨
    (∃b,(execOp a.eval o).run P w= .ok .skip b∧K (a.put o.dst undef) b)∨
    (∃f args b,(execOp a.eval o).run P w= .ok (.enter f args) b∧Calls P f args b λe c=>match e with
     |.returned v=>K (a.put o.dst v) c
     |.panicked ch=>X ch c
     |.outgrown=>False)∨
    (∃v b,(execOp a.eval o).run P w= .halt (.panic v) b∧X [{v,recovered:=false}] b)))
theorem Kd {i:Nat}{a:Act}{w:lG}{K n:Act→lG→Prop}{X X':List PanicEntry→lG→Prop}(j:∀a w,K a w→n a w) (p:∀c w,X c w→X' c w)
 (H:FZ P ops i a w K X):FZ P ops i a w n X':=by
 unfold FZ at *;split
 ·rename_i h;simp only[h]at H;exact j _ _ H
 ·rename_i o h
  simp only[h]at H;rcases H with⟨k,l⟩|⟨k,l⟩
  ·exact .inl ⟨k,j _ _ l⟩
  ·refine .inr ⟨k,?_⟩;rcases l with⟨v,b,d,g⟩|⟨b,d,g⟩|⟨f,args,b,d,g⟩|⟨v,b,d,g⟩
   ·exact .inl ⟨v,b,d,j _ _ g⟩
   ·exact .inr (.inl ⟨b,d,j _ _ g⟩)
   ·refine .inr (.inr (.inl ⟨f,args,b,d,g.mono λe q m=> ?_⟩));cases e<;>first | exact j _ _ m | exact p _ _ m | exact m
   ·exact .inr (.inr (.inr ⟨v,b,d,p _ _ g⟩))
theorem Xr {W:List Nat}(n:∀o∈ops,∀d,o.dst=some d→d∈W) {i:Nat}{a:Act}{w:lG}{K:Act→lG→Prop}{X:List PanicEntry→lG→Prop}
 (H:FZ P ops i a w K X):FZ P ops i a w (λl b=>Fr W a l∧K l b) X:=by
 unfold FZ at *;split
 ·rename_i h;simp only[h]at H;exact⟨.refl W a,H⟩
 ·rename_i o h
  simp only[h]at H;have hd:∀v,Fr W a (a.put o.dst v):=λv=>Fr.put W a o.dst v (n o (kG h));rcases H with⟨j,k⟩|⟨j,k⟩
  ·exact .inl ⟨j,hd _,k⟩
  ·refine .inr ⟨j,?_⟩;rcases k with⟨v,b,c,g⟩|⟨b,c,g⟩|⟨f,args,b,c,g⟩|⟨v,b,c,g⟩
   ·exact .inl ⟨v,b,c,hd _,g⟩
   ·exact .inr (.inl ⟨b,c,hd _,g⟩)
   ·refine .inr (.inr (.inl ⟨f,args,b,c,g.mono λe p m=> ?_⟩));cases e<;>first | exact⟨hd _,m⟩|exact m
   ·exact .inr (.inr (.inr ⟨v,b,c,g⟩))
theorem Xs {i:Nat}{rest:List Nat}{a:Act}{w:lG}{Q:Exit→Act→lG→Prop}(H:FZ P ops i a w (IR P ops rest Q) (λc w=>Q (.panic c) a w)):
 IR P ops (i::rest) Q a w:=by
 unfold FZ at H;split at H
 ·rename_i h
  refine Ws (by simp[h]) ?_;simpa[h,Act.put]using H
 ·rename_i o h
  rcases H with⟨e,g⟩|⟨e,g⟩
  ·exact Ws (by simp[h,e]) (by simpa[h]using g)
  ·rcases g with⟨v,j,b,d⟩|⟨j,b,d⟩|⟨f,args,j,b,d⟩|⟨v,j,b,d⟩
   ·exact Y0 h e b d
   ·exact bh h e b d
   ·exact Y3 h e b d
   ·exact Y2 h e b d
theorem UG {i:Nat}{a:Act}{w:lG}{K:Act→lG→Prop}{Q:Exit→Act→lG→Prop}(H:FZ P ops i a w K (λc w=>Q (.panic c) a w)):
 wpOp P ops Q i K a w:=by
 unfold FZ at H;unfold wpOp;split at H
 ·rename_i h;simp only[h];exact H
 ·rename_i o h
  simp only[h];rcases H with⟨g,j⟩|⟨g,j⟩
  ·simp only[g,kK,if_false];exact j
  ·simp only[g,if_true];refine .inl ?_;unfold Oper.wp;rcases j with⟨v,k,b,d⟩|⟨k,b,d⟩|⟨f,args,k,b,d⟩|⟨v,k,b,d⟩
   ·rw[b];exact d
   ·rw[b];exact d
   ·rw[b];exact Calls.mono d λe m l=>by cases e<;>first | exact l | exact l.elim
   ·rw[b];exact d
def StepH (P:lF) (ops:Array Oper) (i:Nat) (K:Act→AH→Prop) (X:List PanicEntry→AH→Prop) (a:Act) (h:AH):Prop:=
 ∀w,w.heap=h→FZ P ops i a w (λd b=>B4 w b∧K d b.heap) (λc b=>B4 w b∧X c b.heap)
theorem M3 {i:Nat}{a:Act}{h:AH}{K b:Act→AH→Prop}{X X':List PanicEntry→AH→Prop}(d:∀a h,K a h→b a h) (e:∀c h,X c h→X' c h)
 (H:StepH P ops i K X a h):StepH P ops i b X' a h:=λw f=>Kd (λ_ _ ⟨x,y⟩=>⟨x,d _ _ y⟩) (λ_ _ ⟨x,y⟩=>⟨x,e _ _ y⟩) (H w f)
def Y4 (ops:Array Oper) (e:Env) (o:Oper):Option Bool:=match o.guard with
 |none=>some true
 |some (j,want)=>match (ops[j]?).bind (·.dst) with
  |none=>none
  |some d=>match e.get? d with
   |some (.bool b)=>some (b==want)
   |some _=>some false
   |none=>none
theorem Sq {e:Env}{a:Act}{o:Oper}{b:Bool}(h:Agrees e a.tmps) (c:Y4 ops e o=some b):Region.wanted o (yielded ops a.tmps)=b:=by
 unfold Y4 at c;unfold Region.wanted;split at c
 ·rename_i f;cases c;simp[f]
 ·rename_i j i f
  simp only[f];split at c
  ·cases c
  ·rename_i d k
   split at c
   ·rename_i n g
    cases c
    have:=h d _ g
    simp[yielded,k,this]
   ·rename_i v g l
    cases c
    have:=h d _ l
    have m:yielded ops a.tmps j=none:=by
     unfold yielded;rw[k];simp only[Option.bind_some,this];cases v<;>first | rfl | exact absurd rfl (g _)
    simp[m]
   ·cases c
def Sr (g:Bool) (v:lC) (k:lC→T):T:=match g,v with
 |true,.bool b=>cond b (k (.bool true)) (k (.bool false))
 |_,v=>k v
theorem Li {g:Bool}{v:lC}{k:lC→T}{Q:Bs→AH→Prop}{h:AH}(H:(Sr g v k).wp P Q h):(k v).wp P Q h:=by
 unfold Sr at H;split at H
 ·rename_i b;cases b<;>exact H
 ·exact H
def QD (q:Bool) (P:lF) (ops:Array Oper) (a:List Nat) (e:Env) (i:Nat) (k:Env→T):T:=match ops[i]? with
 |none=>k e
 |some o=>match Y4 ops e o with
  |none=>.stuck
  |some false=>k (e.put o.dst undef)
  |some true=>bif o.op.operands.toList.all e.has then C8 q P e.ev o λv=>Sr (a.contains i) v λv=>k (e.put o.dst v) else .stuck
theorem R1 {q:Bool}{P:lF}{ρ:Operand→lC}{o:Oper}{k:lC→T}{Q:Bs→AH→Prop}{h:AH}(H:(C8 q P ρ o k).wp P Q h) (cs:Array SelectCase) (b:Bool):o.op≠.select cs b:=by intro a;simp only[C8,a]at H;exact H
def Hz (W:List Nat) (a:Act):Prop:= ∀d∈W,d<a.tmps.size
theorem Hz.fr {W c:List Nat}{a b:Act}(h:Hz W a) (f:Fr c a b):Hz W b:=λd hd=>by rw[f.1];exact h d hd
theorem QS {q:Bool}{C:List Nat}{e:Env}{i:Nat}{k:Env→T}{y:Bs→AH→Prop}{a:Act}{h:AH}{W:List Nat}(l:Agrees e a.tmps) (D:∀o∈ops,∀d,o.dst=some d→d∈W) (E:Hz W a)
 (H:(QD q P ops C e i k).wp P y h):
 StepH P ops i (λA z=>∃B,Agrees B A.tmps∧Fr W a A∧(k B).wp P y z) (λc z=>y (.pan c) z) a h:=by
 intro w F;subst F;unfold QD at H;unfold FZ;cases ho:ops[i]? with
 |none=>rw[ho]at H;exact⟨.refl w,e,l,.refl W a,H⟩
 |some o=>
  rw[ho]at H;have j:∀d,o.dst=some d→d∈W:=D o (kG ho);have g:∀v,Agrees (e.put o.dst v) (a.put o.dst v).tmps:=λv=>l.put o.dst v λd hd=>E d (j d hd);dsimp only at H ⊢;cases hg:Y4 ops e o with
  |none=>rw[hg]at H;exact H.elim
  |some b=>
   rw[hg]at H;have s:=Sq l hg;cases b with
   |false=>exact .inl ⟨s,.refl w,_,g undef,Fr.put W a o.dst undef j,H⟩
   |true=>
    refine .inr ⟨s,?_⟩;dsimp only at H;cases hall:o.op.operands.toList.all e.has with
    |false=>rw[hall]at H;exact H.elim
    |true=>
     rw[hall]at H;simp only[cond_true]at H;have m:execOp a.eval o=execOp e.ev o:=execOp_congr o (R1 H) λx G=>l.ev (List.all_eq_true.1 hall x (kV.2 G));rw[m];rcases Rx _ w (UE H) with⟨nx,n,t,p,r⟩|⟨v,n,t,p,r⟩
     ·cases nx<;>first | exact r.elim | skip
      case value v=>exact .inl ⟨v,n,t,p,_,g v,Fr.put W a o.dst v j,Li r⟩
      case skip=>exact .inr (.inl ⟨n,t,p,_,g undef,Fr.put W a o.dst undef j,Li r⟩)
      case enter f args=>
       refine .inr (.inr (.inl ⟨f,args,n,t,(by simpa using r.2 n rfl:Calls P f args n _).mono λI J u=> ?_⟩));cases I with
       |returned v=>exact⟨p.trans u.1,_,g v,Fr.put W a o.dst v j,Li u.2⟩
       |panicked K=>exact⟨p.trans u.1,u.2⟩
       |outgrown=>exact u.2
     ·exact .inr (.inr (.inr ⟨v,n,t,p,r⟩))
def dr (ops:Array Oper) (i:Nat):Option (Oper×SelectCase):=match ops[i]? with
 |some o=>match o.guard,o.op with
  |none,.select cs false=>match cs.toList with
   | [c] =>some (o,c)
   |_=>none
  |_,_=>none
 |none=>none
def eX (p:Option Nat) (k:Nat→T):T:=match p with
 |some r=>k r
 |none=>.stuck
def Y5 (P:lF) (e:Env) (c:SelectCase) (k:lC→T):T:=
 bif e.has c.chan && c.send.toList.all e.has then
  match e.ev c.chan,(P.info? c.elem).bind (·.zero) with
  |.chan p,some z=>eX p λr=>.sel r (c.send.map e.ev) z λj ok v=>k (Oz (c.send.map e.ev) j ok v)
  |_,_=>.stuck
 else .stuck
def Ke (P:lF) (ops:Array Oper) (a:List Nat):List Nat→Env→(Env→T)→T
 | [],e,k=>k e
 |i::r,e,k=>match dr ops i with
  |some (o,c)=>Y5 P e c λv=>Ke P ops a r (e.put o.dst v) k
  |none=>QD false P ops a e i λb=>Ke P ops a r b k
theorem Vg {U:List Nat}{E:Bs→AH→Prop}{W:List Nat}{QC:Exit→Act→lG→Prop}{k:Env→T}(hW:∀o∈ops,∀d,o.dst=some d→d∈W) (t:List Nat) (l:List Nat):
 ∀(e:Env) (a:Act) (w:lG),Agrees e a.tmps→Hz W a→(Ke P ops U l e k).wp P E w.heap→
  (∀D h b,Agrees D h.tmps→Fr W a h→B4 w b→(k D).wp P E b.heap→IR P ops t QC h b)→
  (∀c h b,Fr W a h→B4 w b→E (.pan c) b.heap→QC (.panic c) h b)→IR P ops (l++t) QC a w:=by
 induction l with
 |nil=>intro e a w g F H O Q;exact O e a w g (.refl W a) (.refl w) H
 |cons i r ih=>
  intro e a w g F H O Q;unfold Ke at H;split at H
  ·rename_i o c m
   unfold dr at m;split at m
   ·rename_i q ho
    split at m
    ·rename_i cs V X
     split at m
     ·rename_i f G
      simp only[Option.some.injEq,Prod.mk.injEq]at m;obtain⟨rfl,rfl⟩:=m;unfold Y5 at H;cases hk:(e.has f.chan && f.send.toList.all e.has) with
      |false=>rw[hk]at H;exact H.elim
      |true=>
       rw[hk]at H;simp only[cond_true]at H;split at H
       ·rename_i p z Y hz
        cases p with
        |none=>exact H.elim
        |some Z=>
         have I:∀d,q.dst=some d→d∈W:=hW q (kG ho);rw[Bool.and_eq_true]at hk;have e1:a.eval f.chan= .chan (some Z):=by rw[g.ev hk.1];exact Y
         have e2:f.send.map a.eval=f.send.map e.ev:=by
          cases hsd:f.send with
          |none=>rfl
          |some x=>
           have:=hk.2
           simp only[hsd,Option.toList_some,List.all_cons,List.all_nil,Bool.and_true]at this;simp[g.ev this]
         have e3:cs= #[f]:=by cases cs;simp at G;subst G;rfl
         obtain⟨inf,J,u⟩:∃i,P.info? f.elem=some i∧i.zero=some z:=by
          cases hi:P.info? f.elem with
          |none=>simp[hi]at hz
          |some i=>exact⟨i,rfl,by simpa[hi]using hz⟩
         have K:(execOp a.eval q).run P w= .ok (.comm #[{chan:=.chan (some Z),send:=f.send.map e.ev,zero:=z}] false .select) w:=by
          simp[execOp,X,e3,zeroValue,typeInfo,program,bind,bD,pure,J,u,hC,e1,e2,Functor.map]
         refine Xq ho (by simp[Region.wanted,V]) K ?_;have n:Yv Z (f.send.map e.ev) z (λj ok v L=>(Ke P ops U r (e.put q.dst (Oz (f.send.map e.ev) j ok v)) k).wp P E L) w.heap:=H;obtain⟨cap,y,s,rc,hc,n⟩:=n;refine⟨cap,y,s,rc,hc,?_⟩;have go:∀j ok v L,(Ke P ops U r (e.put q.dst (Oz (f.send.map e.ev) j ok v)) k).wp P E L→ ∀b,B4 w b→b.heap=L→
          IR P ops (r++t) QC (a.put q.dst (Oz (f.send.map e.ev) j ok v)) b:=λj ok v L A b m a0=>by
          subst a0;have hf:Fr W a (a.put q.dst (Oz (f.send.map e.ev) j ok v)):=Fr.put W a _ _ I;exact ih _ _ _ (g.put q.dst _ λd hd=>F d (I d hd)) (F.fr hf) A
           (λD h B R M C N=>O D h B R (hf.trans M) (m.trans C) N) (λc h B M C N=>Q c h B (hf.trans M) (m.trans C) N)
         cases hsd:f.send.map e.ev with
         |none=>
          rw[hsd]at n go;by_cases A:0<y.size
          ·simp only[if_pos A]at n ⊢;exact go _ _ _ _ n
          ·simp only[if_neg A]at n ⊢;exact go _ _ _ _ n
         |some x=>
          rw[hsd]at n go;by_cases A:y.size<cap
          ·simp only[if_pos A]at n ⊢;exact go _ _ _ _ n
          ·simp only[if_neg A]at n ⊢;exact go _ _ _ _ n
       ·exact H.elim
     ·cases m
    ·cases m
   ·cases m
  ·refine Xs (Kd (λh b S=> ?_) (λc b S=> ?_) (QS g hW F H w rfl))
   ·obtain⟨R,D,M,C,N⟩:=S;exact ih D h b M (F.fr C) N (λe2 a2 w2 g1 g2 g3 g4=>O e2 a2 w2 g1 (C.trans g2) (R.trans g3) g4) (λc a2 w2 g2 g3 g4=>Q c a2 w2 (C.trans g2) (R.trans g3) g4)
   ·exact Q c a b (.refl W a) S.1 S.2
theorem Xt {j:List Nat}{h:Bs→AH→Prop}{W:List Nat}{QC:Exit→Act→lG→Prop}{k:Env→T}(m:∀o∈ops,∀d,o.dst=some d→d∈W) (l:List Nat)
 (e:Env) (a:Act) (w:lG) (i:Agrees e a.tmps) (n:Hz W a) (H:(Ke P ops j l e k).wp P h w.heap)
 (p:∀g f b,Agrees g f.tmps→Fr W a f→B4 w b→(k g).wp P h b.heap→QC .normal f b)
 (q:∀c f b,Fr W a f→B4 w b→h (.pan c) b.heap→QC (.panic c) f b):IR P ops l QC a w:=by
 have:=Vg (QC:=QC) m [] l e a w i n H (λg f b r s t u=>eW (p g f b r s t u)) q
 rwa [List.append_nil]at this
end
section
variable {P:lF}{ops:Array Oper}
def M4 (m:List Nat) (o:Oper):Nat:=o.after.toList.foldl (λs e=>bif Region.binds .any e then s ||| 2 ^ e.on ||| m.getD e.on 0 else s) 0
def FD (l:List Oper):List Nat:=l.foldl (λm o=>m++ [M4 m o]) []
def forced (ms:List Nat) (j i:Nat):Bool:=(ms.getD j 0).testBit i
theorem UH (m:List Nat) (o:Oper) (i:Nat) (h:(M4 m o).testBit i=true):
 ∃e∈o.after,Region.binds .any e=true∧(e.on=i∨(m.getD e.on 0).testBit i=true):=by
 unfold M4 at h;have b:∀(l:List Edge) (s:Nat),(l.foldl (λs e=>bif Region.binds .any e then s ||| 2 ^ e.on ||| m.getD e.on 0 else s) s).testBit i=true→
  s.testBit i=true∨ ∃e∈l,Region.binds .any e=true∧(e.on=i∨(m.getD e.on 0).testBit i=true):=by
  intro l
  induction l with
  |nil=>intro s h;exact .inl h
  |cons x r c=>
   intro s h;rcases c _ h with a | ⟨e,he,a⟩
   ·dsimp only at a;cases hx:Region.binds .any x with
    |false=>rw[hx]at a;exact .inl a
    |true=>
     rw[hx]at a;simp only[cond_true,Nat.testBit_or,Bool.or_eq_true,Nat.testBit_two_pow,decide_eq_true_eq]at a;rcases a with(a | a)|a
     ·exact .inl a
     ·exact .inr ⟨x,by simp,hx,.inl a⟩
     ·exact .inr ⟨x,by simp,hx,.inr a⟩
   ·exact .inr ⟨e,by simp[he],a⟩
 rcases b o.after.toList 0 h with a | ⟨e,he,a⟩
 ·simp at a
 ·exact⟨e,kV.1 he,a⟩
theorem Wt {α:Type}{p:List α→Prop}(c:p []) (d:∀l a,p l→p (l++ [a])) (l:List α):p l:=by
 have b:∀r:List α,p r.reverse:=by
  intro r
  induction r with
  |nil=>exact c
  |cons a r e=>rw[List.reverse_cons];exact d _ _ e
 simpa using b l.reverse
theorem Lj (l:List Oper) (o:Oper):FD (l++ [o])=FD l++ [M4 (FD l) o]:=by simp[FD]
theorem EL (l:List Oper):(FD l).length=l.length:=by refine Wt (p:=λl=>(FD l).length=l.length) rfl (λl o a=> ?_) l;rw[Lj];simp[a]
theorem R4 (l:List Oper):∀(j i:Nat),((FD l).getD j 0).testBit i=true→
 ∃o,l[j]? =some o∧ ∃e∈o.after,Region.binds .any e=true∧(e.on=i∨(e.on<j∧((FD l).getD e.on 0).testBit i=true)):=by
 refine Wt (p:=λl=>∀(j i:Nat),((FD l).getD j 0).testBit i=true→
  ∃o,l[j]? =some o∧ ∃e∈o.after,Region.binds .any e=true∧(e.on=i∨(e.on<j∧((FD l).getD e.on 0).testBit i=true))) (λj i h=> ?_) (λl o n=> ?_) l
 ·simp[FD]at h
 ·intro j i h;rw[Lj]at h;rcases Nat.lt_trichotomy j l.length with hj | hj | hj
  ·have c:(FD l++ [M4 (FD l) o]).getD j 0=(FD l).getD j 0:=by
    simp only[bO];rw[hA (by rw[EL];exact hj)]
   rw[c]at h;obtain⟨q,d,e,f,g,k⟩:=n j i h;refine⟨q,by rw[hA hj];exact d,e,f,g,k.imp id λ⟨r,a⟩=>⟨r,?_⟩⟩;rw[Lj];simp only[bO]at a ⊢;rw[hA (by rw[EL];omega)];exact a
  ·subst hj;have c:(FD l++ [M4 (FD l) o]).getD l.length 0=M4 (FD l) o:=by
    simp only[bO];rw[List.getElem?_append_right (by rw[EL];omega),EL];simp
   rw[c]at h;have⟨e,f,g,k⟩:=UH _ _ _ h;refine⟨o,by simp,e,f,g,k.imp id λa=> ?_⟩;have b:e.on<l.length:=by
    rcases Nat.lt_or_ge e.on l.length with m | m
    ·exact m
    ·rw[bO,kT (by rw[EL];exact m)]at a;simp at a
   refine⟨b,?_⟩;rw[Lj];simp only[bO]at a ⊢;rw[hA (by rw[EL];exact b)];exact a
  ·rw[bO,kT (by simp[EL];omega)]at h;simp at h
def O0 (ops:Array Oper) (a:Array Bool):Prop:= ∀j o,ops[j]? =some o→a.getD j false=true→ ∀e∈o.after,Region.binds .any e=true→a.getD e.on false=true
theorem Re {a:Array Bool}(d:O0 ops a):∀(j i:Nat),a.getD j false=true→forced (FD ops.toList) j i=true→a.getD i false=true:=by
 intro j
 induction j using Nat.strongRecOn with
 |_ j f=>
  intro i g h;have⟨o,k,e,l,m,n⟩:=R4 ops.toList j i h;have b:ops[j]? =some o:=by rw[←eE];exact k
  have c:=d j o b g e l m;rcases n with rfl | ⟨hlt,p⟩
  ·exact c
  ·exact f e.on hlt i c p
theorem Su {a:Array Bool}(g:O0 ops a) {j i:Nat}(h:j∈Region.ready .any ops a) (k:forced (FD ops.toList) j i=true):a.getD i false=true:=by
 have⟨o,l,e,m,n,p⟩:=R4 ops.toList j i k;have d:ops[j]? =some o:=by rw[←eE];exact l
 have⟨_,o2,b,c⟩:=mem_ready.1 h;rw[d]at b;cases b;have f:=c e m n;rcases p with rfl | ⟨_,q⟩
 ·exact f
 ·exact Re g e.on i f q
theorem I8 {a:Array Bool}{j:Nat}(k:O0 ops a) (l:j∈Region.ready .any ops a):O0 ops (a.setIfInBounds j true):=by
 intro m o f g e h i;by_cases b:j=m
 ·subst b;have⟨_,o2,c,d⟩:=mem_ready.1 l;rw[f]at c;cases c;exact getD_set_true (d e h i)
 ·rw[getD_set_ne false b]at g;exact getD_set_true (k m o f g e h i)
abbrev Y6:=List (Nat×(AH→Prop))
def GH (P:lF) (ops:Array Oper) (Qh:Act→AH→Prop) (X:List PanicEntry→AH→Prop):Nat→Array Bool→Y6→Act→AH→Prop
 | 0,listed,_,a,h=>Region.ready .any ops listed= [] ∧Qh a h
 |n+1,listed,pend,a,h=>(Region.ready .any ops listed= [] →Qh a h)∧
  ∀j∈Region.ready .any ops listed,StepH P ops j (λc b=>(∀p∈pend,forced (FD ops.toList) j p.1=false→p.2 b)∧
   GH P ops Qh X n (listed.setIfInBounds j true) (pend.filter λp=> !forced (FD ops.toList) j p.1) c b) X a h
variable {Qh:Act→AH→Prop}{X:List PanicEntry→AH→Prop}
theorem Y7 {Q:Exit→Act→lG→Prop}{w0:lG}{a0:Act}{W:List Nat}(k:∀o∈ops,∀d,o.dst=some d→d∈W) (i:∀a w,B4 w0 w→Qh a w.heap→Q .normal a w) (l:∀c a w,Fr W a0 a→B4 w0 w→X c w.heap→Q (.panic c) a w):
 ∀(n:Nat) (b:Array Bool) (e:Y6) (a:Act) (w:lG),Fr W a0 a→B4 w0 w→GH P ops Qh X n b e a w.heap→wpAny P .any ops Q n b a w:=by
 intro n
 induction n with
 |zero=>intro b e a w hd g H;exact⟨H.1,i a w g H.2⟩
 |succ n m=>
  intro b e a w hd g H;refine⟨λp=>i a w g (H.1 p),λj q=>UG (Kd (λr h f=> ?_) (λc h f=> ?_) (Xr k (H.2 j q w rfl)))⟩
  ·exact m _ _ r h (hd.trans f.1) (g.trans f.2.1) f.2.2.2
  ·exact l c a h hd (g.trans f.1) f.2
theorem bk:∀(n:Nat) (b:Array Bool) (d c:Y6) (a:Act) (h:AH),(∀p∈c,p∈d)→GH P ops Qh X n b d a h→GH P ops Qh X n b c a h:=by
 intro n
 induction n with
 |zero=>intro b d c a h f H;exact H
 |succ n g=>
  intro b d c a h f H;refine⟨H.1,λj i=>M3 (λk l ⟨m,o⟩=>⟨λp e q=>m p (f p e) q,g _ _ _ k l (λp e=> ?_) o⟩) (λ_ _ x=>x) (H.2 j i)⟩;rw[kQ]at e ⊢;exact⟨f p e.1,e.2⟩
def gH (P:lF) (s:Sem Next) (v:lC) (h:AH):Prop:=
 ∀w,w.heap=h→ ∃a,(s.run P w= .ok (.value v) a∨(s.run P w= .ok .skip a∧v=undef))∧B4 w a∧a.heap=h
theorem Y8 {j:Nat}{k g:Oper}{v:lC}{a:Act}{h:AH}{K:Act→AH→Prop}(x:ops[j]? =some g) (p:k.apart ops g=true)
 (q:∀cs b,g.op≠.select cs b) (H:StepH P ops j K X (a.put k.dst v) h):
 StepH P ops j (λs y=>(∃u,s=a.put g.dst u)∧K (s.put k.dst v) y) X a h:=by
 have⟨t,z,i⟩:=Oper.apart_spec p;intro w A;have H:=H w A;unfold FZ at *;simp only[x]at H ⊢;rw[wanted_put g a k.dst v t,execOp_put g q a k.dst v t]at H;have m:∀u,(a.put k.dst v).put g.dst u=(a.put g.dst u).put k.dst v:=λu=>Act.put_comm a v u z;rcases H with⟨r,n⟩|⟨r,n⟩
 ·exact .inl ⟨r,n.1,⟨_,rfl⟩,by rw[←m];exact n.2⟩
 ·refine .inr ⟨r,?_⟩;rcases n with⟨u,l,i,d⟩|⟨l,i,d⟩|⟨f,args,l,i,d⟩|⟨u,l,i,d⟩
  ·exact .inl ⟨u,l,i,d.1,⟨_,rfl⟩,by rw[←m];exact d.2⟩
  ·exact .inr (.inl ⟨l,i,d.1,⟨_,rfl⟩,by rw[←m];exact d.2⟩)
  ·refine .inr (.inr (.inl ⟨f,args,l,i,d.mono λe B o=> ?_⟩));cases e with
   |returned u=>exact⟨o.1,⟨_,rfl⟩,by rw[←m];exact o.2⟩
   |panicked c=>exact o
   |outgrown=>exact o
  ·exact .inr (.inr (.inr ⟨u,l,i,d⟩))
theorem UI {i:Nat}{q:Oper}{v:lC}{s:Sem Next}{b:Bool}{R:AH→Prop}(hi:ops[i]? =some q) (B:∀(j:Nat) (o:Oper) cs b,ops[j]? =some o→o.op≠.select cs b)
 (hR:∀h,R h→b=true→gH P s v h) (hv:b=false→v=undef):
 ∀(n:Nat) (c:Array Bool) (d:Y6) (a:Act) (h:AH),O0 ops c→
  (∀j r,ops[j]? =some r→j≠i→c.getD j true=false→(∀e∈r.after,Region.binds .any e=true→e.on≠i)→q.apart ops r=true)→
  i∈Region.ready .any ops c→execOp a.eval q=s→Region.wanted q (yielded ops a.tmps)=b→R h→(∀p∈d,p.2 h)→
  GH P ops Qh X n (c.setIfInBounds i true) ((i,R)::d) (a.put q.dst v) h→GH P ops Qh X (n+1) c d a h:=by
 intro n;have M:∀(n:Nat) (c:Array Bool) (d:Y6) (a:Act) (h:AH),execOp a.eval q=s→Region.wanted q (yielded ops a.tmps)=b→R h→(∀p∈d,p.2 h)→
  GH P ops Qh X n (c.setIfInBounds i true) ((i,R)::d) (a.put q.dst v) h→
  StepH P ops i (λa' C=>(∀p∈d,forced (FD ops.toList) i p.1=false→p.2 C)∧
   GH P ops Qh X n (c.setIfInBounds i true) (d.filter λp=> !forced (FD ops.toList) i p.1) a' C) X a h:=by
  intro n c d a h D y z f H w hw;unfold FZ;simp only[hi];have Y:=bk n _ _ (d.filter λp=> !forced (FD ops.toList) i p.1) _ h (λp m=>kI _ (kQ.1 m).1) H;cases b with
  |false=>
   refine .inl ⟨y,.refl w,?_⟩;rw[hw]
   have:=hv rfl
   subst this;exact⟨λp m _=>f p m,Y⟩
  |true=>
   refine .inr ⟨y,?_⟩;obtain⟨w',t,W,K⟩:=hR h z rfl w hw;rw[D];rcases t with t | ⟨t,rfl⟩
   ·refine .inl ⟨v,w',t,W,?_⟩;rw[K];exact⟨λp m _=>f p m,Y⟩
   ·refine .inr (.inl ⟨w',t,W,?_⟩);rw[K];exact⟨λp m _=>f p m,Y⟩
 induction n with
 |zero=>
  intro c d a h G l z D y I f H;refine⟨λN=>(by rw[N]at z;cases z),λj L=> ?_⟩;by_cases g:j=i
  ·subst g;exact M 0 c d a h D y I f H
  ·have:=ready_mono L g
   rw[H.1]at this;cases this
 |succ n ih=>
  intro c d a h G l z D y I f H;refine⟨λN=>(by rw[N]at z;cases z),λj L=> ?_⟩;by_cases g:j=i
  ·subst g;exact M (n+1) c d a h D y I f H
  ·have t:=H.2 j (ready_mono L g);have⟨E,r,J,O⟩:=mem_ready.1 L;have F:c.getD i false=false:=by
    have N:=(mem_ready.1 z).1;rcases Nat.lt_or_ge i c.size with C | C
    ·simpa[C]using N
    ·simp[Array.getElem?_eq_none C]
   have Q:∀e∈r.after,Region.binds .any e=true→e.on≠i:=λe D y Z=>by
    have t:=O e D y;rw[Z,F]at t;cases t
   have S:forced (FD ops.toList) j i=false:=by
    cases hf:forced (FD ops.toList) j i with
    |false=>rfl
    |true=>have:=Su G L hf;rw[F]at this;cases this
   have T:=l j r J g E Q;have⟨q1,q2,q3⟩:=Oper.apart_spec T;have W:=Y8 J T (λcs b=>B j r cs b J) t;have A:∀k ok,ops[k]? =some ok→k≠i→(c.setIfInBounds j true).getD k true=false→
    (∀e∈ok.after,Region.binds .any e=true→e.on≠i)→q.apart ops ok=true:=λk ok hk a0 U a1=>by
    refine l k ok hk a0 ?_ a1;by_cases V:j=k
    ·subst V;exact E
    ·rw[getD_set_ne true V]at U;exact U
   refine M3 (λa' C hx=> ?_) (λ_ _ x=>x) W;obtain⟨⟨u,rfl⟩,K,h4⟩:=hx;refine⟨λp m hf=>K p (kI _ m) hf,?_⟩;refine ih (c.setIfInBounds j true) _ (a.put r.dst u) C (I8 G L) A (ready_mono z (Ne.symm g)) ?_ ?_ (K (i,R) (List.mem_cons_self ..) S) ?_ ?_
   ·rw[execOp_put q (λcs b=>B i q cs b hi) a r.dst u q3];exact D
   ·rw[wanted_put q a r.dst u q3];exact y
   ·intro p m;rw[kQ]at m;exact K p (kI _ m.1) (by simpa using m.2)
   ·rw[Array.setIfInBounds_comm _ _ g];rw[List.filter_cons_of_pos (by simp[S])]at h4;exact h4
end
end Go.Eng
