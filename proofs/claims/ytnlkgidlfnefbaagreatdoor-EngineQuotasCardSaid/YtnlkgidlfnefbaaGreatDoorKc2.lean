/- The parts EngG to EngS, put together. Conditions: each tells its own. -/
import Derived.Test.YtnlkgidlfnefbaaGreatDoorKc1
import Derived.Scope
import Derived.Below
import Derived.IntWalk
open List renaming mem_append_left → bD,mem_append_right → kF,length_append → kQ,mem_map → kZ,getElem?_eq_none → lB,length_cons → lC,map_cons → lD,mem_zipIdx_iff_getElem? → lF,getElem?_append_right → lH,mem_of_find?_eq_some → lI,getElem?_append_left → lJ,mem_cons → lK,filter_cons_of_neg → lM,filter_cons_of_pos → lN,getElem?_cons_succ → lO,find?_cons → lQ,mem_append → lR,contains_iff_mem → lS,size_toArray → mF,all_eq_true → mH
open Go.Sem renaming bind → bO,run → kI,pure → mM
open Array renaming getD_eq_getD_getElem? → eE,getElem?_eq_none → kO,replicate → kT,getElem?_setIfInBounds_ne → lA,getElem?_push → lG,getElem?_modify → lT,mem_toList_iff → lU,ext' → mB,size_append → mE
open Nat renaming add_mul → hA,eq_of_beq_eq_true → hM,beq → kH,lt_or_ge → kL,le_refl → lV,lt_of_lt_of_le → mC,add_comm → mG,one_mul → mK
open Go.Builtin renaming firstCells → hC,zeroCells → kU,nextslicecap → kV,growBy → lX,append_ → mL
open Go.Eng.Shs renaming Ty → kG,of → kK,vals → kW,of_vals → mI
open Go.Value renaming slice → kJ,int → lP
open Bool renaming false_eq_true → kX
open Go.Eng.Value renaming plain → kY
open Go.Eng.Env renaming get?_cons → lL
open Go.Addr renaming add → lW
open List.Perm renaming refl → lY
open Go.Instr renaming storeAt → lZ
open Go.World renaming setCell → mA,cell? → mJ
open Go.Eng.T renaming wp → mD
open Go renaming Value → mN,TypeId → mO,Program → mP,World → mQ,Addr → mR
namespace Go.Eng
open Go
section
variable {P:mP}{ops:Array Oper}
def Vh (u:mN):T:=.out [u]
def QV (v:mN) (a:AH) (l:Bs) (b:AH):Prop:=l= .out [v] ∧b=a
def Et (P:mP) (D:(mN→T)→T):Prop:= ∀(k:mN→T) (Q:Bs→AH→Prop) (h:AH),(D k).wp P Q h→ ∃v,(k v).wp P Q h∧ ∀a,(D Vh).wp P (QV v a) a
theorem BS (v:mN):Et P (λk=>k v):=λ_ _ _ H=>⟨v,H,λ_=>⟨rfl,rfl⟩⟩
theorem Ag:Et P (λ_=>.stuck):=λ_ _ _ H=>H.elim
theorem I9 {p:Option mR}{D:mR→(mN→T)→T}(b:∀a,Et P (D a)):Et P (λk=>deref p λa=>D a k):=by
 cases p with
 |none=>exact Ag
 |some a=>exact b a
theorem Eu {c:Prop}[Decidable c] {D:(mN→T)→T}(a:Et P D):Et P (λk=>chk c (D k)):=by intro k Q h H;have⟨v,b,d⟩:=a k Q h H.2;exact⟨v,b,λe=>⟨H.1,d e⟩⟩
theorem EM {c:Prop}[Decidable c] {D b:(mN→T)→T}(e:Et P D) (a:Et P b):Et P (λk=>if c then D k else b k):=by
 by_cases d:c
 ·simp only[if_pos d];exact e
 ·simp only[if_neg d];exact a
theorem Xu {b:Bool}{D c:(mN→T)→T}(d:Et P D) (a:Et P c):Et P (λk=>cond b (D k) (c k)):=by
 cases b
 ·exact a
 ·exact d
theorem Fa {α:Type}(s:Sem α) {f:α→(mN→T)→T}(d:∀a,Et P (f a)):Et P (λk=>Bh true P s λa=>f a k):=by
 induction s with
 |pure a=>exact d a
 |program g b=>exact b _
 |mark m g b=>exact b
 |halt x=>cases x<;>exact Ag
 |load m a g b=>exact Ag
 |store m a v g b=>exact Ag
 |new o g b=>exact Ag
 |shape r g b=>exact Ag
 |freeze a n g b=>exact Ag
 |frozen a g b=>exact Ag
 |getObj r g b=>exact Ag
 |setObj r o g b=>exact Ag
 |choose q g b=>exact Ag
 |sys c g b=>exact Ag
theorem CP (s:Sem mN):Et P (λk=>Bh true P s k):=Fa s (f:=λa k=>k a) λa=>BS a
theorem UJ {t:mO}{a b:Array mN}{f:Bool→(mN→T)→T}(c:∀r,Et P (f r)):Et P (λk=>Pd P t a b (λr=>f r k) .stuck):=by
 unfold Pd;split
 ·split
  ·exact c _
  ·exact Ag
 ·exact Ag
theorem Y9 (c:BinOp) (t:mO) (x y:Operand) (a b:mN):Et P (λk=>QP true P c t x y a b k):=by
 unfold QP;split
 case h_1=>exact EM (BS _) Ag
 case h_2=>exact EM (BS _) Ag
 case h_3=>exact EM (BS _) Ag
 case h_4=>exact EM (Eu (BS _)) Ag
 case h_5=>exact EM (Eu (BS _)) Ag
 case h_6=>exact Eu (BS _)
 case h_7=>exact Eu (BS _)
 case h_8=>exact EM (BS _) Ag
 case h_9=>exact EM (BS _) Ag
 case h_10=>exact EM (BS _) Ag
 case h_11=>exact EM (BS _) Ag
 case h_12=>exact EM (BS _) Ag
 case h_13=>exact EM (BS _) Ag
 case h_14=>exact Eu (BS _)
 case h_15=>exact BS _
 case h_16=>exact BS _
 case h_17 p=>exact Fa _ (f:=λ(d:TypeDesc) (k:mN→T)=>match d with | .pointer _=>k (.bool p.isNone)|_=>.stuck) λd=>by cases d<;>first | exact BS _ | exact Ag
 case h_18 p=>exact Fa _ (f:=λ(d:TypeDesc) (k:mN→T)=>match d with | .pointer _=>k (.bool !p.isNone)|_=>.stuck) λd=>by cases d<;>first | exact BS _ | exact Ag
 case h_19 p _ _ _ _=>exact Fa _ (f:=λ(d:TypeDesc) (k:mN→T)=>match d with | .slice _=>k (.bool p.isNone)|_=>.stuck) λd=>by cases d<;>first | exact BS _ | exact Ag
 case h_20 p _ _ _ _=>exact Fa _ (f:=λ(d:TypeDesc) (k:mN→T)=>match d with | .slice _=>k (.bool !p.isNone)|_=>.stuck) λd=>by cases d<;>first | exact BS _ | exact Ag
 case h_21 m n=>exact Fa _ (f:=λ(d:TypeDesc) (k:mN→T)=>match d with | .bool=>k (.bool (m==n))|_=>.stuck) λd=>by cases d<;>first | exact BS _ | exact Ag
 case h_22 m n=>exact Fa _ (f:=λ(d:TypeDesc) (k:mN→T)=>match d with | .bool=>k (.bool !(m==n))|_=>.stuck) λd=>by cases d<;>first | exact BS _ | exact Ag
 case h_23=>exact UJ (f:=λr k=>k (.bool r)) λr=>BS _
 case h_24=>exact UJ (f:=λr k=>k (.bool !r)) λr=>BS _
 case h_25=>exact Ag
 case h_26=>exact Ag
 case h_27=>exact CP _
theorem Vi (t:mO) (x:mN) (lo a mx:Option mN):Et P (λk=>Ka true P t x lo a mx k):=by
 unfold Ka;split
 ·split
  ·exact Eu (BS _)
  ·exact Ag
 ·split
  ·exact Eu (BS _)
  ·exact Ag
 ·exact Ag
theorem Xv (ρ:Operand→mN) (c:Call) (t:mO):Et P (λk=>Ns true P ρ c t k):=by
 unfold Ns;split
 ·rename_i b a
  cases b<;>first | exact Ag | exact CP _ | skip
  case len=>
   dsimp only;split
   ·split<;>first | exact BS _ | exact Ag
   ·exact Ag
  case cap=>
   dsimp only;split
   ·split<;>first | exact BS _ | exact Ag
   ·exact Ag
 ·unfold Hy;split
  ·split
   ·split<;>exact Ag
   ·exact Ag
  ·exact Ag
 ·exact Ag
def JA (a:mR) (v:mN):List (mR×mN):=match v with
 |.agg cs=>cs.toList.zipIdx.map λc=>(a.add c.2,c.1)
 |v=>[(a,v)]
def Ms (ρ:Operand→mN) (o:Oper) (v:mN):List (mR×mN):=match o.op with
 |.load _ x=>match ρ x with
  |.pointer (some a)=>JA a v
  |_=>[]
 |_=>[]
def Holds (l:List (mR×mN)) (h:AH):Prop:= ∀c∈l,BJ h c.1=some c.2
theorem Vj (l:List BP) (a:mR) {f:Array mN→(mN→T)→T}(m:∀cs k,f cs k=k (.agg cs)):∀(i:Nat) (b:Array mN) (k:mN→T) (Q:Bs→AH→Prop) (h:AH),
 (IJ l a i b λcs=>f cs k).wp P Q h→ ∃r:List mN,r.length=l.length∧(k (.agg (b++r.toArray))).wp P Q h∧(∀j v,r[j]? =some v→BJ h (a.add (i+j))=some v)∧
  ∀d,(∀j v,r[j]? =some v→BJ d (a.add (i+j))=some v)→(IJ l a i b λcs=>f cs Vh).wp P (QV (.agg (b++r.toArray)) d) d:=by
 induction l with
 |nil=>
  intro i b k Q h H;refine⟨[],rfl,?_,?_,?_⟩
  ·simpa[IJ,m]using H
  ·intro j v c;simp at c
  ·intro d _;simp[IJ,m,Vh,mD,QV]
 |cons s r o=>
  intro i b k Q h H;obtain⟨x,p,H⟩:=H;obtain⟨g,q,t,u,w⟩:=o (i+1) (b.push (s.val x)) k Q h H;refine⟨s.val x::g,by simp[q],?_,?_,?_⟩
  ·have e:b++(s.val x::g).toArray=b.push (s.val x) ++g.toArray:=by
    apply mB;simp
   rw[e];exact t
  ·intro j v c;cases j with
   |zero=>simp at c;subst c;exact p
   |succ j=>
    simp at c
    have:=u j v c
    rw[show i+(j+1)=i+1+j by omega];exact this
  ·intro d n;refine⟨x,by simpa using n 0 (s.val x) (by simp),?_⟩;have e:b++(s.val x::g).toArray=b.push (s.val x) ++g.toArray:=by
    apply mB;simp
   rw[e];refine w d λj v c=> ?_
   have:=n (j+1) v (by simpa using c)
   rw[show i+1+j=i+(j+1) by omega];exact this
theorem Xw {t:mO}{a:mR}{k:mN→T}{Q:Bs→AH→Prop}{h:AH}(H:(E6 P t a k).wp P Q h):
 ∃v,(k v).wp P Q h∧Holds (JA a v) h∧ ∀b,Holds (JA a v) b→(E6 P t a Vh).wp P (QV v b) b:=by
 unfold E6 at H ⊢;split at H
 ·rename_i d i hd B
  split at H
  ·rename_i l n o
   split at H
   ·rename_i e
    have⟨r,C,q,u,w⟩:=Vj (P:=P) l a (f:=λcs k=>k (.agg cs)) (λ_ _=>rfl) 0 #[] k Q h H;refine⟨.agg (#[] ++r.toArray),q,?_,λb p=> ?_⟩
    ·intro c g;simp only[JA,kZ]at g;obtain⟨⟨v,j⟩,y,rfl⟩:=g
     have:=lF.1 y
     simpa using u j v (by simpa using this)
    ·simp only[if_pos e];refine w b λj v z=> ?_
     have:=p (a.add j,v) (by
      simp only[JA,kZ];exact⟨(v,j),lF.2 (by simpa using z),rfl⟩)
     simpa using this
   ·exact H.elim
  ·rename_i s n o
   obtain⟨x,A,H⟩:=H;have g:JA a (s.val x)= [(a,s.val x)]:=by
    have:=BP.val_plain s x
    cases hv:s.val x<;>simp_all [JA,kY]
   refine⟨s.val x,H,?_,λb p=> ?_⟩
   ·rw[g];intro c m;simp at m;subst m;exact A
   ·exact⟨x,p (a,s.val x) (by rw[g];simp),rfl,rfl⟩
  ·exact H.elim
 ·exact H.elim
theorem Vk {ρ:Operand→mN}{o:Oper}{k:mN→T}{Q:Bs→AH→Prop}{h:AH}(H:(C8 true P ρ o k).wp P Q h):
 ∃v,(k v).wp P Q h∧Holds (Ms ρ o v) h∧ ∀m,Holds (Ms ρ o v) m→(C8 true P ρ o Vh).wp P (QV v m) m:=by
 obtain⟨l,q,j,pos,d,i⟩:=o;have fin:∀ {D:(mN→T)→T},Et P D→(∀k,C8 true P ρ ⟨l,q,j,pos,d,i⟩ k=D k)→(∀v,Ms ρ ⟨l,q,j,pos,d,i⟩ v= [])→
  ∃v,(k v).wp P Q h∧Holds (Ms ρ ⟨l,q,j,pos,d,i⟩ v) h∧ ∀m,Holds (Ms ρ ⟨l,q,j,pos,d,i⟩ v) m→(C8 true P ρ ⟨l,q,j,pos,d,i⟩ Vh).wp P (QV v m) m:=by
  intro D B A C;rw[A]at H;have⟨v,w,z⟩:=B k Q h H;refine⟨v,w,?_,λm _=> ?_⟩
  ·rw[C];intro c u;cases u
  ·rw[A];exact z m
 cases q<;>first | exact H.elim | skip
 case move x=>exact fin (BS (ρ x)) (λ_=>rfl) (λ_=>rfl)
 case assign x=>exact fin (BS (ρ x)) (λ_=>rfl) (λ_=>rfl)
 case pick c a b=>
  cases u:ρ c with
  |bool t=>exact fin (Xu (b:=t) (BS (ρ a)) (BS (ρ b))) (λk=>by simp only[C8,u]) (λ_=>rfl)
  |_=>simp only[C8,u]at H;exact H.elim
 case alloc e=>exact fin (CP _) (λ_=>rfl) (λ_=>rfl)
 case build t ps=>exact fin (CP _) (λ_=>rfl) (λ_=>rfl)
 case buildSlice t n ps=>exact fin (CP _) (λ_=>rfl) (λ_=>rfl)
 case load t x=>
  simp only[C8]at H;cases hx:ρ x with
  |pointer p=>
   cases p with
   |none=>rw[hx]at H;exact H.elim
   |some a=>
    rw[hx]at H;have⟨v,w,z,E⟩:=Xw H;refine⟨v,w,by simpa[Ms,hx]using z,λm F=> ?_⟩;simp only[C8,hx];exact E m (by simpa[Ms,hx]using F)
  |_=>rw[hx]at H;exact H.elim
 case store t a x=>
  refine fin (D:=λk=>C8 true P ρ ⟨_,.store t a x,j,pos,d,i⟩ k) ?_ (λ_=>rfl) (λ_=>rfl);simp only[C8];split
  ·exact I9 (D:=λb k=>Bh true P (lZ t (.pointer (some b)) (ρ x)) λ_=>k undef) λb=>Fa (lZ t (.pointer (some b)) (ρ x)) (f:=λ_ k=>k undef) λ_=>BS undef
  ·exact Fa (lZ t _ (ρ x)) (f:=λ_ k=>k undef) λ_=>BS undef
 case nilCheck x=>
  cases hx:ρ x with
  |pointer p=>exact fin (I9 (p:=p) (D:=λa k=>k (.pointer (some a))) λa=>BS _) (λk=>by simp only[C8,hx]) (λ_=>rfl)
  |func f a b=>
   cases f with
   |func g=>exact fin (BS (.func (.func g) a b)) (λk=>by simp only[C8,hx]) (λ_=>rfl)
   |_=>simp only[C8,hx]at H;exact H.elim
  |iface t v=>exact fin (BS (.iface t v)) (λk=>by simp only[C8,hx]) (λ_=>rfl)
  |_=>simp only[C8,hx]at H;exact H.elim
 case binOp q xt x y yt=>exact fin (Y9 q xt x y (ρ x) (ρ y)) (λ_=>rfl) (λ_=>rfl)
 case unOp q xt x=>exact fin (CP _) (λ_=>rfl) (λ_=>rfl)
 case convert src l x=>
  refine fin (D:=λk=>C8 true P ρ ⟨_,.convert src l x,j,pos,d,i⟩ k) ?_ (λ_=>rfl) (λ_=>rfl);simp only[C8];split
  ·exact CP _
  ·exact CP _
  ·exact Ag
 case makeInterface t x=>exact fin (CP _) (λ_=>rfl) (λ_=>rfl)
 case makeFunc fn first captured=>exact fin (BS _) (λ_=>rfl) (λ_=>rfl)
 case makeMap t r=>exact fin (CP _) (λ_=>rfl) (λ_=>rfl)
 case slice t x lo hi mx=>exact fin (Vi t (ρ x) _ _ _) (λ_=>rfl) (λ_=>rfl)
 case fieldAddr s x f=>
  refine fin (D:=λk=>C8 true P ρ ⟨_,.fieldAddr s x f,j,pos,d,i⟩ k) ?_ (λ_=>rfl) (λ_=>rfl);simp only[C8];split
  ·exact I9 (D:=λa k=>Bh true P (Instr.fieldAt s (.pointer (some a)) f) k) λa=>CP _
  ·exact CP _
 case field t x f=>exact fin (CP _) (λ_=>rfl) (λ_=>rfl)
 case indexAddr t x ix=>
  refine fin (D:=λk=>C8 true P ρ ⟨_,.indexAddr t x ix,j,pos,d,i⟩ k) ?_ (λ_=>rfl) (λ_=>rfl);simp only[C8];split
  ·split
   ·exact I9 (D:=λa k=>chk _ (k (.pointer (some (a.add _))))) λa=>Eu (BS _)
   ·exact Ag
  ·split
   ·exact Eu (BS _)
   ·exact Ag
  ·exact Ag
 case index t x ix=>
  refine fin (D:=λk=>C8 true P ρ ⟨_,.index t x ix,j,pos,d,i⟩ k) ?_ (λ_=>rfl) (λ_=>rfl);simp only[C8];split
  ·exact Eu (BS _)
  ·exact CP _
 case extract t ix=>exact fin (CP _) (λ_=>rfl) (λ_=>rfl)
 case call c=>exact fin (Xv ρ c j) (λ_=>rfl) (λ_=>rfl)
 case panic x=>exact fin (CP _) (λ_=>rfl) (λ_=>rfl)
theorem Xx {ρ:Operand→mN}{o:Oper}{v:mN}{h:AH}(H:(C8 true P ρ o Vh).wp P (QV v h) h):gH P (execOp ρ o) v h:=by
 intro w i;subst i;rcases Rx _ w (UE H) with⟨nx,c,d,e,a⟩|⟨u,c,d,e,a⟩
 ·cases nx<;>first | exact a.elim | skip
  case value u=>
   obtain⟨b,g⟩:=a;simp only[Bs.out.injEq,List.cons.injEq,and_true]at b;subst b;exact⟨c,.inl d,e,g⟩
  case skip=>
   obtain⟨b,g⟩:=a;simp only[Bs.out.injEq,List.cons.injEq,and_true]at b;exact⟨c,.inr ⟨d,b.symm⟩,e,g⟩
  case enter f args=>cases a.1
 ·cases a.1
end
def bm (P:mP) (o:Oper):Bool:=match o.op with
 |.move _ | .assign _ | .pick _ _ _ | .load _ _ | .nilCheck _ | .binOp _ _ _ _ _ | .unOp _ _ _ | .slice _ _ _ _ _ | .index _ _ _ | .indexAddr _ _ _
 |.makeInterface _ _ | .makeFunc _ _ _ | .fieldAddr _ _ _ | .field _ _ _ | .extract _ _ | .build _ _=>true
 |.convert src dst _=>match P.underlying src,P.underlying dst with
  |some (.int _),some (.int _)=>true
  |some .string,some .string=>true
  |_,_=>false
 |.call c=>match c.callee with
  |.builtin .min | .builtin .max=>true
  |.builtin .len | .builtin .cap=>match c.argTypes[0]? with
   |some t=>match P.underlying t with
    |some .string | some (.slice _)|some (.array _ _)=>true
    |_=>false
   |none=>false
  |_=>false
 |_=>false
def bn (P:mP) (ops:Array Oper) (i:Nat):Bool:=match ops[i]? with
 |some o=>bm P o
 |none=>false
def Vl:List (mR×mN)→T→T
 | [],t=>t
 |(a,v)::r,t=>.still a v (Vl r t)
def Sv:List T→T
 | [] =>.stuck
 | [t] =>t
 |t::r=>.both t (Sv r)
def QU (ops:Array Oper):List Nat:=ops.toList.filterMap λo=>o.guard.map (·.1)
def JB (P:mP) (ops:Array Oper) (a ms:List Nat):Nat→Array Bool→List (Nat×List (mR×mN))→Env→(Env→T)→T
 | 0,listed,_,e,k=>match Region.ready .any ops listed with
  | [] =>k e
  |_=>.stuck
 |n+1,listed,pend,e,k=>match Region.ready .any ops listed with
  | [] =>k e
  |r=>match r.find? λi=>bn P ops i && Region.free .any ops listed i with
   |some i=>match ops[i]? with
    |none=>.stuck
    |some o=>match Y4 ops e o with
     |none=>.stuck
     |some false=>JB P ops a ms n (listed.setIfInBounds i true) ((i,[])::pend) (e.put o.dst undef) k
     |some true=>bif o.op.operands.toList.all e.has then
      C8 true P e.ev o λv=>Sr (a.contains i) v λv=>JB P ops a ms n (listed.setIfInBounds i true) ((i,Ms e.ev o v)::pend) (e.put o.dst v) k
      else .stuck
   |none=>Sv (r.map λj=>QD false P ops a e j λb=>
    Vl ((pend.filter λp=> !forced ms j p.1).flatMap (·.2)) (JB P ops a ms n (listed.setIfInBounds j true) (pend.filter λp=> !forced ms j p.1) b k))
section
variable {P:mP}{ops:Array Oper}
theorem Xy {l:List (mR×mN)}{t:T}{Q:Bs→AH→Prop}{h:AH}(H:(Vl l t).wp P Q h):Holds l h∧t.wp P Q h:=by
 induction l with
 |nil=>exact⟨λc b=>(by cases b),H⟩
 |cons x r d=>
  obtain⟨a,v⟩:=x;obtain⟨e,f⟩:=H;obtain⟨g,i⟩:=d f;refine⟨λc b=> ?_,i⟩;rcases lK.1 b with rfl | b
  ·exact e
  ·exact g c b
theorem Vm {l:List T}{Q:Bs→AH→Prop}{h:AH}(H:(Sv l).wp P Q h):∀t∈l,t.wp P Q h:=by
 induction l with
 |nil=>exact H.elim
 |cons t r c=>
  cases r with
  |nil=>intro b a;simp at a;subst a;exact H
  |cons t2 r=>
   obtain⟨d,e⟩:=H;intro b a;rcases lK.1 a with rfl | a
   ·exact d
   ·exact c e b a
theorem Vn {gs:List Nat}{k:Env→T}{U:Bs→AH→Prop}{W:List Nat}{a0:Act}(z:Region.noSelect ops=true) (hW:∀o∈ops,∀d,o.dst=some d→d∈W):
 ∀(n:Nat) (f:Array Bool) (g:List (Nat×List (mR×mN))) (e:Env) (a:Act) (h:AH),Agrees e a.tmps→Hz W a→Fr W a0 a→O0 ops f→(∀p∈g,Holds p.2 h)→
  (JB P ops gs (FD ops.toList) n f g e k).wp P U h→
  GH P ops (λN A=>∃O,Agrees O N.tmps∧Fr W a0 N∧(k O).wp P U A) (λc A=>U (.pan c) A) n f (g.map λp=>(p.1,Holds p.2)) a h:=by
 intro n
 induction n with
 |zero=>
  intro f g e a h m F r t G H;unfold JB at H;split at H
  ·rename_i V;exact⟨V,e,m,r,H⟩
  ·exact H.elim
 |succ n X=>
  intro f g e a h m F r t G H;unfold JB at H;split at H
  ·rename_i V
   refine⟨λ_=>⟨e,m,r,H⟩,λj I=> ?_⟩;rw[V]at I;cases I
  ·rename_i C
   split at H
   ·rename_i i Q
    have q:=lI Q;have hq:=List.find?_some Q;rw[Bool.and_eq_true]at hq;split at H
    ·exact H.elim
    ·rename_i o S
     have D:∀d,o.dst=some d→d∈W:=hW o (Array.mem_of_getElem? S);have B:∀v,Agrees (e.put o.dst v) (a.put o.dst v).tmps:=λv=>m.put o.dst v λd hd=>F d (D d hd);have u:=λj oj Y C Z a1=>Region.free_spec S hq.2 j oj Y C Z a1;split at H
     ·exact H.elim
     ·rename_i hg
      have w:Fr W a (a.put o.dst undef):=Fr.put W a _ _ D;refine UI (b:=false) (v:=undef) (s:=execOp a.eval o) (R:=Holds []) S (Region.noSelect_spec z) (λ_ _ J=>by cases J) (λ_=>rfl) n f _ a h t u q rfl (Sq m hg)
       (λc K=>by cases K) (λp l=> ?_) (X _ ((i,[])::g) _ _ h (B undef) (F.fr w) (r.trans w) (I8 t q) (λp l=> ?_) H)
      ·obtain⟨L,y,rfl⟩:=kZ.1 l;exact G L y
      ·rcases lK.1 l with rfl | l
       ·exact λc K=>by cases K
       ·exact G p l
     ·rename_i hg
      cases hall:o.op.operands.toList.all e.has with
      |false=>rw[hall]at H;exact H.elim
      |true=>
       rw[hall]at H;simp only[cond_true]at H;have E:execOp a.eval o=execOp e.ev o:=execOp_congr o (R1 H) λx hx=>m.ev (mH.1 hall x (lU.2 hx));have⟨v,h1,h2,h3⟩:=Vk H;have h1:=Li h1;have w:Fr W a (a.put o.dst v):=Fr.put W a _ _ D;refine UI (b:=true) (v:=v) (s:=execOp e.ev o) (R:=Holds (Ms e.ev o v)) S (Region.noSelect_spec z) (λA J _=>Xx (h3 A J)) (λJ=>by cases J) n f _ a h t u q E (Sq m hg)
        h2 (λp l=> ?_) (X _ ((i,Ms e.ev o v)::g) _ _ h (B v) (F.fr w) (r.trans w) (I8 t q) (λp l=> ?_) h1)
       ·obtain⟨L,y,rfl⟩:=kZ.1 l;exact G L y
       ·rcases lK.1 l with rfl | l
        ·exact h2
        ·exact G p l
   ·refine⟨λh0=>absurd h0 (by simpa using C),λj I=> ?_⟩;have Hj:=Vm H _ (kZ.2 ⟨j,I,rfl⟩);refine M3 (λN A hx=> ?_) (λ_ _ x=>x) (QS m hW F Hj);obtain⟨O,g1,g2,g3⟩:=hx;have⟨g4,g5⟩:=Xy g3;have M:∀p∈g.filter (λp=> !forced (FD ops.toList) j p.1),Holds p.2 A:=λp l c K=>g4 c (List.mem_flatMap.2 ⟨p,l,K⟩);refine⟨λp l Q=> ?_,?_⟩
    ·obtain⟨L,y,rfl⟩:=kZ.1 l;exact M L (List.mem_filter.2 ⟨y,by simpa using Q⟩)
    ·have:=X _ _ O N A g1 (F.fr g2) (r.trans g2) (I8 t I) M g5
     have e2:(g.filter λp=> !forced (FD ops.toList) j p.1).map (λp=>(p.1,Holds p.2))=(g.map λp=>(p.1,Holds p.2)).filter λp=> !forced (FD ops.toList) j p.1:=by
      rw[List.filter_map];rfl
     rw[←e2];exact this
def Ll (P:mP) (ops:Array Oper) (a:Bool) (e:Env) (k:Env→T):T:=match a with
 |false=>Ke P ops (QU ops) (List.range ops.size) e k
 |true=>bif Region.noSelect ops then JB P ops (QU ops) (FD ops.toList) ops.size (kT ops.size false) [] e k else .stuck
theorem Nv {id:Nat}{i:Bool}{k:Env→T}{s:Bs→AH→Prop}{W:List Nat}{QC:Exit→Act→mQ→Prop}{e:Env}{a:Act}{w:mQ}(B:P.follows .mixedOrders=true)
 (t:∀o∈ops,∀d,o.dst=some d→d∈W) (m:Agrees e a.tmps) (x:Hz W a) (H:(Ll P ops i e k).wp P s w.heap)
 (y:∀r h f,Agrees r h.tmps→Fr W a h→B4 w f→(k r).wp P s f.heap→QC .normal h f)
 (z:∀c h f,Fr W a h→B4 w f→s (.pan c) f.heap→QC (.panic c) h f):(Code.region id ops i).wp P QC a w:=by
 cases i with
 |false=>
  intro b C cs;obtain⟨D,h,f,n,q⟩:=Xt (QC:=QC) t (List.range ops.size) e a w m x H y z b C cs;exact⟨D,h,f,n,.of_steps (.one step_region) q⟩
 |true=>
  unfold Ll at H;cases hs:Region.noSelect ops with
  |false=>rw[hs]at H;exact H.elim
  |true=>
   rw[hs]at H;simp only[cond_true]at H;have E:∀j,(kT ops.size false).getD j false=false:=λj=>by
    rw[eE,Array.getElem?_replicate]
    split<;>rfl
   have g:=Vn (a0:=a) hs t ops.size (kT ops.size false) [] e a w.heap m x (.refl W a) (λj o J A=>by rw[E]at A;cases A) (λp u=>by cases u) H;have v:B4 w {w with drawn:=w.drawn+1} :=⟨rfl,rfl,rfl,lV _⟩;refine wp_region_any B (Y7 (Q:=QC) (w0:=w) (a0:=a) t (λh f l n=> ?_) (λc h f hd l n=>z c h f hd l n) _ _ _ _ _ (.refl W a) v g);obtain⟨r,F,G,I⟩:=n;exact y r h f F G l I
end
def BD:Code→List Nat
 |.region _ ops _=>ops.toList.filterMap (·.dst)
 |.seq x y=>BD x++BD y
 |.cond _ x y=>BD x++BD y
 |.block _ x=>BD x
 |.loop x=>BD x
 |.scope x=>BD x
 |_=>[]
def Nw (id:Nat):Code→Bool
 |.seq x y=>Nw id x || Nw id y
 |.cond _ x y=>Nw id x || Nw id y
 |.block _ x=>Nw id x
 |.loop x=>Nw id x
 |.scope x=>Nw id x
 |.exit j=>kH j id
 |_=>false
def Ph:Code→Bool
 |.seq x y=>Ph x && Ph y
 |.cond _ x y=>Ph x || Ph y
 |.block id x=>Ph x || Nw id x
 |.scope x=>Ph x
 |.loop _=>false
 |.exit _=>false
 |.ret=>false
 |_=>true
def dt:Code→Bool
 |.skip=>true
 |_=>false
def Env.kill (e:Env) (W:List Nat):Env:=e.filter λp=> !W.contains p.1
def Env.puts (e:Env) (S:List Nat) (vs:List mN):Env:=S.zip vs++e
def Env.outs (e:Env) (S:List Nat):List mN:=S.map λt=>(e.get? t).getD undef
def Env.slots (e:Env) (W:List Nat):List Nat:=((e.map (·.1)).filter W.contains).eraseDups
def Env.shapes (e:Env) (S:List Nat):List Sh1:=(e.outs S).map Pc
def M5 (P:mP) (ops:Array Oper):List (Nat×Sh1):=
 ops.toList.zipIdx.filterMap λ(o,i)=>match o.dst with
  |some d=>match o.op,kH (i+1) ops.size with
   |.assign _,_=>some (d,Pc (KX P o.type))
   |_,true=>some (d,Pc (KX P o.type))
   |_,_=>none
  |none=>none
def DE (P:mP) (a:Env→T):Code→List (Nat×List Nat)→Env→(Env→T)→T
 |.skip,_,e,k=>k e
 |.region _ ops draw,_,e,k=>match QU ops with
  | [] =>Ll P ops draw e k
  |_=>.join ((M5 P ops).map (·.2)) (Ll P ops draw e λd=>.out (d.outs ((M5 P ops).map (·.1)))) λy=>
   k ((e.kill (ops.toList.filterMap (·.dst))).puts ((M5 P ops).map (·.1)) (kW _ y))
 |.seq x y,c,e,k=>DE P a x c e λd=>DE P a y c d k
 |.cond b x y,c,e,k=>bif e.has b then(match e.ev b with
  |.bool t=>match Ph x && Ph y && !(dt x && dt y) with
   |true=>
    .join (e.shapes (e.slots (BD x++BD y)))
     (cond t (DE P a x c e λd=>.out (d.outs (e.slots (BD x++BD y)))) (DE P a y c e λd=>.out (d.outs (e.slots (BD x++BD y))))) λz=>
     k ((e.kill (BD x++BD y)).puts (e.slots (BD x++BD y)) (kW _ z))
   |false=>cond t (DE P a x c e k) (DE P a y c e k)
  |_=>.stuck) else .stuck
 |.block id x,c,e,k=>match Nw id x with
  |false=>DE P a x (c.filter λp=> !Nat.beq p.1 id) e k
  |true=>.block id (e.shapes (e.slots (BD x)))
   (DE P a x ((id,e.slots (BD x))::c) e λd=>.out (d.outs (e.slots (BD x)))) λz=>
   k ((e.kill (BD x)).puts (e.slots (BD x)) (kW _ z))
 |.loop x,c,e,_=>.loop (e.shapes (e.slots (BD x))) (e.outs (e.slots (BD x))) λz=>
  DE P a x c ((e.kill (BD x)).puts (e.slots (BD x)) (kW _ z)) λd=>.out (d.outs (e.slots (BD x)))
 |.exit id,c,e,_=>match c.find? λp=>kH p.1 id with
  |some p=>.brk id (e.outs p.2)
  |none=>.stuck
 |.ret,_,e,_=>a e
 |.scope x,c,e,k=>DE P a x c e k
 |.label _,_,e,k=>k e
 |_,_,_,_=>.stuck
section
variable {P:mP}
theorem Xz (s:Sh1):s.of undef=none:=by
 cases s with
 |atom a=>cases a<;>rfl
 |agg l=>rfl
theorem Lm {e:Env}{tm:Array mN}(b:Agrees e tm):∀(S:List Nat) (ss:List Sh1) (y:kG ss),kK ss (e.outs S)=some y→
 S.map (λt=>tm[t]?)=(kW ss y).map some:=by
 intro S
 induction S with
 |nil=>
  intro ss y h;cases ss with
  |nil=>rfl
  |cons s r=>simp[Env.outs,kK]at h
 |cons t r c=>
  intro ss y h;cases ss with
  |nil=>simp[Env.outs,kK]at h
  |cons s ss=>
   simp only[Env.outs,lD,kK]at h;split at h
   ·rename_i x1 d a f
    cases h;cases hg:e.get? t with
    |none=>rw[hg]at a;simp only[Option.getD_none]at a;rw[Xz]at a;cases a
    |some v=>
     rw[hg]at a;simp only[Option.getD_some]at a
     have:=b t v hg
     simp only[lD,kW,this,Sh1.of_val s v x1 a];rw[c ss d f]
   ·cases h
theorem X3 {e:Env}{W:List Nat}:∀ {t:Nat}{v:mN},(e.kill W).get? t=some v→t∉W∧e.get? t=some v:=by
 induction e with
 |nil=>intro t v h;simp[Env.kill,Env.get?]at h
 |cons p r c=>
  obtain⟨i,u⟩:=p;intro t v h;unfold Env.kill at h;by_cases b:W.contains i=true
  ·rw[lM (by simpa using b)]at h;obtain⟨d,f⟩:=c h;refine⟨d,?_⟩;rw[lL]
   have:i≠t:=λe=>d (e ▸ lS.1 b)
   simp[this,f]
  ·rw[lN (by simpa using b)]at h;rw[lL]at h ⊢;by_cases a:i=t
   ·subst a;simp only[if_true]at h ⊢;exact⟨λg=>b (lS.2 g),h⟩
   ·simp only[a,if_false]at h ⊢;exact c h
theorem Pi {e:Env}{a c:Act}{W:List Nat}(b:Agrees e a.tmps) (d:Fr W a c):Agrees (e.kill W) c.tmps:=by intro t v h;have⟨f,g⟩:=X3 h;rw[d.2.2 t f];exact b t v g
theorem Pj {e:Env}{tm:Array mN}(b:Agrees e tm):∀(S:List Nat) (vs:List mN),S.map (λt=>tm[t]?)=vs.map some→Agrees (e.puts S vs) tm:=by
 intro S
 induction S with
 |nil=>intro vs h;simpa[Env.puts]using b
 |cons t r f=>
  intro vs h;cases vs with
  |nil=>simp at h
  |cons v vs=>
   simp only[lD,List.cons.injEq]at h;intro c g a;simp only[Env.puts,List.zip_cons_cons,List.cons_append,lL]at a;by_cases d:t=c
   ·subst d;simp only[if_true,Option.some.injEq]at a;subst a;exact h.1
   ·simp only[d,if_false]at a;exact f vs h.2 c g a
theorem GR {e f:Env}{a c:Act}{W S:List Nat}{ss:List Sh1}{y:kG ss}(d:Agrees e a.tmps) (g:Fr W a c) (b:Agrees f c.tmps) (h:kK ss (f.outs S)=some y):
 Agrees ((e.kill W).puts S (kW ss y)) c.tmps:=Pj (Pi d g) S _ (Lm b S ss y h)
theorem UK {tm:Array mN}:∀(S:List Nat) (vs:List mN),S.map (λt=>tm[t]?)=vs.map some→S.map (λt=>tm.getD t undef)=vs:=by
 intro S
 induction S with
 |nil=>intro vs h;cases vs<;>simp_all
 |cons t r a=>
  intro vs h;cases vs with
  |nil=>simp at h
  |cons v vs=>
   simp only[lD,List.cons.injEq]at h ⊢;refine⟨?_,a vs h.2⟩;rw[eE,h.1];rfl
structure Ends (P:mP) (rt:Env→T) (c:List (Nat×List Nat)) (QT:Bs→AH→Prop) (W:List Nat) (a:Act) (w:mQ) (QC:Exit→Act→mQ→Prop):Prop where
 brk:∀id p,c.find? (λp=>kH p.1 id)=some p→ ∀e' a' w',Agrees e' a'.tmps→Fr W a a'→B4 w w'→QT (.brk id (e'.outs p.2)) w'.heap→QC (.exit id) a' w'
 ret:∀e' a' w',Agrees e' a'.tmps→Fr W a a'→B4 w w'→(rt e').wp P QT w'.heap→QC .ret a' w'
 pan:∀ch a' w',Fr W a a'→B4 w w'→QT (.pan ch) w'.heap→QC (.panic ch) a' w'
theorem Ends.step {m:Env→T}{c:List (Nat×List Nat)}{n:Bs→AH→Prop}{W o:List Nat}{a q:Act}{w r:mQ}{QC:Exit→Act→mQ→Prop}(E:Ends P m c n W a w QC)
 (h:Fr W a q) (i:B4 w r) (j:∀t,t∈o→t∈W):Ends P m c n o q r QC:=
 ⟨λid p s k b d l e f g=>E.brk id p s k b d l (h.trans (e.mono j)) (i.trans f) g,
  λk b d l e f g=>E.ret k b d l (h.trans (e.mono j)) (i.trans f) g,
  λu b d e f g=>E.pan u b d (h.trans (e.mono j)) (i.trans f) g⟩
def eY (P:mP) (a:Env→T):Prop:= ∀(e:Env) (Q Q':Bs→AH→Prop) (h:AH),(∀v h,Q (.ret v) h→Q' (.ret v) h)→(a e).wp P Q h→(a e).wp P Q' h
theorem Ends.inner {l:Env→T}{c:List (Nat×List Nat)}{j b:Bs→AH→Prop}{W:List Nat}{a:Act}{w:mQ}{QC:Exit→Act→mQ→Prop}(E:Ends P l c j W a w QC) (m:eY P l)
 (o:∀id vs h,b (.brk id vs) h→j (.brk id vs) h) (q:∀v h,b (.ret v) h→j (.ret v) h) (r:∀v h,b (.pan v) h→j (.pan v) h):Ends P l c b W a w QC:=
 ⟨λid p s k d e n f g i=>E.brk id p s k d e n f g (o _ _ _ i),
  λk d e n f g i=>E.ret k d e n f g (m k _ _ _ q i),
  λt d e f g i=>E.pan t d e f g (r _ _ i)⟩
theorem UL {c:List (Nat×List Nat)}{id id':Nat}{p:Nat×List Nat}(h:(c.filter λp=> !Nat.beq p.1 id).find? (λp=>kH p.1 id')=some p):
 id'≠id∧c.find? (λp=>kH p.1 id')=some p:=by
 have d:=lI h;have i:=List.find?_some h;rw[List.mem_filter]at d;have k:p.1=id':=hM i;have l:p.1≠id:=λe=>by have:=d.2;rw[e]at this;simp at this
 have b:id'≠id:=k ▸ l;refine⟨b,?_⟩;clear d i
 induction c with
 |nil=>simp at h
 |cons x r j=>
  by_cases f:x.1=id
  ·have:(!Nat.beq x.1 id)=false:=by rw[f];simp
   rw[lM (by simp[this])]at h;rw[lQ];have g:kH x.1 id'=false:=by
    cases a:kH x.1 id' with
    |false=>rfl
    |true=>exact absurd ((hM a).symm.trans f) b
   rw[g];exact j h
  ·have:(!Nat.beq x.1 id)=true:=by
    cases a:kH x.1 id with
    |false=>rfl
    |true=>exact absurd (hM a) f
   rw[lN (by simp[this])]at h;rw[lQ]at h ⊢;split
   ·rename_i a;rw[a]at h;exact h
   ·rename_i a;rw[a]at h;exact j h
theorem Vo {rt:Env→T}(hm:P.follows .mixedOrders=true) (Q:eY P rt) (F:Code):
 ∀(c:List (Nat×List Nat)) (e:Env) (k:Env→T) (u:Bs→AH→Prop) (a:Act) (w:mQ) (QC:Exit→Act→mQ→Prop),
  Agrees e a.tmps→Hz (BD F) a→(DE P rt F c e k).wp P u w.heap→
  (∀M n r,Agrees M n.tmps→Fr (BD F) a n→B4 w r→(k M).wp P u r.heap→QC .normal n r)→
  Ends P rt c u (BD F) a w QC→F.wp P QC a w:=by
 induction F with
 |skip=>intro c e k u a w QC g C H v E;exact wp_skip (v e a w g (.refl _ a) (.refl w) H)
 |region id ops a9=>
  intro c e k u a w QC g C H v E;have hW:∀o∈ops,∀d,o.dst=some d→d∈ops.toList.filterMap (·.dst):=λo ho d hd=>List.mem_filterMap.2 ⟨o,lU.2 ho,hd⟩;simp only[DE]at H;split at H
  ·exact Nv hm hW g C H v (λR n r=>E.pan R n r)
  ·simp only[mD]at H;refine Nv hm hW g C H (λM n r m j q i=> ?_) (λR n r m j q=>E.pan R n r m j q);simp only[mD]at i;split at i
   ·rename_i y hy
    exact v _ n r (GR g j m hy) j q i
   ·exact i.elim
 |seq x y N O=>
  intro c e k u a w QC g C H v E;refine wp_seq (N c e _ u a w _ g (λd hd=>C d (bD _ hd)) H (λM n r m j q i=> ?_) ?_)
  ·have V:Fr (BD x++BD y) a n:=j.mono λt G=>bD _ G;exact O c M k u n r QC m ((show Hz (BD y) a from λd hd=>C d (kF _ hd)).fr V) i
    (λJ B A g1 g2 g3 g4=>v J B A g1 (V.trans (g2.mono λt G=>kF _ G)) (q.trans g3) g4)
    (E.step V q λt G=>kF _ G)
  ·exact⟨λid p K J B A m j q i=>E.brk id p K J B A m (j.mono λt G=>bD _ G) q i,λJ B A m j=>E.ret J B A m (j.mono λt G=>bD _ G),λR B A j=>E.pan R B A (j.mono λt G=>bD _ G)⟩
 |cond b x y N O=>
  intro c e k u a w QC g C H v E;simp only[DE]at H;cases hhas:e.has b with
  |false=>rw[hhas]at H;exact H.elim
  |true=>
   rw[hhas]at H;simp only[cond_true]at H;have a3:=g.ev hhas;split at H
   ·rename_i t G
    have hc:a.eval b= .bool t:=a3.trans G;have Z:Hz (BD x) a:=λd hd=>C d (bD _ hd);have a0:Hz (BD y) a:=λd hd=>C d (kF _ hd);have hl:∀t,t∈BD x→t∈BD x++BD y:=λt G=>bD _ G;have hr:∀t,t∈BD y→t∈BD x++BD y:=λt G=>kF _ G;split at H
    ·simp only[mD]at H;refine wp_cond hc ?_;cases t with
     |true=>
      simp only[cond_true]at H;simp only[if_true];refine N c e _ _ a w QC g Z H (λM n r m j q i=> ?_) ((E.step (.refl _ a) (.refl w) hl).inner Q (λ_ _ _ h=>h) (λ_ _ h=>h) (λ_ _ h=>h));simp only[mD]at i;split at i
      ·rename_i z W
       exact v _ n r (GR g (j.mono hl) m W) (j.mono hl) q i
      ·exact i.elim
     |false=>
      simp only[cond_false]at H;simp only[kX,if_false];refine O c e _ _ a w QC g a0 H (λM n r m j q i=> ?_) ((E.step (.refl _ a) (.refl w) hr).inner Q (λ_ _ _ h=>h) (λ_ _ h=>h) (λ_ _ h=>h));simp only[mD]at i;split at i
      ·rename_i z W
       exact v _ n r (GR g (j.mono hr) m W) (j.mono hr) q i
      ·exact i.elim
    ·refine wp_cond hc ?_;cases t with
     |true=>exact N c e k u a w QC g Z H (λM n r m j=>v M n r m (j.mono hl)) (E.step (.refl _ a) (.refl w) hl)
     |false=>exact O c e k u a w QC g a0 H (λM n r m j=>v M n r m (j.mono hr)) (E.step (.refl _ a) (.refl w) hr)
   ·exact H.elim
 |block id x Y=>
  intro c e k u a w QC g C H v E;simp only[DE]at H;refine wp_block ?_;split at H
  ·refine Y _ e k u a w _ g C H v ⟨λD p K J B A m j q i=> ?_,E.ret,E.pan⟩;obtain⟨a4,a5⟩:=UL K;simp only[Exit.inBlock,if_neg a4];exact E.brk D p a5 J B A m j q i
  ·simp only[mD]at H;refine Y _ e _ _ a w _ g C H (λM n r m j q i=> ?_) ⟨λD p K J B A m j q i=> ?_,λJ B A m j q i=> ?_,λR B A j q i=>E.pan R B A j q i⟩
   ·simp only[mD]at i;split at i
    ·rename_i z W
     exact v _ n r (GR g j m W) j q i
    ·exact i.elim
   ·rw[lQ]at K;by_cases S:D=id
    ·subst S;have e1:kH D D=true:=by simp
     simp only[e1,Option.some.injEq]at K;subst K;simp only[e1,cond_true]at i;simp only[Exit.inBlock,if_true];split at i
     ·rename_i z W
      exact v _ B A (GR g j m W) j q i
     ·exact i.elim
    ·have e1:kH id D=false:=by
      cases hbq:kH id D with
      |false=>rfl
      |true=>exact absurd (hM hbq).symm S
     have a6:kH D id=false:=by
      cases hbq:kH D id with
      |false=>rfl
      |true=>exact absurd (hM hbq) S
     simp only[e1]at K;simp only[a6,cond_false]at i;simp only[Exit.inBlock,if_neg S];exact E.brk D p K J B A m j q i
   ·refine E.ret J B A m j q (Q J _ u A.heap ?_ i);exact λ_ _ h=>h
 |loop x Y=>
  intro c e k u a w QC g C H v E;simp only[DE,mD]at H;obtain⟨I,μ,⟨y0,X,a7⟩,U⟩:=H;refine wp_loop (λn r=>Fr (BD x) a n∧B4 w r∧ ∃y,(e.slots (BD x)).map (λt=>n.tmps[t]?)=(kW _ y).map some∧
   kK (e.shapes (e.slots (BD x))) (kW _ y)=some y∧I y r.heap)
   (λn r=>match kK (e.shapes (e.slots (BD x))) ((e.slots (BD x)).map λt=>n.tmps.getD t undef) with
    |some y=>μ y r.heap
    |none=>0) ?_ ?_
  ·exact⟨.refl _ a,.refl w,y0,Lm g _ _ y0 X,by rw[←mI _ _ _ X];exact X,a7⟩
  ·rintro n r ⟨V,hs,y,hv,a8,hI⟩;have a1:Agrees ((e.kill (BD x)).puts (e.slots (BD x)) (kW _ y)) n.tmps:=Pj (Pi g V) _ _ hv;refine Y c _ _ _ n r _ a1 (Hz.fr C V) (U y r.heap hI) (λJ B A m j q i=> ?_) ?_
   ·simp only[mD]at i;split at i
    ·rename_i y2 L
     refine⟨⟨V.trans j,hs.trans q,y2,Lm m _ _ y2 L,by rw[←mI _ _ _ L];exact L,i.1⟩,?_⟩;have g1:=UK _ _ (Lm m _ _ y2 L);have g2:=UK _ _ hv;have g3:kK (e.shapes (e.slots (BD x))) (kW _ y2)=some y2:=by rw[←mI _ _ _ L];exact L
     simp only[g1,g2,g3,a8];exact i.2
    ·exact i.elim
   ·have E':Ends P rt c u (BD x) n r QC:=E.step V hs λt G=>G;refine⟨λid p K J B A m j q i=>E'.brk id p K J B A m j q i,λJ B A m j q i=>E'.ret J B A m j q (Q J _ u A.heap ?_ i),λR B A j q i=>E'.pan R B A j q i⟩;exact λ_ _ h=>h
 |exit id=>
  intro c e k u a w QC g C H v E;simp only[DE]at H;split at H
  ·rename_i p K
   exact wp_exit (E.brk id p K e a w g (.refl _ a) (.refl w) H)
  ·exact H.elim
 |ret=>intro c e k u a w QC g C H v E;exact wp_ret (E.ret e a w g (.refl _ a) (.refl w) H)
 |rangeFunc f ps x y N O=>intro c e k u a w QC g C H v E;exact H.elim
 |scope x Y=>
  intro c e k u a w QC g C H v E;exact wp_scope_straight (Y c e k u a w (Exit.noGoto QC) g C H v ⟨E.brk,E.ret,E.pan⟩)
 |label l=>intro c e k u a w QC g C H v E;exact wp_label (v e a w g (.refl _ a) (.refl w) H)
 |goto l=>intro c e k u a w QC g C H v E;exact H.elim
 |refuse s=>intro c e k u a w QC g C H v E;exact H.elim
def Fb (P:mP):List ResultVar→Env→List mN→(List mN→T)→T
 | [],_,acc,k=>k acc.reverse
 |.tmp t::r,e,acc,k=>match e.get? t with
  |some v=>Fb P r e (v::acc) k
  |none=>.stuck
 |.cell a t::r,e,acc,k=>match e.get? a with
  |some (.pointer (some ad))=>E6 P t ad λv=>Fb P r e (v::acc) k
  |_=>.stuck
def QW:List mN→mN
 | [v] =>v
 |vs=>.tuple vs.toArray
def bo (P:mP) (fn:Func) (e:Env):T:=Fb P fn.results.toList e [] λvs=>.ret (QW vs)
def R5:Nat→List mN→Env
 |_,[] =>[]
 |i,v::r=>(i,v)::R5 (i+1) r
def AT (P:mP) (fn:Func) (args:List mN):T:=match fn.body with
 |some c=>bif (BD c).all λd=>Nat.blt d fn.ntmps then DE P (bo P fn) c [] (R5 0 args) (bo P fn) else .stuck
 |none=>.stuck
theorem UM (l:List BP) (a:mR) {f:Array mN→T}{Q c:Bs→AH→Prop}(d:∀cs h,(f cs).wp P Q h→(f cs).wp P c h):∀(i:Nat) (b:Array mN) (h:AH),
 (IJ l a i b f).wp P Q h→(IJ l a i b f).wp P c h:=by
 induction l with
 |nil=>intro i b h H;exact d _ _ H
 |cons s r e=>intro i b h H;obtain⟨x,g,H⟩:=H;exact⟨x,g,e _ _ _ H⟩
theorem Sw {t:mO}{a:mR}{k:mN→T}{Q c:Bs→AH→Prop}{h:AH}(d:∀v h,(k v).wp P Q h→(k v).wp P c h) (H:(E6 P t a k).wp P Q h):(E6 P t a k).wp P c h:=by
 unfold E6 at H ⊢;split at H
 ·split at H
  ·split at H
   ·rename_i b;simp only[if_pos b];exact UM _ _ (λcs h=>d _ h) _ _ _ H
   ·exact H.elim
  ·obtain⟨x,e,H⟩:=H;exact⟨x,e,d _ _ H⟩
  ·exact H.elim
 ·exact H.elim
theorem X4 (fn:Func):eY P (bo P fn):=by
 intro e Q f h g H;have c:∀(l:List ResultVar) (b:List mN) (h:AH),(Fb P l e b λvs=>.ret (QW vs)).wp P Q h→(Fb P l e b λvs=>.ret (QW vs)).wp P f h:=by
  intro l
  induction l with
  |nil=>intro b h H;exact g _ _ H
  |cons x r d=>
   intro b h H;cases x with
   |tmp t=>
    simp only[Fb]at H ⊢;split at H
    ·exact d _ _ H
    ·exact H.elim
   |cell a t=>
    simp only[Fb]at H ⊢;split at H
    ·exact Sw (λv h=>d _ _) H
    ·exact H.elim
 exact c _ _ _ H
theorem X5 (l:List BP) (a:mR) {f:Array mN→T}{Q:Bs→AH→Prop}(w:mQ):∀(i:Nat) (b:Array mN),(IJ l a i b f).wp P Q w.heap→
 ∃cs,(loadCellsFrom a i l.length b).run P w= .ok cs w∧(f cs).wp P Q w.heap:=by
 induction l with
 |nil=>intro i b H;exact⟨b,rfl,H⟩
 |cons s r d=>
  intro i b H;obtain⟨x,e,H⟩:=H;obtain⟨cs,g,h⟩:=d (i+1) _ H;refine⟨cs,?_,h⟩;have c:w.cell? (a.add i)=some (s.val x):=e;simp only[lC,loadCellsFrom,load,bind,bO,kI,c];exact g
theorem Ev {α β:Type} (s:Sem α) (f:α→Sem β) {w i:mQ} {a:α} (h:s.run P w= .ok a i):(s.bind f).run P w=(f a).run P i:=by
  induction s generalizing w with
  | pure b=>cases h; rfl
  | load m j k d=>
    simp only[bO,kI] at h ⊢;split
    · rename_i v e; rw[e] at h; exact d _ h
    · rename_i e
      rw[e] at h;simp only at h;split
      · rename_i v t g; rw[g] at h; exact d _ h
      · rename_i x g; rw[g] at h; cases h
  | store m j v k d=>
    cases v<;>simp only[bO,kI] at h ⊢ <;>first
      | cases h
      | (split<;>rename_i e<;>rw[e] at h<;>simp only at h
         · split<;>rename_i l<;>simp only[l] at h<;>first
             | (simp only[if_true] at h; cases h)
             | (simp only[kX,if_false] at h; exact d h)
             | exact d (by simpa using h)
             | simp at h
         · split<;>rename_i g<;>rw[g] at h<;>first | exact d h | cases h)
  | new o k d=>simp only[bO,kI] at h ⊢; exact d _ h
  | shape r k d=>simp only[bO,kI] at h ⊢; exact d _ h
  | freeze a n k d=>simp only[bO,kI] at h ⊢; exact d h
  | frozen a k d=>simp only[bO,kI] at h ⊢; exact d _ h
  | getObj r k d=>
    simp only[bO,kI] at h ⊢
    split<;>rename_i e<;>rw[e] at h<;>simp only at h<;>first | cases h | exact d _ h
  | setObj r o k d=>
    simp only[bO,kI] at h ⊢
    split<;>rename_i e<;>rw[e] at h<;>simp only at h<;>first | cases h | exact d h
  | choose q k d=>
    simp only[bO,kI] at h ⊢
    split<;>rename_i e<;>simp only[e] at h
    · exact d _ (by simpa using h)
    · exact d _ (by simpa using h)
  | sys c k d=>simp only[bO,kI] at h ⊢; exact d _ h
  | program k d=>simp only[bO,kI] at h ⊢; exact d _ h
  | mark m k d=>simp only[bO,kI] at h ⊢; exact d h
  | halt x=>simp only[kI] at h; cases h
theorem UN {t:mO}{a:mR}{k:mN→T}{Q:Bs→AH→Prop}(w:mQ) (H:(E6 P t a k).wp P Q w.heap):
 ∃v,(loadVar t a).run P w= .ok v w∧(k v).wp P Q w.heap:=by
 unfold E6 at H;split at H
 ·rename_i d i hd h
  have g:(isAgg t).run P w= .ok (So d) w:=by
   simp only[isAgg,underlying,program,bind,bO,hd,pure,kI];cases d<;>rfl
  have j:(Go.sizeOf t).run P w= .ok i.size w:=by simp only[Go.sizeOf,typeInfo,program,bind,bO,h,pure,kI]
  split at H
  ·rename_i l b e
   split at H
   ·rename_i c
    have⟨cs,m,n⟩:=X5 l a w 0 #[] H;refine⟨.agg cs,?_,n⟩;unfold loadVar;refine(Ev _ _ g).trans ?_;rw[b];simp only[if_true];refine(Ev _ _ j).trans ?_;rw[←c];exact(Ev _ _ m).trans rfl
   ·exact H.elim
  ·rename_i s b e
   obtain⟨x,o,H⟩:=H;refine⟨s.val x,?_,H⟩;unfold loadVar;refine(Ev _ _ g).trans ?_;rw[b];have f:w.cell? a=some (s.val x):=o;simp only[kX,if_false,load,kI,f]
  ·exact H.elim
 ·exact H.elim
def H0 (tmps:Array mN):ResultVar→Sem mN
 |.tmp t=>pure (tmps.getD t undef)
 |.cell a t=>do loadVar t (←asAddr (tmps.getD a undef))
theorem Vp (fn:Func) (tmps:Array mN):results fn tmps=(fn.results.mapM (H0 tmps)).bind λvs=>.pure (if h:vs.size=1 then vs[0] else .tuple vs):=rfl
theorem Wu {fn:Func}{e:Env}{a:Act}{w:mQ}{i:Bs→AH→Prop}(d:Agrees e a.tmps) (H:(bo P fn e).wp P i w.heap):
 ∃v,(results fn a.tmps).run P w= .ok v w∧i (.ret v) w.heap:=by
 have j:∀(l:List ResultVar) (c:List mN),(Fb P l e c λvs=>.ret (QW vs)).wp P i w.heap→
  ∃vs,(l.mapM (H0 a.tmps)).run P w= .ok vs w∧i (.ret (QW (c.reverse++vs))) w.heap:=by
  intro l
  induction l with
  |nil=>intro c H;exact⟨[],rfl,by simpa[Fb,mD]using H⟩
  |cons x r m=>
   intro c H;rw[List.mapM_cons];cases x with
   |tmp t=>
    simp only[Fb]at H;split at H
    ·rename_i v n
     obtain⟨vs,f,g⟩:=m _ H;refine⟨v::vs,?_,by simpa using g⟩;have h:(H0 a.tmps (.tmp t)).run P w= .ok v w:=by
      have:=d t v n
      simp[H0,pure,eE,this]
     refine(Ev _ _ h).trans ((Ev _ _ f).trans rfl)
    ·exact H.elim
   |cell k t=>
    simp only[Fb]at H;split at H
    ·rename_i b o
     have⟨v,p,H⟩:=UN w H;obtain⟨vs,f,g⟩:=m _ H;refine⟨v::vs,?_,by simpa using g⟩;have h:(H0 a.tmps (.cell k t)).run P w= .ok v w:=by
      have:=d k _ o
      have q:a.tmps.getD k undef= .pointer (some b):=by rw[eE,this];rfl
      simp only[H0,q];exact p
     refine(Ev _ _ h).trans ((Ev _ _ f).trans rfl)
    ·exact H.elim
 have⟨vs,f,g⟩:=j fn.results.toList [] H;refine⟨QW vs,?_,by simpa using g⟩;rw[Vp];have h:(fn.results.mapM (H0 a.tmps)).run P w= .ok vs.toArray w:=by
  rw[Array.mapM_eq_mapM_toList];show(bO (fn.results.toList.mapM (H0 a.tmps)) λl=>.pure l.toArray).run P w=_;exact(Ev _ _ f).trans rfl
 refine(Ev _ _ h).trans ?_;show Result.ok _ w=_;congr 1;cases vs with
 |nil=>rfl
 |cons v r=>
  cases r with
  |nil=>rfl
  |cons s r=>simp[QW]
theorem Sx (args:List mN):∀(i:Nat) (a rest:List mN),a.length=i→Agrees (R5 i args) (a++args++rest).toArray:=by
 induction args with
 |nil=>intro i a rest _ t v h;simp[R5,Env.get?]at h
 |cons x r d=>
  intro i a rest c t v h;simp only[R5,lL]at h;by_cases b:i=t
  ·subst b;simp only[if_true,Option.some.injEq]at h;subst h;simp[←c]
  ·simp only[b,if_false]at h
   have:=d (i+1) (a++ [x]) rest (by simp[c]) t v h
   simpa using this
def Kf (R:Fin→AH→Prop):Bs→AH→Prop
 |.ret v,h=>R (.ret v) h
 |.pan c,h=>R (.pan c) h
 |_,_=>False
theorem BF {f:FuncId}{fn:Func}{args:List mN}{h:AH}{R:Fin→AH→Prop}(o:P.follows .mixedOrders=true) (q:P.funcs[f]? =some fn)
 (H:(AT P fn args).wp P (Kf R) h):CallsH P f args h R:=by
 intro w r;subst r;unfold AT at H;split at H
 ·rename_i c s
  cases hall:(BD c).all λd=>Nat.blt d fn.ntmps with
  |false=>rw[hall]at H;exact H.elim
  |true=>
   rw[hall]at H;simp only[cond_true]at H;refine calls_of_wp q s ?_;have i:Agrees (R5 0 args) (args.toArray++kT (fn.ntmps - args.toArray.size) undef):=by
    have:=Sx args 0 [] (List.replicate (fn.ntmps - args.toArray.size) undef) rfl
    have e:([] ++args++List.replicate (fn.ntmps - args.toArray.size) undef).toArray=args.toArray++kT (fn.ntmps - args.toArray.size) undef:=by
     apply mB;simp
    rw[←e];exact this
   have t:Hz (BD c) {tmps:=args.toArray++kT (fn.ntmps - args.toArray.size) undef,defers:=[]} :=by
    intro d hd
    have:=mH.1 hall d hd
    have u:d<fn.ntmps:=by simpa[Nat.blt_eq]using this
    simp;omega
   refine Vo o (X4 fn) c [] _ _ (Kf R) _ w _ i t H (λx m n a b g j=> ?_) ⟨λid p y=>(by cases y),λx m n a b g j=> ?_,λz m n a b g=>⟨a.2.1,b,g⟩⟩
   ·have⟨v,k,l⟩:=Wu a j;exact⟨b.2.1,v,k,g,l⟩
   ·have⟨v,k,l⟩:=Wu a j;exact⟨b.2.1,v,k,g,l⟩
 ·exact H.elim
end
section
variable {P:mP}{Q:Bs→AH→Prop}{h:AH}
theorem M7 {s:BP}{a:mR}{k:s.Ty→T}(x:s.Ty) (b:BJ h a=some (s.val x)) (H:(k x).wp P Q h):(T.load s a k).wp P Q h:=⟨x,b,H⟩
theorem Sz {a:mR}{v:mN}{k:T}(b:kY v=true) (c:(BJ h a).isSome=true) (d:HC h a=false) (H:k.wp P Q (CT h a v)):(T.store a v k).wp P Q h:=⟨b,c,d,H⟩
theorem ZA {o:Obj}{k:Nat→T}(H:(k h.size).wp P Q (h.push o)):(T.new o k).wp P Q h:=H
theorem eZ {f:FuncId}{args:List mN}{sh:Sh}{k:sh.Ty→T}{R:Fin→AH→Prop}(b:CallsH P f args h R)
 (c:∀e a,R e a→ ∃x,e= .ret (sh.val x)∧(k x).wp P Q a):(T.call f args sh k).wp P Q h:=by simp only[mD];refine b.mono λe a d=> ?_;obtain⟨x,rfl,H⟩:=c e a d;exact⟨x,rfl,H⟩
theorem t_sem {s:Sem mN}{sh:Sh}{k:sh.Ty→T}(H:Ab P s (λv h'=>∃x:sh.Ty,v=sh.val x∧(k x).wp P Q h') (λ_ _=>False) h):(T.sem s sh k).wp P Q h:=by simp only[mD];exact Bg s (λ_ _ x=>x) (λ_ _ x=>x.elim) H
theorem AI {a:mR}{v:mN}{k:T}(b:BJ h a=some v) (H:k.wp P Q h):(T.still a v k).wp P Q h:=⟨b,H⟩
theorem Dk {x y:T}(a:x.wp P Q h) (b:y.wp P Q h):(T.both x y).wp P Q h:=⟨a,b⟩
theorem ZB {b:Bool}{x y:T}(a:b=true→x.wp P Q h) (c:b=false→y.wp P Q h):(cond b x y).wp P Q h:=by
 cases b
 ·exact c rfl
 ·exact a rfl
theorem Ai {b:Bool}{x y:T}(a:b=true) (c:x.wp P Q h):(cond b x y).wp P Q h:=by subst a;exact c
theorem AW {b:Bool}{x y:T}(a:b=false) (c:y.wp P Q h):(cond b x y).wp P Q h:=by subst a;exact c
theorem AF {p:Option mR}{k:mR→T}(a:mR) (b:p=some a) (H:(k a).wp P Q h):(deref p k).wp P Q h:=by subst b;exact H
theorem Am {p:Prop}[Decidable p] {k:T}(a:p) (H:k.wp P Q h):(chk p k).wp P Q h:=⟨a,H⟩
def gI (P:mP) (ss:List Sh1) (k:kG ss→T) (Q:Bs→AH→Prop) (a:Bs) (b:AH):Prop:=match a with
 |.out vs=>(match kK ss vs with
  |some y=>(k y).wp P Q b
  |none=>False)
 |a=>Q a b
theorem eb {ss:List Sh1}{x:T}{k:kG ss→T}(H:x.wp P (gI P ss k Q) h):(T.join ss x k).wp P Q h:=by simp only[mD];exact H
theorem bq {ss:List Sh1}{x:T}{k:kG ss→T}(M:kG ss→AH→Prop) (H:x.wp P (λb a=>match b with
 |.out vs=>∃y,kK ss vs=some y∧M y a
 |b=>Q b a) h) (e:∀y a,M y a→(k y).wp P Q a):(T.join ss x k).wp P Q h:=by
 refine eb (T.wp_mono x (λb a d=> ?_) H);cases b with
 |out vs=>
  obtain⟨y,f,g⟩:=d;show(match kK ss vs with | some y=>(k y).wp P Q a | none=>False)
  rw[f];exact e y a g
 |brk id vs=>exact d
 |ret v=>exact d
 |pan c=>exact d
def ZC (P:mP) (id:Nat) (ss:List Sh1) (k:kG ss→T) (Q:Bs→AH→Prop) (b:Bs) (a:AH):Prop:=match b with
 |.out vs=>(match kK ss vs with
  |some y=>(k y).wp P Q a
  |none=>False)
 |.brk id' vs=>bif kH id' id then(match kK ss vs with
  |some y=>(k y).wp P Q a
  |none=>False) else Q (.brk id' vs) a
 |b=>Q b a
theorem br {id:Nat}{ss:List Sh1}{x:T}{k:kG ss→T}(H:x.wp P (ZC P id ss k Q) h):(T.block id ss x k).wp P Q h:=by simp only[mD];exact H
theorem ZD {id:Nat}{ss:List Sh1}{x:T}{k:kG ss→T}(M:kG ss→AH→Prop) (H:x.wp P (λe a=>match e with
 |.out vs=>∃y,kK ss vs=some y∧M y a
 |.brk b vs=>bif kH b id then(∃y,kK ss vs=some y∧M y a) else Q (.brk b vs) a
 |e=>Q e a) h) (i:∀y a,M y a→(k y).wp P Q a):(T.block id ss x k).wp P Q h:=by
 refine br (T.wp_mono x (λe a d=> ?_) H);cases e with
 |out vs=>
  obtain⟨y,f,g⟩:=d;show(match kK ss vs with | some y=>(k y).wp P Q a | none=>False)
  rw[f];exact i y a g
 |brk b vs=>
  unfold ZC;dsimp only at d ⊢;cases hb:kH b id with
  |true=>
   rw[hb]at d;obtain⟨y,f,g⟩:=d;rw[f];exact i y a g
  |false=>rw[hb]at d;exact d
 |ret v=>exact d
 |pan c=>exact d
def du (ss:List Sh1) (I:kG ss→AH→Prop) (μ:kG ss→AH→Nat) (m:Nat) (Q:Bs→AH→Prop) (a:Bs) (b:AH):Prop:=match a with
 |.out vs=>(match kK ss vs with
  |some c=>I c b∧μ c b<m
  |none=>False)
 |a=>Q a b
theorem eh {ss:List Sh1}{a:List mN}{body:kG ss→T}(I:kG ss→AH→Prop) (μ:kG ss→AH→Nat) (b:kG ss) (c:kK ss a=some b) (d:I b h)
 (e:∀y h,I y h→(body y).wp P (du ss I μ (μ y h) Q) h):(T.loop ss a body).wp P Q h:=⟨I,μ,⟨b,c,d⟩,e⟩
theorem X6 {ss:List Sh1}{I:kG ss→AH→Prop}{μ:kG ss→AH→Nat}{m:Nat}{vs:List mN}(y:kG ss) (b:kK ss vs=some y) (c:I y h) (d:μ y h<m):du ss I μ m Q (.out vs) h:=by
 show(match kK ss vs with | some a=>I a h∧μ a h<m | none=>False)
 rw[b];exact⟨c,d⟩
section
variable {id:Nat}{ss:List Sh1}{I:kG ss→AH→Prop}{μ:kG ss→AH→Nat}{m:Nat}{M:kG ss→AH→Prop}
end
@[simp] theorem dv (a:BP) (x:a.Ty):(Sh.one (Sh1.atom a)).val x=a.val x:=rfl
@[simp] theorem bu (a:BP) (x:a.Ty):(Sh1.atom a).val x=a.val x:=rfl
@[simp] theorem iA (k:IntKind) (x:Int):(BP.int k).val x= .int k x:=rfl
@[simp] theorem gJ (x:Bool):BP.bool.val x= .bool x:=rfl
@[simp] theorem ei (x:ByteArray):BP.string.val x= .string x:=rfl
@[simp] theorem dw (x:Option mR):BP.pointer.val x= .pointer x:=rfl
@[simp] theorem gF (x:Option mR×Nat×Nat):BP.slice.val x= .slice x.1 x.2.1 x.2.2:=rfl
@[simp] theorem iB (x:Option Nat):BP.map.val x= .map x:=rfl
theorem w64 {n:Int}(a: -9223372036854775808≤n) (b:n≤9223372036854775807):IntKind.wrap .i64 n=n:=IntWalk.i64_in n ⟨a,b⟩
def Ae (S:mN→AH→Prop) (e:Fin) (a:AH):Prop:= ∃v,e= .ret v∧S v a
theorem bv {f:FuncId}{args:List mN}{sh:Sh}{k:sh.Ty→T}{S:mN→AH→Prop}(b:CallsH P f args h (Ae S))
 (c:∀v a,S v a→ ∃x,v=sh.val x∧(k x).wp P Q a):(T.call f args sh k).wp P Q h:=
 eZ b λe a ⟨v,d,g⟩=>by
  have⟨x,i,H⟩:=c v a g;exact⟨x,by rw[d,i],H⟩
theorem AB {S:mN→AH→Prop}{v:mN}(H:S v h):Kf (Ae S) (.ret v) h:=⟨v,rfl,H⟩
end
def FV (M:List Nat) (h a:AH):Prop:=h.size≤a.size∧ ∀i,i<h.size→i∉M→a[i]? =h[i]?
theorem FV.refl (M:List Nat) (h:AH):FV M h h:=⟨lV _,λ_ _ _=>rfl⟩
theorem FV.trans {M:List Nat}{a b c:AH}(h:FV M a b) (k:FV M b c):FV M a c:=
 ⟨Nat.le_trans h.1 k.1,λi d e=>(k.2 i (mC d h.1) e).trans (h.2 i d e)⟩
theorem FV.mono {M c:List Nat}{a b:AH}(h:FV M a b) (d:∀i,i∈M→i∈c):FV c a b:=⟨h.1,λi e f=>h.2 i e λg=>f (d i g)⟩
theorem FV.new {M d:List Nat}{a b c:AH}(h:FV M a b) (k:FV d b c) (j:∀i,i∈d→i∈M∨a.size≤i):FV M a c:=
 ⟨Nat.le_trans h.1 k.1,λi e f=>(k.2 i (mC e h.1) λl=>(j i l).elim f (λg=>by omega)).trans (h.2 i e f)⟩
theorem FV.push (M:List Nat) (h:AH) (o:Obj):FV M h (h.push o):=⟨by simp,λi a _=>by rw[lG];simp;omega⟩
theorem FV.set (h:AH) (c:Nat) (o:Obj):FV [c] h (h.setIfInBounds c o):=
 ⟨by simp,λi _ a=>by simp at a;rw[lA (λe=>a e.symm)]⟩
theorem GS {h:AH}{a:mR}{v:mN}{i:Nat}(b:i≠a.block):(CT h a v)[i]? =h[i]? :=by unfold CT D3 mA;simp only[lT];rw[if_neg (by omega)]
theorem Mt {h:AH}{a:mR}{v:mN}:(CT h a v).size=h.size:=by unfold CT D3 mA;simp
theorem FV.setCell (h:AH) (a:mR) (v:mN):FV [a.block] h (CT h a v):=
 ⟨by rw[Mt];exact lV _,λi _ b=>GS (by simpa using b)⟩
theorem FV.at {M:List Nat}{h c:AH}(k:FV M h c) {i:Nat}{o:Obj}(a:h[i]? =some o) (d:i∉M):c[i]? =some o:=by
 have b:i<h.size:=by
  rcases kL i h.size with g | g
  ·exact g
  ·rw[kO g]at a;cases a
 rw[k.2 i b d];exact a
theorem GT {h:AH}{a:mR}{c:Array mN}{t:mO}{f:Nat×Nat}(b:h[a.block]? =some (.cells c t f)) (d:a.spot=none):BJ h a=c[a.off]? :=by unfold BJ D3 mJ;simp[b,d]
theorem UO {h b:AH}{a:mR}(c:b[a.block]? =h[a.block]?):BJ b a=BJ h a:=by unfold BJ D3 mJ;simp only[c]
theorem UP {h:AH}{a:mR}{v:mN}(b:BJ h a=some v):a.block<h.size:=by
 rcases kL a.block h.size with g | g
 ·exact g
 ·unfold BJ D3 mJ at b;simp[kO g]at b
theorem FV.cell {M:List Nat}{h b:AH}(k:FV M h b) {a:mR}{v:mN}(c:BJ h a=some v) (d:a.block∉M):BJ b a=some v:=by rw[UO (k.2 a.block (UP c) d)];exact c
theorem Ln (a:mR) (n:Nat):(a.add n).block=a.block:=by unfold lW;split<;>rfl
theorem add_zero (a:mR):a.add 0=a:=by simp[lW]
theorem DB (b o n:Nat):(⟨b,o,none⟩:mR).add n=⟨b,o+n,none⟩:=by
 unfold lW;split
 ·rename_i h;subst h;rfl
 ·rfl
theorem Ac (a:mR) (m n:Nat):(a.add m).add n=a.add (m+n):=by
 unfold lW;by_cases b:m=0
 ·subst b;simp
 ·by_cases c:n=0
  ·subst c;simp
  ·simp[b,c,Nat.add_assoc]
def BH (h:AH) (p:Option mR) (vs:List mN):Prop:= ∀i v,vs[i]? =some v→ ∃a,p=some a∧BJ h (a.add i)=some v
def blk:Option mR→List Nat
 |some a=>[a.block]
 |none=>[]
theorem BH.nil (h:AH) (p:Option mR):BH h p []:=λi v a=>by simp at a
theorem BH.keep {M:List Nat}{h b:AH}{p:Option mR}{vs:List mN}(c:BH h p vs) (k:FV M h b) (d:∀i,i∈blk p→i∉M):BH b p vs:=λi v e=>by
 obtain⟨a,rfl,f⟩:=c i v e;exact⟨a,rfl,k.cell f (by rw[Ln];exact d a.block (by simp[blk]))⟩
theorem BH.get {h:AH}{p:Option mR}{vs:List mN}(c:BH h p vs) {i:Nat}{v:mN}(b:vs[i]? =some v):∃a,p=some a∧BJ h (a.add i)=some v:=c i v b
theorem BH.old {h:AH}{p:Option mR}{vs:List mN}(c:BH h p vs) (d:vs≠[]):∀i,i∈blk p→i<h.size:=λi b=>by
 cases vs with
 |nil=>exact absurd rfl d
 |cons v r=>
  obtain⟨a,rfl,e⟩:=c 0 v rfl;simp[blk]at b;subst b;rw[←Ln a 0];exact UP e
def Own (sz:Nat) (ty:mO) (h:AH) (p:Option mR) (n c:Nat) (vs:List mN):Prop:=
 (p=none∧n=0∧c=0∧vs= [])∨
 (∃b off a,p=some ⟨b,off,none⟩∧h[b]? =some (.cells a ty (0,0))∧vs.length=n *sz∧n≤c∧off+c *sz≤a.size∧ ∀i v,vs[i]? =some v→a[off+i]? =some v)
theorem Own.cells {sz:Nat}{ty:mO}{h:AH}{p:Option mR}{n c:Nat}{vs:List mN}(o:Own sz ty h p n c vs):BH h p vs:=by
 rcases o with⟨rfl,_,_,rfl⟩|⟨b,off,arr,rfl,hb,e,f,g,a⟩
 ·exact BH.nil h none
 ·intro i v d;exact⟨_,rfl,by rw[DB,GT hb rfl];exact a i v d⟩
theorem Own.length {sz:Nat}{ty:mO}{h:AH}{p:Option mR}{n c:Nat}{vs:List mN}(o:Own sz ty h p n c vs):vs.length=n *sz:=by
 rcases o with⟨_,rfl,_,rfl⟩|⟨b,off,arr,_,hb,a,_⟩
 ·simp
 ·exact a
theorem Own.keep {sz:Nat}{ty:mO}{M:List Nat}{h a:AH}{p:Option mR}{n c:Nat}{vs:List mN}(o:Own sz ty h p n c vs) (k:FV M h a) (d:∀i,i∈blk p→i∉M):Own sz ty a p n c vs:=by
 rcases o with e | ⟨b,off,arr,rfl,hb,f⟩
 ·exact .inl e
 ·exact .inr ⟨b,off,arr,rfl,k.at hb (d b (by simp[blk])),f⟩
theorem Own.nil (sz:Nat) (ty:mO) (h:AH):Own sz ty h none 0 0 []:=.inl ⟨rfl,rfl,rfl,rfl⟩
theorem Own.ty {sz:Nat}{ty:mO}{h:AH}{p:Option mR}{n c:Nat}{vs:List mN}(o:Own sz ty h p n c vs):∀i,i∈blk p→ ∃a,h[i]? =some (.cells a ty (0,0)):=by
 rcases o with⟨rfl,_⟩|⟨b,off,a,rfl,hb,_⟩
 ·intro i d;cases d
 ·intro i d;simp[blk]at d;subst d;exact⟨a,hb⟩
theorem Own.cap {sz:Nat}{ty:mO}{h:AH}{p:Option mR}{n c:Nat}{vs:List mN}(o:Own sz ty h p n c vs):n≤c:=by
 rcases o with⟨rfl,rfl,rfl,_⟩|⟨b,off,arr,rfl,hb,_,h,_⟩
 ·exact lV _
 ·exact h
theorem Own.old {sz:Nat}{ty:mO}{h:AH}{p:Option mR}{n c:Nat}{vs:List mN}(o:Own sz ty h p n c vs):∀i,i∈blk p→i<h.size:=by
 rcases o with⟨rfl,_⟩|⟨b,off,arr,rfl,hb,_⟩
 ·intro i a;cases a
 ·intro i a;simp[blk]at a;subst a;rcases kL i h.size with g | g
  ·exact g
  ·rw[kO g]at hb;cases hb
theorem Nx {P:mP}{X:mN→AH→Prop}{h:AH}{a:mR}:∀(vs:List mN) (i:Nat) (b:Array mN) {K:Array mN→AH→Prop},
 (∀j v,vs[j]? =some v→BJ h (a.add (i+j))=some v)→K (b++vs.toArray) h→Ab P (loadCellsFrom a i vs.length b) K X h:=by
 intro vs
 induction vs with
 |nil=>intro i b K _ c;simpa[loadCellsFrom,pure,Ab]using c
 |cons v r f=>
  intro i b K d c;refine⟨v,by simpa using d 0 v rfl,?_⟩;refine f (i+1) (b.push v) (λj u g=> ?_) ?_
  ·have:=d (j+1) u (by simpa using g)
   rw[show i+1+j=i+(j+1) by omega];exact this
  ·have e:b++(v::r).toArray=b.push v++r.toArray:=by
    apply mB;simp
   rw[←e];exact c
theorem H4 {h:AH}{b off:Nat}{a:Array mN}{ty:mO}{f:Nat×Nat}{v:mN}(c:h[b]? =some (.cells a ty f)):
 (CT h ⟨b,off,none⟩ v)[b]? =some (.cells (a.setIfInBounds off v) ty f):=by unfold CT D3 mA;simp[lT,c]
theorem Rf {P:mP}{X:mN→AH→Prop}{b off:Nat}{ty:mO}:∀(vs:List mN) (i:Nat) (h:AH) (a:Array mN) {K:Unit→AH→Prop},
 (∀v∈vs,kY v=true)→h[b]? =some (.cells a ty (0,0))→off+i+vs.length≤a.size→
 (∀h' d,h'[b]? =some (.cells d ty (0,0))→d.size=a.size→(∀j,(j<off+i∨off+i+vs.length≤j)→d[j]? =a[j]?)→(∀j v,vs[j]? =some v→d[off+i+j]? =some v)→
  h'.size=h.size→(∀k,k≠b→h'[k]? =h[k]?)→K () h')→Ab P (storeCells ⟨b,off,none⟩ vs i) K X h:=by
 intro vs
 induction vs with
 |nil=>intro i h a K _ l _ n;exact n h a l rfl (λ_ _=>rfl) (λj v e=>by simp at e) rfl (λ_ _=>rfl)
 |cons v r w=>
  intro i h a K q l o n;simp only[lC]at o;have g:BJ h (lW ⟨b,off,none⟩ i)=a[off+i]? :=by rw[DB,GT (c:=a) (t:=ty) (f:=(0,0)) l rfl]
  refine⟨q v (List.mem_cons_self ..),?_,?_,?_⟩
  ·rw[g];simp;omega
  ·rw[DB];unfold HC D3 World.frozen?;simp[l]
  ·rw[DB];have p:=H4 (off:=off+i) (v:=v) l;refine w (i+1) (CT h ⟨b,off+i,none⟩ v) (a.setIfInBounds (off+i) v) (λu x=>q u (List.mem_cons_of_mem _ x)) p (by simp;omega) ?_;intro h' d y z s A B C;refine n h' d y (by simpa using z) (λj e=> ?_) (λj u e=> ?_) (by rw[B,Mt]) (λk m=>by rw[C k m];exact GS m)
   ·simp only[lC]at e;rw[s j (by omega),lA (by omega)]
   ·cases j with
    |zero=>
     simp at e;subst e;rw[s (off+i+0) (by omega),Nat.add_zero];rw[Array.getElem?_setIfInBounds];simp only[if_true];rw[if_pos (by omega)]
    |succ j=>
     have:=A j u (by simpa using e)
     rw[show off+i+(j+1)=off+(i+1)+j by omega];exact this
structure GU (P:mP) (st xt elem:mO) (sz:Nat):Prop where
 st:P.underlying st=some (.slice elem)
 xt:P.underlying xt=some (.slice elem)∨P.underlying xt=some .string
 info:∃i,P.info? elem=some i∧i.size=sz∧(∃z,i.zero=some z∧z.cells.size=sz)∧0<i.bytes∧i.bytes≤120
 pos:0<sz
theorem X7 (a:Nat):∀(r c:Nat),lX a r c≤max c (a+(a+768) / 4):=by
 intro r
 induction r with
 |zero=>intro c;simp only[lX];omega
 |succ r b=>
  intro c;simp only[lX];split
  ·omega
  ·have:=b (c+(c+768) / 4)
   omega
theorem Vq (need c:Nat) (h:c<need):kV need c≤2 *need+200:=by
 unfold kV;split
 ·omega
 ·split
  ·omega
  ·have:=X7 need 4 c
   omega
def gK (sz:Nat) (a:mO) (h i:AH) (p:Option mR) (c:Nat) (j:Option mR) (g:Nat):Prop:=
 (j=p∧g=c∧ ∀b off,p=some ⟨b,off,none⟩→ ∀d f,h[b]? =some (.cells d a f)→ ∃e,i[b]? =some (.cells e a (0,0))∧e.size=d.size)∨
 (j=some ⟨h.size,0,none⟩∧g≤maxLen∧ ∃d,i[h.size]? =some (.cells d a (0,0))∧d.size=g *sz)
theorem Vr {P:mP}{h:AH}{st W rt l:mO}{sz:Nat}(A:GU P st W l sz) {p J:Option mR}{n c m M:Nat}{vs x:List mN}
 (o:Own sz l h p n c vs) (cx:BH h J x) (F:x.length=m *sz) (Y:∀v∈x,kY v=true) (b0:n+m≤1099512676352)
 {K:mN→AH→Prop} {X:mN→AH→Prop}
 (O:∀E L D,Own sz l D E (n+m) L (vs++x)→FV (blk p) h D→(∀i,i∈blk E→i∈blk p∨h.size≤i)→gK sz l h D p c E L→K (.slice E (n+m) L) D):
 Ab P (mL #[st,W] rt #[.slice p n c,.slice J m M]) K X h:=by
 obtain⟨i,C,Z,⟨z,hz,a0⟩,b1,hb⟩:=A.info;have a1:∃d,P.underlying W=some d∧(d matches .int _)=false:=by
  rcases A.xt with g | g<;>exact⟨_,g,rfl⟩
 obtain⟨d,hd,b2⟩:=a1;have first:∀ {V:Array mN→AH→Prop} (q:Option mR) (k kc:Nat) (N:List mN),BH h q N→N.length=k *sz→V N.toArray h→
  Ab P (hC sz k (.slice q k kc)) V X h:=by
  intro V q k kc N hq hl Q;cases q with
  |none=>
   cases N with
   |nil=>exact Q
   |cons u r=>have⟨a,ha,_⟩:=hq 0 u rfl;cases ha
  |some a=>
   show Ab P (loadCellsFrom a 0 (k *sz) #[]) V X h;rw[←hl];refine Nx N 0 #[] (λj v hj=> ?_) (by simpa using Q);obtain⟨a',a2,hc⟩:=hq j v hj;cases a2;simpa using hc
 unfold mL;simp only[List.getElem?_toArray,List.getElem?_cons_zero,lO];refine Aj A.st<|I7 C ?_;rw[Z];have a3:∀(K:mN→AH→Prop),(∀E L D,Own sz l D E (n+m) L (vs++x)→FV (blk p) h D→(∀i,i∈blk E→i∈blk p∨h.size≤i)→gK sz l h D p c E L→K (.slice E (n+m) L) D)→
  (n+m≤c→Ab P ((hC sz m (kJ J m M)).bind λnew=>
   match p with
   |some a=>(storeCells (a.add (n *sz)) new.toList).bind λa4=>mM (kJ p (n+m) c)
   |_=>mM (kJ p (n+m) c)) K X h)∧
  (¬n+m≤c→Ab P ((choose (Question.appendCap (n+m) c l)).bind λw=>
   (typeInfo l).bind λi=>
    (askRoom (w *i.bytes)).bind λa4=>
     (hC sz n (kJ p n c)).bind λold=>
      (hC sz m (kJ J m M)).bind λnew=>
       (zeroValue l).bind λz=>
        (newRow l (old++new++kU z.cells (w - (n+m)))).bind
         λa=>mM (kJ (some a) (n+m) w)) K X h):=by
  intro K O;have B:=o.length;constructor
  ·intro s;refine An _ _ (first J m M x cx F ?_);rcases o with⟨rfl,rfl,rfl,rfl⟩|⟨b,off,arr,rfl,hbk,h1,h2,h3,h4⟩
   ·have:m=0:=by omega
    subst this
    have:x= []:=List.eq_nil_of_length_eq_zero (by simpa using F)
    subst this;exact O none 0 h (Own.nil sz l h) (FV.refl _ h) (λi C=>.inl C) (.inl ⟨rfl,rfl,λb off e=>by cases e⟩)
   ·dsimp only;refine An _ _ ?_;rw[DB];have R:(n+m) *sz≤c *sz:=Nat.mul_le_mul_right sz s;rw[hA]at R;refine Rf x 0 h arr Y hbk (by rw[F];omega) ?_;intro D G g1 g2 g3 g4 g5 g6;refine O _ c D (.inr ⟨b,off,G,rfl,g1,?_,s,by omega,?_⟩) ⟨by omega,λi _ C=>g6 i (by simpa[blk]using C)⟩ (λi C=>.inl C) (.inl ⟨rfl,rfl,λb' a8 e a9 f e0=>by cases e;rw[hbk]at e0;cases e0;exact⟨G,g1,g2⟩⟩)
    ·rw[kQ,h1,F,hA]
    ·intro i v H;rcases kL i vs.length with hi' | hi'
     ·rw[lJ hi']at H;rw[g3 (off+i) (by omega)];exact h4 i v H
     ·rw[lH hi']at H
      have:=g4 (i - vs.length) v H
      rw[show off+i=off+n *sz+0+(i - vs.length) by omega];exact this
  ·intro a5;show Ab P (.choose _ _) K X h;simp only[Ab];rw[if_neg (by simp[Question.forced])];intro t;have I:n+m≤(Question.appendCap (n+m) c l).cut t:=by simp only[Question.cut];omega
   have S:(Question.appendCap (n+m) c l).cut t≤maxLen:=by
    simp only[Question.cut]
    have:=Nat.mod_lt t (y:=2 ^ 63 - (n+m)) (by omega)
    unfold maxLen;omega
   generalize (Question.appendCap (n+m) c l).cut t=nc at I S
   refine HE C ?_;have rest:Ab P ((hC sz n (kJ p n c)).bind λold=>
    (hC sz m (kJ J m M)).bind λnew=>
     (zeroValue l).bind λz=>
      (newRow l (old++new++kU z.cells (nc - (n+m)))).bind
       λa=>mM (kJ (some a) (n+m) nc)) K X h:=by
    refine An _ _ (first p n c vs o.cells B ?_);refine An _ _ (first J m M x cx F ?_);have ez:(zeroValue l)=Sem.program fun P'=>((match P'.info? l with | some i=>Sem.pure i | none=>stuck "no such type").bind fun i=>match i.zero with | some v=>Sem.pure v | none=>unsupported (.resourceLimit "a value of more than 2^22 cells")):=rfl
    rw[ez];simp only[bO,Ab,C,hz];show Ab P (Sem.new _ _) K X h;have T:(kU z.cells (nc - (n+m))).size=(nc - (n+m)) *sz:=by simp[kU,a0]
    refine O _ nc _ (.inr ⟨h.size,0,vs.toArray++x.toArray++kU z.cells (nc - (n+m)),rfl,by rw[lG,if_pos rfl],?_,I,?_,?_⟩) (FV.push _ h _) (λi C=>.inr (by simp[blk]at C;omega)) (.inr ⟨rfl,S,_,by rw[lG,if_pos rfl],?_⟩)
    ·rw[kQ,B,F,hA]
    ·simp only[mE,mF,T,B,F];rw[←hA,←hA,show n+m+(nc - (n+m))=nc by omega];omega
    ·intro i v H;have a6:i< (vs++x).length:=by
      rcases kL i (vs++x).length with g | g
      ·exact g
      ·rw[lB g]at H;cases H
     have e:(vs.toArray++x.toArray:Array mN)=(vs++x).toArray:=by simp
     rw[e,Nat.zero_add,Array.getElem?_append_left (by simpa using a6)];simpa using H
    ·simp only[mE,mF,T,B,F];rw[←hA,←hA,show n+m+(nc - (n+m))=nc by omega]
   refine An _ _ ?_;unfold askRoom;split
   ·exact rest
   ·exact rest
 have⟨k1,k2⟩:=a3 K O;have a7:∀(b:Prop),¬(((n+m:Nat):Int) >IntKind.i64.max∧b):=by
  intro b hh
  have:((n+m:Nat):Int) ≤1099512676352:=by omega
  have e:IntKind.i64.max=9223372036854775807:=rfl;omega
 have U:¬n+m≤c→ ¬kV (n+m) c *i.bytes>2 ^ 48:=by
  intro hg;have h1:=Vq (n+m) c (by omega);have h2:kV (n+m) c *i.bytes≤(2 *(n+m)+200) *120:=Nat.mul_le_mul h1 hb;omega
 rcases A.xt with g | g
 all_goals
  refine Aj g ?_;simp only[bind,bO,pure,kX,if_false,Builtin.lenOf,Bool.not_false,if_true];by_cases s:n+m≤c
  ·rw[if_pos s];exact k1 s
  ·rw[if_neg s];refine HE C ?_;rw[if_neg (a7 _)];refine HE C ?_;rw[if_neg (U s)];exact k2 s
theorem BH.cut {h:AH}{p:Option mR}{vs:List mN}{c m sz:Nat}(H:BH h p vs) (j:vs.length≤c *sz):BH h (if c=m then p else Option.map (λx=>lW x (m *sz)) p) (vs.drop (m *sz)):=by
 intro i v d;rw[List.getElem?_drop]at d;have e:m *sz+i<vs.length:=by
  rcases kL (m *sz+i) vs.length with g | g
  ·exact g
  ·rw[lB g]at d;cases d
 obtain⟨a,rfl,f⟩:=H _ _ d;by_cases b:c=m
 ·subst b;omega
 ·rw[if_neg b];exact⟨a.add (m *sz),rfl,by rw[Ac];exact f⟩
theorem BH.take {h:AH}{p:Option mR}{vs:List mN}(H:BH h p vs) (m:Nat):BH h p (vs.take m):=λi v a=>by
 rw[List.getElem?_take]at a;split at a
 ·exact H i v a
 ·cases a
theorem Vs {P:mP}{X:mN→AH→Prop}{h:AH}:∀(l:List UInt8) (a:ByteArray) {K:ByteArray→AH→Prop},K ⟨a.data++l.toArray⟩ h→
 Ab P (forIn (l.map λb=>lP .u8 (b.toNat:Int)) a λc s=>match c with
  |.int .u8 n=>(pure (ForInStep.yield (s.push (UInt8.ofNat n.toNat))):Sem (ForInStep ByteArray))
  | _=>stuck "bytesToString: byte expected") K X h:=by
 intro l
 induction l with
 |nil=>intro a K d;show K a h;simpa using d
 |cons b r f=>
  intro a K d;simp only[lD,List.forIn_cons];have e:UInt8.ofNat ((b.toNat:Int)).toNat=b:=by simp
  rw[e];refine f (a.push b) ?_;simpa[ByteArray.push]using d
theorem S1 {P:mP}{d f e:mO}{h:AH}{p:Option mR}{c:Nat}{l:List UInt8}(m:P.underlying d=some (.slice e)) (n:P.underlying e=some (.int .u8)) (hd:P.underlying f=some .string)
 (i:BH h p (l.map λb=>lP .u8 (b.toNat:Int))) {K X:mN→AH→Prop} (k:K (.string ⟨l.toArray⟩) h):Ab P (convert d f (.slice p l.length c)) K X h:=by
 unfold convert;refine Aj m (Aj hd ?_);refine Aj n ?_;dsimp only;unfold Conv.bytesToString;cases p with
 |none=>
  cases l with
  |nil=>exact k
  |cons b r=>have⟨a,o,_⟩:=i 0 _ rfl;cases o
 |some a=>
  dsimp only;refine An _ _ ?_;show Ab P (loadCellsFrom a 0 l.length #[]) _ X h;have q:l.length=(l.map λb=>lP .u8 (b.toNat:Int)).length:=by simp
  rw[q];refine Nx (l.map λb=>lP .u8 (b.toNat:Int)) 0 #[] (λj v s=>by
   obtain⟨w,g,t⟩:=i j v s;cases g;simpa using t) ?_
  refine An _ _ ?_;have u:(#[] ++(l.map λb=>lP .u8 (b.toNat:Int)).toArray:Array mN)=(l.map λb=>lP .u8 (b.toNat:Int)).toArray:=by simp
  rw[u,List.forIn_toArray];exact Vs l _ (show K _ h by simpa using k)
abbrev Slc:=Option mR×Nat×Nat
abbrev AD:=Nat→Option Obj
def BZ (h:AH):AD:=λi=>h[i]?
def Sub (φ ψ:AD):Prop:= ∀i o,φ i=some o→ψ i=some o
theorem Sub.refl (φ:AD):Sub φ φ:=λ_ _ h=>h
theorem Sub.trans {a b c:AD}(h:Sub a b) (k:Sub b c):Sub a c:=λi o d=>k i o (h i o d)
def EN (φ:AD) (a:mR):Option mN:=match φ a.block with
 |some (.cells c _ _)=>if a.spot.isSome then none else c[a.off]?
 |_=>none
theorem M8 (h:AH) (a:mR):EN (BZ h) a=BJ h a:=rfl
theorem Aq {φ ψ:AD}(c:Sub φ ψ) {a:mR}{v:mN}(b:EN φ a=some v):EN ψ a=some v:=by
 unfold EN at b ⊢;cases hb:φ a.block with
 |none=>rw[hb]at b;cases b
 |some o=>rw[c _ _ hb];rw[hb]at b;exact b
theorem AM {φ:AD}{h:AH}(b:Sub φ (BZ h)) {a:mR}{v:mN}(c:EN φ a=some v):BJ h a=some v:=by rw[←M8];exact Aq b c
def DC (φ:AD) (p:Option mR) (vs:List mN):Prop:= ∀i v,vs[i]? =some v→ ∃a,p=some a∧EN φ (a.add i)=some v
theorem DC.mono {φ ψ:AD}(b:Sub φ ψ) {p:Option mR}{vs:List mN}(c:DC φ p vs):DC ψ p vs:=λi v d=>by
 have⟨a,e,h⟩:=c i v d;exact⟨a,e,Aq b h⟩
theorem DC.heap {φ:AD}{h:AH}(b:Sub φ (BZ h)) {p:Option mR}{vs:List mN}(c:DC φ p vs):BH h p vs:=λi v d=>by
 have⟨a,e,h⟩:=c i v d;exact⟨a,e,AM b h⟩
structure Ro (α:Type) where
 sz:Nat
 is:AD→List mN→α→Prop
 len:∀ {φ cs x},is φ cs x→cs.length=sz
 mono:∀ {φ ψ cs x},Sub φ ψ→is φ cs x→is ψ cs x
 plain:∀ {φ cs x},is φ cs x→ ∀v∈cs,kY v=true
namespace Ro
def atom (a:BP):Ro a.Ty where
 sz:=1
 is _ cs x:=cs= [a.val x]
 len h:=by rw[h];rfl
 mono _ h:=h
 plain h v hv:=by rw[h]at hv;simp at hv;rw[hv];exact BP.val_plain _ _
abbrev int (k:IntKind):Ro Int:=atom (.int k)
abbrev bool:Ro Bool:=atom .bool
abbrev str:Ro ByteArray:=atom .string
abbrev pt:Ro (Option mR):=atom .pointer
def prod {α β:Type}(r:Ro α) (s:Ro β):Ro (α×β) where
 sz:=r.sz+s.sz
 is φ cs x:= ∃a b,cs=a++b∧r.is φ a x.1∧s.is φ b x.2
 len h:=by obtain⟨a,b,rfl,c,d⟩:=h;rw[kQ,r.len c,s.len d]
 mono hs h:=by obtain⟨a,b,e,c,d⟩:=h;exact⟨a,b,e,r.mono hs c,s.mono hs d⟩
 plain h v hv:=by
  obtain⟨a,b,rfl,c,d⟩:=h;rcases lR.1 hv with h | h
  ·exact r.plain c v h
  ·exact s.plain d v h
inductive All {α:Type}(r:Ro α) (φ:AD):List mN→List α→Prop where
 |nil:All r φ [] []
 |cons {a b:List mN} {x:α} {l:List α} :r.is φ a x→All r φ b l→All r φ (a++b) (x::l)
theorem All.mono {α:Type}{r:Ro α}{φ ψ:AD}(a:Sub φ ψ) {vs:List mN}{l:List α}(h:All r φ vs l):All r ψ vs l:=by
 induction h with
 |nil=>exact .nil
 |cons h _ b=>exact .cons (r.mono a h) b
theorem All.length {α:Type}{r:Ro α}{φ:AD}{vs:List mN}{l:List α}(h:All r φ vs l):vs.length=l.length *r.sz:=by
 induction h with
 |nil=>simp
 |cons h _ a=>rw[kQ,r.len h,a,lC,hA,mK,mG]
theorem All.plain {α:Type}{r:Ro α}{φ:AD}{vs:List mN}{l:List α}(h:All r φ vs l):∀v∈vs,kY v=true:=by
 induction h with
 |nil=>intro v a;cases a
 |cons h _ b=>intro v a;rcases lR.1 a with g | g;exact r.plain h v g;exact b v g
theorem All.append {α:Type}{r:Ro α}{φ:AD}{vs a:List mN}{l m:List α}(h:All r φ vs l) (k:All r φ a m):All r φ (vs++a) (l++m):=by
 induction h with
 |nil=>exact k
 |cons h _ b=>rw[List.append_assoc];exact .cons h b
theorem All.one {α:Type}{r:Ro α}{φ:AD}{vs:List mN}{x:α}(h:r.is φ vs x):All r φ vs [x]:=by
 have:=All.cons h (.nil (r:=r) (φ:=φ))
 rwa [List.append_nil]at this
theorem All.at {α:Type}{r:Ro α}{φ:AD}{vs:List mN}{l:List α}(h:All r φ vs l):∀ {i:Nat}{x:α},l[i]? =some x→ ∃cs,r.is φ cs x∧ ∀j v,cs[j]? =some v→vs[i *r.sz+j]? =some v:=by
 induction h with
 |nil=>intro i x c;simp at c
 | @cons a b y l h n f=>
  intro i x c;cases i with
  |zero=>
   simp at c;subst c;refine⟨a,h,λj v d=> ?_⟩
   have:j<a.length:=by
    rcases kL j a.length with g | g
    ·exact g
    ·rw[lB g]at d;cases d
   rw[Nat.zero_mul,Nat.zero_add,lJ this];exact d
  |succ i=>
   obtain⟨cs,k,m⟩:=f (by simpa using c);refine⟨cs,k,λj v d=> ?_⟩;have e:(i+1) *r.sz+j=a.length+(i *r.sz+j):=by rw[r.len h,hA];omega
   rw[e,lH (by omega),Nat.add_sub_cancel_left];exact m j v d
theorem All.take {α:Type}{r:Ro α}{φ:AD}{vs:List mN}{l:List α}(h:All r φ vs l):∀n,All r φ (vs.take (n *r.sz)) (l.take n):=by
 induction h with
 |nil=>intro n;simp;exact .nil
 | @cons a b y l h d c=>
  intro n;cases n with
  |zero=>simp;exact .nil
  |succ n=>
   have e:(a++b).take ((n+1) *r.sz)=a++b.take (n *r.sz):=by
    rw[hA,mK,mG,←r.len h,List.take_length_add_append]
   rw[e,List.take_succ_cons];exact .cons h (c n)
theorem All.drop {α:Type}{r:Ro α}{φ:AD}{vs:List mN}{l:List α}(h:All r φ vs l):∀n,All r φ (vs.drop (n *r.sz)) (l.drop n):=by
 induction h with
 |nil=>intro n;simp;exact .nil
 | @cons a b y l h c d=>
  intro n;cases n with
  |zero=>simp;exact .cons h c
  |succ n=>
   have e:(a++b).drop ((n+1) *r.sz)=b.drop (n *r.sz):=by
    rw[hA,mK,mG,←r.len h,List.drop_append,List.drop_eq_nil_of_le (by omega),List.nil_append];congr 1;omega
   rw[e,List.drop_succ_cons];exact d n
def SliceIs {α:Type}(r:Ro α) (φ:AD) (t:Slc) (l:List α):Prop:=l.length=t.2.1∧t.2.1≤t.2.2∧t.2.2≤maxLen∧(t.1=none→l= [])∧ ∃vs,All r φ vs l∧DC φ t.1 vs
theorem SliceIs.mono {α:Type}{r:Ro α}{φ ψ:AD}{t:Slc}{l:List α}(h:SliceIs r φ t l) (a:Sub φ ψ):SliceIs r ψ t l:=by obtain⟨b,c,d,e,vs,f,g⟩:=h;exact⟨b,c,d,e,vs,f.mono a,g.mono a⟩
def list {α:Type}(r:Ro α):Ro (List α) where
 sz:=1
 is φ cs l:= ∃t:Slc,cs= [.slice t.1 t.2.1 t.2.2] ∧SliceIs r φ t l
 len h:=by obtain⟨t,rfl,_⟩:=h;rfl
 mono hs h:=by obtain⟨t,e,h⟩:=h;exact⟨t,e,h.mono hs⟩
 plain h v hv:=by obtain⟨t,rfl,_⟩:=h;simp at hv;subst hv;rfl
def via {α β:Type}(r:Ro α) (f:β→α):Ro β where
 sz:=r.sz
 is φ cs x:=r.is φ cs (f x)
 len h:=r.len h
 mono hs h:=r.mono hs h
 plain h:=r.plain h
def ptr {α:Type}(r:Ro α):Ro (Option α) where
 sz:=1
 is φ cs x:=match x with
  |none=>cs= [.pointer none]
  |some x=>∃a vs,cs= [.pointer (some a)] ∧r.is φ vs x∧DC φ (some a) vs
 len {φ cs x} h:=by
  cases x with
  |none=>rw[h];rfl
  |some x=>obtain⟨a,vs,rfl,_⟩:=h;rfl
 mono {φ ψ cs x} hs h:=by
  cases x with
  |none=>exact h
  |some x=>obtain⟨a,vs,e,b,c⟩:=h;exact⟨a,vs,e,r.mono hs b,c.mono hs⟩
 plain {φ cs x} h v hv:=by
  cases x with
  |none=>rw[h]at hv;simp at hv;subst hv;rfl
  |some x=>obtain⟨a,vs,rfl,_⟩:=h;simp at hv;subst hv;rfl
end Ro
abbrev FE:=Nat→Prop
structure Rep (α:Type) where
 sz:Nat
 is:AD→AH→FE→List mN→α→Prop
 len:∀ {φ h F cs x},is φ h F cs x→cs.length=sz
 mono:∀ {φ ψ h F cs x},Sub φ ψ→is φ h F cs x→is ψ h F cs x
 loc:∀ {φ h h' F cs x},(∀i,F i→h'[i]? =h[i]?)→is φ h F cs x→is φ h' F cs x
 lt:∀ {φ h F cs x},is φ h F cs x→ ∀i,F i→i<h.size
 plain:∀ {φ h F cs x},is φ h F cs x→ ∀v∈cs,kY v=true
theorem BC {h:AH}{i:Nat}{o:Obj}(a:h[i]? =some o):i<h.size:=by
 rcases kL i h.size with g | g
 ·exact g
 ·rw[kO g]at a;cases a
namespace Rep
def ro {α:Type}(r:Ro α):Rep α where
 sz:=r.sz
 is φ _ F cs x:=(∀i,¬F i)∧r.is φ cs x
 len h:=r.len h.2
 mono hs h:=⟨h.1,r.mono hs h.2⟩
 loc _ h:=h
 lt h i hi:=(h.1 i hi).elim
 plain h:=r.plain h.2
def prod {α β:Type}(r:Rep α) (s:Rep β):Rep (α×β) where
 sz:=r.sz+s.sz
 is φ h F cs x:= ∃a b A B,cs=a++b∧r.is φ h A a x.1∧s.is φ h B b x.2∧(∀i,A i→B i→False)∧(∀i,F i↔A i∨B i)
 len h:=by obtain⟨a,b,A,B,rfl,c,d,_⟩:=h;rw[kQ,r.len c,s.len d]
 mono hs h:=by obtain⟨a,b,A,B,e,c,d,g⟩:=h;exact⟨a,b,A,B,e,r.mono hs c,s.mono hs d,g⟩
 loc hl h:=by
  obtain⟨a,b,A,B,e,c,d,g,f⟩:=h;exact⟨a,b,A,B,e,r.loc (λi j=>hl i ((f i).2 (.inl j))) c,s.loc (λi j=>hl i ((f i).2 (.inr j))) d,g,f⟩
 lt h i j:=by
  obtain⟨a,b,A,B,e,c,d,g,f⟩:=h;rcases(f i).1 j with g | g
  ·exact r.lt c i g
  ·exact s.lt d i g
 plain h v hv:=by
  obtain⟨a,b,A,B,rfl,c,d,_⟩:=h;rcases lR.1 hv with g | g
  ·exact r.plain c v g
  ·exact s.plain d v g
def via {α β:Type}(r:Rep α) (f:β→α):Rep β where
 sz:=r.sz
 is φ h F cs x:=r.is φ h F cs (f x)
 len h:=r.len h
 mono hs h:=r.mono hs h
 loc hl h:=r.loc hl h
 lt h:=r.lt h
 plain h:=r.plain h
def M9 (sz:Nat) (h:AH) (p:Option mR) (c:Nat):Prop:= ∀b off s,p=some ⟨b,off,s⟩→off=0∧ ∀a ty f,h[b]? =some (.cells a ty f)→a.size=c *sz
def row {α:Type}(ty:mO) (r:Ro α):Rep (List α) where
 sz:=1
 is φ h F cs l:= ∃p n c vs,cs= [.slice p n c] ∧l.length=n∧c≤maxLen∧M9 r.sz h p c∧Own r.sz ty h p n c vs∧r.All φ vs l∧(∀i,F i↔i∈blk p)
 len h:=by obtain⟨p,n,c,vs,rfl,_⟩:=h;rfl
 mono hs h:=by obtain⟨p,n,c,vs,e,m,o,q,a,t,d⟩:=h;exact⟨p,n,c,vs,e,m,o,q,a,t.mono hs,d⟩
 loc hl h:=by
  obtain⟨p,n,c,vs,e,m,o,q,a,t,d⟩:=h;refine⟨p,n,c,vs,e,m,o,?_,?_,t,d⟩
  ·intro b off s u;have⟨w,x⟩:=q b off s u;refine⟨w,λj ty f k=>x j ty f ?_⟩;rw[←hl b ((d b).2 (by rw[u];simp[blk]))];exact k
  ·rcases a with a | ⟨b,off,j,rfl,hb,g⟩
   ·exact .inl a
   ·exact .inr ⟨b,off,j,rfl,by rw[hl b ((d b).2 (by simp[blk]))];exact hb,g⟩
 lt h i hi:=by
  obtain⟨p,n,c,vs,e,m,o,q,a,t,d⟩:=h;exact a.old i ((d i).1 hi)
 plain h v hv:=by obtain⟨p,n,c,vs,rfl,_⟩:=h;simp at hv;subst hv;rfl
def raw (ty:mO):Rep (List mN) where
 sz:=1
 is _ h F cs vs:= ∃b,cs= [.pointer (some ⟨b,0,none⟩)] ∧h[b]? =some (.cells vs.toArray ty (0,0))∧(∀i,F i↔i=b)
 len h:=by obtain⟨b,rfl,_⟩:=h;rfl
 mono _ h:=h
 loc hl h:=by obtain⟨b,e,c,a⟩:=h;exact⟨b,e,by rw[hl b ((a b).2 rfl)];exact c,a⟩
 lt h i hi:=by obtain⟨b,e,c,a⟩:=h;rw[(a i).1 hi];exact BC c
 plain h v hv:=by obtain⟨b,rfl,_⟩:=h;simp at hv;subst hv;rfl
def obj {α:Type}(ty:mO) (R:Rep α):Rep α where
 sz:=1
 is φ h F cs x:= ∃b vs G,cs= [.pointer (some ⟨b,0,none⟩)] ∧h[b]? =some (.cells vs.toArray ty (0,0))∧R.is φ h G vs x∧ ¬G b∧(∀i,F i↔i=b∨G i)
 len h:=by obtain⟨b,vs,G,rfl,_⟩:=h;rfl
 mono hs h:=by obtain⟨b,vs,G,e,a,c,g⟩:=h;exact⟨b,vs,G,e,a,R.mono hs c,g⟩
 loc hl h:=by
  obtain⟨b,vs,G,e,a,c,g,d⟩:=h;exact⟨b,vs,G,e,by rw[hl b ((d b).2 (.inl rfl))];exact a,R.loc (λi f=>hl i ((d i).2 (.inr f))) c,g,d⟩
 lt h i f:=by
  obtain⟨b,vs,G,e,a,c,g,d⟩:=h;rcases(d i).1 f with rfl | g
  ·exact BC a
  ·exact R.lt c i g
 plain h v hv:=by obtain⟨b,vs,G,rfl,_⟩:=h;simp at hv;subst hv;rfl
end Rep
structure Chk where
 {α:Type}
 R:Rep α
 cs:List mN
 x:α
def Chk.on (φ:AD) (h:AH) (F:FE) (c:Chk):Prop:=c.R.is φ h F c.cs c.x
def StX (φ:AD) (h:AH):List Chk→FE→Prop
 | [],_=>Sub φ (BZ h)
 |c::Γ,X=>∃F,c.on φ h F∧(∀k,F k→φ k=none∧ ¬X k)∧StX φ h Γ (λk=>X k∨F k)
def St (φ:AD) (Γ:List Chk) (h:AH):Prop:=StX φ h Γ λ_=>False
theorem StX.sub {φ:AD}{h:AH}:∀ {Γ:List Chk}{X:FE},StX φ h Γ X→Sub φ (BZ h):=by
 intro Γ
 induction Γ with
 |nil=>intro X H;exact H
 |cons c Γ ih=>intro X ⟨F,_,_,H⟩;exact ih H
theorem StX.less {φ:AD}{h:AH}:∀ {Γ:List Chk}{X Y:FE},StX φ h Γ X→(∀k,Y k→X k)→StX φ h Γ Y:=by
 intro Γ
 induction Γ with
 |nil=>intro X Y H _;exact H
 |cons c Γ ih=>intro X Y ⟨F,d,b,H⟩ hY;exact⟨F,d,λk a=>⟨(b k a).1,λg=>(b k a).2 (hY k g)⟩,ih H λk a=>a.imp (hY k) id⟩
theorem StX.more {φ:AD}{h:AH}:∀ {Γ:List Chk}{X Y:FE},StX φ h Γ X→(∀k,Y k→h.size≤k∨X k∨φ k≠none)→StX φ h Γ Y:=by
 intro Γ
 induction Γ with
 |nil=>intro X Y H _;exact H
 |cons c Γ ih=>
  intro X Y ⟨F,d,b,H⟩ hY;refine⟨F,d,λk a=>⟨(b k a).1,λg=> ?_⟩,ih H λk a=> ?_⟩
  ·rcases hY k g with g | g | g
   ·have:=c.R.lt d k a;omega
   ·exact(b k a).2 g
   ·exact g (b k a).1
  ·rcases a with a | a
   ·rcases hY k a with g | g | g
    ·exact .inl g
    ·exact .inr (.inl (.inl g))
    ·exact .inr (.inr g)
   ·exact .inr (.inl (.inr a))
theorem StX.heap {φ:AD}{h a:AH}:∀ {Γ:List Chk}{X:FE},StX φ h Γ X→(∀k,k<h.size→ ¬X k→a[k]? =h[k]?)→Sub φ (BZ a)→StX φ a Γ X:=by
 intro Γ
 induction Γ with
 |nil=>intro X H _ b;exact b
 |cons c Γ ih=>
  intro X ⟨F,d,e,H⟩ hh b;exact⟨F,c.R.loc (λi f=>hh i (c.R.lt d i f) (e i f).2) d,e,ih H (λk j l=>hh k j λg=>l (.inl g)) b⟩
theorem StX.grow {φ ψ:AD}{h:AH}:∀ {Γ:List Chk}{X:FE},StX φ h Γ X→Sub φ ψ→Sub ψ (BZ h)→(∀k,ψ k≠none→φ k=none→X k)→StX ψ h Γ X:=by
 intro Γ
 induction Γ with
 |nil=>intro X H _ b _;exact b
 |cons c Γ ih=>
  intro X ⟨F,e,d,H⟩ b hs' hX;refine⟨F,c.R.mono b e,λk a=>⟨?_,(d k a).2⟩,ih H b hs' λk a f=>.inl (hX k a f)⟩;cases hψ:ψ k with
  |none=>rfl
  |some o=>exact((d k a).2 (hX k (by rw[hψ];simp) (d k a).1)).elim
theorem St.sub {φ:AD}{Γ:List Chk}{h:AH}(H:St φ Γ h):Sub φ (BZ h):=StX.sub H
theorem StX.cut {φ:AD}{h:AH}:∀ {Γ Δ:List Chk}{X:FE},StX φ h (Γ++Δ) X→ ∃Y:FE,(∀k,Y k→φ k=none∧ ¬X k)∧(∀k,Y k→k<h.size)∧StX φ h Γ (λk=>X k)∧StX φ h Δ (λk=>X k∨Y k)∧
 (∀ {b:AD} {d:AH} {X':FE},Sub φ b→Sub b (BZ d)→(∀k,Y k→d[k]? =h[k]?)→(∀k,Y k→b k=none∧ ¬X' k)→StX b d Δ (λk=>X' k∨Y k)→StX b d (Γ++Δ) X'):=by
 intro Γ
 induction Γ with
 |nil=>
  intro Δ X H;refine⟨λ_=>False,λk a=>a.elim,λk a=>a.elim,StX.sub H,by simpa using H,λ{b d X'} _ _ _ _ e=> ?_⟩;simpa using e
 |cons c Γ ih=>
  intro Δ X ⟨F,f,n,H⟩;obtain⟨Y,j,q,r,s,t⟩:=ih H;refine⟨λk=>F k∨Y k,λk a=> ?_,λk a=> ?_,⟨F,f,n,r⟩,?_,?_⟩
  ·rcases a with a | a
   ·exact n k a
   ·exact⟨(j k a).1,λg=>(j k a).2 (.inl g)⟩
  ·rcases a with a | a
   ·exact c.R.lt f k a
   ·exact q k a
  ·refine s.less λk a=> ?_;rcases a with a | a | a
   ·exact .inl (.inl a)
   ·exact .inl (.inr a)
   ·exact .inr a
  ·intro b d X' o l p m e;refine⟨F,c.R.mono o (c.R.loc (λi u=>p i (.inl u)) f),λk a=>m k (.inl a),t o l (λk a=>p k (.inr a)) (λk a=>⟨(m k (.inr a)).1,λg=> ?_⟩) (e.less λk a=> ?_)⟩
   ·rcases g with g | g
    ·exact(m k (.inr a)).2 g
    ·exact(j k a).2 (.inr g)
   ·rcases a with(a | a)|a
    ·exact .inl a
    ·exact .inr (.inl a)
    ·exact .inr (.inr a)
theorem StX.swap {φ:AD}{h:AH}{a b:Chk}{Γ:List Chk}{X:FE}(H:StX φ h (a::b::Γ) X):StX φ h (b::a::Γ) X:=by
 obtain⟨A,f,e,B,b1,d,H⟩:=H;refine⟨B,b1,λk c=>⟨(d k c).1,λg=>(d k c).2 (.inl g)⟩,A,f,λk c=>⟨(e k c).1,λg=> ?_⟩,H.less λk c=> ?_⟩
 ·rcases g with g | g
  ·exact(e k c).2 g
  ·exact(d k g).2 (.inr c)
 ·rcases c with(c | c)|c
  ·exact .inl (.inl c)
  ·exact .inr c
  ·exact .inl (.inr c)
theorem StX.perm {φ:AD}{h:AH}{Γ Δ:List Chk}(p:Γ.Perm Δ):∀ {X:FE},StX φ h Γ X→StX φ h Δ X:=by
 induction p with
 |nil=>intro X H;exact H
 |cons c _ f=>intro X ⟨F,g,i,H⟩;exact⟨F,g,i,f H⟩
 |swap a b l=>intro X H;exact H.swap
 |trans _ _ d e=>intro X H;exact e (d H)
theorem StX.tail {φ:AD}{h:AH}{c:Chk}{Γ:List Chk}{X:FE}(H:StX φ h (c::Γ) X):StX φ h Γ X:=by obtain⟨F,_,_,H⟩:=H;exact H.less λk a=>.inl a
theorem St.tail {φ:AD}{h:AH}{c:Chk}{Γ:List Chk}(H:St φ (c::Γ) h):St φ Γ h:=StX.tail H
theorem St.perm {φ:AD}{h:AH}{Γ Δ:List Chk}(H:St φ Γ h) (p:Γ.Perm Δ):St φ Δ h:=StX.perm p H
def Wv (i:Nat) (Γ:List Chk):List Chk:=match Γ[i]? with
 |some c=>c::Γ.eraseIdx i
 |none=>Γ
theorem BK:∀(i:Nat) (Γ:List Chk),Γ.Perm (Wv i Γ):=by
 intro i
 induction i with
 |zero=>intro Γ;cases Γ<;>exact lY _
 |succ i b=>
  intro Γ;cases Γ with
  |nil=>exact lY _
  |cons a Γ=>
   unfold Wv;simp only[lO,List.eraseIdx_cons_succ]
   have:=b Γ
   unfold Wv at this;cases hc:Γ[i]? with
   |none=>exact lY _
   |some c=>
    rw[hc]at this;exact(List.Perm.cons a this).trans (List.Perm.swap c a _)
theorem St.at {φ:AD}{h:AH}{Γ:List Chk}(H:St φ Γ h) (i:Nat):St φ (Wv i Γ) h:=H.perm (BK i Γ)
end Go.Eng
