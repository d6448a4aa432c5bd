/- The parts EngX to EngN, put together. Conditions: each tells its own. -/
import Derived.Test.YtnlkgidlfnefbaaGreatDoorKc2
import Derived.Recover
import Derived.Sort.Grow
open Go.Eng.Shs renaming Ty → bD,of → kX
open List renaming replicate → bO,eq_nil_of_length_eq_zero → kG,getElem?_eq_getElem → kQ,getElem?_eq_none → kW,getElem?_cons_zero → lJ,getElem?_set → lT,getElem?_map → lU,modify_cons → lV
open Array renaming getElem?_push → eE,getElem?_setIfInBounds_ne → kF,getElem?_setIfInBounds → kH,getElem?_eq_getElem → kL,size_setIfInBounds → kO,getElem?_append_left → lB,range → lG,getElem?_modify → lN
open Go.Eng.Rep renaming row → hA,raw → kI,obj → lK,ro → mA,prod → mG
open Go.Instr renaming findNow → hC,checkKey → hM,findAsking → kK,sameNow → kT,findKey → kU,sameBits → lC,keyThatStays → lD,lookup → lM,mapUpdate → lX,makeSlice → lY
open Go.Eng.Ro renaming SliceIs → kJ,atom → lZ
open Go.Eng.StX renaming heap → kV,more → mH
open Nat renaming mul_le_mul_right → kY,add_sub_cancel_left → lI,zero_add → lL,le_of_ble_eq_true → lO,lt_or_ge → lR,beq → mD
open Go.Sem renaming bind → kZ
open Go.IntKind renaming wrap → lA
open UInt8 renaming ofNat → lF
open Go.World renaming frozen? → lH
open Go.Eng.T renaming wp_mono → lP,store → mC,loop → mE,sem → mI,block → mK
open Option renaming map → lQ
open Iff renaming rfl → lS
open Go.Eng.Value renaming plain → lW
open Go.Value renaming int → mB
open ByteArray renaming mk → mF
open Go.Eng.BP renaming int → mJ
open Go renaming Value → mL,TypeId → mM,Program → mN,Addr → mO
namespace Go.Eng
open Go
def idx {α:Type}(l:List α) (i:Int):Option α:=if 0≤i then l[i.toNat]? else none
def Ea {α:Type}(l:List α) (i:Int) (x:α):Option (List α):=if 0≤i∧i< (l.length:Int) then some (l.set i.toNat x) else none
def app {α:Type}(l m:List α):Option (List α):=if l.length+m.length≤1099512676352 then some (l++m) else none
def cut {α:Type}(l:List α) (a b:Int):Option (List α):=if 0≤a∧a≤b∧b≤(l.length:Int) then some ((l.take b.toNat).drop a.toNat) else none
inductive AY (σ β:Type) where
 |next (s:σ)
 |done (b:β)
def Kg {σ β:Type}(f:σ→Option (AY σ β)):Nat→σ→Option β
 | 0,_=>none
 |n+1,s=>match f s with
  |none=>none
  |some (.done b)=>some b
  |some (.next s')=>Kg f n s'
theorem Lo {σ β:Type}{f:σ→Option (AY σ β)}{b:β}:∀ {n m:Nat}{s:σ},Kg f n s=some b→n≤m→Kg f m s=some b:=by
 intro n
 induction n with
 |zero=>intro m s h;cases h
 |succ n a=>
  intro m s h c;obtain⟨m,rfl⟩:∃k,m=k+1:=⟨m - 1,by omega⟩;simp only[Kg]at h ⊢;cases hf:f s with
  |none=>rw[hf]at h;cases h
  |some e=>
   rw[hf]at h;cases e with
   |done d=>exact h
   |next s'=>exact a h (by omega)
open Classical in
noncomputable def S2 {σ β:Type}(s:σ) (f:σ→Option (AY σ β)):Option β:=if h:∃n b,Kg f n s=some b then Kg f h.choose s else none
noncomputable def loop {σ β:Type}(s:σ) (f:σ→Option (AY σ β)):Option β:=match Kg f 4096 s with
 |some b=>some b
 |none=>S2 s f
theorem UQ {σ β:Type}{f:σ→Option (AY σ β)}{s:σ}{b:β}:S2 s f=some b↔∃n,Kg f n s=some b:=by
 unfold S2;constructor
 ·intro h;split at h
  ·exact⟨_,h⟩
  ·cases h
 ·rintro⟨n,h⟩;have c:∃n b,Kg f n s=some b:=⟨n,b,h⟩;rw[dif_pos c];obtain⟨d,a⟩:=c.choose_spec;rw[a];rcases Nat.le_total n c.choose with g | g
  ·rw[←Lo h g,a]
  ·rw[←h,Lo a g]
theorem Ib {σ β:Type}{f:σ→Option (AY σ β)}{s:σ}{b:β}:loop s f=some b↔∃n,Kg f n s=some b:=by
 unfold loop;split
 ·rename_i c a
  constructor
  ·rintro h;exact⟨4096,by rw[a,h]⟩
  ·rintro⟨n,h⟩;rcases Nat.le_total n 4096 with g | g
   ·rw[←Lo h g,a]
   ·rw[←h,Lo a g]
 ·exact UQ
theorem GO {σ β:Type}(s:σ) (f:σ→Option (AY σ β)):loop s f=(f s).bind λe=>match e with
 |.done b=>some b
 |.next s'=>loop s' f:=by
 apply Option.ext;intro b;constructor
 ·intro h;have⟨n,a⟩:=Ib.1 h;cases n with
  |zero=>cases a
  |succ n=>
   simp only[Kg]at a;cases hf:f s with
   |none=>rw[hf]at a;cases a
   |some e=>
    rw[hf]at a;cases e with
    |done c=>exact a
    |next s'=>exact Ib.2 ⟨n,a⟩
 ·intro h;cases hf:f s with
  |none=>rw[hf]at h;cases h
  |some e=>
   rw[hf]at h;cases e with
   |done c=>exact Ib.2 ⟨1,by simp only[Kg,hf];exact h⟩
   |next s'=>
    have⟨n,a⟩:=Ib.1 h;exact Ib.2 ⟨n+1,by simp only[Kg,hf];exact a⟩
def Jp {σ β:Type}(f:Int→σ→Option (AY σ β)):Nat→Int→σ→Option (AY σ β)
 | 0,_,s=>some (.next s)
 |n+1,i,s=>(f i s).bind λe=>match e with
  |.next s'=>Jp f n (i+1) s'
  |.done b=>some (.done b)
def DF {σ β:Type}(i e:Int) (s:σ) (f:Int→σ→Option (AY σ β)):Option (AY σ β):=if 0≤i∧e≤9223372036854775807 then Jp f (e - i).toNat i s else none
def NA {σ:Type}(f:Int→σ→Option σ):Nat→Int→σ→Option σ
 | 0,_,s=>some s
 |n+1,i,s=>(f i s).bind λs'=>NA f n (i+1) s'
def forS {σ:Type}(i e:Int) (s:σ) (f:Int→σ→Option σ):Option σ:=if 0≤i∧e≤9223372036854775807 then NA f (e - i).toNat i s else none
theorem CU {α:Type}{l:List α}{i:Int}{x:α}(h:idx l i=some x):0≤i∧i< (l.length:Int)∧l[i.toNat]? =some x:=by
 unfold idx at h;split at h
 ·rename_i a
  have:i.toNat<l.length:=by
   rcases lR i.toNat l.length with g | g
   ·exact g
   ·rw[kW g]at h;cases h
  exact⟨a,by omega,h⟩
 ·cases h
theorem QX {α:Type}{l m k:List α}(h:app l m=some k):l.length+m.length≤1099512676352∧k=l++m:=by
 unfold app at h;split at h
 ·rename_i g;exact⟨g,(Option.some.inj h).symm⟩
 ·cases h
theorem Eb {α:Type}{l m:List α}{i:Int}{x:α}(h:Ea l i x=some m):0≤i∧i< (l.length:Int)∧m=l.set i.toNat x:=by
 unfold Ea at h;split at h
 ·rename_i g;exact⟨g.1,g.2,(Option.some.inj h).symm⟩
 ·cases h
theorem Ny {α:Type}{l m:List α}{a b:Int}(h:cut l a b=some m):0≤a∧a≤b∧b≤(l.length:Int)∧m=(l.take b.toNat).drop a.toNat:=by
 unfold cut at h;split at h
 ·rename_i g;exact⟨g.1,g.2.1,g.2.2,(Option.some.inj h).symm⟩
 ·cases h
theorem Ro.SliceIs.get {α:Type}{r:Ro α}{φ:AD}{t:Slc}{l:List α}{i:Int}{x:α}(H:kJ r φ t l) (c:idx l i=some x):
 ∃a cs,t.1=some a∧(0≤i∧i< (t.2.1:Nat))∧r.is φ cs x∧ ∀j v,cs[j]? =some v→EN φ (a.add (i.toNat *r.sz+j))=some v:=by
 have⟨g,p,c⟩:=CU c;obtain⟨e,_,_,h,vs,k,m⟩:=H;have⟨cs,n,f⟩:=k.at c;cases hp:t.1 with
 |none=>rw[h hp]at c;simp at c
 |some a=>
  refine⟨a,cs,rfl,⟨g,by omega⟩,n,λj v o=> ?_⟩;obtain⟨q,d,b⟩:=m _ v (f j v o);rw[hp]at d;cases d;exact b
theorem Ro.SliceIs.nil {α:Type}(r:Ro α) (φ:AD):kJ r φ (none,0,0) []:=⟨rfl,Nat.le_refl _,Nat.zero_le _,λ_=>rfl,[],.nil,λi v a=>by simp at a⟩
theorem Ro.SliceIs.length {α:Type}{r:Ro α}{φ:AD}{t:Slc}{l:List α}(H:kJ r φ t l):t.2.1=l.length:=H.1.symm
theorem Ro.SliceIs.lt {α:Type}{r:Ro α}{φ:AD}{t:Slc}{l:List α}(H:kJ r φ t l):l.length≤maxLen:=by have:=H.1;have:=H.2.1;have:=H.2.2.1;omega
theorem Ro.SliceIs.cut {α:Type}{r:Ro α}{φ:AD}{t:Slc}{l m:List α}{a b:Int}{sz:Nat}(H:kJ r φ t l) (j:cut l a b=some m) (f:r.sz=sz):
 (0≤a∧a≤b∧b≤(t.2.2:Nat))∧kJ r φ ((if t.2.2=a.toNat then t.1 else lQ (λx=>Addr.add x (a.toNat *sz)) t.1),b.toNat - a.toNat,t.2.2 - a.toNat) m:=by
 obtain⟨n,o,y,rfl⟩:=Ny j;obtain⟨e,z,j,p,vs,k,g⟩:=H;subst f;refine⟨⟨n,o,by omega⟩,?_,?_,?_,?_,(vs.take (b.toNat *r.sz)).drop (a.toNat *r.sz),(k.take _).drop _,?_⟩
 ·simp only[List.length_drop,List.length_take];omega
 ·dsimp only;omega
 ·dsimp only;omega
 ·intro h;dsimp only at h;cases hp:t.1 with
  |none=>rw[p hp];simp
  |some x=>
   rw[hp]at h;split at h<;>cases h
 ·intro i v d;rw[List.getElem?_drop,List.getElem?_take]at d;split at d
  ·rename_i q
   have⟨x,s,c⟩:=g _ v d;rw[s];dsimp only;split
   ·rename_i u
    have w:=k.length
    have:vs[a.toNat *r.sz+i]? =none:=by
     rw[kW];rw[w]
     have:l.length *r.sz≤a.toNat *r.sz:=kY _ (by omega)
     omega
    rw[this]at d;cases d
   ·exact⟨_,rfl,by rw[Ac];exact c⟩
  ·cases d
section
variable {φ:AD}{h:AH}{Γ:List Chk}{X:FE}
theorem StX.ro {α:Type}{r:Ro α}{cs:List mL}{x:α}(H:StX φ h (⟨mA r,cs,x⟩::Γ) X):r.is φ cs x∧StX φ h Γ X:=by obtain⟨F,a,_,H⟩:=H;exact⟨a.2,H.less λk b=>.inl b⟩
theorem St.ro {α:Type}{r:Ro α}{cs:List mL}{x:α}(H:St φ (⟨mA r,cs,x⟩::Γ) h):r.is φ cs x∧St φ Γ h:=StX.ro H
theorem St.unro {α:Type}{r:Ro α}{cs:List mL}{x:α}(H:St φ Γ h) (b:r.is φ cs x):St φ (⟨mA r,cs,x⟩::Γ) h:=
 ⟨λ_=>False,⟨λ_ h=>h,b⟩,λ_ a=>a.elim,H.less λ_ a=>a.elim id id⟩
theorem St.pair {α β:Type}{R:Rep α}{S:Rep β}{cs:List mL}{x:α×β}(H:St φ (⟨mG R S,cs,x⟩::Γ) h):∃a b,cs=a++b∧a.length=R.sz∧St φ (⟨R,a,x.1⟩::⟨S,b,x.2⟩::Γ) h:=by
 obtain⟨F,⟨a,b,A,B,rfl,e,i,hd,d⟩,f,H⟩:=H;refine⟨a,b,rfl,R.len e,A,e,λk c=>f k ((d k).2 (.inl c)),B,i,λk c=>⟨(f k ((d k).2 (.inr c))).1,λg=> ?_⟩,H.less λk c=> ?_⟩
 ·rcases g with g | g
  ·exact g
  ·exact hd k g c
 ·rcases c with(c | c)|c
  ·exact c.elim
  ·exact .inr ((d k).2 (.inl c))
  ·exact .inr ((d k).2 (.inr c))
theorem St.unpair {α β:Type}{R:Rep α}{S:Rep β}{a b:List mL}{x:α}{y:β}(H:St φ (⟨R,a,x⟩::⟨S,b,y⟩::Γ) h):St φ (⟨mG R S,a++b,(x,y)⟩::Γ) h:=by
 obtain⟨A,e,f,B,j,d,H⟩:=H;refine⟨λk=>A k∨B k,⟨a,b,A,B,rfl,e,j,λi l m=>(d i m).2 (.inr l),λ_=>lS⟩,λk c=> ?_,H.less λk c=> ?_⟩
 ·rcases c with c | c
  ·exact f k c
  ·exact⟨(d k c).1,λg=>g⟩
 ·rcases c with c | c | c
  ·exact c.elim
  ·exact .inl (.inr c)
  ·exact .inr c
theorem St.open {α:Type}{ty:mM}{R:Rep α}{cs:List mL}{x:α}(H:St φ (⟨lK ty R,cs,x⟩::Γ) h):
 ∃b vs,cs= [.pointer (some ⟨b,0,none⟩)] ∧vs.length=R.sz∧St φ (⟨kI ty,[.pointer (some ⟨b,0,none⟩)],vs⟩::⟨R,vs,x⟩::Γ) h:=by
 obtain⟨F,⟨b,vs,G,rfl,f,d,j,c⟩,e,H⟩:=H;refine⟨b,vs,rfl,R.len d,λi=>i=b,⟨b,rfl,f,λ_=>lS⟩,λk a=>e k ((c k).2 (.inl a)),G,d,λk a=>⟨(e k ((c k).2 (.inr a))).1,λg=> ?_⟩,H.less λk a=> ?_⟩
 ·rcases g with g | g
  ·exact g
  ·subst g;exact j a
 ·rcases a with(a | a)|a
  ·exact a.elim
  ·exact .inr ((c k).2 (.inl a))
  ·exact .inr ((c k).2 (.inr a))
theorem St.shut {α:Type}{ty:mM}{R:Rep α}{cs vs:List mL}{x:α}(H:St φ (⟨kI ty,cs,vs⟩::⟨R,vs,x⟩::Γ) h):St φ (⟨lK ty R,cs,x⟩::Γ) h:=by
 obtain⟨A,⟨b,rfl,e,c⟩,f,B,i,d,H⟩:=H;refine⟨λk=>k=b∨B k,⟨b,vs,B,rfl,e,i,λa=>(d b a).2 (.inr ((c b).2 rfl)),λ_=>lS⟩,λk a=> ?_,H.less λk a=> ?_⟩
 ·rcases a with a | a
  ·exact f k ((c k).2 a)
  ·exact⟨(d k a).1,λg=>g⟩
 ·rcases a with a | a | a
  ·exact a.elim
  ·exact .inl (.inr ((c k).2 a))
  ·exact .inr a
theorem St.new {ty:mM}(vs:List mL) (H:St φ Γ h):St φ (⟨kI ty,[.pointer (some ⟨h.size,0,none⟩)],vs⟩::Γ) (h.push (.cells vs.toArray ty (0,0))):=by
 have b:=H.sub;refine⟨λi=>i=h.size,⟨h.size,rfl,by rw[eE,if_pos rfl],λ_=>lS⟩,λk a=>⟨?_,λg=>g⟩,?_⟩
 ·subst a;cases hφ:φ h.size with
  |none=>rfl
  |some o=>have:=BC (b _ _ hφ);omega
 ·refine kV (mH H λk a=> ?_) (λk a _=>by rw[eE];simp;omega) λi o c=> ?_
  ·rcases a with a | a
   ·exact a.elim
   ·left;omega
  ·have d:=BC (b i o c);show(h.push _)[i]? =some o;rw[eE,if_neg (by omega)];exact b i o c
theorem St.nil {α:Type}(ty:mM) (r:Ro α) (H:St φ Γ h):St φ (⟨hA ty r,[.slice none 0 0],[]⟩::Γ) h:=
 ⟨λ_=>False,⟨none,0,0,[],rfl,rfl,Nat.zero_le _,(λ_ _ _ h=>by cases h),.inl ⟨rfl,rfl,rfl,rfl⟩,.nil,λi=>by simp[blk]⟩,λ_ a=>a.elim,H.less λ_ a=>a.elim id id⟩
theorem St.lit {α:Type}{ty:mM}{r:Ro α}{b n:Nat}{vs:List mL}{l:List α}(H:St φ (⟨kI ty,[.pointer (some ⟨b,0,none⟩)],vs⟩::Γ) h) (d:r.All φ vs l) (g:l.length=n) (j:n≤maxLen):
 St φ (⟨hA ty r,[.slice (some ⟨b,0,none⟩) n n],l⟩::Γ) h:=by obtain⟨F,⟨k,e,a,m⟩,o,H⟩:=H;cases e;refine⟨F,⟨_,n,n,vs,rfl,g,j,(λk off s e=>by cases e;exact⟨rfl,λp ty f c=>by rw[a]at c;cases c;simp[d.length,g]⟩),.inr ⟨b,0,vs.toArray,rfl,a,by rw[d.length,g],Nat.le_refl _,by simp[d.length,g],λi v q=>by simpa using q⟩,d,λi=>by rw[m];simp[blk]⟩,o,H⟩
def Frz {α:Type}(R:Rep α) (r:Ro α):Prop:= ∀ {φ ψ:AD}{h:AH}{F:FE}{cs:List mL}{x:α},R.is φ h F cs x→Sub φ ψ→(∀i,F i→ψ i=h[i]?)→r.is ψ cs x
theorem St.freeze {α:Type}{R:Rep α}{r:Ro α}{cs:List mL}{x:α}(c:Frz R r) (H:St φ (⟨R,cs,x⟩::Γ) h):∃ψ,Sub φ ψ∧r.is ψ cs x∧St ψ Γ h:=by
 classical
 obtain⟨F,d,f,H⟩:=H;have g:=H.sub;have le:Sub φ (λi=>if F i then h[i]? else φ i):=λi o a=>by
  show(if F i then h[i]? else φ i)=some o;rw[if_neg]
  ·exact a
  ·intro j;have e:=(f i j).1;rw[e]at a;cases a
 refine⟨λi=>if F i then h[i]? else φ i,le,c d le λi l=>if_pos l,?_⟩;refine StX.less (StX.grow H le (λi o a=> ?_) λk b m=> ?_) λk b=>b.elim
 ·split at a
  ·exact a
  ·exact g i o a
 ·split at b
  ·exact .inr (by assumption)
  ·exact absurd m b
theorem NB {α:Type}(r:Ro α):Frz (mA r) r:=λh a _=>r.mono a h.2
theorem GV {α β:Type}{R:Rep α}{S:Rep β}{r:Ro α}{s:Ro β}(e:Frz R r) (f:Frz S s):Frz (mG R S) (Ro.prod r s):=by rintro φ ψ h F cs x ⟨a,b,A,B,rfl,g,j,_,d⟩ hsub hψ;exact⟨a,b,rfl,e g hsub λi c=>hψ i ((d i).2 (.inl c)),f j hsub λi c=>hψ i ((d i).2 (.inr c))⟩
theorem Nz {ψ:AD}{p:Option mO}{vs:List mL}(c:BH h p vs) (d:∀i,i∈blk p→ψ i=h[i]?):DC ψ p vs:=λi v f=>by
 obtain⟨a,rfl,b⟩:=c i v f;refine⟨a,rfl,?_⟩;have e:=d a.block (by simp[blk]);unfold EN;rw[Ln,e]
 have:EN (BZ h) (a.add i)=some v:=b
 unfold EN at this;rw[Ln]at this;exact this
theorem QE {α:Type}(ty:mM) (r:Ro α):Frz (hA ty r) (Ro.list r):=by
 rintro φ ψ h F cs l ⟨p,n,c,vs,rfl,d,e,f,a,g,j⟩ hsub hψ;refine⟨(p,n,c),rfl,d,a.cap,e,λk=> ?_,vs,g.mono hsub,Nz a.cells λi m=>hψ i ((j i).2 m)⟩;rcases a with⟨_,o,_,_⟩|⟨b,off,arr,rfl,_⟩
 ·exact kG (by omega)
 ·cases k
theorem cA {α:Type}{ty:mM}{R:Rep α}{r:Ro α}(e:Frz R r):Frz (lK ty R) (Ro.via (Ro.ptr r) some):=by
 rintro φ ψ h F cs x ⟨b,vs,G,rfl,g,j,n,d⟩ hsub hψ;have k:BH h (some ⟨b,0,none⟩) vs:=λi v l=>by
  refine⟨⟨b,0,none⟩,rfl,?_⟩;rw[DB,GT (c:=vs.toArray) (t:=ty) (f:=(0,0)) g rfl];simpa using l
 have m:∀i,i∈blk (some (⟨b,0,none⟩:mO))→ψ i=h[i]? :=λi a=>by
  simp[blk]at a;rw[a];exact hψ b ((d b).2 (.inl rfl))
 exact⟨⟨b,0,none⟩,vs,rfl,e j hsub λi a=>hψ i ((d i).2 (.inr a)),Nz k m⟩
theorem St.cell {ty:mM}{b j:Nat}{vs:List mL}{v:mL}(H:St φ (⟨kI ty,[.pointer (some ⟨b,0,none⟩)],vs⟩::Γ) h) (a:vs[j]? =some v):BJ h ⟨b,j,none⟩=some v:=by obtain⟨F,⟨g,e,d,i⟩,k,H⟩:=H;cases e;rw[GT (c:=vs.toArray) (t:=ty) (f:=(0,0)) d rfl];simpa using a
theorem St.cells {ty:mM}{b:Nat}{vs:List mL}(H:St φ (⟨kI ty,[.pointer (some ⟨b,0,none⟩)],vs⟩::Γ) h):BH h (some ⟨b,0,none⟩) vs:=λi v a=>⟨_,rfl,by rw[DB,lL];exact H.cell a⟩
theorem St.put {ty:mM}{b j:Nat}{vs:List mL}(v:mL) (H:St φ (⟨kI ty,[.pointer (some ⟨b,0,none⟩)],vs⟩::Γ) h) (s:j<vs.length):
 (BJ h ⟨b,j,none⟩).isSome=true∧HC h ⟨b,j,none⟩=false∧St φ (⟨kI ty,[.pointer (some ⟨b,0,none⟩)],vs.set j v⟩::Γ) (CT h ⟨b,j,none⟩ v):=by
 obtain⟨F,⟨u,e,d,m⟩,n,H⟩:=H;cases e;refine⟨?_,?_,F,⟨b,rfl,?_,m⟩,n,?_⟩
 ·rw[GT (c:=vs.toArray) (t:=ty) (f:=(0,0)) d rfl];simp;omega
 ·unfold HC D3 lH;simp[d]
 ·rw[H4 d];simp
 ·have p:=H.sub;have a:∀k,¬F k→(CT h ⟨b,j,none⟩ v)[k]? =h[k]? :=λk q=>GS λe=>q ((m k).2 e);refine kV H (λk _ r=>a k λg=>r (.inr g)) λi o l=> ?_;show(CT h _ v)[i]? =some o;rw[a i λg=>by rw[(n i g).1]at l;cases l];exact p i o l
theorem St.get {α:Type}{ty:mM}{r:Ro α}{t:Slc}{l:List α}{i:Int}{x:α}(H:St φ (⟨hA ty r,[.slice t.1 t.2.1 t.2.2],l⟩::Γ) h) (g:idx l i=some x):
 ∃a cs,t.1=some a∧(0≤i∧i< (t.2.1:Nat))∧r.is φ cs x∧ ∀j v,cs[j]? =some v→BJ h (a.add (i.toNat *r.sz+j))=some v:=by
 obtain⟨F,⟨p,n,c,vs,e,o,D,s,q,u,E⟩,G,H⟩:=H;have o:l.length=n:=o;simp only[List.cons.injEq,Value.slice.injEq,and_true]at e;obtain⟨w,y,I⟩:=e;have⟨z,J,g⟩:=CU g;have⟨cs,A,k⟩:=u.at g;have d:=q.cells;rw[w];cases p with
 |none=>
  rcases q with⟨_,B,_,_⟩|⟨b,off,arr,hp,_⟩
  ·omega
  ·cases hp
 |some a=>
  refine⟨a,cs,rfl,⟨z,by rw[y];omega⟩,A,λj v C=> ?_⟩;obtain⟨K,m,f⟩:=d _ v (k j v C);cases m;exact f
theorem St.rowLen {α:Type}{ty:mM}{r:Ro α}{t:Slc}{l:List α}(H:St φ (⟨hA ty r,[.slice t.1 t.2.1 t.2.2],l⟩::Γ) h):t.2.1=l.length:=by obtain⟨F,⟨p,n,c,vs,e,a,d,b,f,g,i⟩,j,H⟩:=H;have a:l.length=n:=a;simp only[List.cons.injEq,Value.slice.injEq,and_true]at e;omega
theorem St.rowMax {α:Type}{ty:mM}{r:Ro α}{t:Slc}{l:List α}(H:St φ (⟨hA ty r,[.slice t.1 t.2.1 t.2.2],l⟩::Γ) h):l.length≤maxLen:=by
 obtain⟨F,⟨p,n,c,vs,e,a,f,b,d,g,i⟩,j,H⟩:=H
 have:=d.cap
 have a:l.length=n:=a;omega
theorem St.all {α:Type}{ty:mM}{r:Ro α}{t:Slc}{l:List α}(H:St φ (⟨hA ty r,[.slice t.1 t.2.1 t.2.2],l⟩::Γ) h):∃vs,r.All φ vs l∧BH h t.1 vs:=by obtain⟨F,⟨p,n,c,vs,e,a,g,b,d,f,i⟩,j,H⟩:=H;have a:l.length=n:=a;simp only[List.cons.injEq,Value.slice.injEq,and_true]at e;rw[e.1];exact⟨vs,f,d.cells⟩
end
section
variable {P:mN}{Q:Bs→AH→Prop}{φ:AD}{h:AH}{Γ:List Chk}
theorem AU {ty:mM}{vs:List mL}{k:Nat→T}(H:St φ Γ h) (a:∀r h',St φ (⟨kI ty,[.pointer (some ⟨r,0,none⟩)],vs⟩::Γ) h'→(k r).wp P Q h'):(T.new (.cells vs.toArray ty (0,0)) k).wp P Q h:=
 ZA (a _ _ (H.new vs))
theorem AL {s:BP}{a:mO}{k:s.Ty→T}{x:s.Ty}{v:mL}(b:BJ h a=some v) (c:v=s.val x) (H:(k x).wp P Q h):(T.load s a k).wp P Q h:=M7 x (by rw[b,c]) H
theorem AA {s:BP}{ty:mM}{b j:Nat}{vs:List mL}{k:s.Ty→T}{x:s.Ty}(H:St φ (⟨kI ty,[.pointer (some ⟨b,0,none⟩)],vs⟩::Γ) h) (a:vs[j]? =some (s.val x)) (c:(k x).wp P Q h):(T.load s ⟨b,j,none⟩ k).wp P Q h:=
 M7 x (H.cell a) c
theorem Cj {ty:mM}{b j:Nat}{vs:List mL}{v:mL}{k:T}(H:St φ (⟨kI ty,[.pointer (some ⟨b,0,none⟩)],vs⟩::Γ) h) (a:lW v=true) (c:j<vs.length)
 (d:∀h',St φ (⟨kI ty,[.pointer (some ⟨b,0,none⟩)],vs.set j v⟩::Γ) h'→k.wp P Q h'):(mC ⟨b,j,none⟩ v k).wp P Q h:=by have⟨e,f,g⟩:=H.put v c;exact Sz a e f (d _ g)
theorem Jq {α:Type}{ty:mM}{r:Ro α}{t:Slc}{l m:List α}{i:Int}{x:α}{v:mL}{k:T}{a:mO}(H:St φ (⟨hA ty r,[.slice t.1 t.2.1 t.2.2],l⟩::Γ) h) (M:Ea l i x=some m) (I:r.is φ [v] x) (N:t.1=some a)
 (G:∀h',St φ (⟨hA ty r,[.slice t.1 t.2.1 t.2.2],m⟩::Γ) h'→k.wp P Q h'):(mC (a.add (i.toNat *1)) v k).wp P Q h:=by
 obtain⟨F,⟨p,n,c,vs,e,J,X,K,E,d,O⟩,R,H⟩:=H;have J:l.length=n:=J;simp only[List.cons.injEq,Value.slice.injEq,and_true]at e;obtain⟨S,Y,Z⟩:=e;obtain⟨h0,h1,rfl⟩:=Eb M;have q:r.sz=1:=(r.len I).symm;rw[S]at N;subst N;rcases E with⟨L,_⟩|⟨b,off,arr,L,C,g1,g2,g3,g4⟩
 ·cases L
 ·cases L;rw[q]at g1 g3;have a0:off+i.toNat<arr.size:=by omega
  have z:(Addr.add ⟨b,off,none⟩ (i.toNat *1))=⟨b,off+i.toNat,none⟩:=by rw[DB,Nat.mul_one]
  rw[z];have A:=H4 (off:=off+i.toNat) (v:=v) C;refine Sz (r.plain I v (by simp)) ?_ ?_ (G _ ?_)
  ·rw[GT (c:=arr) (t:=ty) (f:=(0,0)) C rfl];simp;omega
  ·unfold HC D3 lH;simp[C]
  ·have hs:=H.sub;have B:∀k,¬F k→(CT h ⟨b,off+i.toNat,none⟩ v)[k]? =h[k]? :=λk G=>GS λe=>G ((O k).2 (by simp[blk];exact e));refine⟨F,⟨some ⟨b,off,none⟩,n,c,vs.set i.toNat v,by rw[S,Y,Z],by simp;exact J,X,(λb' U s' e=>by cases e;have⟨q1,q2⟩:=K _ _ _ rfl;exact⟨q1,λV a1 f' s=>by rw[A]at s;cases s;rw[kO];exact q2 _ _ _ C⟩),.inr ⟨b,off,_,rfl,A,by simp[q];omega,g2,by simp[q];omega,λj u D=> ?_⟩,?_,O⟩,R,kV H (λk _ hX=>B k λg=>hX (.inr g)) λj o E=> ?_⟩
   ·rw[lT]at D;split at D
    ·rename_i hj
     subst hj;split at D
     ·cases D;rw[kH];simp;omega
     ·cases D
    ·rw[kF (by omega)];exact g4 j u D
   ·clear G A B M
    have:∀ {vs:List mL} {l:List α},r.All φ vs l→ ∀i:Nat,r.All φ (vs.set i v) (l.set i x):=by
     intro vs l d
     induction d with
     |nil=>intro i;simp;exact .nil
     | @cons a b y l W C ih=>
      intro i;have hl:a.length=1:=by rw[r.len W,q]
      match a,hl with
      | [w],_=>
       cases i with
       |zero=>exact .cons (a:=[v]) I C
       |succ i=>exact .cons (a:=[w]) W (ih i)
    exact this d i.toNat
   ·show(CT h _ v)[j]? =some o;rw[B j λg=>by rw[(R j g).1]at E;cases E];exact hs j o E
theorem AZ {α:Type}{st N W j:mM}{sz:Nat}{r:Ro α}{p O:Option mO}{n c m X:Nat}{l l':List α}{ms:List α}{B:List mL}{k:Slc→T}(A:GU P st N j sz)
 (H:St φ (⟨hA j r,[.slice p n c],l⟩::Γ) h) (C:r.sz=sz) (Y:BH h O B) (D:r.All φ B ms) (Z:ms.length=m) (hD:app l ms=some l')
 (a:∀(t:Slc) u,St φ (⟨hA j r,[.slice t.1 t.2.1 t.2.2],l'⟩::Γ) u→(k t).wp P Q u):
 (mI (Builtin.append_ #[st,N] W #[.slice p n c,.slice O m X]) (.one (.atom .slice)) k).wp P Q h:=by
 obtain⟨F,⟨y,z,E,vs,e,R,hc,G,q,v,I⟩,S,H⟩:=H;have R:l.length=z:=R;simp only[List.cons.injEq,Value.slice.injEq,and_true]at e;obtain⟨rfl,rfl,rfl⟩:=e;obtain⟨a0,rfl⟩:=QX hD;subst C;have J:=H.sub;refine t_sem (Vr A q Y (by rw[D.length,Z]) D.plain (by omega) λy E u o' k' z U=>⟨(y,n+m,E),rfl,a _ _ ?_⟩);have w:∀k,k<h.size→ ¬F k→u[k]? =h[k]? :=λk a K=>k'.2 k a λhb=>K ((I k).2 hb);refine⟨λi=>i∈blk y,⟨y,n+m,E,vs++B,rfl,by simp;omega,?_,?_,o',v.append D,λi=>lS⟩,λk a=>⟨?_,λg=>g⟩,?_⟩
 ·rcases U with⟨_,rfl,_⟩|⟨_,g,_⟩
  ·exact hc
  ·exact g
 ·intro b off s e;rcases U with⟨rfl,rfl,g⟩|⟨rfl,_,L,g1,g2⟩
  ·subst e;have⟨q1,q2⟩:=G _ _ _ rfl;refine⟨q1,λL ty f d=> ?_⟩;rcases q with⟨M,_⟩|⟨b',off',x,M,hb',_⟩
   ·cases M
   ·cases M;have⟨V,e1,e2⟩:=g _ _ rfl _ _ hb';rw[e1]at d;cases d;rw[e2];exact q2 _ _ _ hb'
  ·cases e;refine⟨rfl,λx ty f d=> ?_⟩;rw[g1]at d;cases d;exact g2
 ·rcases z k a with g | g
  ·exact(S k ((I k).2 g)).1
  ·cases hφ:φ k with
   |none=>rfl
   |some o=>have:=BC (J _ _ hφ);omega
 ·have H1:StX φ h Γ (λk=>F k∨h.size≤k):=mH H λk a=>by
   rcases a with a | a
   ·exact .inr (.inl (.inr a))
   ·exact .inl a
  have H2:StX φ u Γ (λk=>F k∨h.size≤k):=kV H1 (λk a hX=>w k a λg=>hX (.inl g)) λi o q=>by
   show u[i]? =some o;rw[w i (BC (J i o q)) λg=>by rw[(S i g).1]at q;cases q];exact J i o q
  refine H2.less λk a=> ?_;rcases a with a | a
  ·exact a.elim
  ·exact(z k a).imp (λg=>(I k).2 g) id
theorem AE {f:FuncId}{args:List mL}{sh:Sh}{k:sh.Ty→T}{S:mL→AH→Prop}(a:CallsH P f args h (Ae S)) (b:∀v h',S v h'→ ∃x,v=sh.val x∧(k x).wp P Q h'):(T.call f args sh k).wp P Q h:=
 bv a b
theorem R6 {p:Nat→Prop}(h:∃n,p n):∃n,p n∧ ∀m,p m→n≤m:=by
 obtain⟨n,c⟩:=h
 induction n using Nat.strongRecOn with
 |ind n d=>
  by_cases b:∃m,m<n∧p m
  ·obtain⟨m,a,e⟩:=b;exact d m a e
  ·refine⟨n,c,λm a=> ?_⟩;rcases lR m n with g | g
   ·exact absurd ⟨m,g,a⟩ b
   ·exact g
def ej {γ:Type}(ss:List Sh1) (M:bD ss→AH→γ→Prop) (g:γ) (Q:Bs→AH→Prop) (a:Bs) (b:AH):Prop:=match a with
 |.out vs=>∃y,kX ss vs=some y∧M y b g
 |a=>Q a b
theorem Ad {γ:Type}{ss:List Sh1}{x:T}{k:bD ss→T}(M:bD ss→AH→γ→Prop) {g:γ}(H:x.wp P (ej ss M g Q) h) (b:∀y a,M y a g→(k y).wp P Q a):(T.join ss x k).wp P Q h:=
 bq (λy a=>M y a g) (lP x (λc a d=>by cases c<;>exact d) H) b
theorem AQ {γ:Type}{ss:List Sh1}{M:bD ss→AH→γ→Prop}{g:γ}{vs:List mL}(y:bD ss) (a:kX ss vs=some y) (b:M y h g):(T.out vs).wp P (ej ss M g Q) h:=⟨y,a,b⟩
theorem ZE {γ:Type}{ss:List Sh1}{M:bD ss→AH→γ→Prop}{g:γ}{v:mL}(H:Q (.ret v) h):ej ss M g Q (.ret v) h:=H
def H5 {γ:Type}(id:Nat) (ss:List Sh1) (M:bD ss→AH→γ→Prop) (g:γ) (Q:Bs→AH→Prop) (b:Bs) (a:AH):Prop:=match b with
 |.out vs=>∃y,kX ss vs=some y∧M y a g
 |.brk id' vs=>bif mD id' id then(∃y,kX ss vs=some y∧M y a g) else Q (.brk id' vs) a
 |b=>Q b a
theorem Av {γ:Type}{id:Nat}{ss:List Sh1}{x:T}{k:bD ss→T}(M:bD ss→AH→γ→Prop) {g:γ}(H:x.wp P (H5 id ss M g Q) h) (b:∀y a,M y a g→(k y).wp P Q a):(mK id ss x k).wp P Q h:=
 ZD (λy a=>M y a g) (lP x (λc a d=>by cases c<;>exact d) H) b
section
variable {γ:Type}{id:Nat}{ss:List Sh1}{M:bD ss→AH→γ→Prop}{g:γ}
theorem QY {vs:List mL}(y:bD ss) (a:kX ss vs=some y) (b:M y h g):(T.out vs).wp P (H5 id ss M g Q) h:=⟨y,a,b⟩
theorem Vt {vs:List mL}(y:bD ss) (a:kX ss vs=some y) (b:M y h g):(T.brk id vs).wp P (H5 id ss M g Q) h:=by
 show H5 id ss M g Q (.brk id vs) h;unfold H5
 have:mD id id=true:=by simp
 simp only[this,cond_true];exact⟨y,a,b⟩
theorem AR {vs:List mL}(y:bD ss) (a:kX ss vs=some y) (b:M y h g):H5 id ss M g Q (.brk id vs) h:=by
 unfold H5
 have:mD id id=true:=by simp
 simp only[this,cond_true];exact⟨y,a,b⟩
theorem Al {v:mL}(H:Q (.ret v) h):H5 id ss M g Q (.ret v) h:=H
theorem FO {a:Nat}{vs:List mL}(b:mD a id=false) (H:Q (.brk a vs) h):H5 id ss M g Q (.brk a vs) h:=by unfold H5;simp only[b,cond_false];exact H
end
def Gv {σ:Type}(ss:List Sh1) (I:bD ss→AH→σ→Prop) (e:Option σ) (Q:Bs→AH→Prop) (a:Bs) (b:AH):Prop:=match a with
 |.out vs=>∃y s,kX ss vs=some y∧e=some s∧I y b s
 |a=>Q a b
def AY.go {σ β:Type}:AY σ β→Option σ
 |.next s=>some s
 |.done _=>none
theorem FF {σ β:Type}{ss:List Sh1}{i:List mL}{body:bD ss→T}{d:σ→Option (AY σ β)}{p:σ}{b:β}(x:loop p d=some b) (I:bD ss→AH→σ→Prop) (q:bD ss) (z:kX ss i=some q) (A:I q h p)
 (B:∀y h s e,I y h s→d s=some e→(∀m,e= .done m→m=b)→(body y).wp P (Gv ss I e.go Q) h):(mE ss i body).wp P Q h:=by
 have⟨C,r⟩:=Ib.1 x
 classical
 let μ:bD ss→AH→Nat:=λy h=>if j:∃n s,I y h s∧Kg d n s=some b then(R6 j).choose else 0
 refine eh (λy h=>∃n s,I y h s∧Kg d n s=some b) μ q z ⟨C,p,A,r⟩ λy g j=> ?_;obtain⟨⟨s,D,a⟩,k⟩:=(R6 j).choose_spec;have E:μ y g=(R6 j).choose:=dif_pos j;rw[E]
 generalize (R6 j).choose=n at a k
 cases n with
 |zero=>cases a
 |succ n=>
  simp only[Kg]at a;cases hd:d s with
  |none=>rw[hd]at a;cases a
  |some e=>
   rw[hd]at a;refine lP _ (λF u o=> ?_) (B y g s e D hd λm G=>by subst G;exact Option.some.inj a);cases F with
   |out vs=>
    obtain⟨t,s',H,w,l⟩:=o;cases e with
    |done m=>cases w
    |next J=>
     cases w;have f:∃n s,I t u s∧Kg d n s=some b:=⟨n,_,l,a⟩;refine X6 t H f ?_;have K:μ t u=(R6 f).choose:=dif_pos f;have L:=(R6 f).choose_spec.2 n ⟨_,l,a⟩;omega
   |brk id vs=>exact o
   |ret v=>exact o
   |pan c=>exact o
theorem Ah {σ:Type}{ss:List Sh1}{I:bD ss→AH→σ→Prop}{e:Option σ}{vs:List mL}(y:bD ss) (s:σ) (a:kX ss vs=some y) (b:e=some s) (c:I y h s):(T.out vs).wp P (Gv ss I e Q) h:=⟨y,s,a,b,c⟩
theorem AO {σ:Type}{ss:List Sh1}{I:bD ss→AH→σ→Prop}{e:Option σ}{id:Nat}{vs:List mL}(H:Q (.brk id vs) h):Gv ss I e Q (.brk id vs) h:=H
theorem Ak {σ:Type}{ss:List Sh1}{I:bD ss→AH→σ→Prop}{e:Option σ}{v:mL}(H:Q (.ret v) h):Gv ss I e Q (.ret v) h:=H
theorem Vu {σ β:Type}{f:Int→σ→Option (AY σ β)}{e:Int}{r:AY σ β}:∀ {n:Nat}{i:Int}{s:σ},(e - i).toNat=n→Jp f n i s=some r→
 loop (i,s) (λx=>if x.1<e then(f x.1 x.2).bind λq=>match q with | .next s'=>some (.next (x.1+1,s'))|.done b=>some (.done (AY.done b)) else some (.done (.next x.2)))=some r:=by
 intro n
 induction n with
 |zero=>
  intro i s a h;rw[GO,if_neg (by dsimp only;omega)];exact h
 |succ n c=>
  intro i s a h;rw[GO,if_pos (by dsimp only;omega)];simp only[Jp]at h;dsimp only;cases hf:f i s with
  |none=>rw[hf]at h;cases h
  |some q=>
   rw[hf]at h;cases q with
   |done b=>exact h
   |next s'=>exact c (by omega) h
theorem Kh {σ β:Type}{ss:List Sh1}{b:List mL}{body:bD ss→T}{f:Int→σ→Option (AY σ β)}{k l:Int}{u:σ}{r:AY σ β}(m:DF k l u f=some r) (I:Int→bD ss→AH→σ→Prop) (o:bD ss) (B:kX ss b=some o) (C:I k o h u)
 (D:∀i y h s e,I i y h s→f i s=some e→k≤i→i<l→lA .i64 (i+1)=i+1→(∀n,e= .done n→r= .done n)→(body y).wp P (Gv ss (I (i+1)) e.go Q) h)
 (E:∀i y h s,I i y h s→l≤i→r= .next s→(body y).wp P (Gv ss (I i) (none:Option σ) Q) h):(mE ss b body).wp P Q h:=by
 unfold DF at m;split at m
 ·rename_i H
  have a:=Vu rfl m;refine FF a (λy h x=>k≤x.1∧I x.1 y h x.2) o B ⟨Int.le_refl _,C⟩ λy h x e ⟨p,w⟩ he hb=> ?_;by_cases d:x.1<l
  ·rw[if_pos d]at he;cases hf:f x.1 x.2 with
   |none=>rw[hf]at he;cases he
   |some q=>
    rw[hf]at he;refine lP _ (λt F a=> ?_) (D x.1 y h x.2 q w hf p d (w64 (by omega) (by omega)) λn g=> ?_)
    ·cases t with
     |out vs=>
      obtain⟨z,s',A,g,j⟩:=a;cases q with
      |done n=>cases g
      |next G=>
       cases g;cases he;exact⟨z,_,A,rfl,by dsimp only;omega,j⟩
     |brk id vs=>exact a
     |ret v=>exact a
     |pan c=>exact a
    ·subst g;cases he;exact(hb _ rfl).symm
  ·rw[if_neg d]at he;cases he;refine lP _ (λt F a=> ?_) (E x.1 y h x.2 w (by omega) (hb _ rfl).symm);cases t with
   |out vs=>obtain⟨z,s',A,g,j⟩:=a;cases g
   |brk id vs=>exact a
   |ret v=>exact a
   |pan c=>exact a
 ·cases m
theorem X8 {σ:Type}{f:Int→σ→Option σ}:∀ {n:Nat}{i:Int}{s r:σ},NA f n i s=some r→Jp (β:=Empty) (λi s=>(f i s).map AY.next) n i s=some (.next r):=by
 intro n
 induction n with
 |zero=>intro i s r h;simp only[NA]at h;simp only[Jp];cases h;rfl
 |succ n a=>
  intro i s r h;simp only[NA]at h;simp only[Jp];cases hf:f i s with
  |none=>rw[hf]at h;cases h
  |some s'=>rw[hf]at h;exact a h
theorem Cp {σ:Type}{ss:List Sh1}{a:List mL}{body:bD ss→T}{f:Int→σ→Option σ}{c d:Int}{j r:σ}(g:forS c d j f=some r) (I:Int→bD ss→AH→σ→Prop) (k:bD ss) (n:kX ss a=some k) (o:I c k h j)
 (p:∀i y h s e,I i y h s→f i s=some e→c≤i→i<d→lA .i64 (i+1)=i+1→(body y).wp P (Gv ss (I (i+1)) (some e) Q) h)
 (q:∀i y h,I i y h r→d≤i→(body y).wp P (Gv ss (I i) (none:Option σ) Q) h):(mE ss a body).wp P Q h:=by
 unfold forS at g;split at g
 ·rename_i t
  have l:DF (β:=Empty) c d j (λi s=>(f i s).map AY.next)=some (.next r):=by
   unfold DF;rw[if_pos t];exact X8 g
  refine Kh l I k n o (λi y h s e m b u v w z=> ?_) λi y h s m b x=> ?_
  ·cases hf:f i s with
   |none=>rw[hf]at b;cases b
   |some s'=>
    rw[hf]at b;cases b;exact p i y h s s' m hf u v w
  ·cases x;exact q i y h m b
 ·cases g
theorem Bb {σ:Type}{id:Nat}{ss:List Sh1}{a:List mL}{body k:bD ss→T}{f:Int→σ→Option σ}{b c:Int}{j r:σ}(l:forS b c j f=some r) (I:Int→bD ss→AH→σ→Prop) (d:bD ss) (m:kX ss a=some d) (n:I b d h j)
 (o:∀i y h s e,I i y h s→f i s=some e→b≤i→i<c→lA .i64 (i+1)=i+1→(body y).wp P (Gv ss (I (i+1)) (some e) (H5 id ss (λy h g=>∃i,I i y h g) r Q)) h)
 (p:∀i y h,I i y h r→c≤i→(body y).wp P (Gv ss (I i) (none:Option σ) (H5 id ss (λy h g=>∃i,I i y h g) r Q)) h)
 (q:∀y h',(∃i,I i y h' r)→(k y).wp P Q h'):(mK id ss (mE ss a body) k).wp P Q h:=
 Av (λy h g=>∃i,I i y h g) (Cp l I d m n o p) q
theorem BR {σ β:Type}{id:Nat}{ss:List Sh1}{a:List mL}{body k:bD ss→T}{f:Int→σ→Option (AY σ β)}{b c:Int}{j:σ}{r:AY σ β}(l:DF b c j f=some r) (I:Int→bD ss→AH→σ→Prop) (d:bD ss) (m:kX ss a=some d) (n:I b d h j)
 (o:∀i y h s e,I i y h s→f i s=some e→b≤i→i<c→lA .i64 (i+1)=i+1→(∀b',e= .done b'→r= .done b')→(body y).wp P (Gv ss (I (i+1)) e.go (H5 id ss (λy h g=>∃s,AY.next s=g∧ ∃i,I i y h s) r Q)) h)
 (p:∀i y h s,I i y h s→c≤i→r= .next s→(body y).wp P (Gv ss (I i) (none:Option σ) (H5 id ss (λy h g=>∃s,AY.next s=g∧ ∃i,I i y h s) r Q)) h)
 (q:∀y h',(∃s,AY.next s=r∧ ∃i,I i y h' s)→(k y).wp P Q h'):(mK id ss (mE ss a body) k).wp P Q h:=
 Av (λy h g=>∃s,AY.next s=g∧ ∃i,I i y h s) (Kh l I d m n o p) q
def need {α:Type}(p:Prop) [Decidable p] (k:Option α):Option α:=if p then k else none
theorem CQ {α:Type}{p:Prop}[Decidable p] {k:Option α}{x:α}(h:need p k=some x):p∧k=some x:=by
 unfold need at h;split at h
 ·exact⟨by assumption,h⟩
 ·cases h
def AY.get {σ:Type}:AY σ σ→σ
 |.next s=>s
 |.done s=>s
theorem AK {γ:Type}{b a:Bool}{x y:T}{c d:Option γ}{g:γ}(hd:cond a c d=some g) (e:b=a) (f:a=true→c=some g→x.wp P Q h) (i:a=false→d=some g→y.wp P Q h):(cond b x y).wp P Q h:=by
 subst e;cases b
 ·exact i rfl hd
 ·exact f rfl hd
theorem Cv {γ:Type}{p a:Prop}[Decidable p] [Decidable a] {k:T}{d:Option γ}{g:γ}(hd:need a d=some g) (e:a→p) (c:a→d=some g→k.wp P Q h):(chk p k).wp P Q h:=by have⟨b,f⟩:=CQ hd;exact Am (e b) (c b f)
theorem St.at1 {a b:Chk}(H:St φ (a::b::Γ) h):St φ (b::a::Γ) h:=H.perm (List.Perm.swap b a Γ)
theorem St.at2 {a b c:Chk}(H:St φ (a::b::c::Γ) h):St φ (c::a::b::Γ) h:=H.perm (BK 2 (a::b::c::Γ))
theorem St.at3 {a b c d:Chk}(H:St φ (a::b::c::d::Γ) h):St φ (d::a::b::c::Γ) h:=H.perm (BK 3 (a::b::c::d::Γ))
theorem St.at4 {a b c d e:Chk}(H:St φ (a::b::c::d::e::Γ) h):St φ (e::a::b::c::d::Γ) h:=H.perm (BK 4 (a::b::c::d::e::Γ))
theorem St.at5 {a b c d e f:Chk}(H:St φ (a::b::c::d::e::f::Γ) h):St φ (f::a::b::c::d::e::Γ) h:=H.perm (BK 5 (a::b::c::d::e::f::Γ))
theorem St.at6 {a b c d e f g:Chk}(H:St φ (a::b::c::d::e::f::g::Γ) h):St φ (g::a::b::c::d::e::f::Γ) h:=H.perm (BK 6 (a::b::c::d::e::f::g::Γ))
theorem St.at7 {a b c d e f g i:Chk}(H:St φ (a::b::c::d::e::f::g::i::Γ) h):St φ (i::a::b::c::d::e::f::g::Γ) h:=H.perm (BK 7 (a::b::c::d::e::f::g::i::Γ))
theorem St.at8 {a b c d e f g i j:Chk}(H:St φ (a::b::c::d::e::f::g::i::j::Γ) h):St φ (j::a::b::c::d::e::f::g::i::Γ) h:=H.perm (BK 8 (a::b::c::d::e::f::g::i::j::Γ))
theorem St.at9 {a b c d e f g i j k:Chk}(H:St φ (a::b::c::d::e::f::g::i::j::k::Γ) h):St φ (k::a::b::c::d::e::f::g::i::j::Γ) h:=H.perm (BK 9 (a::b::c::d::e::f::g::i::j::k::Γ))
theorem Ro.SliceIs.heap {α:Type}{r:Ro α}{t:Slc}{l:List α}(H:kJ r φ t l) (a:Sub φ (BZ h)):∃vs,r.All φ vs l∧BH h t.1 vs:=by obtain⟨_,_,_,_,vs,b,c⟩:=H;exact⟨vs,b,c.heap a⟩
theorem St.rowCs {α:Type}{ty:mM}{r:Ro α}{cs:List mL}{l:List α}(H:St φ (⟨hA ty r,cs,l⟩::Γ) h):∃t:Slc,cs= [.slice t.1 t.2.1 t.2.2]:=by obtain⟨F,⟨p,n,c,vs,e,_⟩,_⟩:=H;exact⟨(p,n,c),e⟩
theorem St.shape {c d:Chk}(H:St φ (c::Γ) h) (e:c=d):St φ (d::Γ) h:=by rw[←e];exact H
theorem St.freezeRow {α:Type}{ty:mM}{r:Ro α}{t:Slc}{l:List α}(H:St φ (⟨hA ty r,[.slice t.1 t.2.1 t.2.2],l⟩::Γ) h):∃ψ,Sub φ ψ∧kJ r ψ t l∧St ψ Γ h:=by
 obtain⟨ψ,j,⟨d,e,k⟩,m⟩:=H.freeze (QE ty r);simp only[List.cons.injEq,Value.slice.injEq,and_true]at e;obtain⟨f,g,i⟩:=e
 have:t=d:=by
  obtain⟨a,b,c⟩:=t;obtain⟨n,o,p⟩:=d;simp only at f g i;rw[f,g,i]
 subst this;exact⟨ψ,j,k,m⟩
theorem St.there {α:Type}{ty:mM}{r:Ro α}{t:Slc}{l m:List α}{i:Int}{x:α}(H:St φ (⟨hA ty r,[.slice t.1 t.2.1 t.2.2],l⟩::Γ) h) (d:Ea l i x=some m):∃a,t.1=some a∧(0≤i∧i< (t.2.1:Nat)):=by
 have⟨e,c,_⟩:=Eb d;have b:i.toNat<l.length:=by omega
 have:idx l i=some l[i.toNat]:=by unfold idx;rw[if_pos e];exact kQ b
 have⟨a,_,c,f,_⟩:=H.get this;exact⟨a,c,f⟩
theorem DC.at {a:mO}{vs:List mL}(H:DC φ (some a) vs) (j:Nat) {v:mL}(b:vs[j]? =some v):EN φ (a.add j)=some v:=by obtain⟨d,e,c⟩:=H j v b;cases e;exact c
theorem St.keep {a:AH}(H:St φ Γ h) (b:Sub (BZ h) (BZ a)):St φ Γ a:=by refine kV H (λk c _=> ?_) (H.sub.trans b);have d:BZ h k=some h[k]:=kL c;have e:=b _ _ d;show a[k]? =h[k]?;have f:a[k]? =some h[k]:=e;rw[f,kL c]
end
def defers (ops:Array Oper):Bool:=match ops[ops.size - 1]? with
 |some o=>match o.op with
  |.defer _=>true
  |_=>false
 |none=>false
section
variable {P:mN}{ops:Array Oper}
end
section
variable {P:mN}{Q:Bs→AH→Prop}{φ:AD}{h:AH}{Γ:List Chk}
theorem St.ptr {α:Type}{ty:mM}{R:Rep α}{p:Option mO}{x:α}(H:St φ (⟨lK ty R,[.pointer p],x⟩::Γ) h):∃b,p=some ⟨b,0,none⟩:=by obtain⟨b,vs,e,_⟩:=H.open;exact⟨b,by simpa using e⟩
end
end Go.Eng
namespace Go.Eng
open Go Go.Sort
theorem St.rowPut {α:Type}{φ:AD}{h y:AH}{Γ:List Chk}{ty:mM}{r:Ro α}{t:Slc}{l m:List α}{g:List mL}
 (H:St φ (⟨hA ty r,[.slice t.1 t.2.1 t.2.2],l⟩::Γ) h) (q:r.All φ g m) (K:m.length=l.length)
 (hb:∀b off,t.1=some ⟨b,off,none⟩→ ∀arr,h[b]? =some (.cells arr ty (0,0))→ ∃a,y[b]? =some (.cells a ty (0,0))∧a.size=arr.size∧ ∀i v,g[i]? =some v→a[off+i]? =some v)
 (V:∀k,k<h.size→(∀b off,t.1=some ⟨b,off,none⟩→k≠b)→y[k]? =h[k]?):St φ (⟨hA ty r,[.slice t.1 t.2.1 t.2.2],m⟩::Γ) y:=by
 have W:=H.sub;obtain⟨F,⟨p,n,c,vs,e,A,X,L,z,M,N⟩,O,H⟩:=H;have A:l.length=n:=A;simp only[List.cons.injEq,Value.slice.injEq,and_true]at e;obtain⟨J,Y,Z⟩:=e;have B:g.length=n *r.sz:=by rw[q.length,K,A]
 rcases z with⟨u,C,P,a0⟩|⟨b,off,arr,u,D,g1,g2,g3,g4⟩
 ·have Q:∀b off,t.1≠some ⟨b,off,none⟩:=λb off d=>by rw[J,u]at d;cases d
  have s:∀k,k<h.size→y[k]? =h[k]? :=λk f=>V k f λb off d=>absurd d (Q b off);refine⟨F,⟨p,n,c,g,by rw[J,Y,Z],by rw[K];exact A,X,?_,.inl ⟨u,C,P,?_⟩,q,N⟩,O,kV H (λk f _=>s k f) λj o z=> ?_⟩
  ·intro b' w s' d;rw[u]at d;cases d
  ·exact kG (by rw[B,C];omega)
  ·have E:=W j o z
   have:=BC E
   show y[j]? =some o;rw[s j this];exact E
 ·have G:t.1=some ⟨b,off,none⟩:=by rw[J,u]
  obtain⟨a,a1,a2,a3⟩:=hb b off G arr D;have s:∀k,k<h.size→k≠b→y[k]? =h[k]? :=λk f R=>V k f λb' w d=>by rw[G]at d;cases d;exact R
  have I:F b:=(N b).2 (by rw[u];simp[blk]);refine⟨F,⟨p,n,c,g,by rw[J,Y,Z],by rw[K];exact A,X,?_,.inr ⟨b,off,a,u,a1,B,g2,by rw[a2];exact g3,a3⟩,q,N⟩,O,
   kV H (λk f hX=>s k f λd=>hX (.inr (by rw[d];exact I))) λj o z=> ?_⟩
  ·intro b' w s' d;rw[u]at d;cases d;have⟨q1,q2⟩:=L _ _ _ u;exact⟨q1,λS a4 f' x=>by rw[a1]at x;cases x;rw[a2];exact q2 _ _ _ D⟩
  ·have E:=W j o z;have T:=BC E;have U:j≠b:=λd=>by
    have:=(O b I).1
    rw[d,this]at z;cases z
   show y[j]? =some o;rw[s j T U];exact E
theorem St.rowHolds {α β:Type}[Inhabited β] {φ:AD}{w:World}{Γ:List Chk}{ty:mM}{r:Ro α}{t:Slc}{l:List α}(H:St φ (⟨hA ty r,[.slice t.1 t.2.1 t.2.2],l⟩::Γ) w.heap)
 (i:r.sz=1) (d:β→mL) (k:∀vs,r.All φ vs l→ ∃a:List β,vs=a.map d):
 (l= [] ∧t.2.1=0)∨ ∃(b off:Nat) (a:List β),t.1=some ⟨b,off,none⟩∧r.All φ (a.map d) l∧t.2.1=a.length∧l.length=a.length∧b<w.heap.size∧(∀h,w.heap[b]? =some (.cells h ty (0,0))→off+l.length≤h.size)∧Sort.Holds d w b off a.toArray:=by
 obtain⟨F,⟨p,n,c,vs,e,o,q,z,A,g,K⟩,L,H⟩:=H;have o:l.length=n:=o;simp only[List.cons.injEq,Value.slice.injEq,and_true]at e;obtain⟨B,M,N⟩:=e;rcases A with⟨s,C,D,E⟩|⟨b,off,h,s,f,G,O,I,J⟩
 ·exact .inl ⟨kG (by omega),by omega⟩
 ·right
  obtain⟨a,rfl⟩:=k vs g;have u:a.length=n:=by
   rw[List.length_map,i]at G;omega
  refine⟨b,off,a,by rw[B,s],g,by omega,by omega,BC f,λv x=> ?_,λj y=> ?_⟩
  ·rw[f]at x;cases x;rw[i]at I;omega
  have m:j<a.length:=by simpa using y
  have q:=J j (d a[j]) (by rw[lU,kQ m];rfl);refine⟨?_,?_⟩
  ·unfold World.cell?;dsimp only;rw[f];dsimp only;rw[getElem!_pos _ j y];simpa using q
  ·unfold lH;dsimp only;rw[f];simp
theorem St.rowSorted {α β:Type}[Inhabited β] {φ:AD}{w:World}{Γ:List Chk}{ty:mM}{r:Ro α}{t:Slc}{l m:List α}(H:St φ (⟨hA ty r,[.slice t.1 t.2.1 t.2.2],l⟩::Γ) w.heap)
 {b off:Nat} (u:t.1=some ⟨b,off,none⟩) (a:β→mL) (ms:List β) (h:r.All φ (ms.map a) m) (B:m.length=l.length) (C:ms.length=l.length) (n:∀c,w.heap[b]? =some (.cells c ty (0,0))→off+l.length≤c.size) (k:Nat) (os:Array Obj):
 St φ (⟨hA ty r,[.slice t.1 t.2.1 t.2.2],m⟩::Γ) (grow (putRow a (Sort.ahead w k) b off ms.toArray) os).heap:=by
 have f:(grow (putRow a (Sort.ahead w k) b off ms.toArray) os).heap=w.heap.modify b (onCells (putCells a off ms.toArray)) ++os:=rfl;rw[f];refine H.rowPut h B (λF y z c d=> ?_) λj D p=> ?_
 ·rw[u]at z;cases z;have q:=BC d;refine⟨putCells a off ms.toArray c,?_,by simp[putCells],λi v A=> ?_⟩
  ·rw[lB (by simpa using q),lN,if_pos rfl,d];rfl
  ·rw[lU,Option.map_eq_some_iff]at A;obtain⟨x,o,rfl⟩:=A;have s:i<ms.length:=by
    rcases lR i ms.length with g | g
    ·exact g
    ·rw[kW g]at o;cases o
   have G:=n c d;unfold putCells;rw[Array.getElem?_mapIdx,kL (by omega)];have E:off≤off+i∧off+i<off+ms.toArray.size:=by simp;exact s
   simp only[Option.map_some];rw[if_pos E,lI,getElem!_pos _ i (by simpa using s)];rw[kQ s]at o;cases o;simp
 ·rw[lB (by simpa using D),lN,if_neg λe=>p b off u e.symm]
end Go.Eng
namespace Go.Eng
open Go
theorem R7 (a b:ByteArray):(a==b)=decide (a=b):=by
 cases a with | mk a=>cases b with | mk b=>
 have e:((mF a==mF b):Bool)=(a==b):=rfl;rw[e];by_cases h:a=b
 ·subst h;simp
 ·rw[decide_eq_false (by intro g;exact h (ByteArray.mk.inj g))];exact beq_eq_false_iff_ne.2 h
structure Ky (κ:Type) [DecidableEq κ] where
 val:κ→mL
 on:mN→mM→Prop
 desc:∀ {P:mN} {kt:mM},on P kt→ ∃d,P.underlying kt=some d∧((∀k k',kT d (val k) (val k')=some (decide (k=k')))∨
  ((∀k k',kT d (val k) (val k')=none)∧ ∀(k k':κ) (h:AH) (K:Bool→AH→Prop) (X:mL→AH→Prop),K (decide (k=k')) h→Ab P (Op.equal kt (val k) (val k')) K X h))
 bits:∀k,lC 10000 (val k) (val k)=true
 ok:∀ {P:mN} {kt:mM} {b:Bool} {k:κ} {h:AH} {K:Unit→AH→Prop} {X:mL→AH→Prop},on P kt→K () h→Ab P (hM b 10000 kt (val k)) K X h
def kyS:Ky ByteArray where
 val:=.string
 on P kt:=P.underlying kt=some .string
 desc h:=⟨_,h,.inl λk a=>by simp only[kT,R7]⟩
 bits k:=by unfold lC;rw[R7];simp
 ok hk H:=by unfold hM;exact Aj hk H
def kyI (j:IntKind):Ky Int where
 val:=.int j
 on P kt:=P.underlying kt=some (.int j)
 desc h:=⟨_,h,.inl λk a=>by
  simp only[kT,if_true];by_cases e:k=a
  ·subst e;simp
  ·rw[decide_eq_false e];simp[e]⟩
 bits k:=by unfold lC;simp
 ok hk H:=by unfold hM;exact Aj hk H
structure S5 (P:mN) (kt:mM):Prop where
 fl: ∃f g:Field,P.underlying kt=some (.struct #[f,g])∧P.stoodInHeld kt=false∧f.name ≠ "_" ∧g.name ≠ "_" ∧f.offset=0∧g.offset=1∧P.underlying f.type=some (.int .i64)∧P.underlying g.type=some (.int .i64)
theorem UR {P:mN}{t:mM}(b:P.underlying t=some (.int .i64)) {a:Array mL}{i:Nat}{v:mL}(c:a[i]? =some v) {h:AH}{K:mL→AH→Prop}{X:mL→AH→Prop}(H:K v h):Ab P (part t a i) K X h:=by unfold part isAgg;simp only[bind,kZ,underlying,program,Ab,b,c];exact H
theorem US {P:mN}{t:mM}(c:P.underlying t=some (TypeDesc.int .i64)) (a b:Int):KY P t (.int .i64 a) (.int .i64 b)=some (a==b):=by unfold KY;rw[c];simp
theorem R8 {P:mN}{t:mM}(c:P.underlying t=some (TypeDesc.int .i64)) {a:Int}{h:AH}{b:Bool}{K:Unit→AH→Prop}{X:mL→AH→Prop}(H:K () h):Ab P (hM b 9999 t (.int .i64 a)) K X h:=by unfold hM;exact Aj c H
def DG:Ky (Int×Int) where
 val k:=.agg #[.int .i64 k.1,.int .i64 k.2]
 on:=S5
 desc h:=by
  obtain⟨f,g,e,p,l,m,of,n,i,j⟩:=h.fl;refine⟨_,e,.inr ⟨λk o=>rfl,λk o h K X H=> ?_⟩⟩;refine Lh (d:=9999) e p (Pf (d:=9998) _ _ _ [f,g] (r:=decide (k=o)) ?_ _ H);simp only[KZ,l,m,of,n,if_false];simp only[List.getElem?_toArray,lJ,List.getElem?_cons_succ,US i,US j];obtain⟨a,b⟩:=k;obtain⟨c,d⟩:=o;simp only[Prod.mk.injEq,Option.some.injEq];by_cases q:a=c<;>by_cases s:b=d<;>simp[q,s]
 bits k:=by simp[lC]
 ok h H:=by
  obtain⟨f,g,e,p,l,m,of,n,i,j⟩:=h.fl;unfold hM;refine Aj e ?_;dsimp only;rw[←Array.forIn_toList];simp only[List.forIn_cons,List.forIn_nil,l,m,of,n,ne_eq,not_false_eq_true,if_true];refine An _ _ (An _ _ (An _ _ (UR i rfl (An _ _ (R8 i ?_)))));dsimp only[pure,Ab];refine An _ _ (An _ _ (UR j rfl (An _ _ (R8 j ?_))));exact H
section
variable {κ:Type}[DecidableEq κ]
def BX {β:Type}(k:κ):List (κ×β)→Option β
 | [] =>none
 |(k',v)::m=>if k=k' then some v else BX k m
def CA {β:Type}(k:κ) (v:β):List (κ×β)→List (κ×β)
 | [] =>[(k,v)]
 |(k',v')::m=>if k=k' then(k',v)::m else(k',v')::CA k v m
theorem DD {β:Type}(k:κ) (v:β) (b:κ):∀m:List (κ×β),BX b (CA k v m)=if b=k then some v else BX b m:=by
 intro m
 induction m with
 |nil=>simp only[CA,BX]
 |cons a m c=>
  simp only[CA];split
  ·rename_i h;subst h;simp only[BX];split<;>simp_all
  ·rename_i h
   simp only[BX];split
   ·rename_i d;subst d;rw[if_neg λe=>h e.symm]
   ·exact c
inductive J0 {β:Type}(kk:Ky κ) (vv:Ro β) (φ:AD):List MapEntry→List (κ×β)→Prop where
 |nil:J0 kk vv φ [] []
 |cons {e:MapEntry} {es:List MapEntry} {k:κ} {x:β} {m:List (κ×β)} :e.key=kk.val k→vv.is φ [e.val] x→J0 kk vv φ es m→J0 kk vv φ (e::es) ((k,x)::m)
variable {kk:Ky κ}
theorem J0.mono {β:Type}{a:Ro β}{φ ψ:AD}(b:Sub φ ψ) {es:List MapEntry}{m:List (κ×β)}(H:J0 kk a φ es m):J0 kk a ψ es m:=by
 induction H with
 |nil=>exact .nil
 |cons c d _ e=>exact .cons c (a.mono b d) e
def Rep.kmap {β:Type}(kk:Ky κ) (g:Ro β):Rep (List (κ×β)) where
 sz:=1
 is φ h F cs m:= ∃r es a,cs= [.map (some r)] ∧h[r]? =some (.map es a)∧J0 kk g φ es.toList m∧(∀i,F i↔i=r)
 len h:=by obtain⟨r,es,c,rfl,_⟩:=h;rfl
 mono hs h:=by obtain⟨r,es,c,e,d,f,b⟩:=h;exact⟨r,es,c,e,d,f.mono hs,b⟩
 loc hl h:=by obtain⟨r,es,c,e,d,f,b⟩:=h;exact⟨r,es,c,e,by rw[hl r ((b r).2 rfl)];exact d,f,b⟩
 lt h i hi:=by obtain⟨r,es,c,e,d,f,b⟩:=h;rw[(b i).1 hi];exact BC d
 plain h v hv:=by obtain⟨r,es,c,rfl,_⟩:=h;simp at hv;subst hv;rfl
theorem S7 {β:Type}{c:Ro β}{φ:AD}{k:κ}{d:TypeDesc}(f:∀k b,kT d (kk.val k) (kk.val b)=some (decide (k=b))):∀ {es:List MapEntry}{m:List (κ×β)}(i:Nat),J0 kk c φ es m→BX k m=none→hC d (kk.val k) es i=some none:=by
 intro es m i H
 induction H generalizing i with
 |nil=>intro _;rfl
 | @cons e es b x m g l _ h=>
  intro a;simp only[BX]at a;split at a
  ·cases a
  ·rename_i j
   unfold hC;rw[g,f,decide_eq_false j];exact h (i+1) a
theorem UT {P:mN}{c:mM}{β:Type}{d:Ro β}{φ:AD}{k:κ}{h:AH}{X:mL→AH→Prop}(f:∀(k b:κ) (h:AH) (K:Bool→AH→Prop) (X:mL→AH→Prop),K (decide (k=b)) h→Ab P (Op.equal c (kk.val k) (kk.val b)) K X h):
 ∀ {es:List MapEntry} {m:List (κ×β)} (i:Nat) {K:Option (Nat×mL)→AH→Prop},J0 kk d φ es m→BX k m=none→K none h→Ab P (kK c (kk.val k) es i) K X h:=by
 intro es m i K H
 induction H generalizing i with
 |nil=>intro _ H;exact H
 | @cons e es b x m g o _ j=>
  intro a l;simp only[BX]at a;split at a
  ·cases a
  ·rename_i n
   unfold kK;rw[g];refine An _ _ (f _ _ _ _ _ ?_);rw[decide_eq_false n];exact j (i+1) a l
theorem X9 {β:Type}{l:Ro β}{φ:AD}{k:κ}{x:β}:∀ {es:List MapEntry}{m:List (κ×β)},J0 kk l φ es m→BX k m=some x→
 ∃j e,es[j]? =some e∧e.key=kk.val k∧l.is φ [e.val] x∧
  (∀(y:β) (v:mL),l.is φ [v] y→J0 kk l φ (es.modify j λe=>{e with key:=kk.val k,val:=v}) (CA k y m))∧
  (∀d,(∀k a,kT d (kk.val k) (kk.val a)=some (decide (k=a)))→ ∀i,hC d (kk.val k) es i=some (some (i+j,e.val)))∧
  (∀(P:mN) (f:mM),(∀(k a:κ) (h:AH) (K:Bool→AH→Prop) (X:mL→AH→Prop),K (decide (k=a)) h→Ab P (Op.equal f (kk.val k) (kk.val a)) K X h)→
   ∀(i:Nat) (h:AH) (K:Option (Nat×mL)→AH→Prop) (X:mL→AH→Prop),K (some (i+j,e.val)) h→Ab P (kK f (kk.val k) es i) K X h):=by
 intro es m H
 induction H with
 |nil=>intro b;cases b
 | @cons e es a x' m c r s t=>
  intro b;simp only[BX]at b;split at b
  ·rename_i g
   cases b;subst g;refine⟨0,e,rfl,c,r,λy v p=> ?_,λd n i=> ?_,λP f o i h K X q=> ?_⟩
   ·simp only[CA,if_true,lV];exact .cons rfl p s
   ·unfold hC;rw[c,n,decide_eq_true rfl];rfl
   ·unfold kK;rw[c];refine An _ _ (o _ _ _ _ _ ?_);rw[decide_eq_true rfl];exact q
  ·rename_i g
   obtain⟨j,u,w,z,A,B,C,D⟩:=t b;refine⟨j+1,u,by simpa using w,z,A,λy v p=> ?_,λd n i=> ?_,λP f o i h K X q=> ?_⟩
   ·simp only[CA,if_neg g,lV];exact .cons c r (B y v p)
   ·unfold hC;rw[c,n,decide_eq_false g];dsimp only;rw[C d n,show i+1+j=i+(j+1) by omega]
   ·unfold kK;rw[c];refine An _ _ (o _ _ _ _ _ ?_);rw[decide_eq_false g];refine D P f o (i+1) h K X ?_;rw[show i+1+j=i+(j+1) by omega];exact q
theorem N0 {P:mN}{b:mM}{β:Type}{i:Ro β}{φ:AD}{k:κ}{es:List MapEntry}{m:List (κ×β)}{h:AH}{K:Option (Nat×mL)→AH→Prop}{X:mL→AH→Prop}(j:kk.on P b) (c:J0 kk i φ es m) (f:BX k m=none) (H:K none h):
 Ab P (kU b (kk.val k) es) K X h:=by
 have⟨d,l,hd⟩:=kk.desc j;unfold kU;refine Aj l ?_;rcases hd with hn | ⟨hn,ha⟩
 ·rw[S7 hn 0 c f];exact H
 ·cases c with
  |nil=>exact H
  |cons g n o=>
   rename_i e a p x' q
   have:hC d (kk.val k) (e::a) 0=none:=by unfold hC;rw[g,hn]
   rw[this];exact UT ha 0 (.cons g n o) f H
theorem N1 {P:mN}{b:mM}{β:Type}{a:Ro β}{φ:AD}{k:κ}{x:β}{es:List MapEntry}{m:List (κ×β)}(i:kk.on P b) (f:J0 kk a φ es m) (g:BX k m=some x):
 ∃j e,es[j]? =some e∧e.key=kk.val k∧a.is φ [e.val] x∧(∀(y:β) (v:mL),a.is φ [v] y→J0 kk a φ (es.modify j λe=>{e with key:=kk.val k,val:=v}) (CA k y m))∧
  ∀(h:AH) (K:Option (Nat×mL)→AH→Prop) (X:mL→AH→Prop),K (some (j,e.val)) h→Ab P (kU b (kk.val k) es) K X h:=by
 have⟨d,l,hd⟩:=kk.desc i;have⟨j,e,n,o,p,q,r,s⟩:=X9 f g;refine⟨j,e,n,o,p,q,λh K X H=> ?_⟩;unfold kU;refine Aj l ?_;rcases hd with hn | ⟨hn,ha⟩
 ·rw[r d hn 0,lL];exact H
 ·cases f with
  |nil=>cases g
  |cons t w z=>
   rename_i u c A x' B
   have:hC d (kk.val k) (u::c) 0=none:=by unfold hC;rw[t,hn]
   rw[this];refine s P b ha 0 h K X ?_;rw[lL];exact H
theorem J0.push {β:Type}{b:Ro β}{φ:AD}{k:κ}{y:β}{e:MapEntry}:∀ {es:List MapEntry}{m:List (κ×β)},J0 kk b φ es m→BX k m=none→e.key=kk.val k→b.is φ [e.val] y→J0 kk b φ (es++ [e]) (CA k y m):=by
 intro es m H
 induction H with
 |nil=>intro _ c d;exact .cons c d .nil
 | @cons j es l x m f g _ h=>
  intro a c d;simp only[BX]at a;split at a
  ·cases a
  ·rename_i i
   simp only[CA,if_neg i];exact .cons f g (h a c d)
section
variable {P:mN}{Q:Bs→AH→Prop}{φ:AD}{h:AH}{Γ:List Chk}
theorem Du {β:Type}(kk:Ky κ) (d:Ro β) {k:Nat→T}(H:St φ Γ h) (a:∀r h',St φ (⟨Rep.kmap kk d,[.map (some r)],[]⟩::Γ) h'→(k r).wp P Q h'):(T.new (.map #[] 0) k).wp P Q h:=by
 refine ZA (a _ _ ?_);have b:=H.sub;refine⟨λi=>i=h.size,⟨h.size,#[],0,rfl,by rw[eE,if_pos rfl],.nil,λ_=>lS⟩,λk a=>⟨?_,λg=>g⟩,?_⟩
 ·subst a;cases hφ:φ h.size with
  |none=>rfl
  |some o=>have:=BC (b _ _ hφ);omega
 ·refine kV (mH H λk a=> ?_) (λk a _=>by rw[eE];simp;omega) λi o c=> ?_
  ·rcases a with a | a
   ·exact a.elim
   ·left;omega
  ·have e:=BC (b i o c);show(h.push _)[i]? =some o;rw[eE,if_neg (by omega)];exact b i o c
theorem Mu {t:mM}{i:TypeInfo}{z:mL}(a:P.info? t=some i) (b:i.zero=some z) {K:mL→AH→Prop}{X:mL→AH→Prop}(H:K z h):Ab P (zeroValue t) K X h:=by
 have c:(zeroValue t)=Sem.program fun d=>((match d.info? t with | some i=>Sem.pure i | none=>stuck "no such type").bind fun i=>match i.zero with | some v=>Sem.pure v | none=>unsupported (.resourceLimit "a value of more than 2^22 cells")):=rfl
 rw[c];simp only[kZ,Ab,a,b];exact H
theorem QZ {a:BP}{l b f:mM}{r:Nat}{k:κ}{m:List (κ×a.Ty)}{ok:Bool}{K:mL→AH→Prop}{X:mL→AH→Prop}(o:P.underlying l=some (.map b f)) (j:kk.on P b)
 {i:TypeInfo} {z:a.Ty} (p:P.info? f=some i) (s:i.zero=some (a.val z)) (H:St φ (⟨Rep.kmap kk (lZ a),[.map (some r)],m⟩::Γ) h) (d:K (if ok then .tuple #[a.val ((BX k m).getD z),.bool (BX k m).isSome] else a.val ((BX k m).getD z)) h):
 Ab P (lM l (.map (some r)) (kk.val k) ok) K X h:=by
 obtain⟨F,⟨y,es,c,e,t,n,A⟩,B,H⟩:=H;cases e;unfold lM;refine Aj o ?_;refine⟨_,t,(λ_ _ _ g=>by cases g),?_⟩;show Ab P (kZ (hM _ 10000 b (kk.val k)) λ_=>kZ (kU b (kk.val k) es.toList) λr=>_) _ _ h;refine An _ _ (kk.ok j (An _ _ ?_));cases hg:BX k m with
 |none=>
  refine N0 j n hg ?_;show Ab P (kZ (zeroValue f) λz=>_) _ _ h;rw[hg]at d;exact An _ _ (Mu p s d)
 |some x=>
  have⟨q,e,C,D,u,_,v⟩:=N1 j n hg;refine v _ _ _ ?_;have w:e.val=a.val x:=by
   have: [e.val] = [a.val x]:=u
   simpa using this
  dsimp only;rw[hg]at d;rw[w];exact d
theorem YA {a:BP}{b c d:mM}{r:Nat}{k:κ}{m:List (κ×a.Ty)}{K:a.Ty×Bool×Unit→T}(z:a.Ty) (e:P.underlying b=some (.map c d)) (f:kk.on P c)
 {i:TypeInfo} (g:P.info? d=some i) (j:i.zero=some (a.val z)) (H:St φ (⟨Rep.kmap kk (lZ a),[.map (some r)],m⟩::Γ) h) (l:∀y:a.Ty×Bool×Unit,y=((BX k m).getD z,(BX k m).isSome,())→(K y).wp P Q h):
 (mI (lM b (.map (some r)) (kk.val k) true) (.tuple [.atom a,.atom .bool]) K).wp P Q h:=
 t_sem (QZ e f g j H (ok:=true) ⟨((BX k m).getD z,(BX k m).isSome,()),rfl,l _ rfl⟩)
theorem HR {a:BP}{b c d:mM}{r:Nat}{k:κ}{m:List (κ×a.Ty)}{K:a.Ty→T}(z:a.Ty) (e:P.underlying b=some (.map c d)) (f:kk.on P c)
 {i:TypeInfo} (g:P.info? d=some i) (j:i.zero=some (a.val z)) (H:St φ (⟨Rep.kmap kk (lZ a),[.map (some r)],m⟩::Γ) h) (l:(K ((BX k m).getD z)).wp P Q h):
 (mI (lM b (.map (some r)) (kk.val k) false) (.one (.atom a)) K).wp P Q h:=
 t_sem (QZ e f g j H (ok:=false) ⟨(BX k m).getD z,rfl,l⟩)
theorem Ki {β:Type}{f:Ro β}{z j D:mM}{r:Nat}{k:κ}{m:List (κ×β)}{y:β}{v:mL}{K:Unit→T}(E:P.underlying z=some (.map j D)) (b:kk.on P j)
 (H:St φ (⟨Rep.kmap kk f,[.map (some r)],m⟩::Γ) h) (A:f.is φ [v] y) (G:∀h',St φ (⟨Rep.kmap kk f,[.map (some r)],CA k y m⟩::Γ) h'→(K ()).wp P Q h'):
 (mI (kZ (lX z (.map (some r)) (kk.val k) v) λ_=>.pure undef) (.tuple []) K).wp P Q h:=by
 obtain⟨F,⟨S,es,c,e,l,p,B⟩,C,H⟩:=H;cases e;have I:=H.sub;have key:∀(a:Array MapEntry) (n:Nat),J0 kk f φ a.toList (CA k y m)→(K ()).wp P Q (h.setIfInBounds r (.map a n)):=λa n s=>by
  have t:=BC l;have d:∀k,¬F k→(h.setIfInBounds r (Obj.map a n))[k]? =h[k]? :=λk b=>kF λe=>b ((B k).2 e.symm);refine G _ ⟨F,⟨r,a,n,rfl,?_,s,B⟩,C,kV H (λk _ J=>d k λg=>J (.inr g)) λi o u=> ?_⟩
  ·rw[kH,if_pos rfl,if_pos t]
  ·show(h.setIfInBounds r _)[i]? =some o;rw[d i λg=>by rw[(C i g).1]at u;cases u];exact I i o u
 refine t_sem<|An _ _ ?_;unfold lX;refine Aj E ?_;refine⟨_,l,(λ_ _ _ g=>by cases g),?_⟩;show Ab P (kZ (hM _ 10000 j (kk.val k)) λ_=>kZ (kU j (kk.val k) es.toList) λr=>_) _ _ h;refine An _ _ (kk.ok b (An _ _ ?_));cases hg:BX k m with
 |none=>
  refine N0 b p hg ?_;dsimp only;refine⟨⟨_,l,(λ_ _ _ g=>by cases g)⟩,(),rfl,key _ _ ?_⟩;rw[Array.toList_push];exact p.push hg rfl A
 |some x=>
  have⟨q,e,L,M,U,N,O⟩:=N1 b p hg;refine O _ _ _ ?_;have R:es[q]? =some e:=by simpa using L
  have w:lD ((lQ (λx=>x.key) es[q]?).getD (kk.val k)) (kk.val k)=Sem.pure (kk.val k):=by
   rw[R];dsimp only[lQ,Option.getD];rw[M];unfold lD;rw[kk.bits];rfl
  show Ab P (kZ (lD ((lQ (λx=>x.key) es[q]?).getD (kk.val k)) (kk.val k)) λkey=>setObj r (Obj.map (es.modify q λe=>{e with key,val:=v}) c)) _ _ h;rw[w];refine⟨⟨_,l,(λ_ _ _ g=>by cases g)⟩,(),rfl,key _ _ ?_⟩;rw[Array.toList_modify];exact N y v A
end
end
section
variable {P:mN}{Q:Bs→AH→Prop}{φ:AD}{h:AH}{Γ:List Chk}
theorem DH {a:BP}{vs:List mL}{l:List a.Ty}(H:(lZ a).All φ vs l):vs=l.map a.val:=by
 induction H with
 |nil=>rfl
 |cons h _ b=>have c:_= [_]:=h;rw[c,b];rfl
def Kj (x:Int):Bool:=decide (0≤x) && decide (x<256)
def Ww (l:List Int):Option ByteArray:=if l.all Kj then some ⟨(l.map λx=>lF x.toNat).toArray⟩ else none
theorem St.bytes {ty:mM}{t:Slc}{l:List Int}(H:St φ (⟨hA ty (Ro.int .u8),[.slice t.1 t.2.1 t.2.2],l⟩::Γ) h):l.length=t.2.1∧BH h t.1 (l.map (mJ .u8).val):=by have b:=H.rowLen;obtain⟨vs,c,a⟩:=H.all;rw[DH c]at a;exact⟨b.symm,a⟩
theorem Ro.SliceIs.bytes {t:Slc}{l:List Int}(H:kJ (Ro.int .u8) φ t l) (b:Sub φ (BZ h)):l.length=t.2.1∧BH h t.1 (l.map (mJ .u8).val):=by have c:=H.length;have⟨vs,d,a⟩:=H.heap b;rw[DH d]at a;exact⟨c.symm,a⟩
theorem Vv {c d e:mM}{t:Slc}{l:List Int}{x:ByteArray}{K:ByteArray→T}(j:P.underlying c=some (.slice e)) (k:P.underlying e=some (.int .u8)) (hd:P.underlying d=some .string)
 (g:l.length=t.2.1∧BH h t.1 (l.map (mJ .u8).val)) (a:Ww l=some x) (m:(K x).wp P Q h):(mI (convert c d (.slice t.1 t.2.1 t.2.2)) (.one (.atom .string)) K).wp P Q h:=by
 obtain⟨n,g⟩:=g;unfold Ww at a;split at a
 ·rename_i f
  cases a;have o:l.map (mJ .u8).val=(l.map λx=>lF x.toNat).map λb=>mB .u8 (b.toNat:Int):=by
   rw[List.map_map];refine List.map_congr_left λx a=> ?_
   have:=List.all_eq_true.1 f x a
   simp only[Kj,Bool.and_eq_true,decide_eq_true_eq]at this;show mB .u8 x=mB .u8 _;have e:(lF x.toNat).toNat=x.toNat:=by simp;omega
   rw[show((lF x.toNat).toNat:Int)=x by rw[e];omega]
  rw[o]at g;have i:t.2.1=(l.map λx=>lF x.toNat).length:=by simp[←n]
  refine t_sem ?_;rw[i];exact S1 j k hd g ⟨_,rfl,m⟩
 ·cases a
end
theorem Rg {α:Type}{r:Ro α}{φ:AD}{v:mL}{x:α}(h:r.is φ [v] x):∀n,r.All φ (bO n v) (bO n x):=by
 intro n
 induction n with
 |zero=>exact .nil
 |succ n b=>exact .cons (a:=[v]) h b
def GW {α:Type}(n:Int) (x:α):Option (List α):=if 0≤n∧n≤1073741824 then some (bO n.toNat x) else none
theorem Qa {α:Type}{n:Int}{x:α}{l:List α}(h:GW n x=some l):0≤n∧n≤1073741824∧l=bO n.toNat x:=by
 unfold GW at h;split at h
 ·rename_i g;exact⟨g.1,g.2,(Option.some.inj h).symm⟩
 ·cases h
structure R9 (P:mN) (t elem:mM) (z:mL):Prop where
 st:P.underlying t=some (.slice elem)
 info:∃i,P.info? elem=some i∧i.size=1∧(∃zv,i.zero=some zv∧zv.cells= #[z])∧i.bytes≤4096
section
variable {P:mN}{Q:Bs→AH→Prop}{φ:AD}{h:AH}{Γ:List Chk}
theorem Kk {α:Type}{t b:mM}{z:mL}{r:Ro α}{x:α}{l:List α}{n m:Int}{k:Slc→T}(A:R9 P t b z) (H:St φ Γ h) (G:r.is φ [z] x) (p:m=n) (I:GW n x=some l)
 (J:∀(t:Slc) d,St φ (⟨hA b r,[.slice t.1 t.2.1 t.2.2],l⟩::Γ) d→(k t).wp P Q d):
 (mI (lY t (.int .i64 m) (.int .i64 m)) (.one (.atom .slice)) k).wp P Q h:=by
 subst p;obtain⟨K,E,rfl⟩:=Qa I;obtain⟨i,u,w,⟨y,L,B⟩,O⟩:=A.info;have M:IntKind.i64.wrap m=m:=by
  unfold lA;simp only[IntKind.bits,IntKind.signed];have e:m % 18446744073709551616=m:=by omega
  simp;omega
 have N:(i.bytes:Int) *m≤4096 *1073741824:=by
  have F:(i.bytes:Int) ≤4096:=by omega
  exact Int.mul_le_mul F E K (by decide)
 have o:¬(m<0∨(i.bytes:Int) *m>2 ^ 48):=by
  intro C;rcases C with C | C
  ·omega
  ·have e:(2:Int) ^ 48=281474976710656:=by decide
   omega
 have fin:(k ((some ⟨h.size,0,none⟩,m.toNat,m.toNat):Slc)).wp P Q (h.push (.cells (bO m.toNat z).toArray b (0,0))):=by
  have f:r.All φ (bO m.toNat z) (bO m.toNat x):=Rg G _;have s1:=H.new (ty:=b) (bO m.toNat z);exact J (some ⟨h.size,0,none⟩,m.toNat,m.toNat) _ (St.lit (r:=r) (l:=bO m.toNat x) (n:=m.toNat) s1 f (by simp) (by unfold maxLen;omega))
 have c:∀q:Nat,(lG q).map (λj=>(#[z]:Array mL)[j % (#[z]:Array mL).size]!)=(bO q z).toArray:=by
  intro q;apply Array.ext
  ·simp
  ·intro j E F;simp[Nat.mod_one]
 have rest:∀zero:Array mL,(zero= #[] ∧m.toNat=0)∨zero= #[z] →Ab P (do
  let a ←newRow b ((lG m.toNat).map (zero[· % zero.size]!))
  pure (.slice (some a) m.toNat m.toNat):Sem mL) (λv d=>∃x:Slc,v=((.one (.atom .slice)):Sh).val x∧(k x).wp P Q d) (λ_ _=>False) h:=by
  intro zero D;show Ab P (Sem.new _ _) _ _ h;rcases D with⟨rfl,g⟩|rfl
  ·have e:(lG m.toNat).map (λj=>(#[]:Array mL)[j % (#[]:Array mL).size]!)=(bO m.toNat z).toArray:=by rw[g];simp
   rw[e];exact⟨_,rfl,fin⟩
  ·rw[c];exact⟨_,rfl,fin⟩
 refine t_sem ?_;unfold lY;refine Aj A.st ?_;show Ab P ((typeInfo b).bind _) _ _ h;refine HE u ?_;simp only[M];rw[if_neg (by simp;omega)];show Ab P ((askRoom _).bind _) _ _ h;unfold askRoom;have go:Ab P ((sizeOf b).bind λs=>(if m.toNat *s=0 then(do
  let zero ← (pure #[]:Sem (Array mL))
  let a ←newRow b ((lG (m.toNat *s)).map (zero[· % zero.size]!))
  pure (.slice (some a) m.toNat m.toNat):Sem mL) else do
  let y ←zeroValue b
  let zero ← (pure y.cells:Sem (Array mL))
  let a ←newRow b ((lG (m.toNat *s)).map (zero[· % zero.size]!))
  pure (.slice (some a) m.toNat m.toNat))) (λv d=>∃x:Slc,v=((.one (.atom .slice)):Sh).val x∧(k x).wp P Q d) (λ_ _=>False) h:=by
  refine I7 u ?_;rw[w,Nat.mul_one];by_cases g:m.toNat=0
  ·rw[if_pos g];exact rest #[] (.inl ⟨rfl,g⟩)
  ·rw[if_neg g];show Ab P ((zeroValue b).bind _) _ _ h;refine An _ _ (Mu u L ?_)
   have:=rest y.cells (.inr B)
   exact this
 split
 ·exact go
 ·exact go
end
section
variable {P:mN}{Q:Bs→AH→Prop}{φ:AD}{h:AH}{Γ:List Chk}
end
theorem bS {α β:Type}{o:Option α}{f:α→Option β}{x:β}(h:o.bind f=some x):∃a,o=some a∧f a=some x:=Option.bind_eq_some_iff.1 h
theorem iS {α:Type}{a b:α}(h:some a=some b):a=b:=Option.some.inj h
abbrev sv (t:Slc):mL:=.slice t.1 t.2.1 t.2.2
abbrev pv (b:Nat):mL:=.pointer (some ⟨b,0,none⟩)
abbrev cR {α:Type}(e:mM) (r:Ro α) (t:Slc) (l:List α):Chk:=⟨hA e r,[.slice t.1 t.2.1 t.2.2],l⟩
abbrev cO {α:Type}(e:mM) (R:Rep α) (p:Option mO) (x:α):Chk:=⟨lK e R,[.pointer p],x⟩
abbrev cW (e:mM) (b:Nat) (vs:List mL):Chk:=⟨kI e,[.pointer (some ⟨b,0,none⟩)],vs⟩
abbrev cM {κ β:Type}[DecidableEq κ] (kk:Ky κ) (a:Ro β) (r:Nat) (m:List (κ×β)):Chk:=⟨Rep.kmap kk a,[.map (some r)],m⟩
abbrev Ro.slc:Ro Slc:=lZ .slice
def Pt {α:Type}(r:Ro α) (φ:AD) (p:Option mO) (x:α):Prop:= ∃a vs,p=some a∧r.is φ vs x∧DC φ (some a) vs
theorem Pt.mono {α:Type}{r:Ro α}{φ ψ:AD}{p:Option mO}{x:α}(H:Pt r φ p x) (b:Sub φ ψ):Pt r ψ p x:=by obtain⟨a,vs,e,c,d⟩:=H;exact⟨a,vs,e,r.mono b c,d.mono b⟩
def Np {α:Type}(r:Ro α) (φ:AD) (p:Option mO) (x:Option α):Prop:=match x with
 |none=>p=none
 |some x=>Pt r φ p x
theorem Np.mono {α:Type}{r:Ro α}{φ ψ:AD}{p:Option mO}{x:Option α}(H:Np r φ p x) (a:Sub φ ψ):Np r ψ p x:=by
 cases x with
 |none=>exact H
 |some x=>exact Pt.mono H a
theorem Np.nil {α:Type}{r:Ro α}{φ:AD}{p:Option mO}{x:Option α}(H:Np r φ p x):p.isNone=x.isNone:=by
 cases x with
 |none=>rw[show p=none from H];rfl
 |some x=>obtain⟨a,vs,rfl,_⟩:=H;rfl
theorem Np.get {α:Type}{r:Ro α}{φ:AD}{p:Option mO}{x:Option α}{y:α}(H:Np r φ p x) (e:x=some y):Pt r φ p y:=by subst e;exact H
theorem Np.none {α:Type}(r:Ro α) (φ:AD):Np r φ Option.none (Option.none:Option α):=rfl
section
variable {P:mN}{Q:Bs→AH→Prop}{φ:AD}{h:AH}{Γ:List Chk}
theorem AG {ty:mM}{b j:Nat}{vs:List mL}{v:mL}{k:T}(H:St φ (⟨kI ty,[.pointer (some ⟨b,0,none⟩)],vs⟩::Γ) h) (a:lW v=true) (c:Nat.blt j vs.length=true)
 (d:∀h',St φ (cW ty b (vs.set j v)::Γ) h'→k.wp P Q h'):(mC ⟨b,j,none⟩ v k).wp P Q h:=
 Cj H a (lO c) d
theorem Kl {ty:mM}{vs:List mL}{k:Nat→T}(H:St φ Γ h) (d:∀r h',(∀a v,BJ h a=some v→BJ h' a=some v)→St φ (cW ty r vs::Γ) h'→(k r).wp P Q h'):(T.new (.cells vs.toArray ty (0,0)) k).wp P Q h:=
 ZA (d _ _ (λa v b=>by
  rw[←M8]at b ⊢;refine Aq (λi o c=> ?_) b
  have:=BC c
  show(h.push _)[i]? =some o;rw[eE,if_neg (by omega)];exact c) (H.new vs))
theorem St.shutR {α:Type}{ty:mM}{r:Ro α}{cs vs:List mL}{x:α}(H:St φ (⟨kI ty,cs,vs⟩::Γ) h) (a:r.is φ vs x):St φ (⟨lK ty (mA r),cs,x⟩::Γ) h:=
 St.shut (St.at1 (St.unro (r:=r) H a))
theorem St.openR {α:Type}{ty:mM}{r:Ro α}{p:Option mO}{x:α}(H:St φ (⟨lK ty (mA r),[.pointer p],x⟩::Γ) h):
 ∃b vs,p=some ⟨b,0,none⟩∧r.is φ vs x∧St φ (cW ty b vs::Γ) h:=by obtain⟨b,vs,e,_,s⟩:=H.open;have⟨a,c⟩:=St.ro s.at1;exact⟨b,vs,by simpa using e,a,c⟩
theorem St.at10 {b c1 c2 c d e f g i j a:Chk}(H:St φ (b::c1::c2::c::d::e::f::g::i::j::a::Γ) h):St φ (a::b::c1::c2::c::d::e::f::g::i::j::Γ) h:=H.perm (BK 10 (b::c1::c2::c::d::e::f::g::i::j::a::Γ))
theorem St.at11 {c c1 c2 d e f g i j k a b:Chk}(H:St φ (c::c1::c2::d::e::f::g::i::j::k::a::b::Γ) h):St φ (b::c::c1::c2::d::e::f::g::i::j::k::a::Γ) h:=H.perm (BK 11 (c::c1::c2::d::e::f::g::i::j::k::a::b::Γ))
theorem St.at12 {d c1 c2 e f g i j k l a b c:Chk}(H:St φ (d::c1::c2::e::f::g::i::j::k::l::a::b::c::Γ) h):St φ (c::d::c1::c2::e::f::g::i::j::k::l::a::b::Γ) h:=H.perm (BK 12 (d::c1::c2::e::f::g::i::j::k::l::a::b::c::Γ))
theorem St.at14 {f c1 c2 g i j k l m n a b c d e:Chk}(H:St φ (f::c1::c2::g::i::j::k::l::m::n::a::b::c::d::e::Γ) h):St φ (e::f::c1::c2::g::i::j::k::l::m::n::a::b::c::d::Γ) h:=H.perm (BK 14 (f::c1::c2::g::i::j::k::l::m::n::a::b::c::d::e::Γ))
theorem St.at15 {g c1 c2 i j k l m n o a b c d e f:Chk}(H:St φ (g::c1::c2::i::j::k::l::m::n::o::a::b::c::d::e::f::Γ) h):St φ (f::g::c1::c2::i::j::k::l::m::n::o::a::b::c::d::e::Γ) h:=H.perm (BK 15 (g::c1::c2::i::j::k::l::m::n::o::a::b::c::d::e::f::Γ))
theorem St.at16 {i c1 c2 j k l m n o p a b c d e f g:Chk}(H:St φ (i::c1::c2::j::k::l::m::n::o::p::a::b::c::d::e::f::g::Γ) h):St φ (g::i::c1::c2::j::k::l::m::n::o::p::a::b::c::d::e::f::Γ) h:=H.perm (BK 16 (i::c1::c2::j::k::l::m::n::o::p::a::b::c::d::e::f::g::Γ))
theorem St.freezeR {α:Type}{ty:mM}{R:Rep α}{r:Ro α}{p:Option mO}{x:α}(b:Frz R r) (H:St φ (⟨lK ty R,[.pointer p],x⟩::Γ) h):∃ψ,Sub φ ψ∧Pt r ψ p x∧St ψ Γ h:=by obtain⟨ψ,c,⟨a,vs,e,d,f⟩,g⟩:=St.freeze (cA b) H;exact⟨ψ,c,⟨a,vs,by simpa using e,d,f⟩,g⟩
theorem Ro.All.setCell {α:Type}{r:Ro α}{x x':α}{j:Nat}{v:mL}(g:∀cs,r.is φ cs x→r.is φ (cs.set j v) x') (n:j<r.sz) {vs:List mL}{l:List α}(c:r.All φ vs l):∀i:Nat,l[i]? =some x→r.All φ (vs.set (i *r.sz+j) v) (l.set i x'):=by
 induction c with
 |nil=>intro i d;simp at d
 | @cons a b y l f h k=>
  intro i d;have m:=r.len f;cases i with
  |zero=>
   simp only[lJ,Option.some.injEq]at d;subst d;rw[Nat.zero_mul,lL,List.set_append_left _ _ (by omega)];exact .cons (g _ f) h
  |succ i=>
   have e:(i+1) *r.sz+j=a.length+(i *r.sz+j):=by rw[m,Nat.add_mul];omega
   rw[e,List.set_append_right _ _ (by omega),lI];exact .cons f (k i (by simpa using d))
theorem Qb {α:Type}{ty:mM}{r:Ro α}{t:Slc}{l m:List α}{i:Int}{x x':α}{v:mL}{k:T}{a A:mO}{j:Nat}(H:St φ (⟨hA ty r,[.slice t.1 t.2.1 t.2.2],l⟩::Γ) h) (V:idx l i=some x) (W:Ea l i x'=some m)
 (X:∀cs,r.is φ cs x→r.is φ (cs.set j v) x') (C:Nat.blt j r.sz=true) (D:lW v=true) (L:t.1=some a) (Y:A=a.add (i.toNat *r.sz+j))
 (E:∀h',St φ (cR ty r t m::Γ) h'→k.wp P Q h'):(mC A v k).wp P Q h:=by
 have C:j<r.sz:=lO C;obtain⟨F,⟨p,n,c,vs,e,G,Z,I,w,y,M⟩,N,H⟩:=H;have G:l.length=n:=G;simp only[List.cons.injEq,Value.slice.injEq,and_true]at e;obtain⟨O,e2,e3⟩:=e;obtain⟨h0,h1,rfl⟩:=Eb W;obtain⟨_,_,J⟩:=CU V;rw[O]at L;subst L;subst Y;rcases w with⟨K,_⟩|⟨b,off,arr,K,hb,g1,R,g3,g4⟩
 ·cases K
 ·cases K;have a0:i.toNat *r.sz+j<n *r.sz:=by
   have:i.toNat+1≤n:=by omega
   have:=kY r.sz this
   rw[Nat.add_mul]at this;omega
  have a1:n *r.sz≤c *r.sz:=kY _ R;have a2:off+(i.toNat *r.sz+j) <arr.size:=by omega
  rw[DB];have z:=H4 (off:=off+(i.toNat *r.sz+j)) (v:=v) hb;refine Sz D ?_ ?_ (E _ ?_)
  ·rw[GT (c:=arr) (t:=ty) (f:=(0,0)) hb rfl];simp;omega
  ·unfold HC D3 lH;simp[hb]
  ·have hs:=H.sub;have B:∀k,¬F k→(CT h ⟨b,off+(i.toNat *r.sz+j),none⟩ v)[k]? =h[k]? :=λk E=>GS λe=>E ((M k).2 (by simp[blk];exact e));refine⟨F,⟨some ⟨b,off,none⟩,n,c,vs.set (i.toNat *r.sz+j) v,by dsimp only;rw[O,e2,e3],by simp;exact G,Z,(λb' S s' e=>by cases e;have⟨q1,q2⟩:=I _ _ _ rfl;exact⟨q1,λU a3 f' d=>by rw[z]at d;cases d;rw[kO];exact q2 _ _ _ hb⟩),.inr ⟨b,off,_,rfl,z,by rw[List.length_set];exact g1,R,by rw[kO];exact g3,λq u s=> ?_⟩,Ro.All.setCell X C y i.toNat J,M⟩,N,kV H (λk _ hX=>B k λg=>hX (.inr g)) λq o w=> ?_⟩
   ·rw[lT]at s;split at s
    ·rename_i hq
     subst hq;split at s
     ·cases s;rw[kH];simp;omega
     ·cases s
    ·rw[kF (by omega)];exact g4 q u s
   ·show(CT h _ v)[q]? =some o;rw[B q λg=>by rw[(N q g).1]at w;cases w];exact hs q o w
end
end Go.Eng
