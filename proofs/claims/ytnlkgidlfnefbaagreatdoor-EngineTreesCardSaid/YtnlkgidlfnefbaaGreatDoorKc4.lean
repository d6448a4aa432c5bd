/- The parts EngL to Ty, put together. Conditions: each tells its own. -/
import Derived.Test.YtnlkgidlfnefbaaGreatDoorKc3
open Go.Eng.Ro renaming prod → bD,list → bO,int → eE,SliceIs → hA,str → hC,atom → kQ,bool → kV
open Go.Eng.T renaming load → hM,still → kU
open Int renaming toNat → kF
open Go.Eng.St renaming unpair → kG,unro → kJ,shut → lA
open Go.Eng.Rep renaming prod → kH,row → kI,ro → kO
open List renaming getElem?_cons_zero → kK,zipWith → kL,length_take → kW
open Go.Eng.StX renaming less → kT
open List.Perm renaming refl → kX,cons → kY,swap → kZ
open Go renaming TypeId → lB,Addr → lC
namespace Go.Eng
open Go
def HW (φ:AD) (h:AH):List Chk→FE→Prop
 | [],F=>∀k,¬F k
 |c::Γ,F=>∃A B:FE,c.on φ h A∧HW φ h Γ B∧(∀k,A k→B k→False)∧ ∀k,F k↔A k∨B k
theorem HW.mono {φ ψ:AD}{h:AH}(a:Sub φ ψ):∀ {Γ:List Chk}{F:FE},HW φ h Γ F→HW ψ h Γ F:=by
 intro Γ
 induction Γ with
 |nil=>intro F H;exact H
 |cons c Γ ih=>intro F ⟨A,B,b,d,e,f⟩;exact⟨A,B,c.R.mono a b,ih d,e,f⟩
theorem HW.loc {φ:AD}{h d:AH}:∀ {Γ:List Chk}{F:FE},(∀k,F k→d[k]? =h[k]?)→HW φ h Γ F→HW φ d Γ F:=by
 intro Γ
 induction Γ with
 |nil=>intro F _ H;exact H
 |cons c Γ ih=>
  intro F e ⟨A,B,f,g,i,a⟩;exact⟨A,B,c.R.loc (λk b=>e k ((a k).2 (.inl b))) f,ih (λk b=>e k ((a k).2 (.inr b))) g,i,a⟩
theorem HW.lt {φ:AD}{h:AH}:∀ {Γ:List Chk}{F:FE},HW φ h Γ F→ ∀k,F k→k<h.size:=by
 intro Γ
 induction Γ with
 |nil=>intro F H k a;exact(H k a).elim
 |cons c Γ ih=>
  intro F ⟨A,B,b,d,f,e⟩ k a;rcases(e k).1 a with g | g
  ·exact c.R.lt b k g
  ·exact ih d k g
structure Pk (α:Type) where
 sz:Nat
 L:AD→List Value→α→List Chk→Prop
 len:∀ {φ cs x Γ},L φ cs x Γ→cs.length=sz
 mono:∀ {φ ψ cs x Γ},Sub φ ψ→L φ cs x Γ→L ψ cs x Γ
 plain:∀ {φ cs x Γ},L φ cs x Γ→ ∀v∈cs,Value.plain v=true
def Rep.pack {α:Type}(p:Pk α):Rep α where
 sz:=p.sz
 is φ h F cs x:= ∃Γ,p.L φ cs x Γ∧HW φ h Γ F
 len h:=by obtain⟨Γ,a,_⟩:=h;exact p.len a
 mono hs h:=by obtain⟨Γ,a,b⟩:=h;exact⟨Γ,p.mono hs a,b.mono hs⟩
 loc hl h:=by obtain⟨Γ,a,b⟩:=h;exact⟨Γ,a,b.loc hl⟩
 lt h:=by obtain⟨Γ,a,b⟩:=h;exact b.lt
 plain h:=by obtain⟨Γ,a,_⟩:=h;exact p.plain a
theorem StX.pieces {φ:AD}{h:AH}{Δ:List Chk}:∀ {Γ:List Chk}{X:FE},StX φ h (Γ++Δ) X↔∃F,HW φ h Γ F∧(∀k,F k→φ k=none∧ ¬X k)∧StX φ h Δ (λk=>X k∨F k):=by
 intro Γ
 induction Γ with
 |nil=>
  intro X;constructor
  ·intro H;exact⟨λ_=>False,λk a=>a,λk a=>a.elim,kT H λk a=>a.elim id False.elim⟩
  ·rintro⟨F,_,_,H⟩;exact kT H λk a=>.inl a
 |cons c Γ ih=>
  intro X;constructor
  ·rintro⟨A,g,e,H⟩;have⟨B,i,f,b⟩:=ih.1 H;refine⟨λk=>A k∨B k,⟨A,B,g,i,λk j l=>(f k l).2 (.inr j),λk=>Iff.rfl⟩,λk a=> ?_,kT b λk a=> ?_⟩
   ·rcases a with a | a
    ·exact e k a
    ·exact⟨(f k a).1,λd=>(f k a).2 (.inl d)⟩
   ·rcases a with a | a | a
    ·exact .inl (.inl a)
    ·exact .inl (.inr a)
    ·exact .inr a
  ·rintro⟨F,⟨A,B,g,i,f,b⟩,e,H⟩;refine⟨A,g,λk a=>e k ((b k).2 (.inl a)),ih.2 ⟨B,i,λk a=>⟨(e k ((b k).2 (.inr a))).1,λd=> ?_⟩,kT H λk a=> ?_⟩⟩
   ·rcases d with d | d
    ·exact(e k ((b k).2 (.inr a))).2 d
    ·exact f k d a
   ·rcases a with(a | a)|a
    ·exact .inl a
    ·exact .inr ((b k).2 (.inl a))
    ·exact .inr ((b k).2 (.inr a))
theorem St.unpack {α:Type}{p:Pk α}{φ:AD}{h:AH}{cs:List Value}{x:α}{Δ:List Chk}(H:St φ (⟨Rep.pack p,cs,x⟩::Δ) h):∃Γ,p.L φ cs x Γ∧St φ (Γ++Δ) h:=by obtain⟨F,⟨Γ,a,b⟩,c,H⟩:=H;exact⟨Γ,a,StX.pieces.2 ⟨F,b,c,H⟩⟩
theorem St.pack {α:Type}{p:Pk α}{φ:AD}{h:AH}{cs:List Value}{x:α}{Γ Δ:List Chk}(a:p.L φ cs x Γ) (H:St φ (Γ++Δ) h):St φ (⟨Rep.pack p,cs,x⟩::Δ) h:=by have⟨F,b,c,H⟩:=StX.pieces.1 H;exact⟨F,⟨Γ,a,b⟩,c,H⟩
def Ro.at {α:Type}(r:Ro α):Ro α where
 sz:=1
 is φ cs x:= ∃p,cs= [.pointer p] ∧Pt r φ p x
 len h:=by obtain⟨p,rfl,_⟩:=h;rfl
 mono hs h:=by obtain⟨p,e,h⟩:=h;exact⟨p,e,h.mono hs⟩
 plain h v hv:=by obtain⟨p,rfl,_⟩:=h;simp at hv;subst hv;rfl
def Ro.anyP:Ro Unit where
 sz:=1
 is _ cs _:= ∃p,cs= [.pointer p]
 len h:=by obtain⟨p,rfl⟩:=h;rfl
 mono _ h:=h
 plain h v hv:=by obtain⟨p,rfl⟩:=h;simp at hv;subst hv;rfl
abbrev Ro.map:Ro (Option Nat):=kQ .map
theorem YB {α β:Type}{f:α→β→Chk}:∀ {ps:List α}{ss:List β}{i:Nat}{p:α}{s:β},ps[i]? =some p→ss[i]? =some s→
 ∃rest,(kL f ps ss).Perm (f p s::rest)∧ ∀a s',(kL f (ps.set i a) (ss.set i s')).Perm (f a s'::rest):=by
 intro ps
 induction ps with
 |nil=>intro ss i p s h;simp at h
 |cons q ps d=>
  intro ss i p s c b;cases ss with
  |nil=>simp at b
  |cons t ss=>
   cases i with
   |zero=>
    simp only[kK,Option.some.injEq]at c b;subst c b;exact⟨kL f ps ss,kX _,λa s'=>kX _⟩
   |succ i=>
    obtain⟨rest,e,g⟩:=d (by simpa using c) (by simpa using b);exact⟨f q t::rest,(kY _ e).trans (kZ _ _ _),λa s'=>(kY _ (g a s')).trans (kZ _ _ _)⟩
abbrev SA {α:Type}(e:lB) (r:Ro α) (ts:List Slc) (ls:List (List α)):List Chk:=kL (cR e r) ts ls
theorem St.freezeRows {α:Type}{e:lB}{r:Ro α}:∀ {ts:List Slc}{ls:List (List α)}{φ:AD}{h:AH}{F:List Chk},ts.length=ls.length→St φ (SA e r ts ls++F) h→
 ∃ψ,Sub φ ψ∧(∀(i:Nat) t l,ts[i]? =some t→ls[i]? =some l→hA r ψ t l)∧St ψ F h:=by
 intro ts
 induction ts with
 |nil=>
  intro ls φ h F b H;cases ls with
  |nil=>exact⟨φ,Sub.refl _,λi t l h=>by simp at h,H⟩
  |cons _ _=>cases b
 |cons t ts g=>
  intro ls φ h F b H;cases ls with
  |nil=>cases b
  |cons l ls=>
   have⟨p,c,j,s1⟩:=St.freezeRow (t:=t) H;obtain⟨k,a,m,n⟩:=g (by simpa using b) s1;refine⟨k,c.trans a,λi o l' d f=> ?_,n⟩;cases i with
   |zero=>
    simp only[kK,Option.some.injEq]at d f;subst d f;exact j.mono a
   |succ i=>exact m i o l' (by simpa using d) (by simpa using f)
section
variable {P:Program}{Q:Bs→AH→Prop}{h:AH}{φ ψ:AD}{Γ:List Chk}
theorem SC {a:BP}{t:Slc}{l:List a.Ty}{i:Int}{x:a.Ty}{K:a.Ty→T}(k:hA (kQ a) φ t l) (b:idx l i=some x) (c:Sub φ (BZ h)) (d:(K x).wp P Q h):
 (deref t.1 λA=>chk (0≤i∧i< (t.2.1:Nat))<|hM a (A.add (kF i *1)) K).wp P Q h:=by have⟨m,cs,e,f,g,j⟩:=k.get b;refine AF _ e (Am f ?_);obtain rfl:cs= [a.val x]:=g;exact AL (x:=x) (AM c (j 0 _ rfl)) rfl d
theorem ZF {α:Type}{r:Ro α}{t:Slc}{l:List (List α)}{i:Int}{x:List α}{K:Slc→T}(k:hA (bO r) φ t l) (a:idx l i=some x) (b:Sub φ (BZ h)) (c:∀u,hA r φ u x→(K u).wp P Q h):
 (deref t.1 λA=>chk (0≤i∧i< (t.2.1:Nat))<|hM .slice (A.add (kF i *1)) K).wp P Q h:=by have⟨m,cs,d,e,f,g⟩:=k.get a;refine AF _ d (Am e ?_);obtain⟨u,rfl,j⟩:=f;exact AL (x:=u) (AM b (g 0 _ rfl)) rfl (c u j)
theorem Qc {a:BP}{ty:lB}{t:Slc}{l:List a.Ty}{i:Int}{x:a.Ty}{K:a.Ty→T}(H:St φ (cR ty (kQ a) t l::Γ) h) (b:idx l i=some x) (c:(K x).wp P Q h):
 (deref t.1 λA=>chk (0≤i∧i< (t.2.1:Nat))<|hM a (A.add (kF i *1)) K).wp P Q h:=by have⟨j,cs,d,e,f,g⟩:=St.get H b;refine AF _ d (Am e ?_);obtain rfl:cs= [a.val x]:=f;exact AL (x:=x) (g 0 _ rfl) rfl c
end
theorem sb {φ ψ:AD}(le:Sub φ ψ:=by repeat first | exact Sub.refl _ | assumption | refine Sub.trans ?_ (by assumption)):Sub φ ψ:=le
theorem Ro.SliceIs.up {α:Type}{r:Ro α}{φ ψ:AD}{t:Slc}{l:List α}(k:Ro.SliceIs r φ t l) (le:Sub φ ψ:=by repeat first | exact Sub.refl _ | assumption | refine Sub.trans ?_ (by assumption)):Ro.SliceIs r ψ t l:=k.mono le
theorem Pt.up {α:Type}{r:Ro α}{φ ψ:AD}{p:Option Addr}{x:α}(k:Pt r φ p x) (le:Sub φ ψ:=by repeat first | exact Sub.refl _ | assumption | refine Sub.trans ?_ (by assumption)):Pt r ψ p x:=k.mono le
theorem Np.up {α:Type}{r:Ro α}{φ ψ:AD}{p:Option Addr}{x:Option α}(k:Np r φ p x) (le:Sub φ ψ:=by repeat first | exact Sub.refl _ | assumption | refine Sub.trans ?_ (by assumption)):Np r ψ p x:=k.mono le
def Lf {α:Type}(ro:Ro α) (j:Nat) (a:BP) (R:AD→a.Ty→α→Prop):Prop:= ∀φ cs x,ro.is φ cs x→ ∃v:a.Ty,cs[j]? =some (a.val v)∧R φ v x
theorem Lf.tl {α β:Type}{b:Ro β}{ro:Ro α}{j:Nat}{a:BP}{R:AD→a.Ty→α→Prop}(L:Lf ro j a R) (c:b.sz=1:=by rfl):Lf (bD b ro) (j+1) a (λφ v x=>R φ v x.2):=λφ cs x h=>by
 obtain⟨k,c1,rfl,d,e⟩:=h;have⟨v,f,g⟩:=L φ c1 x.2 e;have i:=b.len d;exact⟨v,by rw[List.getElem?_append_right (by omega),i,c];exact f,g⟩
theorem Lf.hd {α β:Type}{b:Ro β}{ro:Ro α}{a:BP}{R:AD→a.Ty→β→Prop}(L:Lf b 0 a R):Lf (bD b ro) 0 a (λφ v x=>R φ v x.1):=λφ cs x h=>by
 obtain⟨d,c1,rfl,e,g⟩:=h;have⟨v,c,f⟩:=L φ d x.1 e;exact⟨v,by rw[List.getElem?_append_left (List.getElem?_eq_some_iff.1 c).1];exact c,f⟩
theorem Lf.a (a:BP):Lf (kQ a) 0 a (λ_ v x=>v=x):=λφ cs x h=>⟨x,by obtain rfl:cs=_:=h;rfl,rfl⟩
theorem Lf.l {α:Type}(r:Ro α):Lf (bO r) 0 .slice (λφ v x=>hA r φ v x):=λφ cs x h=>by
 obtain⟨t,rfl,k⟩:=h;exact⟨t,rfl,k⟩
theorem Lf.p {α:Type}(r:Ro α):Lf (Ro.at r) 0 .pointer (λφ v x=>Pt r φ v x):=λφ cs x h=>by
 obtain⟨t,rfl,k⟩:=h;exact⟨t,rfl,k⟩
section
variable {P:Program}{Q:Bs→AH→Prop}{h:AH}{φ ψ:AD}{Γ:List Chk}{α β:Type}{ro:Ro α}{j:Nat}{a:BP}
theorem ixR {R:AD→a.Ty→α→Prop}(L:Lf ro j a R) {t:Slc}{l:List α}{i:Int}{f:α→Option β}{r:β}{K:a.Ty→T}(k:Ro.SliceIs ro φ t l) (hd:(idx l i).bind f=some r) (s:St ψ Γ h) (b:∀x v,R φ v x→f x=some r→(K v).wp P Q h) (le:Sub φ ψ:=by repeat first | exact Sub.refl _ | assumption | refine Sub.trans ?_ (by assumption)):
 (deref t.1 λA=>chk (0≤i∧i< (t.2.1:Nat))<|hM a ((A.add (kF i *ro.sz)).add j) K).wp P Q h:=by have⟨x,c,hd⟩:=bS hd;have⟨A,cs,d,e,q,g⟩:=k.get c;have⟨v,m,n⟩:=L φ cs x q;exact AF _ d (Am e (AL (x:=v) (by rw[Ac];exact AM (le.trans s.sub) (g j _ m)) rfl (b x v n hd)))
theorem ixS {g:α→a.Ty}(L:Lf ro j a (λ_ v x=>v=g x)) {t:Slc}{l:List α}{i:Int}{f:α→Option β}{r:β}{K:a.Ty→T}(k:Ro.SliceIs ro φ t l) (hd:(idx l i).bind f=some r) (s:St ψ Γ h) (b:∀x,f x=some r→(K (g x)).wp P Q h) (le:Sub φ ψ:=by repeat first | exact Sub.refl _ | assumption | refine Sub.trans ?_ (by assumption)):
 (deref t.1 λA=>chk (0≤i∧i< (t.2.1:Nat))<|hM a ((A.add (kF i *ro.sz)).add j) K).wp P Q h:=ixR L k hd s (λx v e hd=>by rw[e];exact b x hd) le
theorem Rh {g:α→a.Ty}(L:Lf ro 0 a (λ_ v x=>v=g x)) {t:Slc}{l:List α}{i:Int}{f:α→Option β}{r:β}{K:a.Ty→T}(k:Ro.SliceIs ro φ t l) (hd:(idx l i).bind f=some r) (s:St ψ Γ h) (b:∀x,f x=some r→(K (g x)).wp P Q h) (le:Sub φ ψ:=by repeat first | exact Sub.refl _ | assumption | refine Sub.trans ?_ (by assumption)):
 (deref t.1 λA=>chk (0≤i∧i< (t.2.1:Nat))<|hM a (A.add (kF i *ro.sz)) K).wp P Q h:=ixS L k hd s b le
theorem ioR {ty:lB}{R:AD→a.Ty→α→Prop}(L:Lf ro j a R) {t:Slc}{l:List α}{i:Int}{f:α→Option β}{r:β}{K:a.Ty→T}(s:St φ (cR ty ro t l::Γ) h) (hd:(idx l i).bind f=some r) (b:∀x v,R φ v x→f x=some r→(K v).wp P Q h):
 (deref t.1 λA=>chk (0≤i∧i< (t.2.1:Nat))<|hM a ((A.add (kF i *ro.sz)).add j) K).wp P Q h:=by have⟨x,c,hd⟩:=bS hd;have⟨A,cs,d,e,q,g⟩:=s.get c;have⟨v,k,m⟩:=L φ cs x q;exact AF _ d (Am e (AL (x:=v) (by rw[Ac];exact g j _ k) rfl (b x v m hd)))
theorem ioS {ty:lB}{g:α→a.Ty}(L:Lf ro j a (λ_ v x=>v=g x)) {t:Slc}{l:List α}{i:Int}{f:α→Option β}{r:β}{K:a.Ty→T}(s:St φ (cR ty ro t l::Γ) h) (hd:(idx l i).bind f=some r) (b:∀x,f x=some r→(K (g x)).wp P Q h):
 (deref t.1 λA=>chk (0≤i∧i< (t.2.1:Nat))<|hM a ((A.add (kF i *ro.sz)).add j) K).wp P Q h:=ioR L s hd λx v e hd=>by rw[e];exact b x hd
theorem iD {ty:lB}{g:α→a.Ty}(L:Lf ro 0 a (λ_ v x=>v=g x)) {t:Slc}{l:List α}{i:Int}{f:α→Option β}{r:β}{K:a.Ty→T}(s:St φ (cR ty ro t l::Γ) h) (hd:(idx l i).bind f=some r) (b:∀x,f x=some r→(K (g x)).wp P Q h):
 (deref t.1 λA=>chk (0≤i∧i< (t.2.1:Nat))<|hM a (A.add (kF i *ro.sz)) K).wp P Q h:=ioS L s hd b
theorem YC {a b:BP}{t:Slc}{l:List (a.Ty×b.Ty)}{i:Int}{f:a.Ty×b.Ty→Option β}{r:β}{K:a.Ty→b.Ty→T}(k:Ro.SliceIs (Ro.prod (Ro.atom a) (Ro.atom b)) φ t l) (hd:(idx l i).bind f=some r) (s:St ψ Γ h) (d:∀x,f x=some r→(K x.1 x.2).wp P Q h) (le:Sub φ ψ:=by repeat first | exact Sub.refl _ | assumption | refine Sub.trans ?_ (by assumption)):
 (deref t.1 λA=>chk (0≤i∧i< (t.2.1:Nat))<|hM a (A.add (kF i *2)) λu=>hM b ((A.add (kF i *2)).add 1) λv=>K u v).wp P Q h:=by have⟨x,e,hd⟩:=bS hd;obtain⟨A,_,g,j,⟨_,_,rfl,rfl,rfl⟩,c⟩:=k.get e;exact AF _ g (Am j (AL (x:=x.1) (AM (le.trans s.sub) (c 0 _ rfl)) rfl (AL (x:=x.2) (by rw[Ac];exact AM (le.trans s.sub) (c 1 _ rfl)) rfl (d x hd))))
theorem cC {a b c:BP}{t:Slc}{l:List (a.Ty×b.Ty×c.Ty)}{i:Int}{f:a.Ty×b.Ty×c.Ty→Option β}{r:β}{K:a.Ty→b.Ty→c.Ty→T}(k:Ro.SliceIs (Ro.prod (Ro.atom a) (Ro.prod (Ro.atom b) (Ro.atom c))) φ t l) (hd:(idx l i).bind f=some r) (s:St ψ Γ h) (d:∀x,f x=some r→(K x.1 x.2.1 x.2.2).wp P Q h) (le:Sub φ ψ:=by repeat first | exact Sub.refl _ | assumption | refine Sub.trans ?_ (by assumption)):
 (deref t.1 λA=>chk (0≤i∧i< (t.2.1:Nat))<|hM a (A.add (kF i *3)) λu=>hM b ((A.add (kF i *3)).add 1) λv=>hM c ((A.add (kF i *3)).add 2) λw=>K u v w).wp P Q h:=by have⟨x,e,hd⟩:=bS hd;obtain⟨A,_,g,m,⟨_,_,rfl,rfl,⟨_,_,rfl,rfl,rfl⟩⟩,n⟩:=k.get e;have q:=λj v o=>AM (le.trans s.sub) (n j v o);exact AF _ g (Am m (AL (x:=x.1) (q 0 _ rfl) rfl (AL (x:=x.2.1) (by rw[Ac];exact q 1 _ rfl) rfl (AL (x:=x.2.2) (by rw[Ac];exact q 2 _ rfl) rfl (d x hd)))))
theorem gL {ty:lB}{a b:BP}{t:Slc}{l:List (a.Ty×b.Ty)}{i:Int}{f:a.Ty×b.Ty→Option β}{r:β}{K:a.Ty→b.Ty→T}(s:St φ (cR ty (bD (kQ a) (kQ b)) t l::Γ) h) (hd:(idx l i).bind f=some r) (d:∀x,f x=some r→(K x.1 x.2).wp P Q h):
 (deref t.1 λA=>chk (0≤i∧i< (t.2.1:Nat))<|hM a (A.add (kF i *2)) λu=>hM b ((A.add (kF i *2)).add 1) λv=>K u v).wp P Q h:=by have⟨x,e,hd⟩:=bS hd;obtain⟨A,_,g,j,⟨_,_,rfl,rfl,rfl⟩,c⟩:=s.get e;exact AF _ g (Am j (AL (x:=x.1) (c 0 _ rfl) rfl (AL (x:=x.2) (by rw[Ac];exact c 1 _ rfl) rfl (d x hd))))
theorem gx {t:Slc}{l:List a.Ty}{i:Int}{f:a.Ty→Option β}{r:β}{K:a.Ty→T}(k:Ro.SliceIs (Ro.atom a) φ t l) (hd:(idx l i).bind f=some r) (s:St ψ Γ h) (b:∀x,f x=some r→(K x).wp P Q h) (le:Sub φ ψ:=by repeat first | exact Sub.refl _ | assumption | refine Sub.trans ?_ (by assumption)):
 (deref t.1 λA=>chk (0≤i∧i< (t.2.1:Nat))<|hM a (A.add (kF i *1)) K).wp P Q h:=by have⟨x,c,hd⟩:=bS hd;exact SC k c (le.trans s.sub) (b x hd)
theorem gxS {a:Ro α}{t:Slc}{l:List (List α)}{i:Int}{f:List α→Option β}{r:β}{K:Slc→T}(k:Ro.SliceIs (Ro.list a) φ t l) (hd:(idx l i).bind f=some r) (s:St ψ Γ h) (b:∀x u,Ro.SliceIs a φ u x→f x=some r→(K u).wp P Q h) (le:Sub φ ψ:=by repeat first | exact Sub.refl _ | assumption | refine Sub.trans ?_ (by assumption)):
 (deref t.1 λA=>chk (0≤i∧i< (t.2.1:Nat))<|hM .slice (A.add (kF i *1)) K).wp P Q h:=by have⟨x,c,hd⟩:=bS hd;exact ZF k c (le.trans s.sub) λu d=>b x u d hd
theorem gxO {ty:lB}{t:Slc}{l:List a.Ty}{i:Int}{f:a.Ty→Option β}{r:β}{K:a.Ty→T}(s:St φ (cR ty (kQ a) t l::Γ) h) (hd:(idx l i).bind f=some r) (b:∀x,f x=some r→(K x).wp P Q h):
 (deref t.1 λA=>chk (0≤i∧i< (t.2.1:Nat))<|hM a (A.add (kF i *1)) K).wp P Q h:=by have⟨x,c,hd⟩:=bS hd;exact Qc s c (b x hd)
theorem pfR {R:AD→a.Ty→α→Prop}(L:Lf ro j a R) {p:Option Addr}{x:α}{K:a.Ty→T}(k:Pt ro φ p x) (s:St ψ Γ h) (b:∀v,R φ v x→(K v).wp P Q h) (le:Sub φ ψ:=by repeat first | exact Sub.refl _ | assumption | refine Sub.trans ?_ (by assumption)):(deref p λA=>T.load a (A.add j) K).wp P Q h:=by obtain⟨A,vs,e,q,c⟩:=k;have⟨v,d,f⟩:=L φ vs x q;exact AF _ e (AL (x:=v) (AM (le.trans s.sub) (c.at j d)) rfl (b v f))
theorem iE {R:AD→a.Ty→α→Prop}(L:Lf ro 0 a R) {p:Option Addr}{x:α}{K:a.Ty→T}(k:Pt ro φ p x) (s:St ψ Γ h) (b:∀v,R φ v x→(K v).wp P Q h) (le:Sub φ ψ:=by repeat first | exact Sub.refl _ | assumption | refine Sub.trans ?_ (by assumption)):(deref p λA=>T.load a A K).wp P Q h:=pfR L k s b le
theorem pfS {g:α→a.Ty}(L:Lf ro j a (λ_ v x=>v=g x)) {p:Option Addr}{x:α}{K:a.Ty→T}(k:Pt ro φ p x) (s:St ψ Γ h) (b:(K (g x)).wp P Q h) (le:Sub φ ψ:=by repeat first | exact Sub.refl _ | assumption | refine Sub.trans ?_ (by assumption)):(deref p λA=>T.load a (A.add j) K).wp P Q h:=pfR L k s (λv e=>by rw[e];exact b) le
theorem AN {f:FuncId}{fn:Func}{args:List Value}{R:Fin→AH→Prop}{t:T}(a:P.follows .mixedOrders=true) (b:P.funcs[f]? =some fn) (hd:AT P fn args=t) (H:t.wp P (Kf R) h):CallsH P f args h R:=BF a b (by rw[hd];exact H)
theorem Db {t:Slc×Slc×Slc×Slc×Slc×Slc×Unit}{ty:lB}{k:Nat→T}(H:St φ Γ h) (a:∀r h',St φ (cW ty r [sv t.1,sv t.2.1,sv t.2.2.1,sv t.2.2.2.1,sv t.2.2.2.2.1,sv t.2.2.2.2.2.1]::Γ) h'→(k r).wp P Q h'):(T.new (.cells #[.slice t.1.1 t.1.2.1 t.1.2.2,.slice t.2.1.1 t.2.1.2.1 t.2.1.2.2,.slice t.2.2.1.1 t.2.2.1.2.1 t.2.2.1.2.2,.slice t.2.2.2.1.1 t.2.2.2.1.2.1 t.2.2.2.1.2.2,.slice t.2.2.2.2.1.1 t.2.2.2.2.1.2.1 t.2.2.2.2.1.2.2,.slice t.2.2.2.2.2.1.1 t.2.2.2.2.2.1.2.1 t.2.2.2.2.2.1.2.2] ty (0,0)) k).wp P Q h:=
 AU (vs:=[sv t.1,sv t.2.1,sv t.2.2.1,sv t.2.2.2.1,sv t.2.2.2.2.1,sv t.2.2.2.2.2.1]) H a
theorem Bi {t:Slc×Slc×Slc×Slc×Slc×Slc×Unit}{ty:lB}{b:Nat}{K:Slc→Slc→Slc→Slc→Slc→Slc→T}(H:St φ (⟨Rep.raw ty,[.pointer (some ⟨b,0,none⟩)],[sv t.1,sv t.2.1,sv t.2.2.1,sv t.2.2.2.1,sv t.2.2.2.2.1,sv t.2.2.2.2.2.1]⟩::Γ) h) (a:(K t.1 t.2.1 t.2.2.1 t.2.2.2.1 t.2.2.2.2.1 t.2.2.2.2.2.1).wp P Q h):
 (hM .slice ⟨b,0,none⟩ λt0=>hM .slice ⟨b,1,none⟩ λt1=>hM .slice ⟨b,2,none⟩ λt2=>hM .slice ⟨b,3,none⟩ λt3=>hM .slice ⟨b,4,none⟩ λt4=>hM .slice ⟨b,5,none⟩ λt5=>K t0 t1 t2 t3 t4 t5).wp P Q h:=
 AA (x:=t.1) H rfl (AA (x:=t.2.1) H rfl (AA (x:=t.2.2.1) H rfl (AA (x:=t.2.2.2.1) H rfl (AA (x:=t.2.2.2.2.1) H rfl (AA (x:=t.2.2.2.2.2.1) H rfl a)))))
end
theorem Wx {P:Program} {Q:Bs→AH→Prop} {h:AH} {f:FuncId} {fn:Func} {first cap args:Array Value} {sh:Sh} {k:Value→T} (b:P.funcs[f]? =some fn) (c:(fn.name== "runtime.NumGoroutine")=false) (d:fn.body.isNone=false) (a:UB P fn=sh)
 (H:(T.call f ((first++args) ++cap).toList sh λx=>k (sh.val x)).wp P Q h):(Hy false P (.func (.func f) first cap) args k).wp P Q h:=by subst a;unfold Hy;simp only[b,c,d];exact H
theorem St.rowTake {α:Type}{φ:AD}{h:AH}{Γ:List Chk}{ty:lB}{r:Ro α}{t:Slc}{l:List α}(H:St φ (⟨kI ty r,[.slice t.1 t.2.1 t.2.2],l⟩::Γ) h) {k:Nat}(E:k≤l.length):
 St φ (⟨kI ty r,[.slice t.1 k t.2.2],l.take k⟩::Γ) h:=by
 obtain⟨F,⟨p,n,c,vs,e,q,s,f,u,a,w⟩,x,H⟩:=H;have q:l.length=n:=q;simp only[List.cons.injEq,Value.slice.injEq,and_true]at e;obtain⟨y,G,z⟩:=e;refine⟨F,⟨p,k,c,vs.take (k *r.sz),by rw[y,z],by rw[kW];omega,s,f,?_,a.take k,w⟩,x,H⟩;rcases u with⟨g,A,j,m⟩|⟨b,off,arr,g,o,B,I,C,D⟩
 ·exact .inl ⟨g,by omega,j,by rw[m];exact List.take_nil⟩
 ·refine .inr ⟨b,off,arr,g,o,?_,by omega,C,λi v d=> ?_⟩
  ·rw[kW,B];exact Nat.min_eq_left (Nat.mul_le_mul_right _ (by omega))
  ·rw[List.getElem?_take]at d;split at d
   ·exact D i v d
   ·cases d
theorem St.hide {φ:AD}{h:AH}{c:Chk}{Γ:List Chk}(H:St φ (c::Γ) h):∃(ψ:AD) (F:FE),Sub φ ψ∧c.on φ h F∧(∀k,F k→ψ k=h[k]?)∧St ψ Γ h:=by
 classical
 obtain⟨F,d,f,H⟩:=H;have g:=H.sub;have le:Sub φ (λi=>if F i then h[i]? else φ i):=λi o a=>by
  show(if F i then h[i]? else φ i)=some o;rw[if_neg]
  ·exact a
  ·intro j;have e:=(f i j).1;rw[e]at a;cases a
 refine⟨λi=>if F i then h[i]? else φ i,F,le,d,λi l=>if_pos l,?_⟩;refine kT (StX.grow H le (λi o a=> ?_) λk b m=> ?_) λk b=>b.elim
 ·split at a
  ·exact a
  ·exact g i o a
 ·split at b
  ·exact .inr (by assumption)
  ·exact absurd m b
theorem St.blk {φ:AD}{h:AH}{F:List Chk}{ty:lB}{b:Nat}{vs:List Value}(H:St φ (⟨Rep.raw ty,[.pointer (some ⟨b,0,none⟩)],vs⟩::F) h):∃ψ,Sub φ ψ∧DC ψ (some ⟨b,0,none⟩) vs∧St ψ F h:=by
 obtain⟨ψ,G,le,⟨g,e,a,c⟩,d,s⟩:=St.hide H;cases e;refine⟨ψ,le,λi v f=>⟨_,rfl,?_⟩,s⟩
 have:=d b ((c b).2 rfl)
 rw[DB];unfold EN;dsimp only;rw[this,a];dsimp only;rw[Nat.zero_add];simp[f]
abbrev aI:Sh1:=.atom (.int .i64)
abbrev aB:Sh1:=.atom .bool
abbrev aS:Sh1:=.atom .slice
abbrev aP:Sh1:=.atom .pointer
abbrev wN (x:Int):Int:=IntKind.wrap .i64 (x+(1:Int))
theorem dT {i:Int}{a b:Nat}(n:a=b) (h:i< ((b:Nat):Int)):decide (i< ((a:Nat):Int))=true:=by rw[n];exact decide_eq_true h
theorem dF {i:Int}{a b:Nat}(n:a=b) (h:((b:Nat):Int) ≤i):decide (i< ((a:Nat):Int))=false:=by rw[n];exact decide_eq_false (Int.not_lt.2 h)
abbrev Pl6:Type:=Slc×Slc×Slc×Slc×Slc×Slc×Unit
abbrev aH (a b c d e f:Slc):Value:=.agg #[sv a,sv b,sv c,sv d,sv e,sv f]
abbrev aG (p:Pl6):Value:=.agg #[sv p.1,sv p.2.1,sv p.2.2.1,sv p.2.2.2.1,sv p.2.2.2.2.1,sv p.2.2.2.2.2.1]
noncomputable abbrev L6 (r:Nat) (k:Slc→Slc→Slc→Slc→Slc→Slc→T):T:=hM .slice ⟨r,0,none⟩ λ(a:Slc)=>hM .slice ⟨r,1,none⟩ λ(b:Slc)=>hM .slice ⟨r,2,none⟩ λ(c:Slc)=>hM .slice ⟨r,3,none⟩ λ(d:Slc)=>hM .slice ⟨r,4,none⟩ λ(e:Slc)=>hM .slice ⟨r,5,none⟩ λ(f:Slc)=>k a b c d e f
noncomputable abbrev M6 (r:lC) (k:Slc→Slc→Slc→Slc→Slc→Slc→T):T:=hM .slice r λ(a:Slc)=>hM .slice (r.add 1) λ(b:Slc)=>hM .slice (r.add 2) λ(c:Slc)=>hM .slice (r.add 3) λ(d:Slc)=>hM .slice (r.add 4) λ(e:Slc)=>hM .slice (r.add 5) λ(f:Slc)=>k a b c d e f
noncomputable abbrev S6 (r:Nat) (a b c d e f:Slc) (k:T):T:=kU ⟨r,0,none⟩ (sv a)<|kU ⟨r,1,none⟩ (sv b)<|kU ⟨r,2,none⟩ (sv c)<|kU ⟨r,3,none⟩ (sv d)<|kU ⟨r,4,none⟩ (sv e)<|kU ⟨r,5,none⟩ (sv f)<|k
end Go.Eng
namespace Go.Proofs.YtnlkgidlfnefbaaGreatDoor
open Go Go.Eng
abbrev BQ:Type:=(Int×Int)
abbrev Bx:Ro BQ:=(bD (eE .i64) (eE .i64))
abbrev Jr:Type:=(Int×Int)
abbrev HX:Ro Jr:=(bD (eE .i64) (eE .i64))
abbrev Ic:Type:=(ByteArray×ByteArray×Bool)
abbrev N2:Ro Ic:=(bD hC (bD hC kV))
abbrev HY:Type:=(ByteArray×ByteArray×ByteArray×Bool)
abbrev HZ:Ro HY:=(bD hC (bD hC (bD hC kV)))
theorem QF:Lf HZ 0 .string (λ_ v x=>v=x.1):=Lf.hd (Lf.a _)
abbrev Fc:Type:=(Int×List ByteArray)
abbrev G5:Ro Fc:=(bD (eE .i64) (bO hC))
theorem cD:Lf G5 0 (.int .i64) (λ_ v x=>v=x.1):=Lf.hd (Lf.a _)
theorem cE:Lf G5 1 .slice (λφ v x=>hA hC φ v x.2):=Lf.tl (Lf.l _)
abbrev Dh:Type:=(ByteArray×List ByteArray×ByteArray×ByteArray)
abbrev GX:Ro Dh:=(bD hC (bD (bO hC) (bD hC hC)))
theorem S8:Lf GX 0 .string (λ_ v x=>v=x.1):=Lf.hd (Lf.a _)
theorem cF:Lf GX 3 .string (λ_ v x=>v=x.2.2.2):=Lf.tl (Lf.tl (Lf.tl (Lf.a _)))
abbrev BM:Type:=(Int×List Int×Int)
abbrev CB:Ro BM:=(bD (eE .i64) (bD (bO (eE .i64)) (eE .i64)))
theorem Vw:Lf CB 0 (.int .i64) (λ_ v x=>v=x.1):=Lf.hd (Lf.a _)
theorem Km:Lf CB 1 .slice (λφ v x=>hA (eE .i64) φ v x.2.1):=Lf.tl (Lf.hd (Lf.l _))
theorem ep:Lf CB 2 (.int .i64) (λ_ v x=>v=x.2.2):=Lf.tl (Lf.tl (Lf.a _))
abbrev As:Type:=(List ByteArray×List ByteArray×List BM×List Int×List Int×List ByteArray)
abbrev DV:Type:=(List HY×List Ic×List Fc×ByteArray×List Dh)
abbrev J1:Type:=(Int×Int×List Int×List (List Int)×List Int×List Int×List Int)
abbrev dz:Type:=(List BQ×List BQ×List Jr×Int×Int)
abbrev Wy:Ro dz:=(bD (bO Bx) (bD (bO Bx) (bD (bO HX) (bD (eE .i64) (eE .i64)))))
abbrev D5:Type:=(List ByteArray×List ByteArray×List BM×List Int×List Int×List ByteArray×List dz×Int)
abbrev F4:Ro D5:=(bD (bO hC) (bD (bO hC) (bD (bO CB) (bD (bO (eE .i64)) (bD (bO (eE .i64)) (bD (bO hC) (bD (bO Wy) (eE .i64))))))))
theorem QG:Lf F4 6 .slice (λφ v x=>hA Wy φ v x.2.2.2.2.2.2.1):=Lf.tl (Lf.tl (Lf.tl (Lf.tl (Lf.tl (Lf.tl (Lf.hd (Lf.l _)))))))
abbrev IK:Type:=(List ByteArray×List ByteArray×List BM×List Int×List Int×List ByteArray×Slc×Int)
abbrev Ca:Ro IK:=(bD (bO hC) (bD (bO hC) (bD (bO CB) (bD (bO (eE .i64)) (bD (bO (eE .i64)) (bD (bO hC) (bD Ro.slc (eE .i64))))))))
abbrev Dl:Type:=(Int×Int×Int)
abbrev En:Ro Dl:=(bD (eE .i64) (bD (eE .i64) (eE .i64)))
abbrev FG:Type:=(Int×Int)
abbrev IL:Ro FG:=(bD (eE .i64) (eE .i64))
abbrev Kn:Type:=(Int×Int×Int×List Int×Int×Int×Bool)
abbrev Qd:Ro Kn:=(bD (eE .i64) (bD (eE .i64) (bD (eE .i64) (bD (bO (eE .i64)) (bD (eE .i64) (bD (eE .i64) kV))))))
abbrev ZG:Type:=(Int×Int)
abbrev UU:Ro ZG:=(bD (eE .i64) (eE .i64))
abbrev gM:Type:=(Int×Int)
abbrev eA:Type:=(List Bool×List (List Int)×List (List Int)×Int)
abbrev SD:Type:=(List ByteArray×List ByteArray×List BM×List Int×List Int×List ByteArray×D5×List Bool×List (List Int)×List (List Int)×Int×List ZG×Option Nat×Option Nat)
abbrev UV:Ro SD:=(bD (bO hC) (bD (bO hC) (bD (bO CB) (bD (bO (eE .i64)) (bD (bO (eE .i64)) (bD (bO hC) (bD (Ro.at F4) (bD (bO kV) (bD (bO (bO (eE .i64))) (bD (bO (bO (eE .i64))) (bD (eE .i64) (bD (bO UU) (bD Ro.map Ro.map)))))))))))))
theorem Wz:Lf UV 2 .slice (λφ v x=>hA CB φ v x.2.2.1):=Lf.tl (Lf.tl (Lf.hd (Lf.l _)))
theorem W0:Lf UV 6 .pointer (λφ v x=>Pt F4 φ v x.2.2.2.2.2.2.1):=Lf.tl (Lf.tl (Lf.tl (Lf.tl (Lf.tl (Lf.tl (Lf.hd (Lf.p _)))))))
abbrev Bt:Type:=(List ByteArray×List ByteArray×List BM×List Int×List Int×List ByteArray×List (List FG)×List (List Int)×List Kn)
abbrev GY:Ro Bt:=(bD (bO hC) (bD (bO hC) (bD (bO CB) (bD (bO (eE .i64)) (bD (bO (eE .i64)) (bD (bO hC) (bD (bO (bO IL)) (bD (bO (bO (eE .i64))) (bO Qd)))))))))
theorem cG:Lf GY 0 .slice (λφ v x=>hA hC φ v x.1):=Lf.hd (Lf.l _)
theorem cH:Lf GY 1 .slice (λφ v x=>hA hC φ v x.2.1):=Lf.tl (Lf.hd (Lf.l _))
theorem W2:Lf GY 6 .slice (λφ v x=>hA (bO IL) φ v x.2.2.2.2.2.2.1):=Lf.tl (Lf.tl (Lf.tl (Lf.tl (Lf.tl (Lf.tl (Lf.hd (Lf.l _)))))))
theorem cI:Lf GY 7 .slice (λφ v x=>hA (bO (eE .i64)) φ v x.2.2.2.2.2.2.2.1):=Lf.tl (Lf.tl (Lf.tl (Lf.tl (Lf.tl (Lf.tl (Lf.tl (Lf.hd (Lf.l _))))))))
abbrev C9:Type:=(Int×List Int)
abbrev DI:Type:=(Int×Int×Int)
abbrev Fe:Ro DI:=(bD (eE .i64) (bD (eE .i64) (eE .i64)))
abbrev gN:Type:=(Int×Int×Int×List Int)
abbrev iF:Type:=(Int×Int×Int×Int×Int×List Int×Bool×Bool)
abbrev ZH:Type:=(Int×Int×Int×Int×Int×List Int×Bool×Bool×Int)
abbrev Js:Ro ZH:=(bD (eE .i64) (bD (eE .i64) (bD (eE .i64) (bD (eE .i64) (bD (eE .i64) (bD (bO (eE .i64)) (bD kV (bD kV (eE .i64)))))))))
abbrev CD:Type:=(Unit×List ZH×Int)
abbrev El:Ro CD:=(bD Ro.anyP (bD (bO Js) (eE .i64)))
theorem S9:Lf El 1 .slice (λφ v x=>hA Js φ v x.2.1):=Lf.tl (Lf.hd (Lf.l _))
theorem cJ:Lf El 2 (.int .i64) (λ_ v x=>v=x.2.2):=Lf.tl (Lf.tl (Lf.a _))
abbrev cK:Type:=CD
abbrev cL:Ro cK:=(Ro.at El)
abbrev Ko:Type:=(List ByteArray×List ByteArray×List BM×List Int×List Int×List ByteArray×Bt×List DI×Int×Int×List Int×List Int×List Int×CD×Int×Int×Int×List Int×Int×Int)
abbrev Ri:Ro Ko:=(bD (bO hC) (bD (bO hC) (bD (bO CB) (bD (bO (eE .i64)) (bD (bO (eE .i64)) (bD (bO hC) (bD (Ro.at GY) (bD (bO Fe) (bD (eE .i64) (bD (eE .i64) (bD (bO (eE .i64)) (bD (bO (eE .i64)) (bD (bO (eE .i64)) (bD (Ro.at (Ro.at El)) (bD (eE .i64) (bD (eE .i64) (bD (eE .i64) (bD (bO (eE .i64)) (bD (eE .i64) (eE .i64))))))))))))))))))))
theorem cN:Lf Ri 13 .pointer (λφ v x=>Pt (Ro.at El) φ v x.2.2.2.2.2.2.2.2.2.2.2.2.2.1):=Lf.tl (Lf.tl (Lf.tl (Lf.tl (Lf.tl (Lf.tl (Lf.tl (Lf.tl (Lf.tl (Lf.tl (Lf.tl (Lf.tl (Lf.tl (Lf.hd (Lf.p _))))))))))))))
theorem cP:Lf Ri 18 (.int .i64) (λ_ v x=>v=x.2.2.2.2.2.2.2.2.2.2.2.2.2.2.2.2.2.2.1):=Lf.tl (Lf.tl (Lf.tl (Lf.tl (Lf.tl (Lf.tl (Lf.tl (Lf.tl (Lf.tl (Lf.tl (Lf.tl (Lf.tl (Lf.tl (Lf.tl (Lf.tl (Lf.tl (Lf.tl (Lf.tl (Lf.hd (Lf.a _)))))))))))))))))))
theorem cQ:Lf Ri 19 (.int .i64) (λ_ v x=>v=x.2.2.2.2.2.2.2.2.2.2.2.2.2.2.2.2.2.2.2):=Lf.tl (Lf.tl (Lf.tl (Lf.tl (Lf.tl (Lf.tl (Lf.tl (Lf.tl (Lf.tl (Lf.tl (Lf.tl (Lf.tl (Lf.tl (Lf.tl (Lf.tl (Lf.tl (Lf.tl (Lf.tl (Lf.tl (Lf.a _)))))))))))))))))))
structure Gw (φ:AD) (t:(Option lC×Nat×Nat)×(Option lC×Nat×Nat)×(Option lC×Nat×Nat)×(Option lC×Nat×Nat)×(Option lC×Nat×Nat)×(Option lC×Nat×Nat)×Unit) (d:As):Prop where
 k0:hA hC φ t.1 d.1
 k1:hA hC φ t.2.1 d.2.1
 k2:hA CB φ t.2.2.1 d.2.2.1
 k3:hA (eE .i64) φ t.2.2.2.1 d.2.2.2.1
 k4:hA (eE .i64) φ t.2.2.2.2.1 d.2.2.2.2.1
 k5:hA hC φ t.2.2.2.2.2.1 d.2.2.2.2.2
theorem Gw.mono {φ ψ:AD}{t:(Option lC×Nat×Nat)×(Option lC×Nat×Nat)×(Option lC×Nat×Nat)×(Option lC×Nat×Nat)×(Option lC×Nat×Nat)×(Option lC×Nat×Nat)×Unit}{d:As}(H:Gw φ t d) (a:Sub φ ψ):Gw ψ t d:=
 ⟨H.k0.mono a,H.k1.mono a,H.k2.mono a,H.k3.mono a,H.k4.mono a,H.k5.mono a⟩
theorem Gw.up {φ ψ:AD}{t:(Option Addr×Nat×Nat)×(Option Addr×Nat×Nat)×(Option Addr×Nat×Nat)×(Option Addr×Nat×Nat)×(Option Addr×Nat×Nat)×(Option Addr×Nat×Nat)×Unit}{d:As}(H:Gw φ t d) (le:Sub φ ψ:=by repeat first | exact Sub.refl _ | assumption | refine Sub.trans ?_ (by assumption)):Gw ψ t d:=H.mono le
abbrev IM:Rep As:=(kH (kI 9 hC) (kH (kI 9 hC) (kH (kI 57 CB) (kH (kI 3 (eE .i64)) (kH (kI 3 (eE .i64)) (kI 9 hC))))))
theorem GD {φ:AD}{h:AH}{Γ:List Chk}{p:Option lC}{x:As}(H:St φ (cO 32 IM p x::Γ) h):∃(b:Nat) (t0:Slc) (t1:Slc) (t2:Slc) (t3:Slc) (t4:Slc) (t5:Slc),p=some ⟨b,0,none⟩∧St φ (cR 9 hC t5 x.2.2.2.2.2::cR 3 (eE .i64) t4 x.2.2.2.2.1::cR 3 (eE .i64) t3 x.2.2.2.1::cR 57 CB t2 x.2.2.1::cR 9 hC t1 x.2.1::cR 9 hC t0 x.1::cW 32 b [sv t0,sv t1,sv t2,sv t3,sv t4,sv t5]::Γ) h:=by obtain⟨b,vs,e,_,H⟩:=H.open;have H:=H.at1;obtain⟨_,_,rfl,_,H⟩:=H.pair;obtain⟨t0,a⟩:=H.rowCs;subst a;have H:=H.at1;obtain⟨_,_,rfl,_,H⟩:=H.pair;obtain⟨t1,c⟩:=H.rowCs;subst c;have H:=H.at1;obtain⟨_,_,rfl,_,H⟩:=H.pair;obtain⟨t2,d⟩:=H.rowCs;subst d;have H:=H.at1;obtain⟨_,_,rfl,_,H⟩:=H.pair;obtain⟨t3,f⟩:=H.rowCs;subst f;have H:=H.at1;obtain⟨_,_,rfl,_,H⟩:=H.pair;obtain⟨t4,g⟩:=H.rowCs;subst g;have H:=H.at1;obtain⟨t5,i⟩:=H.rowCs;subst i;exact⟨b,t0,t1,t2,t3,t4,t5,by simpa using e,H⟩
theorem JC {φ:AD}{h:AH}{Γ:List Chk}{b:Nat}{t0:Slc}{t1:Slc}{t2:Slc}{t3:Slc}{t4:Slc}{t5:Slc}{x0:List ByteArray}{x1:List ByteArray}{x2:List BM}{x3:List Int}{x4:List Int}{x5:List ByteArray}(H:St φ (cR 9 hC t5 x5::cR 3 (eE .i64) t4 x4::cR 3 (eE .i64) t3 x3::cR 57 CB t2 x2::cR 9 hC t1 x1::cR 9 hC t0 x0::cW 32 b [sv t0,sv t1,sv t2,sv t3,sv t4,sv t5]::Γ) h):St φ (cO 32 IM (some ⟨b,0,none⟩) (x0,x1,x2,x3,x4,x5)::Γ) h:=by have H:=H.at1;have H:=kG H;have H:=H.at1;have H:=kG H;have H:=H.at1;have H:=kG H;have H:=H.at1;have H:=kG H;have H:=H.at1;have H:=kG H;exact lA H.at1
abbrev Ff:Rep DV:=(kH (kI 173 HZ) (kH (kO (bO N2)) (kH (kI 176 G5) (kH (kO hC) (kI 169 GX)))))
theorem HF {φ:AD}{h:AH}{Γ:List Chk}{p:Option lC}{x:DV}(H:St φ (cO 105 Ff p x::Γ) h):∃(b:Nat) (t0:Slc) (t1:Slc) (t2:Slc) (t4:Slc),p=some ⟨b,0,none⟩∧hA N2 φ t1 x.2.1∧St φ (cR 169 GX t4 x.2.2.2.2::cR 176 G5 t2 x.2.2.1::cR 173 HZ t0 x.1::cW 105 b [sv t0,sv t1,sv t2,.string x.2.2.2.1,sv t4]::Γ) h:=by obtain⟨b,vs,e,_,H⟩:=H.open;have H:=H.at1;obtain⟨_,_,rfl,_,H⟩:=H.pair;obtain⟨t0,a⟩:=H.rowCs;subst a;have H:=H.at1;obtain⟨_,_,rfl,_,H⟩:=H.pair;obtain⟨g,H⟩:=H.ro;obtain⟨t1,c,d⟩:=g;subst c;obtain⟨_,_,rfl,_,H⟩:=H.pair;obtain⟨t2,f⟩:=H.rowCs;subst f;have H:=H.at1;obtain⟨_,_,rfl,_,H⟩:=H.pair;obtain⟨g,H⟩:=H.ro;subst g;obtain⟨t4,i⟩:=H.rowCs;subst i;exact⟨b,t0,t1,t2,t4,by simpa using e,d,H⟩
theorem E7 {φ:AD}{h:AH}{Γ:List Chk}{b:Nat}{t0:Slc}{t1:Slc}{t2:Slc}{t4:Slc}{x0:List HY}{x1:List Ic}{x2:List Fc}{x3:ByteArray}{x4:List Dh}(H:St φ (cR 169 GX t4 x4::cR 176 G5 t2 x2::cR 173 HZ t0 x0::cW 105 b [sv t0,sv t1,sv t2,.string x3,sv t4]::Γ) h) (a:hA N2 φ t1 x1):St φ (cO 105 Ff (some ⟨b,0,none⟩) (x0,x1,x2,x3,x4)::Γ) h:=by have H:=kJ (r:=hC) (cs:=[.string x3]) (x:=x3) H rfl;have H:=kG H;have H:=H.at1;have H:=kG H;have H:=kJ (r:=(bO N2)) (cs:=[.slice t1.1 t1.2.1 t1.2.2]) (x:=x1) H ⟨t1,rfl,a⟩;have H:=kG H;have H:=H.at1;have H:=kG H;exact lA H.at1
abbrev Em:Rep C9:=(kH (kO (eE .i64)) (kI 226 (eE .u64)))
theorem N3 {φ:AD}{h:AH}{Γ:List Chk}{p:Option lC}{x:C9}(H:St φ (cO 229 Em p x::Γ) h):∃(b:Nat) (t1:Slc),p=some ⟨b,0,none⟩∧St φ (cR 226 (eE .u64) t1 x.2::cW 229 b [.int .i64 x.1,sv t1]::Γ) h:=by obtain⟨b,vs,e,_,H⟩:=H.open;have H:=H.at1;obtain⟨_,_,rfl,_,H⟩:=H.pair;obtain⟨g,H⟩:=H.ro;subst g;obtain⟨t1,a⟩:=H.rowCs;subst a;exact⟨b,t1,by simpa using e,H⟩
theorem JD {φ:AD}{h:AH}{Γ:List Chk}{b:Nat}{t1:Slc}{x0:Int}{x1:List Int}(H:St φ (cR 226 (eE .u64) t1 x1::cW 229 b [.int .i64 x0,sv t1]::Γ) h):St φ (cO 229 Em (some ⟨b,0,none⟩) (x0,x1)::Γ) h:=by have H:=kJ (r:=(eE .i64)) (cs:=[.int .i64 x0]) (x:=x0) H rfl;have H:=kG H;exact lA H.at1
abbrev Mv:Rep Bt:=(kH (kO (bO hC)) (kH (kO (bO hC)) (kH (kO (bO CB)) (kH (kO (bO (eE .i64))) (kH (kO (bO (eE .i64))) (kH (kO (bO hC)) (kH (kI 150 (bO IL)) (kH (kI 30 (bO (eE .i64))) (kI 210 Qd)))))))))
theorem TA {φ:AD}{h:AH}{Γ:List Chk}{p:Option lC}{x:Bt}(H:St φ (cO 149 Mv p x::Γ) h):∃(b:Nat) (t0:Slc) (t1:Slc) (t2:Slc) (t3:Slc) (t4:Slc) (t5:Slc) (t6:Slc) (t7:Slc) (t8:Slc),p=some ⟨b,0,none⟩∧hA hC φ t0 x.1∧hA hC φ t1 x.2.1∧hA CB φ t2 x.2.2.1∧hA (eE .i64) φ t3 x.2.2.2.1∧hA (eE .i64) φ t4 x.2.2.2.2.1∧hA hC φ t5 x.2.2.2.2.2.1∧St φ (cR 210 Qd t8 x.2.2.2.2.2.2.2.2::cR 30 (bO (eE .i64)) t7 x.2.2.2.2.2.2.2.1::cR 150 (bO IL) t6 x.2.2.2.2.2.2.1::cW 149 b [sv t0,sv t1,sv t2,sv t3,sv t4,sv t5,sv t6,sv t7,sv t8]::Γ) h:=by obtain⟨b,vs,e,_,H⟩:=H.open;have H:=H.at1;obtain⟨_,_,rfl,_,H⟩:=H.pair;obtain⟨g,H⟩:=H.ro;obtain⟨t0,a,k0⟩:=g;subst a;obtain⟨_,_,rfl,_,H⟩:=H.pair;obtain⟨g,H⟩:=H.ro;obtain⟨t1,c,d⟩:=g;subst c;obtain⟨_,_,rfl,_,H⟩:=H.pair;obtain⟨g,H⟩:=H.ro;obtain⟨t2,f,i⟩:=g;subst f;obtain⟨_,_,rfl,_,H⟩:=H.pair;obtain⟨g,H⟩:=H.ro;obtain⟨t3,j,k⟩:=g;subst j;obtain⟨_,_,rfl,_,H⟩:=H.pair;obtain⟨g,H⟩:=H.ro;obtain⟨t4,l,m⟩:=g;subst l;obtain⟨_,_,rfl,_,H⟩:=H.pair;obtain⟨⟨t5,n,o⟩,H⟩:=H.ro;subst n;obtain⟨_,_,rfl,_,H⟩:=H.pair;obtain⟨t6,q⟩:=H.rowCs;subst q;have H:=H.at1;obtain⟨_,_,rfl,_,H⟩:=H.pair;obtain⟨t7,r⟩:=H.rowCs;subst r;have H:=H.at1;obtain⟨t8,s⟩:=H.rowCs;subst s;exact⟨b,t0,t1,t2,t3,t4,t5,t6,t7,t8,by simpa using e,k0,d,i,k,m,o,H⟩
theorem Lp {φ:AD}{h:AH}{Γ:List Chk}{b:Nat}{t0:Slc}{t1:Slc}{t2:Slc}{t3:Slc}{t4:Slc}{t5:Slc}{t6:Slc}{t7:Slc}{t8:Slc}{x0:List ByteArray}{x1:List ByteArray}{x2:List BM}{x3:List Int}{x4:List Int}{x5:List ByteArray}{a:List (List FG)}{c:List (List Int)}{d:List Kn}(H:St φ (cR 210 Qd t8 d::cR 30 (bO (eE .i64)) t7 c::cR 150 (bO IL) t6 a::cW 149 b [sv t0,sv t1,sv t2,sv t3,sv t4,sv t5,sv t6,sv t7,sv t8]::Γ) h) (k0:hA hC φ t0 x0) (e:hA hC φ t1 x1) (f:hA CB φ t2 x2) (g:hA (eE .i64) φ t3 x3) (i:hA (eE .i64) φ t4 x4) (j:hA hC φ t5 x5):St φ (cO 149 Mv (some ⟨b,0,none⟩) (x0,x1,x2,x3,x4,x5,a,c,d)::Γ) h:=by have H:=H.at1;have H:=kG H;have H:=H.at1;have H:=kG H;have H:=kJ (r:=(bO hC)) (cs:=[.slice t5.1 t5.2.1 t5.2.2]) (x:=x5) H ⟨t5,rfl,j⟩;have H:=kG H;have H:=kJ (r:=(bO (eE .i64))) (cs:=[.slice t4.1 t4.2.1 t4.2.2]) (x:=x4) H ⟨t4,rfl,i⟩;have H:=kG H;have H:=kJ (r:=(bO (eE .i64))) (cs:=[.slice t3.1 t3.2.1 t3.2.2]) (x:=x3) H ⟨t3,rfl,g⟩;have H:=kG H;have H:=kJ (r:=(bO CB)) (cs:=[.slice t2.1 t2.2.1 t2.2.2]) (x:=x2) H ⟨t2,rfl,f⟩;have H:=kG H;have H:=kJ (r:=(bO hC)) (cs:=[.slice t1.1 t1.2.1 t1.2.2]) (x:=x1) H ⟨t1,rfl,e⟩;have H:=kG H;have H:=kJ (r:=(bO hC)) (cs:=[.slice t0.1 t0.2.1 t0.2.2]) (x:=x0) H ⟨t0,rfl,k0⟩;have H:=kG H;exact lA H.at1
end Go.Proofs.YtnlkgidlfnefbaaGreatDoor
