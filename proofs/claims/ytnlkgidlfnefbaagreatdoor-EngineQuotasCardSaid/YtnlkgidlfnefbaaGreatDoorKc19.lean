/- The parts En3 to En7, put together. Conditions: each tells its own. -/
import Derived.Test.YtnlkgidlfnefbaaGreatDoorKc16
import Derived.Test.YtnlkgidlfnefbaaGreatDoorKc18
import Derived.Test.YtnlkgidlfnefbaaGreatDoorKc5
import Derived.Test.YtnlkgidlfnefbaaGreatDoorKc15
import Derived.KernelRfl
set_option linter.unusedVariables false
set_option maxRecDepth 100000
set_option maxRecDepth 1000000
set_option maxHeartbeats 4000000
open Go.IntKind renaming wrap → bD
open Go.Eng.St renaming cell → bO,freezeRow → kI,lit → kX
open Go.Eng.Ro renaming SliceIs → eE,int → kG,list → kY,str → lB
open Option renaming isNone → hA,bind_some → hC
open List renaming getElem?_eq_getElem → hM,mem_of_getElem? → kH,length_append → kK,getElem?_append_right → kO
open Int renaming le_refl → kF,tmod → kL
open Go.Proofs.Tryz renaming prog → kJ
open Go.Eng.AY renaming done → kQ,next → lA
open Nat renaming le_refl → kT
open Go.Eng.Rep renaming ro → kU
open Go.Eng.Ok renaming eq → kV
open Go.Eng.Ro.SliceIs renaming nil → kW
open Go.Eng.Np renaming none → kZ
open Go.Proofs.Tryz
namespace Go.Proofs.YtnlkgidlfnefbaaGreatDoor
open Go Go.Eng Dg
section
variable {Tr:Nat→Int→Nat→Prop}
def Lc (Tr:Nat→Int→Nat→Prop):Nat→List Int→List Nat→Prop
 |_,[],[] =>True
 |n,x::X,q::qs=>Tr n x q∧Lc Tr q X qs
 |_,_,_=>False
def Mq:Nat→List Nat→Nat
 |n,[] =>n
 |_,q::qs=>Mq q qs
theorem Lc.len:∀ {X:List Int}{qs:List Nat}{n:Nat},Lc Tr n X qs→qs.length=X.length
 | [],[],_,_=>rfl
 |x::X,q::qs,n,h=>by simp[Lc.len h.2]
 | [],_::_,_,h=>h.elim
 |_::_,[],_,h=>h.elim
theorem Lc.pth:∀ {X:List Int}{qs:List Nat}{n:Nat},Lc Tr n X qs→Pth Tr n X (Mq n qs)
 | [],[],_,_=>rfl
 |x::X,q::qs,n,h=>⟨q,h.1,Lc.pth h.2⟩
 | [],_::_,_,h=>h.elim
 |_::_,[],_,h=>h.elim
theorem Lc.split:∀ {X1 X2:List Int}{qs:List Nat}{n:Nat},Lc Tr n (X1++X2) qs→ ∃qs1 c,qs=qs1++c∧Lc Tr n X1 qs1∧Lc Tr (Mq n qs1) X2 c
 | [],X2,qs,n,h=>⟨[],qs,rfl,trivial,h⟩
 |x::X1,X2,q::qs,n,h=>by
  have⟨a,b,d,e,f⟩:=Lc.split h.2;exact⟨q::a,b,by rw[d];rfl,⟨h.1,e⟩,f⟩
 |x::X1,X2,[],n,h=>h.elim
theorem Lc.snoc:∀ {X:List Int}{qs:List Nat}{n:Nat}{x:Int}{q:Nat},Lc Tr n X qs→Tr (Mq n qs) x q→Lc Tr n (X++ [x]) (qs++ [q])
 | [],[],_,_,_,_,h=>⟨h,trivial⟩
 |y::X,r::qs,_,_,_,h,h'=>⟨h.1,Lc.snoc h.2 h'⟩
 | [],_::_,_,_,_,h,_=>h.elim
 |_::_,[],_,_,_,h,_=>h.elim
end
def stI (qs:List Nat):List Int:=(0::qs).map λn:Nat=>(n:Int)
theorem Xg (qs:List Nat):(stI qs).length=qs.length+1:=by simp[stI]
theorem bL:∀(qs:List Nat) (n:Nat),((n::qs).map λn:Nat=>(n:Int))[qs.length]? =some ((Mq n qs:Nat):Int)
 | [],n=>rfl
 |q::qs,n=>by
  have:=bL qs q
  simpa[Mq]using this
theorem Xh (qs:List Nat):(stI qs)[qs.length]? =some ((Mq 0 qs:Nat):Int):=bL qs 0
theorem bM (a b:List Nat):(stI (a++b)).take (a.length+1)=stI a:=by unfold stI;rw[←List.map_take];congr 1;rw[List.take_succ_cons,List.take_left]
theorem VT (a:List Nat) (q:Nat):stI (a++ [q])=stI a++ [(q:Int)]:=by simp[stI]
def kk (K:MK) (b l:Int):MK:={K with bound:=b,lim:=l}
def Fx (s:MS):MS:={s with steps:=s.steps+1}
def T4 (a:dtT):RY:=(-1,a.1,a.1,a.2.1,a.2.2,[],true,false)
theorem Xi (s:MS) (n q:Int) (a:s.N.length≤100000) (b:s.S.length≤100000):VM s n q=some {s with N:=s.N++ [n],S:=s.S++ [q],most:=mx (((s.N++ [n]).length:Nat):Int) s.most}:=by refine kV ?_;unfold VM;exact BL (by simp;omega) (BL (by simp;omega) (AC rfl))
section
variable {p:dtP}{B:List dtK}{E:List (List Edge)}{d:LkD}{tt:Int}{g:Bt}
structure Env (p:dtP) (B:List dtK) (E:List (List Edge)) (d:LkD) (tt:Int) (g:Bt):Prop where
 M:MkI p B E d tt
 G:GdT p B E d tt g
 A:∀t:Int,0≤lvl p t→lvl p t< (p.2.2.2.2.1.length:Int)
 N:p.1.length≤100
theorem Env.left (V:Env p B E d tt g) {k:Nat}{r:BM}(h:p.2.2.1[k]? =some r):0≤r.1∧r.1≤1000000∧r.2.1.length≤1000:=by have a:=kH h;have b:=V.M.all.sy.left r a;have c:=V.M.all.sy.short r a;have f:=V.M.all.vars;have i:=V.N;have e:nT p=(p.1.length:Int):=rfl;omega
theorem de (V:Env p B E d tt g) {stack:List Int}(u:1≤stack.length) (K:stack.length≤100000) (j most:Int):Ok (Xc g p stack j most) λ_=>True:=by
 have L:=V.N;have O:=V.M.all.vars;unfold Xc;have f:Dg.cloneD stack=some stack:=by unfold Dg.cloneD;rw[if_pos (by omega)]
 refine AJ f ?_;have e:(1001:Int)=((1001:Nat):Int):=rfl;rw[e];refine Il (λi l=>1≤l.length∧l.length≤stack.length+i) (λ_=>True) (by omega) ⟨u,by omega⟩ (λi l P w=> ?_) (λl _=>AC trivial) λb _=>AC trivial;obtain⟨x,y⟩:=w;have z:bD .i64 ((l.length:Int) - (1:Int))=((l.length - 1:Nat):Int):=by rw[w64 (by omega) (by omega)];omega
 rw[z];refine AX (hM (show l.length - 1<l.length by omega)) ?_;refine AP (gu V.M V.A V.G _ j) λa C=> ?_;have m:∀b:Bool,Ok (some (kQ b:AY (List Int) Bool)) (λe=>(∃s',e= .next s'∧1≤s'.length∧s'.length≤stack.length+(i+1))∨ ∃b,e= .done b∧True):=λb=>B9 trivial;rcases C with rfl | ⟨i',_,_,_,_,hd⟩
 ·exact m false
 cases hd with
 |err n=>exact m false
 |shift R=>exact m _
 |accept n _ _ _=>exact m true
 | @reduce k r S s D=>
  have⟨F,H,T⟩:=V.left s;refine AS rfl (AS rfl (AS rfl (AX s ?_)));obtain⟨b,t⟩:∃b,bD .i64 ((l.length:Int) - (r.2.1.length:Int))=b:=⟨_,rfl⟩;rw[t];rw[w64 (by omega) (by omega)]at t;refine AP (Q:=λc=>c=false→1≤b) (Af (λh=>AC λh=>by cases h) λh=>AC λ_=> ?_) λc I=> ?_
  ·have:=of_decide_eq_false h;omega
  ·cases c with
   |true=>exact m false
   |false=>
    have J:=I rfl;have q:bD .i64 (b - (1:Int))=((b.toNat - 1:Nat):Int):=by rw[w64 (by omega) (by omega)];omega
    rw[q];have o:cut l 0 b=some ((l.take b.toNat).drop (Int.toNat 0)):=Go.Eng.cut_ok (by decide) (by omega) (by omega);refine AJ o (AX (hM (show b.toNat - 1<l.length by omega)) ?_);refine AP (gw V.M V.G (by omega) (by omega) _ r.1 F H) λv _=> ?_;have f:((List.drop (Int.toNat 0) (List.take b.toNat l)) ++ [v]).length=b.toNat+1:=by simp;omega
    refine BL (by rw[kK]at f;omega) (Ck ?_);rw[f];omega
theorem df (n:Int):∃m,EZ n 0=some m:=by unfold EZ Cq;exact⟨_,rfl⟩
theorem VU (V:Env p B E d tt g) {stack:List Int}(f:stack.length≤100000) (b:Int):Ok (CM g p stack b) λe=>e.length≤1000:=by
 have n:=V.N;unfold CM;have⟨m,j⟩:=df b;refine AJ j (B0 (λi (l:List Int)=>l.length≤i) (by omega) (by simp) (λi l o k=> ?_) λl k=>AC (by omega));refine AP (Q:=λ_=>True) (Af (λh=> ?_) λ_=>AC trivial) λc _=> ?_
 ·have:=of_decide_eq_true h
  exact AP (de V (by omega) f _ _) λ_ _=>AC trivial
 ·refine AP (Q:=λl'=>l'.length≤i+1) (Af (λ_=>BL (by simp;omega) (AC (by simp;omega))) λ_=>AC (by omega)) λl' a=>AC a
def Ou (l:List dtT):Prop:= ∃a z,l=a++ [z] ∧(∀x∈a,x.1≠0)∧z.1=0∧l.length≤1000000
structure EI (p:dtP) (B:List dtK) (E:List (List Edge)) (K:MK) (s:MS) (X:List Int) (qs:List Nat):Prop where
 S:s.S=stI qs
 path:Lc (TrB p B E) 0 X qs
 N:s.N.length=X.length
 pos0:0≤s.pos
 pos1:s.pos< (K.toks.length:Int)
 st0:0≤s.steps
 st1:s.steps≤4000
 few:(s.X.L.length:Int) ≤s.steps
 XL:X.length≤s.X.L.length
 low:s.steps≤(s.X.L.length:Int)+1
 live:s.kind=0→(s.X.L.length:Int)=s.steps
 most:(s.N.length:Int) ≤s.most
 most1:s.most≤s.steps
 cu:s.X.cells=s.X.used
 u0:(s.X.L.length:Int) ≤s.X.used
 u1:s.X.used≤1001 *s.steps
 C:s.C.length≤5000
 exp:s.exp.length≤1000
theorem EI.tb {K:MK}{s:MS}{X:List Int}{qs:List Nat}(I:EI p B E K s X qs):TB s.X:=by have a:=I.few;have b:=I.st1;have c:=I.u0;have d:=I.u1;have e:=I.cu;exact⟨by omega,by omega,by omega⟩
theorem EI.fin {K:MK}{s:MS}{X:List Int}{qs:List Nat}(I:EI p B E K s X qs) (b:s.kind=0) (f:s.steps<4000) {k r a:Int}{e:List Int}(c:k≠0) (d:e.length≤1000):EI p B E K (E5 (Fx s) k r a e) X qs where
 S:=I.S
 path:=I.path
 N:=I.N
 pos0:=I.pos0
 pos1:=I.pos1
 st0:=by have:=I.st0;show 0≤s.steps+1;omega
 st1:=by show s.steps+1≤4000;omega
 few:=by have:=I.few;show(s.X.L.length:Int) ≤s.steps+1;omega
 XL:=I.XL
 low:=by have:=I.live b;show s.steps+1≤(s.X.L.length:Int)+1;omega
 live:=λh=>absurd h c
 most:=I.most
 most1:=by have:=I.most1;show s.most≤s.steps+1;omega
 cu:=I.cu
 u0:=I.u0
 u1:=by have:=I.u1;show s.X.used≤1001 *(s.steps+1);omega
 C:=I.C
 exp:=d
def Rng (s:MS) (l:Int):Prop:=s.X.used≤l∧l≤1099511627776
inductive Det (p:dtP) (K:MK) (s s1:MS) (X X1:List Int):Prop
 |shift {tok:dtT} :idx K.toks s.pos=some tok→0<tok.1→tok.1< (p.1.length:Int)→X1=X++ [tok.1] →s1.N=s.N++ [(s.X.L.length:Int)] →s1.X.L=s.X.L++ [VI (T4 tok) 1] →s1.pos=s.pos+1→Det p K s s1 X X1
 |reduce {k:Nat} {r:BM} {l1:List Int} :0<k→p.2.2.1[k]? =some r→X=l1++r.2.1→X1=l1++ [r.1] →s1.N=s.N.take l1.length++ [(s.X.L.length:Int)] →
  s1.X.L.map BA=(T3 s.X (inner (k:Int) r.1 (s.N.drop l1.length)) (1+(((s.N.drop l1.length).length:Nat):Int))).L.map BA→s1.pos=s.pos→Det p K s s1 X X1
structure Psh (s s1:MS):Prop where
 kind:s1.kind=0
 steps:s1.steps=s.steps+1
 most:s1.most=mx (s1.N.length:Int) s.most
 len:s1.X.L.length=s.X.L.length+1
 used:s.X.used<s1.X.used
inductive Out (p:dtP) (B:List dtK) (E:List (List Edge)) (K:MK) (s:MS) (X:List Int) (qs:List Nat):Prop
 |rej (f:Int→List Int):(∀b,(f b).length≤1000)→(∀b l,Rng s l→stepD (kk K b l) s=some (E5 (Fx s) 2 0 s.pos (f b)))→Out p B E K s X qs
 |acc {r:Int} {tok:dtT} {r0:BM} :idx K.toks s.pos=some tok→tok.1=0→p.2.2.1[0]? =some r0→It p.2.2.1 (KB B) (Mq 0 qs) 0 r0.2.1.length→1≤s.N.length→idx s.N ((s.N.length:Int) - 1)=some r→
  (∀b l,Rng s l→stepD (kk K b l) s=some (E5 (Fx s) 1 r 0 []))→Out p B E K s X qs
 |bad:(∀b l,Rng s l→stepD (kk K b l) s=some (Hr (Fx s)))→Out p B E K s X qs
 |push {s1:MS} {X1:List Int} {qs1:List Nat} :EI p B E K s1 X1 qs1→Psh s s1→Det p K s s1 X X1→(∀b l,Rng s l→stepD (kk K b l) s=some (if(s1.N.length:Int) ≤b∧s1.X.used≤l then s1 else Hr (Fx s)))→Out p B E K s X qs
theorem dh {K:MK}{s:MS}{q:Int}{a:dtT}{x:Int×Int}(c:s.kind=0) (h:0≤s.steps∧s.steps<4000) (d:idx s.S (bD .i64 ((s.S.length:Int) - (1:Int)))=some q) (e:idx K.toks s.pos=some a) (f:Bk K.g q a.1=some x):
 stepD K s=actD K (Fx s) x.1 x.2:=by
 have b:(s.kind !=(0:Int))=false:=by rw[c];rfl
 unfold stepD;simp only[b,cond_false,d,hC,e,f];rw[w64 (n:=s.steps+1) (by omega) (by omega)];rfl
end
section
variable {p:dtP}{B:List dtK}{E:List (List Edge)}{d:LkD}{tt:Int}{g:Bt}
theorem fx (V:Env p B E d tt g) {n m:Nat}{t:Int}(h:TrB p B E n t m):0<t:=by have A:=V.M.all.aut;have a:=(V.M.all.sym h).1;have⟨y,b,c⟩:=A.some_ h;obtain⟨k,i,rfl,_⟩:=A.form (A.st h).1 b;have⟨r,e,f⟩:=PH V.M.all.gr c a;exact V.M.all.gr.right r (kH e) t (kH f)
theorem eO (a b:Int):a≤mx a b:=by unfold mx;split<;>omega
theorem VW {a b c:Int}(d:a≤c) (e:b≤c):mx a b≤c:=by unfold mx;split<;>omega
theorem T5 {α:Type}{l:List α}{a:Nat}(h:a≤l.length):cut l (a:Int) (l.length:Int)=some (l.drop a):=by rw[Go.Eng.cut_ok (by omega) (by omega) (kF _)];simp
theorem Ov {α:Type}{l:List α}{a:Nat}(h:a≤l.length):cut l 0 (a:Int)=some (l.take a):=by rw[Go.Eng.cut_ok (by omega) (by omega) (by omega)];simp
theorem Wf (V:Env p B E d tt g) {K:MK}(hp:K.p=p) (hg:K.g=g) (hT:Ou K.toks) {s:MS}{X:List Int}{qs:List Nat}(I:EI p B E K s X qs) (hk:s.kind=0) (hs:s.steps<4000):Out p B E K s X qs:=by
 have A:=V.M.all.aut;have Gg:=V.M.all.gr;have Y:=I.path.len;have a9:=I.N;have i1:=I.XL;have i2:=I.few;have i3:=I.st0;have i4:=I.live hk;have i5:=I.u1;have i6:=I.u0;have i7:=I.C;have i8:=I.most1;have Z:s.S.length=qs.length+1:=by rw[I.S,Xg]
 have hq:idx s.S (bD .i64 ((s.S.length:Int) - (1:Int)))=some ((Mq 0 qs:Nat):Int):=by
  rw[Z,w64 (by omega) (by omega),show((qs.length+1:Nat):Int) - 1=(qs.length:Int) by omega,Bu,I.S];exact Xh qs
 have⟨pos,a0⟩:=Int.eq_ofNat_of_zero_le I.pos0;have c4:=I.pos1;have a1:pos<K.toks.length:=by omega
 have o:=hM a1;obtain⟨f,b0⟩:∃f,K.toks[pos] =f:=⟨_,rfl⟩;rw[b0]at o;have u:idx K.toks s.pos=some f:=by rw[a0,Bu,o]
 have⟨a,ha,P⟩:=gu V.M V.A V.G ((Mq 0 qs:Nat):Int) f.1;have step:∀b l,stepD (kk K b l) s=actD (kk K b l) (Fx s) a.1 a.2:=λb l=>dh (K:=kk K b l) hk ⟨I.st0,hs⟩ hq u (by show Bk K.g _ _=_;rw[hg];exact ha);have O:a.1=0→Out p B E K s X qs:=λh0=>by
  have hE:∀b,∃e,CM K.g K.p s.C b=some e∧e.length≤1000:=λb=>by
   obtain⟨e,Q,hl⟩:=VU V (stack:=s.C) (by omega) b;exact⟨e,by rw[hg,hp];exact Q,hl⟩
  refine .rej (λb=>(CM K.g K.p s.C b).getD []) (λb=> ?_) λb l _=> ?_
  ·have⟨e,Q,hl⟩:=hE b;rw[Q];exact hl
  ·have⟨e,Q,hl⟩:=hE b;rw[step];unfold actD;rw[if_pos h0];show((CM K.g K.p s.C b).bind λe=>some (E5 (Fx s) 2 0 s.pos e))=_;rw[Q];rfl
 rcases P with rfl | ⟨i',hi',hiB,c5,b1,hd⟩
 ·exact O rfl
 obtain rfl:i'=Mq 0 qs:=by omega
 cases hd with
 |err n=>exact O rfl
 | @shift m a2=>
  have b2:=fx V a2;have b3:pos+1<K.toks.length:=by
   obtain⟨l0,z,e,h1,h2,_⟩:=hT;rcases Nat.lt_or_ge (pos+1) K.toks.length with h | h
   ·exact h
   ·rw[e,kK,List.length_singleton]at h a1
    have:pos=l0.length:=by omega
    rw[e,this,kO (kT _),Nat.sub_self]at o;cases o;omega
  have i:(s.N++ [(s.X.L.length:Int)]).length=s.N.length+1:=by simp
  refine .push (s1:={Fx s with pos:=s.pos+1,S:=s.S++ [(m:Int)],N:=s.N++ [(s.X.L.length:Int)],C:=s.S++ [(m:Int)],X:=T3 s.X (T4 f) 1,most:=mx (((s.N++ [(s.X.L.length:Int)]).length:Nat):Int) s.most}) (X1:=X++ [f.1]) (qs1:=qs++ [m])
   ⟨?_,I.path.snoc a2,?_,?_,?_,?_,?_,?_,?_,?_,λ_=> ?_,eO _ _,VW (by show _≤s.steps+1;rw[i];omega) (by show _≤s.steps+1;omega),?_,?_,?_,?_,I.exp⟩ ⟨hk,rfl,rfl,?_,?_⟩ (.shift u b2 b1 rfl rfl rfl rfl) λb l j=> ?_
  ·show s.S++ [(m:Int)] =_;rw[VT,I.S]
  ·show(s.N++_).length=_;simp;omega
  ·show 0≤s.pos+1;omega
  ·show s.pos+1<_;omega
  ·show 0≤s.steps+1;omega
  ·show s.steps+1≤4000;omega
  ·show(((s.X.L++_).length:Nat):Int) ≤s.steps+1;simp;omega
  ·show(X++_).length≤(s.X.L++_).length;simp;omega
  ·show s.steps+1≤(((s.X.L++_).length:Nat):Int)+1;simp;omega
  ·show(((s.X.L++_).length:Nat):Int)=s.steps+1;simp;omega
  ·show s.X.cells+1=s.X.used+1;rw[I.cu]
  ·show(((s.X.L++_).length:Nat):Int) ≤s.X.used+1;simp;omega
  ·show s.X.used+1≤1001 *(s.steps+1);omega
  ·show(s.S++_).length≤5000;simp;omega
  ·show(s.X.L++_).length=_;simp
  ·show s.X.used<s.X.used+1;omega
  ·rw[step];unfold actD;rw[if_neg (show ¬((1:Int)=0) by decide),if_pos rfl];refine kV ?_;unfold T0;dsimp only;by_cases R:(s.N.length:Int) ≥b
   ·refine Ap (decide_eq_true R) (AC ?_);rw[if_neg λh=>by rw[i]at h;omega]
   ·have t:bI l s.X f=_:=eN (x:=T4 f) I.tb (by decide) (by decide) j.1 j.2;by_cases D:s.X.used+1≤l
    ·rw[if_pos D]at t;refine AS (decide_eq_false R) (AJ u (AJ t ?_));refine AS rfl (AJ (Xi _ _ _ (by show s.N.length≤_;omega) (by show s.S.length≤_;omega)) ?_);have b4:Dg.cloneD (s.S++ [(m:Int)])=some (s.S++ [(m:Int)]):=by unfold Dg.cloneD;rw[if_pos (by simp;omega)]
     refine AJ b4 (AC ?_);rw[if_pos ⟨by rw[i];omega,D⟩];show({Fx s with pos:=bD .i64 (s.pos+1),S:=_,N:=_,C:=_,X:=_,most:=_} :MS)=_;have hT:=hT;obtain⟨_,_,_,_,_,c6⟩:=hT;rw[w64 (n:=s.pos+1) (by omega) (by omega)];rfl
    ·rw[if_neg D]at t;refine AS (decide_eq_false R) (AJ u (AJ t ?_));refine Ap rfl (AC ?_);rw[if_neg λh=>D h.2];rfl
 | @accept r0 n h0 j F=>
  obtain⟨l1,q,r',w,hX,_,_,_,_⟩:=A.behind Gg I.path.pth F;rw[j]at w;cases w;obtain⟨r2,st,g1,g2,_⟩:=Gg.zero;rw[j]at g1;cases g1;have c7:1≤X.length:=by rw[hX,g2];simp
  have b5:1≤s.N.length:=by omega
  have H:idx s.N ((s.N.length:Int) - 1)=some s.N[s.N.length - 1]:=by
   rw[show(s.N.length:Int) - 1=((s.N.length - 1:Nat):Int) by omega,GI (by omega)]
  refine .acc u h0 j F b5 H λb l _=> ?_;rw[step];unfold actD;rw[if_neg (show ¬((3:Int)=0) by decide),if_neg (show ¬((3:Int)=1) by decide),if_neg (show ¬((3:Int)=2) by decide),if_pos rfl];unfold QL;show((idx s.N (bD .i64 ((s.N.length:Int) - (1:Int)))).bind _)=_;rw[w64 (by omega) (by omega),H];rfl
 | @reduce k r a3 j F=>
  obtain⟨l1,q,r',w,hX,a4,_,b6,_⟩:=A.behind Gg I.path.pth F;rw[j]at w;cases w;rw[List.take_of_length_le (kT _)]at hX;subst hX;obtain⟨qs1,c8,rfl,T,c9⟩:=I.path.split;have a5:=T.len;obtain rfl:Mq 0 qs1=q:=Pth.fn A T.pth a4;have U:=A.at0 A.s0 a4;have⟨m,hm⟩:=A.goes Gg U a3 j b6;have⟨r0,r1,r2⟩:=V.left j;have c2:=V.M.all.sym hm;have c3:=V.M.all.sy.left r (kH j);have d0:nT p=(p.1.length:Int):=rfl;have hV:=V.M.all.vars;have d1:=V.N;obtain⟨v,hv,b7⟩:=gw V.M V.G (by omega) (by omega) ((Mq 0 qs1:Nat):Int) r.1 r0 r1;have b8:v=(m:Int):=by
   rw[b7 _ rfl U (by omega) (by omega)];rcases bA V.M U r.1 with⟨m',h1,h2⟩|⟨_,h2⟩
   ·rw[h1,A.fn h2 hm]
   ·exact absurd hm (h2 m)
  subst b8;rw[kK]at a9 i1 Y;rw[kK]at Y Z;have W:(s.N.drop l1.length).length=r.2.1.length:=by rw[List.length_drop];omega
  have y:idx K.p.2.2.1 (k:Int)=some r:=by rw[hp,Bu];exact j
  have c:bD .i64 ((s.N.length:Int) - (r.2.1.length:Int))=(l1.length:Int):=by rw[w64 (by omega) (by omega)];omega
  have i:(s.N.take l1.length++ [(s.X.L.length:Int)]).length=l1.length+1:=by simp;omega
  have b9:s.S.take (l1.length+1)=stI qs1:=by rw[I.S,←a5,bM]
  rcases fw (X:=s.X) (k:Int) r.1 (kids:=s.N.drop l1.length) I.tb (by omega) with⟨e,Q,a6⟩|⟨L3,a7,hnode⟩
  ·refine .bad λb l j=> ?_;rw[step];unfold actD;rw[if_neg (show ¬((2:Int)=0) by decide),if_neg (show ¬((2:Int)=1) by decide),if_pos rfl];refine kV ?_;unfold Ot;refine AJ y ?_;show Ok (cond (decide (bD .i64 ((s.N.length:Int) - (r.2.1.length:Int)) ≥b)) _ ((cut s.N (bD .i64 ((s.N.length:Int) - (r.2.1.length:Int))) (s.N.length:Int)).bind _)) _;rw[c];refine Af (λ_=>AC rfl) λ_=>AJ (T5 (by omega)) (AJ (a6 l) (Ap Q (AC rfl)))
  ·have a8:L3.length=s.X.L.length+1:=by
    have:=congrArg List.length a7
    simpa[T3]using this
   refine .push (s1:={Fx s with S:=stI qs1++ [(m:Int)],N:=s.N.take l1.length++ [(s.X.L.length:Int)],X:=⟨L3,s.X.cells+(1+(((s.N.drop l1.length).length:Nat):Int)),s.X.used+(1+(((s.N.drop l1.length).length:Nat):Int)),mx (s.X.used+(1+(((s.N.drop l1.length).length:Nat):Int))) s.X.mo⟩,most:=mx (((s.N.take l1.length++ [(s.X.L.length:Int)]).length:Nat):Int) s.most}) (X1:=l1++ [r.1]) (qs1:=qs1++ [m])
    ⟨?_,T.snoc hm,?_,I.pos0,I.pos1,?_,?_,?_,?_,?_,λ_=> ?_,eO _ _,VW (by show _≤s.steps+1;rw[i];omega) (by show _≤s.steps+1;omega),?_,?_,?_,I.C,I.exp⟩ ⟨hk,rfl,rfl,a8,?_⟩ (.reduce a3 j rfl rfl rfl a7 rfl) λb l j=> ?_
   ·show stI qs1++ [(m:Int)] =_;rw[VT]
   ·show(s.N.take l1.length++_).length=(l1++ [r.1]).length;rw[i];simp
   ·show 0≤s.steps+1;omega
   ·show s.steps+1≤4000;omega
   ·show(L3.length:Int) ≤s.steps+1;omega
   ·show(l1++ [r.1]).length≤L3.length;simp;omega
   ·show s.steps+1≤(L3.length:Int)+1;omega
   ·show(L3.length:Int)=s.steps+1;omega
   ·show s.X.cells+_=s.X.used+_;rw[I.cu]
   ·show(L3.length:Int) ≤s.X.used+_;omega
   ·show s.X.used+_≤1001 *(s.steps+1);rw[W];omega
   ·show s.X.used<s.X.used+_;omega
   ·rw[step];unfold actD;rw[if_neg (show ¬((2:Int)=0) by decide),if_neg (show ¬((2:Int)=1) by decide),if_pos rfl];refine kV ?_;unfold Ot;refine AJ y ?_;show Ok (cond (decide (bD .i64 ((s.N.length:Int) - (r.2.1.length:Int)) ≥b)) _ ((cut s.N (bD .i64 ((s.N.length:Int) - (r.2.1.length:Int))) (s.N.length:Int)).bind _)) _;rw[c];by_cases R:(l1.length:Int) ≥b
    ·refine Ap (decide_eq_true R) (AC ?_);rw[if_neg λh=>by rw[i]at h;omega]
    ·have J:=hnode l j.1 j.2;by_cases D:s.X.used+(1+(((s.N.drop l1.length).length:Nat):Int)) ≤l
     ·rw[if_pos D]at J;refine AS (decide_eq_false R) (AJ (T5 (by omega)) (AJ J ?_));have c0:cut s.N 0 (bD .i64 ((s.N.length:Int) - (r.2.1.length:Int)))=some (s.N.take l1.length):=by rw[c];exact Ov (by omega)
      refine AS rfl (AJ c0 ?_);have hw:bD .i64 ((l1.length:Int)+(1:Int))=((l1.length+1:Nat):Int):=by rw[w64 (by omega) (by omega)];omega
      have c1:cut s.S 0 (bD .i64 (bD .i64 ((s.N.length:Int) - (r.2.1.length:Int))+(1:Int)))=some (stI qs1):=by rw[c,hw,Ov (by omega),b9]
      have H:idx (stI qs1) (bD .i64 ((s.N.length:Int) - (r.2.1.length:Int)))=some ((Mq 0 qs1:Nat):Int):=by rw[c,Bu,←a5];exact Xh qs1
      refine AJ c1 (AJ H (AJ (by show Cf K.g _ _=_;rw[hg];exact hv) ?_));refine Ok.of (Xi _ _ _ (by show(s.N.take l1.length).length≤_;simp;omega) (by show(stI qs1).length≤_;rw[Xg];omega)) ?_;rw[if_pos ⟨by rw[i];omega,D⟩];rfl
     ·rw[if_neg D]at J;refine AS (decide_eq_false R) (AJ (T5 (by omega)) (AJ J ?_));refine Ap rfl (AC ?_);rw[if_neg λh=>D h.2];rfl
end
end Go.Proofs.YtnlkgidlfnefbaaGreatDoor
namespace Go.Proofs.YtnlkgidlfnefbaaGreatDoor
open Go Go.Eng
section
variable {φ:AD}{h:AH}{F:List Chk}{m:Nat}{A:MA}{K:MK}{s:MS}
theorem Nj (H:MOk φ m A K s F h):CallsH kJ 20 [.pointer (jX m)] h (Ae λv a=>v= .int .i64 s.steps∧a=h):=by obtain⟨ss,ns,cs,es,tl,c,d,st⟩:=H;refine AN mixed func20 (E1 ..)<|AF _ rfl (AA (b:=m) (j:=18) (x:=s.steps) st rfl (AB ⟨rfl,rfl⟩))
theorem Sk (H:MOk φ m A K s F h):CallsH kJ 13 [.pointer (jX m)] h (Ae λv a=>v= .int .i64 s.most∧a=h):=by obtain⟨ss,ns,cs,es,tl,c,d,st⟩:=H;refine AN mixed func13 (FU ..)<|AF _ rfl (AA (b:=m) (j:=19) (x:=s.most) st rfl (AB ⟨rfl,rfl⟩))
theorem Ra (H:MOk φ m A K s F h):CallsH kJ 21 [.pointer (jX m)] h (Ae λv a=>v= .int .i64 (s.N.length:Int)∧a=h):=by obtain⟨ss,ns,cs,es,tl,c,d,st⟩:=H;refine AN mixed func21 (IV ..)<|AF _ rfl (AA (b:=m) (j:=11) (x:=ns) st rfl ?_);rw[st.at2.rowLen];exact AB ⟨rfl,rfl⟩
theorem Sl (H:MOk φ m A K s F h):CallsH kJ 11 [.pointer (jX m)] h (Ae λv a=>v= .pointer (some ⟨A.tp,0,none⟩)∧a=h):=by obtain⟨ss,ns,cs,es,tl,c,d,st⟩:=H;refine AN mixed func11 (FS ..)<|AF _ rfl (AA (b:=m) (j:=13) (x:=some ⟨A.tp,0,none⟩) st rfl (AB ⟨rfl,rfl⟩))
theorem bN (H:MOk φ m A K s F h):CallsH kJ 23 [.pointer (some ⟨A.tp,0,none⟩)] h (Ae λv a=>v= .int .i64 (s.X.L.length:Int)∧a=h):=by obtain⟨ss,ns,cs,es,tl,b,c,st⟩:=H;exact Tz (bJ st)
theorem Yp (H:MOk φ m A K s F h) {r:Int}(hd:Cz (K.lim,s.X.used,s.X.mo)=some r):CallsH kJ 22 [.pointer (some ⟨A.mp,0,none⟩)] h (Ae λv a=>v= .int .i64 r∧ ∃ψ,Sub φ ψ∧MOk ψ m A K s F a):=by obtain⟨ss,ns,cs,es,tl,b,c,st⟩:=H;refine(Ga st.at6 hd).mono ?_;rintro e a ⟨v,rfl,ψ,y,le,rfl,rfl,st⟩;exact⟨_,rfl,rfl,ψ,le,ss,ns,cs,es,tl,b.mono le,c.mono le,st.at6.at6.at6.at6.at6.at6⟩
theorem VX (H:MOk φ m A K s F h) {e:List Int}(hd:Dg.cloneD s.exp=some e):CallsH kJ 12 [.pointer (jX m)] h
 (Ae λv f=>∃ψ:AD,∃y:Int×Int×Int×Slc×Unit,Sub φ ψ∧v=((.one (.agg [(.int .i64),(.int .i64),(.int .i64),.slice])):Sh).val y∧(y.1,y.2.1,y.2.2.1)=(s.kind,s.root,s.oat)∧eE (kG .i64) ψ y.2.2.2.1 e∧MOk ψ m A K s F f):=by obtain⟨ss,ns,cs,es,tl,g,d,st⟩:=H;refine AN mixed func12 (EY ..)<|AU (vs:=[.int .i64 0,.int .i64 0,.int .i64 0,.slice none 0 0]) st λn o st=>AF _ rfl<|AA (b:=m) (j:=14) (x:=s.kind) st.at1 rfl (AA (b:=m) (j:=15) (x:=s.root) st.at1 rfl (AA (b:=m) (j:=16) (x:=s.oat) st.at1 rfl (AA (b:=m) (j:=17) (x:=es) st.at1 rfl ?_)));refine AU (vs:=[.int .i64 0,.int .i64 0,.int .i64 0,.slice none 0 0]) st λp q st=>AG st rfl rfl λ_ st=>AG st rfl rfl λ_ st=>AG st rfl rfl λ_ st=>AG st rfl rfl λ_ st=>AA (x:=es) st rfl<|AE (Dg.clone46_ro d st hd) ?_;rintro _ r ⟨ψ,y,l,le,rfl,rfl,st⟩;refine⟨y,rfl,?_⟩;obtain⟨i,c,k,st⟩:=st.freezeRow;refine AG st rfl rfl λ_ st=>AA st rfl (AA st rfl (AA st rfl (AA (x:=y) st rfl ?_)));refine AG st.at1 rfl rfl λ_ st=>AG st rfl rfl λ_ st=>AG st rfl rfl λ_ st=>AG st rfl rfl λ_ st=>AA st rfl (AA st rfl (AA st rfl (AA (x:=y) st rfl ?_)));have a:=le.trans c;exact AB ⟨i,(s.kind,s.root,s.oat,y,()),a,rfl,rfl,k,ss,ns,cs,es,tl,g.mono a,d.mono a,st.tail.tail⟩
end
section
variable {φ:AD}{h:AH}{F:List Chk}
noncomputable def Bz (small_0:J1):Option (List ByteArray×List ByteArray×List BM×List Int×List Int×List ByteArray×Option Bt×Bool):=(CS (small_0.1,small_0.2.1,small_0.2.2.1,small_0.2.2.2.1,small_0.2.2.2.2.1,small_0.2.2.2.2.2.1,small_0.2.2.2.2.2.2)).bind λa=>(DP (a.1,a.2.1,a.2.2.1,a.2.2.2.1,a.2.2.2.2.1,a.2.2.2.2.2)).bind λf=>cond (f.2 !=0) (some (a.1,a.2.1,a.2.2.1,a.2.2.2.1,a.2.2.2.2.1,a.2.2.2.2.2,none,false)) ((Q3 (a.1,a.2.1,a.2.2.1,a.2.2.2.1,a.2.2.2.2.1,a.2.2.2.2.2) 300 9000).bind λc=>(cond (hA c.1) (some true) (c.1.bind λg=>(CI g).bind λh=>some (h==0))).bind λi=>cond i (some (a.1,a.2.1,a.2.2.1,a.2.2.2.1,a.2.2.2.2.1,a.2.2.2.2.2,none,false)) (c.1.bind λb=>(XU (a.1,a.2.1,a.2.2.1,a.2.2.2.1,a.2.2.2.2.1,a.2.2.2.2.2) b).bind λd=>cond (hA d) (some (a.1,a.2.1,a.2.2.1,a.2.2.2.1,a.2.2.2.2.1,a.2.2.2.2.2,none,false)) ((HM (a.1,a.2.1,a.2.2.1,a.2.2.2.1,a.2.2.2.2.1,a.2.2.2.2.2) b d).bind λe=>some (a.1,a.2.1,a.2.2.1,a.2.2.2.1,a.2.2.2.2.1,a.2.2.2.2.2,e,(!(hA e))))))
theorem C7 {A:Int×Int×Slc×Slc×Slc×Slc×Slc×Unit}{a0:List Int}{K:List (List Int)}{L:List Int}{M:List Int}{N:List Int}(D:Jv φ) (ba:eE (kG .u8) φ A.2.2.1 a0) (bb:eE (kY (kG .u8)) φ A.2.2.2.1 K) (bd:eE (kG .u8) φ A.2.2.2.2.1 L) (bf:eE (kG .u8) φ A.2.2.2.2.2.1 M) (bg:eE (kG .u8) φ A.2.2.2.2.2.2.1 N) (s0:St φ F h) {r:(List ByteArray×List ByteArray×List BM×List Int×List Int×List ByteArray×Option Bt×Bool)}(hd:Bz (A.1,A.2.1,a0,K,L,M,N)=some r):
 CallsH kJ 8 [(.agg #[(.int .u8 A.1),(.int .u8 A.2.1),(sv A.2.2.1),(sv A.2.2.2.1),(sv A.2.2.2.2.1),(sv A.2.2.2.2.2.1),(sv A.2.2.2.2.2.2.1)])] h (Ae λv h'=>∃ψ:AD,∃y:(Pl6)×(Option Addr)×Bool×Unit,∃O:List ByteArray,∃P:List ByteArray,∃Q:List BM,∃R:List Int,∃S:List Int,∃T:List ByteArray,∃al:Option Bt,Sub φ ψ∧v=((.tuple [(.agg [.slice,.slice,.slice,.slice,.slice,.slice]),aP,aB]):Sh).val y∧(O,P,Q,R,S,T,al,y.2.2.1)=r∧eE lB ψ y.1.1 O∧eE lB ψ y.1.2.1 P∧eE CB ψ y.1.2.2.1 Q∧eE (kG .i64) ψ y.1.2.2.2.1 R∧eE (kG .i64) ψ y.1.2.2.2.2.1 S∧eE lB ψ y.1.2.2.2.2.2.1 T∧Np GY ψ y.2.1 al∧St ψ F h'):=by
 refine AN mixed func8 (KL ..)<|AU (vs:=[.int .u8 A.1,.int .u8 A.2.1,sv A.2.2.1,sv A.2.2.2.1,sv A.2.2.2.2.1,sv A.2.2.2.2.2.1,sv A.2.2.2.2.2.2.1]) s0 λr1 e3 bi=>AU (vs:=[.slice none 0 0,.slice none 0 0,.slice none 0 0,.slice none 0 0,.slice none 0 0,.slice none 0 0]) bi λr2 e4 d=>AA d.at1 rfl<|AA d.at1 rfl<|AA d.at1 rfl<|AA d.at1 rfl<|AA d.at1 rfl<|AA d.at1 rfl<|AA d.at1 rfl ?_;have⟨e5,bj,hd⟩:=bS hd;refine AE (HH (A:=(A.1,A.2.1,A.2.2.1,A.2.2.2.1,A.2.2.2.2.1,A.2.2.2.2.2.1,A.2.2.2.2.2.2.1,())) ba bb bd bf bg d bj) ?_;rintro _ e6 ⟨e7,B,m,n,o,p,q,s,e8,rfl,rfl,e,f,i,j,k,l,bl⟩;refine⟨B,rfl,?_⟩;refine AU (vs:=[.slice none 0 0,.slice none 0 0,.slice none 0 0,.slice none 0 0,.slice none 0 0,.slice none 0 0]) bl λE e9 bp=>AG bp rfl rfl λea bs=>AG bs rfl rfl λec bt=>AG bt rfl rfl λed bw=>AG bw rfl rfl λee bx=>AG bx rfl rfl λef bz=>AG bz rfl rfl λeg ap=>Bi (t:=B) ap ?_;have⟨ek,c0,hd⟩:=bS hd;refine AE (Jd (A:=(B.1,B.2.1,B.2.2.1,B.2.2.2.1,B.2.2.2.2.1,B.2.2.2.2.2.1,())) (B:=(m,n,o,p,q,s)) ⟨e,f,i,j,k,l⟩ ap c0) ?_;rintro _ el ⟨c1,G,em,rfl,rfl,w⟩;refine⟨G,rfl,?_⟩;refine kD hd rfl (λhd=>?_) (λhd=>?_)
 ·refine Bi (t:=B) w<|AG w.at1 rfl rfl λen c2=>AG c2 rfl rfl λeo c3=>AG c3 rfl rfl λer c4=>AG c4 rfl rfl λes c5=>AG c5 rfl rfl λev c6=>AG c6 rfl rfl λew U=>Bi (t:=B) U ?_;exact AB ⟨c1,((B.1,B.2.1,B.2.2.1,B.2.2.2.1,B.2.2.2.2.1,B.2.2.2.2.2.1,()),none,false,()),m,n,o,p,q,s,none,sb,rfl,iS hd,e.up,f.up,i.up,j.up,k.up,l.up,(kZ _ _),U.tail.tail.tail⟩
 refine Bi (t:=B) w ?_;have⟨ex,c7,hd⟩:=bS hd;refine AE (Yd (d:=(B.1,B.2.1,B.2.2.1,B.2.2.2.1,B.2.2.2.2.1,B.2.2.2.2.2.1,())) (D.a.mono sb) e.up f.up i.up j.up k.up l.up w c7) ?_;rintro _ ey ⟨b1,H,ez,f0,rfl,rfl,z,V⟩;refine⟨H,rfl,?_⟩;have c8:=z.nil;have⟨c9,c,hd⟩:=bS hd;refine Ad (λy w_ g=>∃ψ:AD,Sub b1 ψ∧y.1=g∧St ψ (cW 32 E [sv B.1,sv B.2.1,sv B.2.2.1,sv B.2.2.2.1,sv B.2.2.2.2.1,sv B.2.2.2.2.2.1]::Wq5 r2::Wq0 r1 A::F) w_) (g:=c9) ?_ ?_
 ·refine kD c (by rw[c8] <;>rfl) (λc=>?_) (λc=>?_)
  ·have ch:=V.at2;exact jY rfl ⟨b1,sb,iS c,ch.at2.at2⟩
  have⟨f1,cl,c⟩:=bS c;have⟨f2,cm,c⟩:=bS c;refine AE (DW ((z).get cl) V cm) ?_;rintro _ f3 ⟨cp,I,f4,rfl,rfl,cs⟩;refine⟨I,rfl,?_⟩;exact jY rfl ⟨cp,sb,iS c,cs.at2.at2.at2⟩
 rintro h0 f5 ⟨W,f6,rfl,x⟩;refine kD hd rfl (λhd=>?_) (λhd=>?_)
 ·refine Bi (t:=B) x<|AG x.at1 rfl rfl λf7 cu=>AG cu rfl rfl λf8 cw=>AG cw rfl rfl λf9 cx=>AG cx rfl rfl λfa d0=>AG d0 rfl rfl λfd d1=>AG d1 rfl rfl λfl X=>Bi (t:=B) X ?_;exact AB ⟨W,((B.1,B.2.1,B.2.2.1,B.2.2.2.1,B.2.2.2.2.1,B.2.2.2.2.2.1,()),none,false,()),m,n,o,p,q,s,none,sb,rfl,iS hd,e.up,f.up,i.up,j.up,k.up,l.up,(kZ _ _),X.tail.tail.tail⟩
 refine Bi (t:=B) x ?_;have⟨fn,d2,hd⟩:=bS hd;have Y:=((z.up (ψ:=W))).get d2;have⟨fo,d3,hd⟩:=bS hd;refine AE (ab (a:=(B.1,B.2.1,B.2.2.1,B.2.2.2.1,B.2.2.2.2.1,B.2.2.2.2.2.1,())) (D.b.mono sb) e.up f.up i.up j.up k.up l.up Y x d3) ?_;rintro _ fr ⟨d4,J,fs,fv,rfl,rfl,u⟩;refine⟨J,rfl,?_⟩;have d5:=fe u;refine kD hd (by rw[d5] <;>rfl) (λhd=>?_) (λhd=>?_)
 ·refine Bi (t:=B) u.at1<|AG u.at2 rfl rfl λfz d6=>AG d6 rfl rfl λg0 d7=>AG d7 rfl rfl λg1 d8=>AG d8 rfl rfl λg2 d9=>AG d9 rfl rfl λg3 dd=>AG dd rfl rfl λg4 Z=>Bi (t:=B) Z ?_;exact AB ⟨d4,((B.1,B.2.1,B.2.2.1,B.2.2.2.1,B.2.2.2.2.1,B.2.2.2.2.2.1,()),none,false,()),m,n,o,p,q,s,none,sb,rfl,iS hd,e.up,f.up,i.up,j.up,k.up,l.up,(kZ _ _),Z.tail.tail.tail.tail⟩
 refine Bi (t:=B) u.at1 ?_;have⟨g5,dg,hd⟩:=bS hd;refine AE (RR (B:=(B.1,B.2.1,B.2.2.1,B.2.2.2.1,B.2.2.2.2.1,B.2.2.2.2.2.1,())) (A:=(m,n,o,p,q,s)) (D.b.mono sb) ⟨e.up,f.up,i.up,j.up,k.up,l.up⟩ Y.up u dg) ?_;rintro _ g6 ⟨dk,C,dl,g7,rfl,rfl,b7,b8⟩;refine⟨C,rfl,?_⟩;have dp:=b7.nil;refine Bi (t:=B) b8.at1<|AG b8.at2 rfl rfl λg8 ds=>AG ds rfl rfl λg9 dx=>AG dx rfl rfl λgc dy=>AG dy rfl rfl λgd e0=>AG e0 rfl rfl λgf e1=>AG e1 rfl rfl λgg b9=>Bi (t:=B) b9 ?_;obtain rfl:=iS hd;have e2:=b9.tail.tail.tail.tail;exact AB ⟨dk,((B.1,B.2.1,B.2.2.1,B.2.2.2.1,B.2.2.2.2.1,B.2.2.2.2.2.1,()),C,(!(hA C)),()),m,n,o,p,q,s,dl,sb,rfl,(by rw[dp]),e.up,f.up,i.up,j.up,k.up,l.up,b7,e2⟩
noncomputable def B6 (p_0:As) (a:Bt) (b:List DI):Option Ko:=(Bo 100000).bind λt8=>(P9 (p_0.1,p_0.2.1,p_0.2.2.1,p_0.2.2.2.1,p_0.2.2.2.2.1,p_0.2.2.2.2.2) a b 1000 t8 4000).bind λc=>some c.1
theorem DQ {A:Pl6}{B:As}{D:Option Addr}{d:Bt}{E:Slc}{e:List DI}(c:Gw φ A B) (i:Pt GY φ D d) (k:eE Fe φ E e) (H:St φ F h) {r:Ko}(hd:B6 B d e=some r):
 CallsH kJ 10 [(aG A),(.pointer D),(sv E)] h (Ae λv I=>∃ψ:AD,∃y:Option Addr,∃f:Ko,Sub φ ψ∧v=((.one aP):Sh).val y∧f=r∧Pt Ri ψ y f∧St ψ F I):=by refine AN mixed func10 (LX ..)<|Db (t:=A) H λC s g=>Bi (t:=A) g ?_;have⟨u,l,hd⟩:=bS hd;refine AE (CC g l) ?_;rintro _ w ⟨x,t8,z,a0,rfl,rfl,a⟩;refine⟨t8,rfl,?_⟩;refine AI (bO (b:=C) (j:=0) a.at1 rfl)<|AI (bO (b:=C) (j:=1) a.at1 rfl)<|AI (bO (b:=C) (j:=2) a.at1 rfl)<|AI (bO (b:=C) (j:=3) a.at1 rfl)<|AI (bO (b:=C) (j:=4) a.at1 rfl)<|AI (bO (b:=C) (j:=5) a.at1 rfl) ?_;have⟨J,m,hd⟩:=bS hd;refine AE (Jn (a:=(A.1,A.2.1,A.2.2.1,A.2.2.2.1,A.2.2.2.2.1,A.2.2.2.2.2.1,())) c.k0.up c.k1.up c.k2.up c.k3.up c.k4.up c.k5.up i.up k.up a m) ?_;rintro _ K ⟨n,G,o,L,M,rfl,rfl,p,q⟩;refine⟨G,rfl,?_⟩;exact AB ⟨n,G,o,sb,rfl,iS hd,p,q.tail.tail⟩
noncomputable def Cc:Option Bool:=(Bz (2,0,([(0:Int),0]:List Int),([([(0:Int),3,1]:List Int),([(2:Int)]:List Int)]:List (List Int)),([]:List Int),([]:List Int),([]:List Int))).bind λt5=>cond (!t5.2.2.2.2.2.2.2) (some false) ((BW (t5.1,t5.2.1,t5.2.2.1,t5.2.2.2.1,t5.2.2.2.2.1,t5.2.2.2.2.2.1) ([(0:Int),2,1]:List Int)).bind λf=>(BW (t5.1,t5.2.1,t5.2.2.1,t5.2.2.2.1,t5.2.2.2.2.1,t5.2.2.2.2.2.1) ([(0:Int),2,2]:List Int)).bind λg=>(BW (t5.1,t5.2.1,t5.2.2.1,t5.2.2.2.1,t5.2.2.2.2.1,t5.2.2.2.2.2.1) ([(0:Int),0,2,1,1]:List Int)).bind λh=>t5.2.2.2.2.2.2.1.bind λa=>(B6 (t5.1,t5.2.1,t5.2.2.1,t5.2.2.2.1,t5.2.2.2.2.1,t5.2.2.2.2.2.1) a f.1).bind λb=>(B6 (t5.1,t5.2.1,t5.2.2.1,t5.2.2.2.1,t5.2.2.2.2.1,t5.2.2.2.2.2.1) a g.1).bind λd=>(Bo 100).bind λi=>(P9 (t5.1,t5.2.1,t5.2.2.1,t5.2.2.2.1,t5.2.2.2.2.1,t5.2.2.2.2.2.1) a h.1 3 i 4000).bind λe=>(cond (hA (some b)) (some true) (cond (hA (some d)) (some true) (some (hA (some e.1))))).bind λj=>cond j (some false) (((Ao b).bind λk=>cond (k.1==1) ((CN b).bind λl=>cond (l==6) ((BB b).bind λm=>cond (m==3) ((Ao d).bind λc=>(Bf (c.1,c.2.1,c.2.2.1,c.2.2.2) (2,0,2,([(2:Int)]:List Int))).bind λn=>cond n ((Ao e.1).bind λo=>some (o.1==3)) (some false)) (some false)) (some false)) (some false)).bind λp=>some p))
theorem Dt (gk:Jv φ) (s0:St φ F h) {r:Bool}(hd:Cc=some r):
 CallsH kJ 6 [] h (Ae λv h'=>∃ψ:AD,∃y:Bool,Sub φ ψ∧v=((.one aB):Sh).val y∧y=r∧St ψ F h'):=by
 refine AN mixed func6 (Jg ..)<|AU (vs:=[.int .u8 (0:Int),.int .u8 (0:Int)]) s0 λr1 es b7=>AU (vs:=[.int .u8 (0:Int),.int .u8 (3:Int),.int .u8 (1:Int)]) b7 λM ev b8=>AU (vs:=[.int .u8 (2:Int)]) b8 λN ew b9=>AU (vs:=[.slice (jX M) 3 3,.slice (jX N) 1 1]) b9 λr4 ex ba=> ?_;have bb:=kX (r:=(kG .u8)) (l:=([(0:Int),(0:Int)]:List Int)) (n:=2) ba.at3 (.cons (a:=[_]) rfl (.cons (a:=[_]) rfl .nil)) rfl (by decide);have⟨ey,ez,bd,bf⟩:=kI (t:=((some ⟨r1,0,none⟩,2,2):Slc)) bb;have bg:=kX (r:=(kG .u8)) (l:=([(0:Int),(3:Int),(1:Int)]:List Int)) (n:=3) bf.at2 (.cons (a:=[_]) rfl (.cons (a:=[_]) rfl (.cons (a:=[_]) rfl .nil))) rfl (by decide);have⟨f0,f1,bi,bj⟩:=kI (t:=((some ⟨M,0,none⟩,3,3):Slc)) bg;have bl:=kX (r:=(kG .u8)) (l:=([(2:Int)]:List Int)) (n:=1) bj.at1 (.cons (a:=[_]) rfl .nil) rfl (by decide);have⟨f2,f3,bp,bs⟩:=kI (t:=((some ⟨N,0,none⟩,1,1):Slc)) bl;have bt:=kX (r:=(kY (kG .u8))) (l:=([([(0:Int),(3:Int),(1:Int)]:List Int),([(2:Int)]:List Int)]:List (List Int))) (n:=2) bs (.cons (a:=[_]) ⟨((some ⟨M,0,none⟩,3,3):Slc),rfl,bi.up⟩ (.cons (a:=[_]) ⟨((some ⟨N,0,none⟩,1,1):Slc),rfl,bp⟩ .nil)) rfl (by decide);have⟨O,f4,bw,bx⟩:=kI (t:=((some ⟨r4,0,none⟩,2,2):Slc)) bt;have⟨f5,bz,hd⟩:=bS hd;refine AE (C7 (A:=((2:Int),(0:Int),((some ⟨r1,0,none⟩,2,2):Slc),((some ⟨r4,0,none⟩,2,2):Slc),((none,0,0):Slc),((none,0,0):Slc),((none,0,0):Slc),())) (gk.mono sb) bd.up bw (kW (kG .u8) O) (kW (kG .u8) O) (kW (kG .u8) O) bx bz) ?_;rintro _ f6 ⟨c0,t5,a0,D,E,G,H,I,f7,f8,rfl,rfl,q,s,u,w,x,z,c1,c2⟩;refine⟨t5,rfl,?_⟩;refine AU (vs:=[.slice none 0 0,.slice none 0 0,.slice none 0 0,.slice none 0 0,.slice none 0 0,.slice none 0 0]) c2 λB f9 c3=>AG c3 rfl rfl λfa c4=>AG c4 rfl rfl λfd c5=>AG c5 rfl rfl λfl c6=>AG c6 rfl rfl λfn c7=>AG c7 rfl rfl λfo c8=>AG c8 rfl rfl λfr e=>kD hd rfl (λhd=>?_) (λhd=>?_)
 ·exact AB ⟨c0,false,sb,rfl,iS hd,e.tail⟩
 refine AA e rfl<|AA e rfl<|AA e rfl<|AA e rfl<|AA e rfl<|AA e rfl<|AU (vs:=[.int .u8 (0:Int),.int .u8 (2:Int),.int .u8 (1:Int)]) e λP fs c9=> ?_;have ch:=kX (r:=(kG .u8)) (l:=([(0:Int),(2:Int),(1:Int)]:List Int)) (n:=3) c9 (.cons (a:=[_]) rfl (.cons (a:=[_]) rfl (.cons (a:=[_]) rfl .nil))) rfl (by decide);have⟨fv,fz,cl,cm⟩:=kI (t:=((some ⟨P,0,none⟩,3,3):Slc)) ch;have⟨g0,cp,hd⟩:=bS hd;refine AE (B2 (B:=(t5.1.1,t5.1.2.1,t5.1.2.2.1,t5.1.2.2.2.1,t5.1.2.2.2.2.1,t5.1.2.2.2.2.2.1,())) (A:=(a0,D,E,G,H,I)) ⟨q.up,s.up,u.up,w.up,x.up,z.up⟩ cl cm cp) ?_;rintro _ g1 ⟨g2,Q,g3,g4,g5,rfl,rfl,cs,g6,f⟩;refine⟨Q,rfl,?_⟩;refine AA f rfl<|AA f rfl<|AA f rfl<|AA f rfl<|AA f rfl<|AA f rfl<|AU (vs:=[.int .u8 (0:Int),.int .u8 (2:Int),.int .u8 (2:Int)]) f λR g7 cu=> ?_;have cw:=kX (r:=(kG .u8)) (l:=([(0:Int),(2:Int),(2:Int)]:List Int)) (n:=3) cu (.cons (a:=[_]) rfl (.cons (a:=[_]) rfl (.cons (a:=[_]) rfl .nil))) rfl (by decide);have⟨g8,g9,cx,d0⟩:=kI (t:=((some ⟨R,0,none⟩,3,3):Slc)) cw;have⟨gc,d1,hd⟩:=bS hd;refine AE (B2 (B:=(t5.1.1,t5.1.2.1,t5.1.2.2.1,t5.1.2.2.2.1,t5.1.2.2.2.2.1,t5.1.2.2.2.2.2.1,())) (A:=(a0,D,E,G,H,I)) ⟨q.up,s.up,u.up,w.up,x.up,z.up⟩ cx d0 d1) ?_;rintro _ gd ⟨gf,S,gg,gj,gl,rfl,rfl,d2,gn,i⟩;refine⟨S,rfl,?_⟩;refine AA i rfl<|AA i rfl<|AA i rfl<|AA i rfl<|AA i rfl<|AA i rfl<|AU (vs:=[.int .u8 (0:Int),.int .u8 (0:Int),.int .u8 (2:Int),.int .u8 (1:Int),.int .u8 (1:Int)]) i λT go d3=> ?_;have d4:=kX (r:=(kG .u8)) (l:=([(0:Int),(0:Int),(2:Int),(1:Int),(1:Int)]:List Int)) (n:=5) d3 (.cons (a:=[_]) rfl (.cons (a:=[_]) rfl (.cons (a:=[_]) rfl (.cons (a:=[_]) rfl (.cons (a:=[_]) rfl .nil))))) rfl (by decide);have⟨gp,gr,d5,d6⟩:=kI (t:=((some ⟨T,0,none⟩,5,5):Slc)) d4;have⟨gs,d7,hd⟩:=bS hd;refine AE (B2 (B:=(t5.1.1,t5.1.2.1,t5.1.2.2.1,t5.1.2.2.2.1,t5.1.2.2.2.2.1,t5.1.2.2.2.2.2.1,())) (A:=(a0,D,E,G,H,I)) ⟨q.up,s.up,u.up,w.up,x.up,z.up⟩ d5 d6 d7) ?_;rintro _ gv ⟨d8,U,gx,h0,h1,rfl,rfl,d9,h2,k⟩;refine⟨U,rfl,?_⟩;refine AA k rfl<|AA k rfl<|AA k rfl<|AA k rfl<|AA k rfl<|AA k rfl ?_;have⟨h3,dd,hd⟩:=bS hd;have V:=((c1.up (ψ:=d8))).get dd;have⟨h4,dg,hd⟩:=bS hd;refine AE (DQ (A:=(t5.1.1,t5.1.2.1,t5.1.2.2.1,t5.1.2.2.2.1,t5.1.2.2.2.2.1,t5.1.2.2.2.2.2.1,())) (B:=(a0,D,E,G,H,I)) ⟨q.up,s.up,u.up,w.up,x.up,z.up⟩ V cs.up k dg) ?_;rintro _ h5 ⟨h6,W,h7,h8,rfl,rfl,K,m⟩;refine⟨W,rfl,?_⟩;refine AA m rfl<|AA m rfl<|AA m rfl<|AA m rfl<|AA m rfl<|AA m rfl ?_;have⟨h9,dk,hd⟩:=bS hd;refine AE (DQ (A:=(t5.1.1,t5.1.2.1,t5.1.2.2.1,t5.1.2.2.2.1,t5.1.2.2.2.2.1,t5.1.2.2.2.2.2.1,())) (B:=(a0,D,E,G,H,I)) ⟨q.up,s.up,u.up,w.up,x.up,z.up⟩ V.up d2.up m dk) ?_;rintro _ hb ⟨hc,X,he,hf,rfl,rfl,al,o⟩;refine⟨X,rfl,?_⟩;refine AA o rfl<|AA o rfl<|AA o rfl<|AA o rfl<|AA o rfl<|AA o rfl ?_;have⟨hg,dl,hd⟩:=bS hd;refine AE (CC o dl) ?_;rintro _ hh ⟨hi,C,hj,hk,rfl,rfl,p⟩;refine⟨C,rfl,?_⟩;refine AI (bO (b:=B) (j:=0) p.at1 rfl)<|AI (bO (b:=B) (j:=1) p.at1 rfl)<|AI (bO (b:=B) (j:=2) p.at1 rfl)<|AI (bO (b:=B) (j:=3) p.at1 rfl)<|AI (bO (b:=B) (j:=4) p.at1 rfl)<|AI (bO (b:=B) (j:=5) p.at1 rfl) ?_;have⟨hl,dp,hd⟩:=bS hd;refine AE (Jn (a:=(t5.1.1,t5.1.2.1,t5.1.2.2.1,t5.1.2.2.2.1,t5.1.2.2.2.2.1,t5.1.2.2.2.2.2.1,())) q.up s.up u.up w.up x.up z.up V.up d9.up p dp) ?_;rintro _ hm ⟨L,Y,hn,ap,ho,rfl,rfl,b0,Z⟩;refine⟨Y,rfl,?_⟩;have⟨ds,d,hd⟩:=bS hd;refine Ad (λy w_ g=>∃ψ:AD,Sub L ψ∧y.1=g∧St ψ (cO 83 (kU En) C ap::cW 32 B [sv t5.1.1,sv t5.1.2.1,sv t5.1.2.2.1,sv t5.1.2.2.2.1,sv t5.1.2.2.2.2.1,sv t5.1.2.2.2.2.2.1]::F) w_) (g:=ds) ?_ ?_
 ·refine kD d (by rw[(G3 K)] <;>rfl) (λd=>?_) (λd=>?_)
  ·have dx:=Z.at1;exact jY rfl ⟨L,sb,iS d,dx.at1⟩
  refine kD d (by rw[(G3 al)] <;>rfl) (λd=>?_) (λd=>?_)
  ·have dy:=Z.at1;exact jY rfl ⟨L,sb,iS d,dy.at1⟩
  have e0:=Z.at1.at1;obtain rfl:=iS d;exact jY rfl ⟨L,sb,(by rw[(G3 b0)]),e0⟩
 rintro j6 hp ⟨b1,hq,rfl,b2⟩;refine kD hd rfl (λhd=>?_) (λhd=>?_)
 ·exact AB ⟨b1,false,sb,rfl,iS hd,b2.tail.tail⟩
 have⟨e1,c,hd⟩:=bS hd;refine Ad (λy w_ g=>∃ψ:AD,Sub b1 ψ∧y.1=g∧St ψ (cO 83 (kU En) C ap::cW 32 B [sv t5.1.1,sv t5.1.2.1,sv t5.1.2.2.1,sv t5.1.2.2.2.1,sv t5.1.2.2.2.2.1,sv t5.1.2.2.2.2.2.1]::F) w_) (g:=e1) ?_ ?_
 ·have⟨hr,e2,c⟩:=bS c;refine AE (Ar K.up b2 e2) ?_;rintro _ hs ⟨e3,j0,ht,hu,rfl,rfl,hv,b3⟩;refine⟨j0,rfl,?_⟩;refine kD c rfl (λc=>?_) (λc=>?_)
  ·have⟨hw,e4,c⟩:=bS c;refine AE (CZ K.up b3 e4) ?_;rintro _ hx ⟨e5,j1,hy,rfl,rfl,b4⟩;refine⟨j1,rfl,?_⟩;refine kD c rfl (λc=>?_) (λc=>?_)
   ·have⟨hz,e6,c⟩:=bS c;refine AE (A9 K.up b4 e6) ?_;rintro _ i0 ⟨e7,j2,i1,rfl,rfl,b5⟩;refine⟨j2,rfl,?_⟩;refine kD c rfl (λc=>?_) (λc=>?_)
    ·have⟨i2,e8,c⟩:=bS c;refine AE (Ar al.up b5 e8) ?_;rintro _ i3 ⟨i4,A,i5,i6,rfl,rfl,e9,ea⟩;refine⟨A,rfl,?_⟩;refine AU (vs:=[.int .i64 (2:Int)]) ea λJ i7 ec=> ?_;have ed:=kX (r:=(kG .i64)) (l:=([(2:Int)]:List Int)) (n:=1) ec (.cons (a:=[_]) rfl .nil) rfl (by decide);have⟨i8,i9,ee,ef⟩:=kI (t:=((some ⟨J,0,none⟩,1,1):Slc)) ed;have⟨ia,eg,c⟩:=bS c;refine AE (C6 (z:=(A.1,A.2.1,A.2.2.1,A.2.2.2.1,())) (A:=((2:Int),(0:Int),(2:Int),((some ⟨J,0,none⟩,1,1):Slc),())) e9.up ee ef eg) ?_;rintro _ ib ⟨ek,j3,ic,rfl,rfl,b6⟩;refine⟨j3,rfl,?_⟩;refine kD c rfl (λc=>?_) (λc=>?_)
     ·have⟨ie,el,c⟩:=bS c;refine AE (Ar b0.up b6 el) ?_;rintro _ ig ⟨em,j4,ih,ii,rfl,rfl,ij,en⟩;refine⟨j4,rfl,?_⟩;exact jY rfl ⟨em,sb,iS c,en.at1.at1⟩
     exact jY rfl ⟨ek,sb,iS c,b6.at1.at1⟩
    exact jY rfl ⟨e7,sb,iS c,b5.at1.at1⟩
   exact jY rfl ⟨e5,sb,iS c,b4.at1.at1⟩
  exact jY rfl ⟨e3,sb,iS c,b3.at1.at1⟩
 rintro j5 ik ⟨eo,il,rfl,er⟩;exact AB ⟨eo,j5.1,sb,rfl,iS hd,er.tail.tail⟩
end
noncomputable def Yq (K:MK) (d cells n:Int) (s:MS):Option Bool:=cond (s.steps !=bD .i64 (n+1)) (some true)<|cond (decide ((s.N.length:Int) >d)) (some true)<|cond (decide (s.most>d)) (some true)<|cond (decide ((s.N.length:Int) >s.most)) (some true)<|(Cz (K.lim,s.X.used,s.X.mo)).bind λu=>cond (decide (u>cells)) (some true)<|some (decide ((s.X.L.length:Int) <bD .i64 (bD .i64 (n+1) - 1)))
noncomputable def Ow (K:MK) (d cells:Int) (x:Int×MS):Option (AY (Int×MS) (Option MS)):=cond (decide (x.1< 4000)) ((Dg.cloneD x.2.exp).bind λ_=>(stepD K x.2).bind λs'=>cond (x.2.kind !=0) ((cond (!(s'.kind !=0)) (some true) (some (s'.steps !=x.1))).bind λc=>cond c (some (kQ none)) (some (kQ (some s')))) ((Yq K d cells x.1 s').bind λc=>cond c (some (kQ none)) (some (lA (bD .i64 (x.1+1),s'))))) (some (kQ (some x.2)))
noncomputable def Wg (a:J1) (l:List Int) (c cells:Int):Option Bool:=
 (Cc).bind λok=>
 (Bd (a.1,a.2.1,a.2.2.1,a.2.2.2.1,a.2.2.2.2.1,a.2.2.2.2.2.1,a.2.2.2.2.2.2) 9 4).bind λd=>
 (cond (!d) (some true) (some (decide ((l.length:Int) >12)))).bind λz=>cond z (some ok)<|
 (Bz (a.1,a.2.1,a.2.2.1,a.2.2.2.1,a.2.2.2.2.1,a.2.2.2.2.2.1,a.2.2.2.2.2.2)).bind λq=>cond (!q.2.2.2.2.2.2.2) (some ok)<|
 (BW (q.1,q.2.1,q.2.2.1,q.2.2.2.1,q.2.2.2.2.1,q.2.2.2.2.2.1) l).bind λi=>
 (Bo (bD .i64 cells)).bind λf=>q.2.2.2.2.2.2.1.bind λg=>
 (We (q.1,q.2.1,q.2.2.1,q.2.2.2.1,q.2.2.2.2.1,q.2.2.2.2.2.1) g i.1 (bD .i64 (kL c 31)) f.1 f.2.1 f.2.2).bind λk=>
 (loop (0,k.2) (Ow k.1 (bD .i64 (kL c 31)) (bD .i64 cells))).bind λe=>match e with
 |none=>some false
 |some s=>(Bo (bD .i64 cells)).bind λh=>
  (P9 (q.1,q.2.1,q.2.2.1,q.2.2.2.1,q.2.2.2.2.1,q.2.2.2.2.2.1) g i.1 (bD .i64 (kL c 31)) h 4000).bind λj=>
  cond ok ((Ao j.1).bind λo=>(Dg.cloneD s.exp).bind λe=>(Bf (o.1,o.2.1,o.2.2.1,o.2.2.2) (s.kind,s.root,s.oat,e)).bind λb=>
   cond b ((CN j.1).bind λn=>some (n==s.steps)) (some false)) (some false)
theorem MOk.frame {φ:AD}{h:AH}{F:List Chk}{m:Nat}{A:MA}{K:MK}{s:MS}(H:MOk φ m A K s F h):St φ F h:=by obtain⟨ss,ns,cs,es,tl,a,b,st⟩:=H;exact st.tail.tail.tail.tail.tail.tail.tail
end Go.Proofs.YtnlkgidlfnefbaaGreatDoor
namespace Go.Proofs.YtnlkgidlfnefbaaGreatDoor
open Go Go.Eng Dg
section
variable {p:dtP}{B:List dtK}{E:List (List Edge)}{d:LkD}{tt:Int}{g:Bt}{K:MK}
theorem Rb {K:MK}{s s1:MS}(a:s.steps<4000) (h:stepD K s=some s1) (b:s1.kind=0):IY K 4000 s=IY K 4000 s1:=by
 unfold IY;rw[GO];have e:goD K 4000 s=some (lA s1):=by
  unfold goD;rw[decide_eq_true a,cond_true,h];show cond (s1.kind !=0) _ _=_;rw[b];rfl
 rw[e];rfl
theorem QM {K:MK}{s s1:MS}(a:s.steps<4000) (h:stepD K s=some s1) (b:s1.kind≠0):IY K 4000 s=some s1:=by
 unfold IY;rw[GO];have e:goD K 4000 s=some (kQ s1):=by
  unfold goD;rw[decide_eq_true a,cond_true,h];show cond (s1.kind !=0) _ _=_;rw[bne_iff_ne.2 b];rfl
 rw[e];rfl
theorem QN {K:MK}{s:MS}(a:4000≤s.steps):IY K 4000 s=some s:=by
 unfold IY;rw[GO];have e:goD K 4000 s=some (kQ s):=by
  unfold goD;rw[decide_eq_false (by omega)];rfl
 rw[e];rfl
theorem Out.two {s:MS}{X:List Int}{qs:List Nat}(O:Out p B E K s X qs) (b l:Int) (c:Rng s l):
 (∃k r a e,k≠0∧e.length≤1000∧stepD (kk K b l) s=some (E5 (Fx s) k r a e))∨ ∃s1 X1 qs1,EI p B E K s1 X1 qs1∧Psh s s1∧stepD (kk K b l) s=some s1∧(s1.N.length:Int) ≤b∧s1.X.used≤l:=by
 cases O with
 |rej f g i=>exact .inl ⟨2,0,s.pos,f b,by decide,g b,i b l c⟩
 |acc _ _ _ _ _ _ h=>exact .inl ⟨1,_,0,[],by decide,by simp,h b l c⟩
 |bad h=>exact .inl ⟨3,0,0,[],by decide,by simp,h b l c⟩
 |push I P _ h=>
  have h:=h b l c;split at h
  ·rename_i d
   exact .inr ⟨_,_,_,I,P,h,d.1,d.2⟩
  ·exact .inl ⟨3,0,0,[],by decide,by simp,h⟩
theorem GB {K:MK}{b c:Int}{s s1:MS}{X:List Int}{qs:List Nat}(I:EI p B E K s X qs) (a:s.kind=0) (g:s.steps<4000) (d:s1.steps=s.steps+1) (h:(s1.N.length:Int) ≤s1.most) (i:s1.most≤b) (j:s1.X.used≤c) (k:s.X.L.length≤s1.X.L.length) {f:MK}:Yq f b c s.steps s1=some false:=by have l:=I.st0;have m:=I.live a;refine kV ?_;unfold Yq;have e:bD .i64 (s.steps+(1:Int))=s.steps+1:=w64 (by omega) (by omega);rw[e,w64 (n:=s.steps+1 - 1) (by omega) (by omega)];refine AS (by rw[d];simp) (AS (decide_eq_false (by omega)) (AS (decide_eq_false (by omega)) (AS (decide_eq_false (by omega)) (AJ rfl (AS (decide_eq_false (by dsimp only;omega)) (AC (decide_eq_false (by omega))))))))
theorem Xj (V:Env p B E d tt g) (y:K.p=p) (z:K.g=g) (A:Ou K.toks) {b c:Int}(C:c≤1099511627776):∀(n:Nat) {s:MS}{X:List Int}{qs:List Nat},EI p B E K s X qs→s.kind=0→(4000 - s.steps).toNat=n→s.X.used≤c→s.most≤b→
 ∃r,IY (kk K b c) 4000 s=some r∧r.exp.length≤1000∧r.most≤b∧loop (s.steps,s) (Ow (kk K b c) b c)=some (some r):=by
 intro n
 induction n with
 |zero=>
  intro s X qs I j D u m
  have:=I.st1
  refine⟨s,QN (by omega),I.exp,m,?_⟩;rw[GO];have e:Ow (kk K b c) b c (s.steps,s)=some (kQ (some s)):=by
   unfold Ow;rw[decide_eq_false (by dsimp only;omega)];rfl
  rw[e];rfl
 |succ n F=>
  intro s X qs I j D u m;have i:s.steps<4000:=by omega
  have R:=I.st0;have o:∀l:List Int,l.length≤1000→Dg.cloneD l=some l:=λl h=>by unfold Dg.cloneD;rw[if_pos (by omega)]
  have body:∀s1,stepD (kk K b c) s=some s1→Yq (kk K b c) b c s.steps s1=some false→Ow (kk K b c) b c (s.steps,s)=some (lA (s.steps+1,s1)):=λs1 v w=>by
   unfold Ow;dsimp only;rw[decide_eq_true i,cond_true,o _ I.exp,j];show(stepD (kk K b c) s).bind _=_;rw[v];show(Yq (kk K b c) b c s.steps s1).bind _=_;rw[w,w64 (n:=s.steps+1) (by omega) (by omega)];rfl
  rcases(Wf V y z A I j i).two b c ⟨u,C⟩ with⟨k,r,a,e,f,he,hst⟩|⟨s1,X1,qs1,I1,P,hst,hN,q⟩
  ·refine⟨_,QM i hst f,he,m,?_⟩;rw[GO,body _ hst (GB (s1:=E5 (Fx s) k r a e) I j i rfl I.most m u (kT _))];dsimp only[hC];rw[GO];have G:Ow (kk K b c) b c (s.steps+1,E5 (Fx s) k r a e)=some (kQ (some (E5 (Fx s) k r a e))):=by
    unfold Ow;dsimp only;by_cases h:s.steps+1<4000
    ·rw[decide_eq_true h,cond_true];have v:Dg.cloneD (E5 (Fx s) k r a e).exp=some e:=o _ he;have w:stepD (kk K b c) (E5 (Fx s) k r a e)=some (E5 (Fx s) k r a e):=by
      unfold stepD
      have:((E5 (Fx s) k r a e).kind !=(0:Int))=true:=bne_iff_ne.2 f
      rw[this];rfl
     have H:((E5 (Fx s) k r a e).kind !=(0:Int))=true:=bne_iff_ne.2 f;rw[v];dsimp only[hC];rw[w];dsimp only[hC];have J:((E5 (Fx s) k r a e).steps !=s.steps+1)=false:=by
      show(s.steps+1 !=s.steps+1)=false;simp
     simp only[H,cond_true,Bool.not_true,cond_false,hC,J]
    ·rw[decide_eq_false h];rfl
   rw[G];rfl
  ·have L:=P.most;have x:=P.steps;have S:=P.len;have t:s1.most≤b:=by rw[L];exact VW hN m
   obtain⟨r,M,N,O,Q⟩:=F I1 P.kind (by omega) q t;refine⟨r,by rw[Rb i hst P.kind];exact M,N,O,?_⟩;rw[GO,body _ hst (GB I j i x I1.most t q (by omega))];dsimp only[hC];rw[←x];exact Q
theorem Sm (V:Env p B E d tt g) (T:K.p=p) (U:K.g=g) (W:Ou K.toks) {b1 l1:Int}(v:l1≤1099511627776):∀(n:Nat) {s:MS}{X:List Int}{qs:List Nat},EI p B E K s X qs→s.kind=0→(4000 - s.steps).toNat=n→s.X.used≤l1→
 ∃r,IY (kk K b1 l1) 4000 s=some r∧r.exp.length≤1000∧s.most≤r.most∧s.X.used≤r.X.used∧(r.kind=1→1≤r.most∧r.most≤4000∧1≤r.X.used∧r.X.used≤100000000∧r.X.cells=r.X.used)∧
  ∀j o,s.most≤j→s.X.used≤o→o≤1099511627776→ ∃q,IY (kk K j o) 4000 s=some q∧q.exp.length≤1000∧q.most≤j∧(r.kind=1→(r.most≤j∧r.X.used≤o→q=r)∧(¬(r.most≤j∧r.X.used≤o)→q.kind=3)):=by
 intro n
 induction n with
 |zero=>
  intro s X qs I Y hn z
  have:=I.st1
  refine⟨s,QN (by omega),I.exp,kF _,kF _,λh=>by omega,λj o L _ _=>⟨s,QN (by omega),I.exp,L,λh=>by omega⟩⟩
 |succ n ih=>
  intro s X qs I Y hn z;have O:s.steps<4000:=by omega
  have i0:=I.st0;have i:∀ {k r a:Int} {e:List Int},k≠0→ ∀b l,stepD (kk K b l) s=some (E5 (Fx s) k r a e)→IY (kk K b l) 4000 s=some (E5 (Fx s) k r a e):=λh b l u=>QM O u h;cases Wf V T U W I Y O with
  |rej f L u=>
   exact⟨_,i (by decide) _ _ (u b1 l1 ⟨z,v⟩),L b1,kF _,kF _,λh=>absurd (show(2:Int)=1 from h) (by decide),λj o w x A=>⟨_,i (by decide) _ _ (u j o ⟨x,A⟩),L j,w,λh=>absurd (show(2:Int)=1 from h) (by decide)⟩⟩
  |acc _ _ _ _ hN _ u=>
   have i1:=I.most;have i2:=I.most1;have i3:=I.u0;have i4:=I.u1;have i5:=I.XL;have i6:=I.N;refine⟨_,i (by decide) _ _ (u b1 l1 ⟨z,v⟩),by simp[E5],kF _,kF _,λ_=>⟨?_,?_,?_,?_,I.cu⟩,λj o w x A=>⟨_,i (by decide) _ _ (u j o ⟨x,A⟩),by simp[E5],w,λ_=>⟨λ_=>rfl,λh=>absurd ⟨w,x⟩ h⟩⟩⟩
   ·show 1≤s.most;omega
   ·show s.most≤4000;omega
   ·show 1≤s.X.used;omega
   ·show s.X.used≤100000000;omega
  |bad u=>
   exact⟨_,i (by decide) _ _ (u b1 l1 ⟨z,v⟩),by simp[E5],kF _,kF _,λh=>absurd (show(3:Int)=1 from h) (by decide),λj o w x A=>⟨_,i (by decide) _ _ (u j o ⟨x,A⟩),by simp[E5],w,λh=>absurd (show(3:Int)=1 from h) (by decide)⟩⟩
  | @push s1 X1 qs1 M P D u=>
   have Q:=P.most;have p2:=P.steps;have p3:=P.used;have pm:s.most≤s1.most:=by rw[Q];unfold mx;split<;>omega
   have t:∀b l,Rng s l→ ¬((s1.N.length:Int) ≤b∧s1.X.used≤l)→IY (kk K b l) 4000 s=some (Hr (Fx s)):=λb l R h=>i (by decide) b l (by have:=u b l R;rw[if_neg h]at this;exact this);have go:∀b l,Rng s l→(s1.N.length:Int) ≤b∧s1.X.used≤l→IY (kk K b l) 4000 s=IY (kk K b l) 4000 s1:=λb l R h=>Rb O (by have:=u b l R;rw[if_pos h]at this;exact this) P.kind;by_cases S:(s1.N.length:Int) ≤b1∧s1.X.used≤l1
   ·obtain⟨r,w,x,A,g4,g5,g6⟩:=ih M P.kind (by omega) S.2;refine⟨r,by rw[go _ _ ⟨z,v⟩ S];exact w,x,by omega,by omega,g5,λj o C F y=> ?_⟩;by_cases m:(s1.N.length:Int) ≤j∧s1.X.used≤o
    ·obtain⟨q,G,H,J,w4⟩:=g6 j o (by rw[Q];exact VW m.1 C) m.2 y;exact⟨q,by rw[go _ _ ⟨F,y⟩ m];exact G,H,J,w4⟩
    ·have i9:=M.most;refine⟨_,t _ _ ⟨F,y⟩ m,by simp[Hr,E5],C,λ_=>⟨λh=>absurd ⟨by omega,by omega⟩ m,λ_=>rfl⟩⟩
   ·refine⟨_,t _ _ ⟨z,v⟩ S,by simp[Hr,E5],kF _,kF _,λh=>absurd (show(3:Int)=1 from h) (by decide),λj o C F y=> ?_⟩;by_cases m:(s1.N.length:Int) ≤j∧s1.X.used≤o
    ·have Z:=VW m.1 C;rw[←Q]at Z;have i1:=M.st1;obtain⟨q,G,H,J⟩:∃q,IY (kk K j o) 4000 s1=some q∧q.exp.length≤1000∧q.most≤j:=by
      obtain⟨q,G,H,J,_⟩:=Xj V T U W (b:=j) (c:=o) y _ M P.kind rfl m.2 Z;exact⟨q,G,H,J⟩
     exact⟨q,by rw[go _ _ ⟨F,y⟩ m];exact G,H,J,λh=>absurd (show(3:Int)=1 from h) (by decide)⟩
    ·exact⟨_,t _ _ ⟨F,y⟩ m,by simp[Hr,E5],C,λh=>absurd (show(3:Int)=1 from h) (by decide)⟩
end
end Go.Proofs.YtnlkgidlfnefbaaGreatDoor
namespace Go.Proofs.YtnlkgidlfnefbaaGreatDoor
open Go Go.Eng
theorem Nk:Cc=some true:=by kernel_rfl
noncomputable def Cs (small_0:J1) (n:List Int) (d:Int):Option Bool:=(Cc).bind λt2=>(Bd (small_0.1,small_0.2.1,small_0.2.2.1,small_0.2.2.2.1,small_0.2.2.2.2.1,small_0.2.2.2.2.2.1,small_0.2.2.2.2.2.2) 9 4).bind λp=>(cond (!p) (some true) (some (decide ((n.length:Int) >12)))).bind λq=>cond q (some t2) ((Bz (small_0.1,small_0.2.1,small_0.2.2.1,small_0.2.2.2.1,small_0.2.2.2.2.1,small_0.2.2.2.2.2.1,small_0.2.2.2.2.2.2)).bind λa=>cond (!a.2.2.2.2.2.2.2) (some t2) ((BW (a.1,a.2.1,a.2.2.1,a.2.2.2.1,a.2.2.2.2.1,a.2.2.2.2.2.1) n).bind λh=>a.2.2.2.2.2.2.1.bind λi=>(B6 (a.1,a.2.1,a.2.2.1,a.2.2.2.1,a.2.2.2.2.1,a.2.2.2.2.2.1) i h.1).bind λj=>(cond (hA (some j)) (some true) ((CW j).bind λr=>some (hA (some r)))).bind λs=>cond s (some false) ((Ao j).bind λc=>cond (c.1 !=1) (some t2) ((BB j).bind λb=>(CW j).bind λt=>(Fv t).bind λe=>(Bo e).bind λu=>(P9 (a.1,a.2.1,a.2.2.1,a.2.2.2.1,a.2.2.2.2.1,a.2.2.2.2.2.1) i h.1 b u 4000).bind λf=>(Bo (bD .i64 (e+(bD .i64 d)))).bind λv=>(P9 (a.1,a.2.1,a.2.2.1,a.2.2.2.1,a.2.2.2.2.1,a.2.2.2.2.2.1) i h.1 (bD .i64 (b+(bD .i64 d))) v 4000).bind λo=>(Bo e).bind λw=>(P9 (a.1,a.2.1,a.2.2.1,a.2.2.2.1,a.2.2.2.2.1,a.2.2.2.2.2.1) i h.1 (bD .i64 (b - 1)) w 4000).bind λg=>(Bo (bD .i64 (e - 1))).bind λx=>(P9 (a.1,a.2.1,a.2.2.1,a.2.2.2.1,a.2.2.2.2.1,a.2.2.2.2.2.1) i h.1 b x 4000).bind λm=>(cond (hA (some f.1)) (some true) (cond (hA (some o.1)) (some true) (cond (hA (some g.1)) (some true) (some (hA (some m.1)))))).bind λy=>cond y (some false) ((cond t2 ((Ao f.1).bind λk=>(Bf (k.1,k.2.1,k.2.2.1,k.2.2.2) (c.1,c.2.1,c.2.2.1,c.2.2.2)).bind λz=>cond z ((Ao o.1).bind λl=>(Bf (l.1,l.2.1,l.2.2.1,l.2.2.2) (c.1,c.2.1,c.2.2.1,c.2.2.2)).bind λA=>cond A (cond (decide (b< 1)) (cond (decide (e< 1)) ((BB f.1).bind λB=>cond (B==b) ((BB g.1).bind λC=>some (decide (C≤(bD .i64 (b - 1))))) (some false)) ((Ao m.1).bind λD=>cond (D.1==3) ((BB f.1).bind λE=>cond (E==b) ((BB g.1).bind λF=>some (decide (F≤(bD .i64 (b - 1))))) (some false)) (some false))) ((Ao g.1).bind λG=>cond (G.1==3) (cond (decide (e< 1)) ((BB f.1).bind λH=>cond (H==b) ((BB g.1).bind λI=>some (decide (I≤(bD .i64 (b - 1))))) (some false)) ((Ao m.1).bind λJ=>cond (J.1==3) ((BB f.1).bind λK=>cond (K==b) ((BB g.1).bind λL=>some (decide (L≤(bD .i64 (b - 1))))) (some false)) (some false))) (some false))) (some false)) (some false)) (some false)).bind λM=>some M)))))
theorem Gt {φ:AD}{h:AH}{F:List Chk}{A:Int×Int×Slc×Slc×Slc×Slc×Slc×Unit}{b8:List Int}{b9:List (List Int)}{ba:List Int}{bb:List Int}{bd:List Int}{J:Slc}{b2:List Int}{G:Int}(gk:Jv φ) (bf:eE (kG .u8) φ A.2.2.1 b8) (bg:eE (kY (kG .u8)) φ A.2.2.2.1 b9) (bi:eE (kG .u8) φ A.2.2.2.2.1 ba) (bj:eE (kG .u8) φ A.2.2.2.2.2.1 bb) (bl:eE (kG .u8) φ A.2.2.2.2.2.2.1 bd) (bp:eE (kG .u8) φ J b2) (s0:St φ F h) {r:Bool}(hd:Cs (A.1,A.2.1,b8,b9,ba,bb,bd) b2 G=some r):
 CallsH kJ 3 [(.agg #[(.int .u8 A.1),(.int .u8 A.2.1),(sv A.2.2.1),(sv A.2.2.2.1),(sv A.2.2.2.2.1),(sv A.2.2.2.2.2.1),(sv A.2.2.2.2.2.2.1)]),(sv J),(.int .u8 G)] h (Ae λv h'=>∃ψ:AD,∃y:Bool,Sub φ ψ∧v=((.one aB):Sh).val y∧y=r∧St ψ F h'):=by
 refine AN mixed func3 (Gm ..) ?_;have cx:J.2.1=List.length b2:=bp.length;refine AU (vs:=[.int .u8 A.1,.int .u8 A.2.1,sv A.2.2.1,sv A.2.2.2.1,sv A.2.2.2.2.1,sv A.2.2.2.2.2.1,sv A.2.2.2.2.2.2.1]) s0 λZ h2 d0=> ?_;have⟨h3,d1,hd⟩:=bS hd;refine AE (Dt gk d0 d1) ?_;rintro _ h4 ⟨h5,t2,h6,rfl,rfl,e⟩;refine⟨t2,rfl,?_⟩;refine AA e rfl<|AA e rfl<|AA e rfl<|AA e rfl<|AA e rfl<|AA e rfl<|AA e rfl ?_;have⟨h7,d2,hd⟩:=bS hd;refine AE (Cy (A:=(A.1,A.2.1,A.2.2.1,A.2.2.2.1,A.2.2.2.2.1,A.2.2.2.2.2.1,A.2.2.2.2.2.2.1,())) bf.up bg.up bi.up bj.up bl.up e d2) ?_;rintro _ h8 ⟨b3,m0,h9,rfl,rfl,bs⟩;refine⟨m0,rfl,?_⟩;have⟨d3,U,hd⟩:=bS hd;refine Ad (λy K g=>∃ψ:AD,Sub b3 ψ∧y.1=g∧St ψ (Wq0 Z A::F) K) (g:=d3) ?_ ?_
 ·refine kD U rfl (λU=>?_) (λU=>?_)
  ·exact jY rfl ⟨b3,sb,iS U,bs⟩
  obtain rfl:=iS U;exact jY rfl ⟨b3,sb,(by rw[cx]),bs⟩
 rintro o5 hb ⟨d4,hc,rfl,d⟩;refine kD hd rfl (λhd=>?_) (λhd=>?_)
 ·exact AB ⟨d4,t2,sb,rfl,iS hd,d.tail⟩
 refine AA d rfl<|AA d rfl<|AA d rfl<|AA d rfl<|AA d rfl<|AA d rfl<|AA d rfl ?_;have⟨he,d5,hd⟩:=bS hd;refine AE (C7 (A:=(A.1,A.2.1,A.2.2.1,A.2.2.2.1,A.2.2.2.2.1,A.2.2.2.2.2.1,A.2.2.2.2.2.2.1,())) (gk.mono sb) bf.up bg.up bi.up bj.up bl.up d d5) ?_;rintro _ hf ⟨d6,B,bt,bw,bx,bz,c0,c1,hg,hh,rfl,rfl,w,x,z,a0,P,Q,d7,d8⟩;refine⟨B,rfl,?_⟩;refine AU (vs:=[.slice none 0 0,.slice none 0 0,.slice none 0 0,.slice none 0 0,.slice none 0 0,.slice none 0 0]) d8 λC hi d9=>AG d9 rfl rfl λhj dd=>AG dd rfl rfl λhk dg=>AG dg rfl rfl λhl dk=>AG dk rfl rfl λhm dl=>AG dl rfl rfl λhn dp=>AG dp rfl rfl λho f=>kD hd rfl (λhd=>?_) (λhd=>?_)
 ·exact AB ⟨d6,t2,sb,rfl,iS hd,f.tail.tail⟩
 refine AA f rfl<|AA f rfl<|AA f rfl<|AA f rfl<|AA f rfl<|AA f rfl ?_;have⟨hp,ds,hd⟩:=bS hd;refine AE (B2 (B:=(B.1.1,B.1.2.1,B.1.2.2.1,B.1.2.2.2.1,B.1.2.2.2.2.1,B.1.2.2.2.2.2.1,())) (A:=(bt,bw,bx,bz,c0,c1)) ⟨w,x,z,a0,P,Q⟩ bp.up f ds) ?_;rintro _ hq ⟨dx,m1,hr,hs,ht,rfl,rfl,V,hu,i⟩;refine⟨m1,rfl,?_⟩;refine AA i rfl<|AA i rfl<|AA i rfl<|AA i rfl<|AA i rfl<|AA i rfl ?_;have⟨hv,dy,hd⟩:=bS hd;have W:=((d7.up (ψ:=dx))).get dy;have⟨hw,e0,hd⟩:=bS hd;refine AE (DQ (A:=(B.1.1,B.1.2.1,B.1.2.2.1,B.1.2.2.2.1,B.1.2.2.2.2.1,B.1.2.2.2.2.2.1,())) (B:=(bt,bw,bx,bz,c0,c1)) ⟨w.up,x.up,z.up,a0.up,P.up,Q.up⟩ W V i e0) ?_;rintro _ hx ⟨c2,m2,hy,hz,rfl,rfl,X,c3⟩;refine⟨m2,rfl,?_⟩;have⟨e1,k,hd⟩:=bS hd;refine Ad (λy K g=>∃ψ:AD,Sub c2 ψ∧y.1=g∧St ψ (cW 32 C [sv B.1.1,sv B.1.2.1,sv B.1.2.2.1,sv B.1.2.2.2.1,sv B.1.2.2.2.2.1,sv B.1.2.2.2.2.2.1]::Wq0 Z A::F) K) (g:=e1) ?_ ?_
 ·refine kD k (by rw[(G3 X)] <;>rfl) (λk=>?_) (λk=>?_)
  ·have e2:=c3.at1;exact jY rfl ⟨c2,sb,iS k,e2.at1⟩
  have⟨i0,e3,k⟩:=bS k;refine AE (Cg X c3 e3) ?_;rintro _ i1 ⟨e4,m3,i2,i3,rfl,rfl,e5,e6⟩;refine⟨m3,rfl,?_⟩;have e7:=e6.at1.at1;obtain rfl:=iS k;exact jY rfl ⟨e4,sb,(by rw[(G3 e5)]),e7⟩
 rintro o6 i4 ⟨e8,i5,rfl,c4⟩;refine kD hd rfl (λhd=>?_) (λhd=>?_)
 ·exact AB ⟨e8,false,sb,rfl,iS hd,c4.tail.tail⟩
 have⟨i6,e9,hd⟩:=bS hd;refine AE (Ar X.up c4 e9) ?_;rintro _ i7 ⟨ea,D,i8,i9,rfl,rfl,c5,ec⟩;refine⟨D,rfl,?_⟩;refine AU (vs:=[.int .i64 (0:Int),.int .i64 (0:Int),.int .i64 (0:Int),.slice none 0 0]) ec λE ia ed=>AG ed rfl rfl λib ee=>AG ee rfl rfl λic ef=>AG ef rfl rfl λie eg=>AG eg rfl rfl λig b4=>AA b4 rfl<|kD hd rfl (λhd=>?_) (λhd=>?_)
 ·exact AB ⟨ea,t2,sb,rfl,iS hd,b4.tail.tail.tail⟩
 have⟨ih,ek,hd⟩:=bS hd;refine AE (A9 X.up b4 ek) ?_;rintro _ ii ⟨ij,m4,ik,rfl,rfl,el⟩;refine⟨m4,rfl,?_⟩;have⟨il,em,hd⟩:=bS hd;refine AE (Cg X.up el em) ?_;rintro _ im ⟨io,m5,ip,iq,rfl,rfl,en,eo⟩;refine⟨m5,rfl,?_⟩;have⟨ir,er,hd⟩:=bS hd;refine AE (HB en eo er) ?_;rintro _ it ⟨iu,m6,iv,rfl,rfl,l⟩;refine⟨m6,rfl,?_⟩;refine AA l.at1 rfl<|AA l.at1 rfl<|AA l.at1 rfl<|AA l.at1 rfl<|AA l.at1 rfl<|AA l.at1 rfl ?_;have⟨iw,es,hd⟩:=bS hd;refine AE (CC l es) ?_;rintro _ ix ⟨iy,L,iz,j0,rfl,rfl,m⟩;refine⟨L,rfl,?_⟩;refine AI (bO (b:=C) (j:=0) m.at2 rfl)<|AI (bO (b:=C) (j:=1) m.at2 rfl)<|AI (bO (b:=C) (j:=2) m.at2 rfl)<|AI (bO (b:=C) (j:=3) m.at2 rfl)<|AI (bO (b:=C) (j:=4) m.at2 rfl)<|AI (bO (b:=C) (j:=5) m.at2 rfl) ?_;have⟨j1,ev,hd⟩:=bS hd;refine AE (Jn (a:=(B.1.1,B.1.2.1,B.1.2.2.1,B.1.2.2.2.1,B.1.2.2.2.2.1,B.1.2.2.2.2.2.1,())) w.up x.up z.up a0.up P.up Q.up W.up V.up m ev) ?_;rintro _ j2 ⟨j3,m7,j4,c6,j5,rfl,rfl,R,n⟩;refine⟨m7,rfl,?_⟩;refine AA n.at2 rfl<|AA n.at2 rfl<|AA n.at2 rfl<|AA n.at2 rfl<|AA n.at2 rfl<|AA n.at2 rfl ?_;have⟨j6,ew,hd⟩:=bS hd;refine AE (CC n ew) ?_;rintro _ j7 ⟨j8,M,j9,ja,rfl,rfl,o⟩;refine⟨M,rfl,?_⟩;refine AI (bO (b:=C) (j:=0) o.at3 rfl)<|AI (bO (b:=C) (j:=1) o.at3 rfl)<|AI (bO (b:=C) (j:=2) o.at3 rfl)<|AI (bO (b:=C) (j:=3) o.at3 rfl)<|AI (bO (b:=C) (j:=4) o.at3 rfl)<|AI (bO (b:=C) (j:=5) o.at3 rfl) ?_;have⟨jb,ex,hd⟩:=bS hd;refine AE (Jn (a:=(B.1.1,B.1.2.1,B.1.2.2.1,B.1.2.2.2.1,B.1.2.2.2.2.1,B.1.2.2.2.2.2.1,())) w.up x.up z.up a0.up P.up Q.up W.up V.up o ex) ?_;rintro _ jc ⟨jd,m8,je,c7,jf,rfl,rfl,c8,p⟩;refine⟨m8,rfl,?_⟩;refine AA p.at3 rfl<|AA p.at3 rfl<|AA p.at3 rfl<|AA p.at3 rfl<|AA p.at3 rfl<|AA p.at3 rfl ?_;have⟨jg,ey,hd⟩:=bS hd;refine AE (CC p ey) ?_;rintro _ jh ⟨ji,N,jj,jk,rfl,rfl,q⟩;refine⟨N,rfl,?_⟩;refine AI (bO (b:=C) (j:=0) q.at4 rfl)<|AI (bO (b:=C) (j:=1) q.at4 rfl)<|AI (bO (b:=C) (j:=2) q.at4 rfl)<|AI (bO (b:=C) (j:=3) q.at4 rfl)<|AI (bO (b:=C) (j:=4) q.at4 rfl)<|AI (bO (b:=C) (j:=5) q.at4 rfl) ?_;have⟨jl,ez,hd⟩:=bS hd;refine AE (Jn (a:=(B.1.1,B.1.2.1,B.1.2.2.1,B.1.2.2.2.1,B.1.2.2.2.2.1,B.1.2.2.2.2.2.1,())) w.up x.up z.up a0.up P.up Q.up W.up V.up q ez) ?_;rintro _ jm ⟨jn,m9,jo,c9,jp,rfl,rfl,S,s⟩;refine⟨m9,rfl,?_⟩;refine AA s.at4 rfl<|AA s.at4 rfl<|AA s.at4 rfl<|AA s.at4 rfl<|AA s.at4 rfl<|AA s.at4 rfl ?_;have⟨jq,f0,hd⟩:=bS hd;refine AE (CC s f0) ?_;rintro _ jr ⟨js,O,jt,ju,rfl,rfl,t⟩;refine⟨O,rfl,?_⟩;refine AI (bO (b:=C) (j:=0) t.at5 rfl)<|AI (bO (b:=C) (j:=1) t.at5 rfl)<|AI (bO (b:=C) (j:=2) t.at5 rfl)<|AI (bO (b:=C) (j:=3) t.at5 rfl)<|AI (bO (b:=C) (j:=4) t.at5 rfl)<|AI (bO (b:=C) (j:=5) t.at5 rfl) ?_;have⟨jv,f1,hd⟩:=bS hd;refine AE (Jn (a:=(B.1.1,B.1.2.1,B.1.2.2.1,B.1.2.2.2.1,B.1.2.2.2.2.1,B.1.2.2.2.2.2.1,())) w.up x.up z.up a0.up P.up Q.up W.up V.up t f1) ?_;rintro _ jw ⟨Y,n0,jx,ch,jy,rfl,rfl,b5,b0⟩;refine⟨n0,rfl,?_⟩;have⟨f2,c,hd⟩:=bS hd;refine Ad (λy K g=>∃ψ:AD,Sub Y ψ∧y.1=g∧St ψ (cO 83 (kU En) O ch::cO 83 (kU En) N c9::cO 83 (kU En) M c7::cO 83 (kU En) L c6::cW 44 E [.int .i64 D.1,.int .i64 D.2.1,.int .i64 D.2.2.1,sv D.2.2.2.1]::cW 32 C [sv B.1.1,sv B.1.2.1,sv B.1.2.2.1,sv B.1.2.2.2.1,sv B.1.2.2.2.2.1,sv B.1.2.2.2.2.2.1]::Wq0 Z A::F) K) (g:=f2) ?_ ?_
 ·refine kD c (by rw[(G3 R)] <;>rfl) (λc=>?_) (λc=>?_)
  ·have f3:=b0.at6;exact jY rfl ⟨Y,sb,iS c,f3.at6.at6.at6.at6.at6.at6⟩
  refine kD c (by rw[(G3 c8)] <;>rfl) (λc=>?_) (λc=>?_)
  ·have f4:=b0.at6;exact jY rfl ⟨Y,sb,iS c,f4.at6.at6.at6.at6.at6.at6⟩
  refine kD c (by rw[(G3 S)] <;>rfl) (λc=>?_) (λc=>?_)
  ·have f5:=b0.at6;exact jY rfl ⟨Y,sb,iS c,f5.at6.at6.at6.at6.at6.at6⟩
  have f6:=b0.at6.at6.at6.at6.at6.at6.at6;obtain rfl:=iS c;exact jY rfl ⟨Y,sb,(by rw[(G3 b5)]),f6⟩
 rintro o7 jz ⟨b6,k0,rfl,u⟩;refine kD hd rfl (λhd=>?_) (λhd=>?_)
 ·exact AB ⟨b6,false,sb,rfl,iS hd,u.tail.tail.tail.tail.tail.tail.tail⟩
 have⟨f7,a,hd⟩:=bS hd;refine Ad (λy K g=>∃ψ:AD,Sub b6 ψ∧y.1=g∧St ψ (cO 83 (kU En) O ch::cO 83 (kU En) N c9::cO 83 (kU En) M c7::cO 83 (kU En) L c6::cW 44 E [.int .i64 D.1,.int .i64 D.2.1,.int .i64 D.2.2.1,sv D.2.2.2.1]::cW 32 C [sv B.1.1,sv B.1.2.1,sv B.1.2.2.1,sv B.1.2.2.2.1,sv B.1.2.2.2.2.1,sv B.1.2.2.2.2.2.1]::Wq0 Z A::F) K) (g:=f7) ?_ ?_
 ·refine kD a rfl (λa=>?_) (λa=>?_)
  ·refine AA u.at4 rfl<|AA u.at4 rfl<|AA u.at4 rfl<|AA u.at4 rfl ?_;have⟨k1,f8,a⟩:=bS a;refine AE (Ar R.up u f8) ?_;rintro _ k2 ⟨k3,H,k4,k5,rfl,rfl,f9,al⟩;refine⟨H,rfl,?_⟩;refine AI (bO (b:=E) (j:=0) al.at4 rfl)<|AI (bO (b:=E) (j:=1) al.at4 rfl)<|AI (bO (b:=E) (j:=2) al.at4 rfl)<|AI (bO (b:=E) (j:=3) al.at4 rfl) ?_;have⟨k6,fa,a⟩:=bS a;refine AE (C6 (z:=(H.1,H.2.1,H.2.2.1,H.2.2.2.1,())) (A:=(D.1,D.2.1,D.2.2.1,D.2.2.2.1,())) f9 c5.up al fa) ?_;rintro _ k7 ⟨fd,n1,k8,rfl,rfl,T⟩;refine⟨n1,rfl,?_⟩;refine kD a rfl (λa=>?_) (λa=>?_)
   ·refine AA T.at4 rfl<|AA T.at4 rfl<|AA T.at4 rfl<|AA T.at4 rfl ?_;have⟨k9,fl,a⟩:=bS a;refine AE (Ar c8.up T fl) ?_;rintro _ ka ⟨kb,I,kc,kd,rfl,rfl,fn,ap⟩;refine⟨I,rfl,?_⟩;refine AI (bO (b:=E) (j:=0) ap.at4 rfl)<|AI (bO (b:=E) (j:=1) ap.at4 rfl)<|AI (bO (b:=E) (j:=2) ap.at4 rfl)<|AI (bO (b:=E) (j:=3) ap.at4 rfl) ?_;have⟨ke,fo,a⟩:=bS a;refine AE (C6 (z:=(I.1,I.2.1,I.2.2.1,I.2.2.2.1,())) (A:=(D.1,D.2.1,D.2.2.1,D.2.2.2.1,())) fn c5.up ap fo) ?_;rintro _ kf ⟨fr,n2,kg,rfl,rfl,b1⟩;refine⟨n2,rfl,?_⟩;refine kD a rfl (λa=>?_) (λa=>?_)
    ·refine kD a rfl (λa=>?_) (λa=>?_)
     ·refine kD a rfl (λa=>?_) (λa=>?_)
      ·have⟨kh,fs,a⟩:=bS a;refine AE (A9 R.up b1 fs) ?_;rintro _ ki ⟨fv,n3,kj,rfl,rfl,cl⟩;refine⟨n3,rfl,?_⟩;refine kD a rfl (λa=>?_) (λa=>?_)
       ·have⟨kk,fz,a⟩:=bS a;refine AE (A9 S.up cl fz) ?_;rintro _ kl ⟨g0,n4,km,rfl,rfl,g1⟩;refine⟨n4,rfl,?_⟩;exact jY rfl ⟨g0,sb,iS a,g1.at6.at6.at6.at6.at6.at6.at6⟩
       exact jY rfl ⟨fv,sb,iS a,cl.at6.at6.at6.at6.at6.at6.at6⟩
      have⟨kn,g2,a⟩:=bS a;refine AE (Ar b5.up b1 g2) ?_;rintro _ ko ⟨g3,n5,kp,kq,rfl,rfl,kr,cm⟩;refine⟨n5,rfl,?_⟩;refine kD a rfl (λa=>?_) (λa=>?_)
      ·have⟨ks,g4,a⟩:=bS a;refine AE (A9 R.up cm g4) ?_;rintro _ kt ⟨g5,n6,ku,rfl,rfl,cp⟩;refine⟨n6,rfl,?_⟩;refine kD a rfl (λa=>?_) (λa=>?_)
       ·have⟨kv,g6,a⟩:=bS a;refine AE (A9 S.up cp g6) ?_;rintro _ kw ⟨g7,n7,kx,rfl,rfl,g8⟩;refine⟨n7,rfl,?_⟩;exact jY rfl ⟨g7,sb,iS a,g8.at6.at6.at6.at6.at6.at6.at6⟩
       exact jY rfl ⟨g5,sb,iS a,cp.at6.at6.at6.at6.at6.at6.at6⟩
      exact jY rfl ⟨g3,sb,iS a,cm.at6.at6.at6.at6.at6.at6.at6⟩
     have⟨ky,g9,a⟩:=bS a;refine AE (Ar S.up b1 g9) ?_;rintro _ kz ⟨gc,n8,l0,l1,rfl,rfl,l2,b7⟩;refine⟨n8,rfl,?_⟩;refine kD a rfl (λa=>?_) (λa=>?_)
     ·refine kD a rfl (λa=>?_) (λa=>?_)
      ·have⟨l3,gd,a⟩:=bS a;refine AE (A9 R.up b7 gd) ?_;rintro _ l4 ⟨gf,n9,l5,rfl,rfl,cs⟩;refine⟨n9,rfl,?_⟩;refine kD a rfl (λa=>?_) (λa=>?_)
       ·have⟨l6,gg,a⟩:=bS a;refine AE (A9 S.up cs gg) ?_;rintro _ l7 ⟨gj,o0,l8,rfl,rfl,gl⟩;refine⟨o0,rfl,?_⟩;exact jY rfl ⟨gj,sb,iS a,gl.at6.at6.at6.at6.at6.at6.at6⟩
       exact jY rfl ⟨gf,sb,iS a,cs.at6.at6.at6.at6.at6.at6.at6⟩
      have⟨l9,gn,a⟩:=bS a;refine AE (Ar b5.up b7 gn) ?_;rintro _ la ⟨go,o1,lb,lc,rfl,rfl,ld,cu⟩;refine⟨o1,rfl,?_⟩;refine kD a rfl (λa=>?_) (λa=>?_)
      ·have⟨le,gp,a⟩:=bS a;refine AE (A9 R.up cu gp) ?_;rintro _ lf ⟨gr,o2,lg,rfl,rfl,cw⟩;refine⟨o2,rfl,?_⟩;refine kD a rfl (λa=>?_) (λa=>?_)
       ·have⟨lh,gs,a⟩:=bS a;refine AE (A9 S.up cw gs) ?_;rintro _ li ⟨gv,o3,lj,rfl,rfl,gx⟩;refine⟨o3,rfl,?_⟩;exact jY rfl ⟨gv,sb,iS a,gx.at6.at6.at6.at6.at6.at6.at6⟩
       exact jY rfl ⟨gr,sb,iS a,cw.at6.at6.at6.at6.at6.at6.at6⟩
      exact jY rfl ⟨go,sb,iS a,cu.at6.at6.at6.at6.at6.at6.at6⟩
     exact jY rfl ⟨gc,sb,iS a,b7.at6.at6.at6.at6.at6.at6.at6⟩
    exact jY rfl ⟨fr,sb,iS a,b1.at6.at6.at6.at6.at6.at6.at6⟩
   exact jY rfl ⟨fd,sb,iS a,T.at6.at6.at6.at6.at6.at6.at6⟩
  exact jY rfl ⟨b6,sb,iS a,u.at6.at6.at6.at6.at6.at6.at6⟩
 rintro o4 lk ⟨h0,ll,rfl,h1⟩;exact AB ⟨h0,o4.1,sb,rfl,iS hd,h1.tail.tail.tail.tail.tail.tail.tail⟩
end Go.Proofs.YtnlkgidlfnefbaaGreatDoor
namespace Go.Proofs.YtnlkgidlfnefbaaGreatDoor
open Go Go.Eng Dg
theorem Wh {s:J1}(G:SmG s) (F:SmF 12 5 s):Ok (Bz s) λr=>r.2.2.2.2.2.2.2=false∨(r.2.2.2.2.2.2.2=true∧ ∃(p:dtP) (B:List dtK) (E:List (List Edge)) (d:LkD) (tt:Int) (g:Bt),
 (r.1,r.2.1,r.2.2.1,r.2.2.2.1,r.2.2.2.2.1,r.2.2.2.2.2.1)=p∧r.2.2.2.2.2.2.1=some g∧Env p B E d tt g∧2≤p.1.length):=by
 unfold Bz;refine AP (cf G F.up) λp ⟨C,D,a⟩=> ?_;have S:=eJ a;refine AP (an S) λe t=>Af (λ_=>AC (.inl rfl)) λf=> ?_;have h:e.2=0:=by simpa using f
 have b:=t h;refine AP (Z9 a.vp a.pos (st:=300) (it:=9000) (λn m k=>by
  have:held 300=300:=by decide
  omega)) λr u=> ?_
 rcases u with⟨n,v,w,rfl⟩|⟨rfl,_⟩
 ·have H:=fU a.vp a.pos v;have o:(stM p n).1.length≤300:=by
   have:=w.1
   have e:held 300=300:=by decide
   omega
  have q:1≤(stM p n).1.length:=Bm H.zero;refine AP (Q:=λc=>c=false) (AS rfl (AJ rfl (AJ (TX H) (AC ?_)))) λc f=> ?_
  ·simp only[beq_eq_false_iff_ne];omega
  subst f;refine AS rfl (AJ rfl (AP (dS (tt:=((tot (stM p n).1:Nat):Int)) (λfa i=>ao a b H o i) S) λl k=> ?_));obtain⟨d,rfl,x,y,z,A⟩:=k;have M:MkI p _ _ d _:=⟨ao a b H o z,x,y,A⟩;have I:=a.terms.len;have J:=a.nt5;have K:=a.vars;refine AS rfl (AP (az M (av a) (show p.1.length≤100 by omega) (show p.2.1.length≤1000 by have:=M.all.vars;omega)) λg j=> ?_);obtain⟨g,rfl,j⟩:=j;exact AC (.inr ⟨rfl,p,_,_,d,_,g,rfl,rfl,⟨M,j,av a,by omega⟩,by omega⟩)
 ·refine AP (Q:=λc=>c=true) (Ap rfl (AC rfl)) λc f=> ?_;subst f;exact Ap rfl (AC (.inl rfl))
theorem VY {a b:Int}(c:0≤a) (d:1≤b):0≤kL a b∧kL a b<b:=by rw[Int.tmod_eq_emod_of_nonneg c];exact⟨Int.emod_nonneg _ (by omega),Int.emod_lt_of_pos _ (by omega)⟩
theorem Wi {p:dtP}(w:2≤p.1.length) (y:p.1.length≤1000) {l:List Int}(A:l.length≤1000) (m:∀x∈l,0≤x∧x<256):
 Ok (BW p l) λr=>∃d:List dtT,r.1=d++ [(0,(l.length:Int),(l.length:Int))] ∧d.length=l.length∧ ∀x∈d,1≤x.1∧x.1< (p.1.length:Int):=by
 unfold BW;refine B0 (λi (z:List Int×List dtT)=>z.1.length=i∧z.2.length=i∧ ∀x∈z.2,1≤x.1∧x.1< (p.1.length:Int)) (by omega) ⟨rfl,rfl,λx c=>by cases c⟩ (λi z j e=> ?_) λz e=> ?_
 ·obtain⟨n,k,f⟩:=e;have c:=hM j;have⟨o,b1⟩:=m _ (List.getElem_mem j);refine AX c ?_;have q:bD .i64 ((p.1.length:Int) - (1:Int))=(p.1.length:Int) - 1:=w64 (by omega) (by omega);have s:bD .i64 l[i] =l[i]:=w64 (by omega) (by omega);rw[q,s];obtain⟨t0,t1⟩:=VY (a:=l[i]) (b:=(p.1.length:Int) - 1) o (by omega);obtain⟨t,u⟩:∃t,kL l[i] ((p.1.length:Int) - 1)=t:=⟨_,rfl⟩;rw[u]at t0 t1 ⊢;have v:bD .i64 ((1:Int)+t)=1+t:=w64 (by omega) (by omega);rw[v];have g:(p.1.length:Int) - 1≠0:=by omega
  refine Bn g (BL (by simp;omega) (BL (by simp;omega) (AC ⟨by simp;omega,by simp;omega,λx c=> ?_⟩)));rcases List.mem_append.1 c with h | h
  ·exact f x h
  ·rw[List.mem_singleton]at h;subst h;exact⟨by dsimp only;omega,by dsimp only;omega⟩
 ·obtain⟨n,k,f⟩:=e;exact BL (by simp;omega) (AC ⟨z.2,rfl,k,f⟩)
theorem T6 {a:List dtT}{z:dtT}{nT:Int}(h:∀x∈a,1≤x.1∧x.1<nT) (b:z.1=0) (d:a.length≤1000):Ou (a++ [z]):=⟨a,z,rfl,λx c=>by have:=h x c;omega,b,by simp;omega⟩
theorem bP {l:List dtT}(f:Ou l):Fu l=some l:=by
 obtain⟨a,z,rfl,g,k,m⟩:=f;have b:(a++ [z]).length=a.length+1:=by simp
 rw[b]at m;refine kV ?_;unfold Fu;refine AP (Q:=λi=>i=(a.length:Int)) ?_ λi n=> ?_
 ·unfold Bw;refine JO (a++ [z]) (λ_ x=>x.1==0) (λj _=>((j:Nat):Int)) (by omega) (λj x c=> ?_) (λd=> ?_) λj x c o _=>AC ?_
  ·rw[Bu,c];dsimp only[hC];unfold GM;show cond (x.1==0) _ _=_;cases(x.1==(0:Int)) <;>rfl
  ·have:=d a.length z (by rw[kO (kT _),Nat.sub_self];rfl)
   rw[k]at this;cases this
  ·rcases Nat.lt_or_ge j a.length with h | h
   ·rw[List.getElem?_append_left h]at c;exact absurd (eq_of_beq o) (g x (kH c))
   ·have:=(List.getElem?_eq_some_iff.1 c).1
    omega
 ·subst n;have p:bD .i64 ((a.length:Int)+(1:Int))=(((a++ [z]).length:Nat):Int):=by rw[w64 (by omega) (by omega),b];omega
  refine Ap (decide_eq_true (by omega)) ?_;rw[p,Ov (kT _),List.take_length];have e:cloneD (a++ [z])=some (a++ [z]):=by unfold cloneD;rw[if_pos (by omega)]
  exact AJ rfl (AJ e (AC rfl))
theorem Wj (n:Int):Cq n=some (held n):=by
 refine kV ?_;unfold Cq;refine AC ?_;unfold held
 split<;>split<;>(try split) <;>(try split) <;>omega
theorem GQ {n:Int}(a:0≤n) (b:n≤1099511627776):held n=n:=by unfold held;rw[if_neg (by omega),if_neg (by omega)]
theorem bQ (n:Int):EZ n 0=some (held n):=by have a:=TW n;unfold EZ;rw[Wj,Wj];dsimp only[hC];rw[GQ (n:=0) (by decide) (by decide),w64 (by omega) (by omega),Wj,Int.add_zero,GQ a.1 a.2];rfl
def s00:MS:=⟨0,[0],[],[0],⟨[],0,0,0⟩,0,0,0,[],0,0⟩
theorem eP {p:dtP}{g:dtG}{l:List dtT}(b:Ou l) (a lim:Int):We p g l a lim 0 0=some (kk ⟨p,g,l,0,0⟩ (held a) lim,s00):=by unfold We;rw[bP b];dsimp only[hC];rw[bQ];rfl
theorem eQ {p:dtP}{g:dtG}{l:List dtT}(b:Ou l) (a n:Int) {r:MS}(h:IY (kk ⟨p,g,l,0,0⟩ (held a) (held n)) 4000 s00=some r):
 (Bo n).bind (λc=>P9 p g l a c 4000)=some (Yo (kk ⟨p,g,l,0,0⟩ (held a) (held n)) r,(held n,r.X.used,r.X.mo)):=by rw[new_ok];show P9 p g l a (held n,0,0) 4000=_;unfold P9;rw[show We p g l a (held n,(0:Int),(0:Int)).1 (held n,(0:Int),(0:Int)).2.1 (held n,(0:Int),(0:Int)).2.2=_ from eP b a (held n)];dsimp only[hC];rw[h];rfl
theorem ei0 {p:dtP}{B:List dtK}{E:List (List Edge)}{K:MK}(h:Ou K.toks):EI p B E K s00 [] [] where
 S:=rfl
 path:=trivial
 N:=rfl
 pos0:=by decide
 pos1:=by obtain⟨a,z,h,_⟩:=h;rw[h];show(0:Int) <_;simp
 st0:=by decide
 st1:=by decide
 few:=by decide
 XL:=by decide
 low:=by decide
 live:=λ_=>rfl
 most:=by decide
 most1:=by decide
 cu:=rfl
 u0:=by decide
 u1:=by decide
 C:=by decide
 exp:=by decide
theorem fy {l:List Int}(h:l.length≤1000000):DY l l=some true:=by refine kV ?_;unfold DY;refine AS (by simp) (Dp (λ_ _=>True) (by omega) trivial (λi _ b _=> ?_) λ_ _=>AC rfl);have a:=hM b;exact AX a (AX a (AS (by simp) (D9 trivial)))
theorem Wk {a b c:Int}{l:List Int}(h:l.length≤1000000):Bf (a,b,c,l) (a,b,c,l)=some true:=by refine kV ?_;unfold Bf;refine AP (Q:=λz=>z=true) (Ap (beq_self_eq_true _) (Ap (beq_self_eq_true _) (Ap (beq_self_eq_true _) (AJ (fy h) (AC rfl))))) λz d=>AC d
theorem Rc (K:MK) {r:MS}(h:r.exp.length≤1000):Ao (Yo K r)=some (r.kind,r.root,r.oat,r.exp):=by
 unfold Ao;have a:Dg.cloneD r.exp=some r.exp:=by unfold Dg.cloneD;rw[if_pos (by omega)]
 show(Dg.cloneD r.exp).bind _=_;rw[a];rfl
theorem bR {s:J1}(F:SmF 9 4 s):SmF 12 5 s:=⟨by have:=F.lefts;omega,F.assocs,λl a=>by have:=F.rights l a;omega⟩
theorem QA {s:J1}(G:SmG s) {l:List Int}(C:∀x∈l,0≤x∧x<256) {e cells:Int}(hd:0≤e∧e<256) (y:0≤cells∧cells<256):Wg s l e cells=some true:=by
 refine kV ?_;unfold Wg;refine AJ Nk (AP (V1 G 9 4) λm i=> ?_);refine AP (Q:=λz=>z=false→m=true∧l.length≤12) (Af (λh=>AC λh=>by cases h) λh=>AC λn=>⟨by simpa using h,by have:=of_decide_eq_false n;omega⟩) λz n=> ?_;cases z with
 |true=>exact Ap rfl (AC rfl)
 |false=>
  have⟨D,P⟩:=n rfl;refine AS rfl (AP (Wh G (bR (i D))) λq j=> ?_);rcases j with j | ⟨j,p,B,E,d,tt,g,rfl,hg,V,o⟩
  ·exact Ap (by rw[j];rfl) (AC rfl)
  refine AS (by rw[j];rfl) (AP (Wi o (by have:=V.N;omega) (by omega) C) λA t=> ?_);obtain⟨R,F,H,u⟩:=t;have k:Ou A.1:=by rw[F];exact T6 u rfl (by omega)
  have I:bD .i64 cells=cells:=w64 (by omega) (by omega);obtain⟨t0,t1⟩:=VY (a:=e) (b:=31) hd.1 (by decide);have J:bD .i64 (kL e (31:Int))=kL e 31:=w64 (by omega) (by omega);rw[I,J];obtain⟨b,v⟩:∃b,kL e (31:Int)=b:=⟨_,rfl⟩;rw[v]at t0 t1 ⊢;refine AJ (new_ok _) (AJ hg (AJ (eP k b (held cells)) ?_));dsimp only;rw[GQ t0 (by omega),GQ y.1 (by omega)];obtain⟨r,L,M,_,O⟩:=Xj (K:=⟨_,g,A.1,0,0⟩) V rfl rfl k (b:=b) (c:=cells) (by omega) _ (ei0 k) rfl rfl (by show(0:Int) ≤_;omega) (by show(0:Int) ≤_;omega);refine AJ O ?_;dsimp only;have f:=eQ (p:=(q.1,q.2.1,q.2.2.1,q.2.2.2.1,q.2.2.2.2.1,q.2.2.2.2.2.1)) (g:=g) k b cells (r:=r) (by rw[GQ t0 (by omega),GQ y.1 (by omega)];exact L);rw[new_ok]at f ⊢;refine AJ rfl (AJ f ?_);have w:Dg.cloneD r.exp=some r.exp:=by unfold Dg.cloneD;rw[if_pos (by omega)]
  refine Ap rfl (AJ (Rc _ M) (AJ w (AJ (Wk (l:=r.exp) (by omega)) (Ap rfl (AJ rfl (AC ?_))))));show(r.steps==r.steps)=true;exact beq_self_eq_true _
theorem Ld {β:Type}{p:dtP}{g:dtG}{l:List dtT}(c:Ou l) (a n:Int) {r:MS}(h:IY (kk ⟨p,g,l,0,0⟩ (held a) (held n)) 4000 s00=some r) {f:Ko×Dl→Option β}{P:β→Prop}
 (d:Ok (f (Yo (kk ⟨p,g,l,0,0⟩ (held a) (held n)) r,(held n,r.X.used,r.X.mo))) P):Ok ((Bo n).bind λe=>(P9 p g l a e 4000).bind f) P:=by have b:=eQ c a n h;rw[new_ok]at b ⊢;exact AJ rfl (AJ b d)
theorem Xk {p:dtP}{g:dtG}{l:List dtT}(c:Ou l) {r:MS}(h:IY (kk ⟨p,g,l,0,0⟩ 1000 100000) 4000 s00=some r):B6 p g l=some (Yo (kk ⟨p,g,l,0,0⟩ 1000 100000) r):=by refine kV ?_;unfold B6;have a:held 1000=1000:=GQ (by decide) (by decide);have b:held 100000=100000:=GQ (by decide) (by decide);refine Ld c 1000 100000 (r:=r) (by rw[a,b];exact h) (AC ?_);rw[a,b]
theorem Pb {s:J1}(G:SmG s) {l:List Int}(o:∀x∈l,0≤x∧x<256) {more:Int}(hm:0≤more∧more<256):Cs s l more=some true:=by
 refine kV ?_;unfold Cs;refine AJ Nk (AP (V1 G 9 4) λt i=> ?_);refine AP (Q:=λz=>z=false→t=true∧l.length≤12) (Af (λh=>AC λh=>by cases h) λh=>AC λa=>⟨by simpa using h,by have:=of_decide_eq_false a;omega⟩) λz a=> ?_;cases z with
 |true=>exact Ap rfl (AC rfl)
 |false=>
  have⟨I,h2⟩:=a rfl;refine AS rfl (AP (Wh G (bR (i I))) λq j=> ?_);rcases j with j | ⟨j,p,B,E,d,tt,g,rfl,hg,V,u⟩
  ·exact Ap (by rw[j];rfl) (AC rfl)
  refine AS (by rw[j];rfl) (AP (Wi u (by have:=V.N;omega) (by omega) o) λv w=> ?_);obtain⟨l0,J,L,y⟩:=w;have e:Ou v.1:=by rw[J];exact T6 y rfl (by omega)
  obtain⟨r,M,O,_,_,P,R⟩:=Sm (K:=⟨_,g,v.1,0,0⟩) V rfl rfl e (b1:=1000) (l1:=100000) (by decide) _ (ei0 e) rfl rfl (by decide);refine AJ hg (AJ (Xk e M) ?_);refine AP (Q:=λz=>z=false) (AS rfl (AJ rfl (AC rfl))) λz a=> ?_;subst a;refine AS rfl (AJ (Rc _ O) (Af (λ_=>AC rfl) λm=> ?_));have m:r.kind=1:=by simpa using m
  have⟨m1,m2,c1,c2,cu⟩:=P m;have n:∀b c:Int,0≤b∧b≤1000000000→0≤c∧c≤1000000000→ ∃f,IY (kk ⟨(q.1,q.2.1,q.2.2.1,q.2.2.2.1,q.2.2.2.2.1,q.2.2.2.2.2.1),g,v.1,0,0⟩ (held b) (held c)) 4000 s00=some f∧f.exp.length≤1000∧f.most≤b∧(r.most≤b∧r.X.used≤c→f=r)∧(¬(r.most≤b∧r.X.used≤c)→f.kind=3):=λb c o S=>by
   obtain⟨f,T,U,W,Y⟩:=R b c (by show(0:Int) ≤_;omega) (by show(0:Int) ≤_;omega) (by omega);refine⟨f,?_,U,W,Y m⟩;rw[GQ o.1 (by omega),GQ S.1 (by omega)];exact T
  have Z:bD .i64 more=more:=w64 (by omega) (by omega);have e1:bD .i64 (r.X.cells+more)=r.X.cells+more:=w64 (by omega) (by omega);have e2:bD .i64 (r.most+more)=r.most+more:=w64 (by omega) (by omega);have e3:bD .i64 (r.most - (1:Int))=r.most - 1:=w64 (by omega) (by omega);have e4:bD .i64 (r.X.cells - (1:Int))=r.X.cells - 1:=w64 (by omega) (by omega);refine AJ (x:=r.most) rfl (AJ rfl (AJ (x:=r.X.cells) rfl ?_));rw[Z,e1,e2,e3,e4];obtain⟨k,a1,a2,a3,A,_⟩:=n r.most r.X.cells (by omega) (by omega);obtain⟨rb,b1,F,b3,C,_⟩:=n (r.most+more) (r.X.cells+more) (by omega) (by omega);obtain⟨D,d1,d2,d3,_,d4⟩:=n (r.most - 1) r.X.cells (by omega) (by omega);obtain⟨H,f1,f2,f3,_,f4⟩:=n r.most (r.X.cells - 1) (by omega) (by omega);have A:=A ⟨kF _,by omega⟩;have C:=C ⟨by omega,by omega⟩;have d5:D.kind=3:=d4 (by omega);have f5:H.kind=3:=f4 (by omega);subst A;refine Ld e _ _ a1 (Ld e _ _ b1 (Ld e _ _ d1 (Ld e _ _ f1 ?_)));refine AP (Q:=λz=>z=false) (AS rfl (AS rfl (AS rfl (AC rfl)))) λz a=> ?_;subst a;refine AS rfl (AP (Q:=λz=>z=true) ?_ λz a=>AC a);refine Ap rfl (AJ (Rc _ a2) (AJ (Wk (l:=k.exp) (by omega)) (Ap rfl ?_)));rw[C]at F ⊢;refine AJ (Rc _ F) (AJ (Wk (l:=k.exp) (by omega)) (Ap rfl ?_));have n1:decide (k.most< (1:Int))=false:=decide_eq_false (by omega);have n2:decide (k.X.cells< (1:Int))=false:=decide_eq_false (by omega);refine AS n1 (AJ (Rc _ d2) (Ap (show(D.kind==(3:Int))=true by rw[d5];rfl) (AS n2 (AJ (Rc _ f2) (Ap (show(H.kind==(3:Int))=true by rw[f5];rfl) (AJ (x:=k.most) rfl (Ap (beq_self_eq_true _) (AJ (x:=D.most) rfl (AC (decide_eq_true d3))))))))))
end Go.Proofs.YtnlkgidlfnefbaaGreatDoor
