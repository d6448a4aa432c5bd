/- The parts DgP1 to SimR, put together. Conditions: each tells its own. -/
import Derived.Test.YtfnppeejaimnbaaGreatDoorKt3
import Derived.Test.YtfnppeejaimnbaaGreatDoorKt2
import Derived.Test.YtfnppeejaimnbaaGreatDoorKt1
import Derived.Test.YtfnppeejaimnbaaGreatDoorProg
import Derived.KernelRfl
set_option linter.unusedVariables false
set_option maxRecDepth 100000
set_option maxHeartbeats 4000000
open List renaming getElem?_eq_getElem → bD,perm_middle → mE,append_assoc → oE,getElem?_eq_some_iff → oI,getElem?_append_left → oK,length → oL,mem_of_getElem? → oO,getElem_mem → oQ,mem_append → pA,getElem?_of_mem → pD,length_map → pF,getElem?_append_right → pJ,length_append → pK,mem_cons_of_mem → pM,getElem?_map → pQ,countP_cons → pR,replicate → pS,take_of_length_le → pU,map_append → pX,contains_iff_mem → pY,perm_append_comm → qB,mem_map → qJ,mem_singleton → qM,take_succ_eq_append_getElem → qN,mem_range → qO,take_add_one → qP,mem_of_mem_drop → qU,getElem?_set_ne → qV,set_cons_succ → qX,getElem?_drop → qY,mem_or_eq_of_mem_set → rA,getElem?_set → rC,nodup_append → rD,take_length → rF,getElem?_replicate → rG,length_take → rH,range → rK,getElem?_set_self → rL,nil_append → rN,mem_filter → rO,getElem?_eq_none → rP,length_singleton → rQ,take_append_drop → rR,map_cons → rS,mem_cons_self → rT,filter_append → rX,length_range → rZ,pairwise_map → sC,filter_cons → sF,mem_flatMap → sG
open Go.IntKind renaming wrap → bO
open Go.Proofs.Tryz renaming prog → eE,underlying125 → pV,underlying3 → qS,underlying124 → qZ,underlying100 → rU,underlying126 → rV,t187 → sN
open Go.Eng.T renaming call → hC,out → hM,block → oB,ret → oC,join → oF,loop → oN,brk → oP,sem → oV,load → pB,still → pG,store → pN,both → qR,new → rM
open Go.Eng.Ro renaming SliceIs → nY,int → oG,bool → oH,list → pP,pt → pW,slc → sJ,str → sK
open List.Perm renaming cons → nZ,append_right → oD,swap → oR,append_left → qQ
open Go.Builtin renaming append_ → oA
open Int renaming toNat → oJ,toNat_natCast → oU,not_lt → oW,toNat_of_nonneg → oY
open Option renaming bind_some → oM,isNone → oZ,bind_eq_some_iff → rJ,map → sI
open Go.Eng.St renaming freezeRow → oS,cells → pT,nil → sE,cell → sH,shutR → sL,unpack → sO,pack → sP,openR → sR,lit → sS,get → sT
open Go.Eng.Sub renaming refl → oT,trans → rI
open Go.Instr renaming makeSlice → oX,lookup → pO,mapUpdate → qL
open Go.Eng.AX renaming next → pC,done → pL
open Bool renaming or_eq_true → pE,and_eq_true → pI,and_eq_false_iff → pZ,not_eq_true' → qC,or_eq_false_iff → qD,true_and → rE
open Nat renaming le_refl → pH,le_trans → qG,zero_add → qH,eq_zero_or_pos → rY,lt_or_ge → sD
open Go.Eng.Rep renaming raw → qT
open Go.Sem renaming bind → sB
open Go.Addr renaming add → sQ
open Go renaming Value → sU,Addr → sV
open Go.Proofs.Tryz
namespace Go.Proofs.YtfnppeejaimnbaaGreatDoor.Dg
open Go Go.Eng
theorem Mb{α:Type}{f:Int→List α→Option (List α)}{n:Nat}(d:n≤9223372036854775807)(P:Nat→α→Prop)(e:∀(k:Nat) (a:List α),k<n→a.length=k→ ∃x,f (k:Int) a=some (a++ [x])∧P k x):
 ∃r,forS 0 (n:Int) ([]:List α) f=some r∧r.length=n∧ ∀(k:Nat) (x:α),r[k]? =some x→P k x:=by
 obtain⟨r,i,l,m⟩:=CM (f:=f) (n:=n) (λk a=>a.length=k∧ ∀(j:Nat) (x:α),a[j]? =some x→P j x) d (s:=[]) ⟨rfl,λj x h=>by simp at h⟩ (λk a o ⟨c,p⟩=>by
  have⟨x,q,t⟩:=e k a o c;refine⟨_,q,by simp[c],λj y b=>?_⟩;rcases Nat.lt_trichotomy j a.length with g | g | g
  ·rw[oK g]at b;exact p j y b
  ·subst g;rw[pJ (pH _),Nat.sub_self]at b;cases b;rw[c];exact t
  ·rw[rP nN]at b;cases b)
 exact⟨r,i,l,m⟩
theorem dO{α:Type}{l:List α}(h:l.length<1073741824)(x:α):app l [x] =some (l++ [x]):=GW nN
theorem in_ok{l:nH}(h:l.length≤9223372036854775807)(x:Int):ES l x=some (decide (x∈l)):=by
 unfold ES;rcases OY (f:=λa (m:Unit)=>(idx l a).bind λd=>cond (d==x) (some (pL true)) (some (pC ()))) (λk _=>x∉l.take k) (λb=>b=true∧x∈l) h (s:=()) nP (λk s i c=>by
  rw[GV i,oM];by_cases e:l[k] =x
  ·rw[show(l[k] ==x)=true by simp[e]];exact .inr ⟨true,rfl,rfl,by rw[←e];exact oQ i⟩
  ·rw[show(l[k] ==x)=false by simp[e]];refine .inl ⟨(),rfl,?_⟩;rw[qN i];intro j;rcases pA.1 j with g | g
   ·exact c g
   ·exact e (qM.1 g).symm) with⟨s,e,c⟩|⟨b,e,rfl,hx⟩
 ·rw[rF]at c;rw[e,mV c];rfl
 ·rw[e,mW hx];rfl
theorem contains_ok{l:nH}(h:l.length≤9223372036854775807)(x:Int):CY l x=some (decide (x∈l)):=by
 unfold CY D7;rcases OY (f:=λa (m:Unit)=>(idx l a).bind λd=>cond (x==d) (some (pL a)) (some (pC ()))) (λk _=>x∉l.take k) (λ(b:Int)=>0≤b∧x∈l) h (s:=()) nP (λk s i c=>by
  rw[GV i,oM];by_cases e:x=l[k]
  ·rw[show(x==l[k])=true by simp[e]];exact .inr ⟨(k:Int),rfl,nJ,by rw[e];exact oQ i⟩
  ·rw[show(x==l[k])=false by simp[e]];refine .inl ⟨(),rfl,?_⟩;rw[qN i];intro j;rcases pA.1 j with g | g
   ·exact c g
   ·exact e (qM.1 g)) with⟨s,e,c⟩|⟨b,e,hb,hx⟩
 ·rw[rF]at c;rw[e,mV c];rfl
 ·rw[e,mW hx];show some (decide (b≥0))=_;rw[mW (show b≥0 from hb)]
structure Few (ll base:List nH):Prop where
 e:ll.length≤25
 b:base.length≤25
 el:∀l∈ll,l.length≤10
 bl:∀l∈base,l.length≤10
theorem Pn(s:Ae):(EV s).length≤64 *s.2.length:=Sj _ _
theorem QM{s:Ae}(H:OkS s):(EV s).length≤1073741824:=by have a:=Pn s;have b:=H.len;have c:=H.hi;omega
theorem T1{n:Int}(a:0≤n)(b:n≤1000):Mw n=n:=by unfold Mw;rw[nA nJ,nA nJ]
def bz(a:List nH)(z:Int):nH:=(idx a z).getD []
theorem XV{a:List Ae}{k:Nat}{s:Ae}(h:a[k]? =some s):gv a (k:Int)=s:=by unfold gv;rw[CD,h];rfl
theorem VH{ll:List nH}{B:List Ae}{wide:Int}(H:0≤wide)(I:wide≤1000)(W:B.length≤100000)(E:∀l∈ll,l.length≤1073741824)(K:∀(k:Nat) (s:Ae),B[k]? =some s→OkS s∧s.1=wide):
 ∃r,Iu ll B=some r∧r.length=B.length∧ ∀(k:Nat) (s:Ae),r[k]? =some s→OkS s∧s.1=wide∧ ∀j,mem s j=true↔Nf ll (B.length:Int) B k j:=by
 unfold Iu;have g:∀k (o:k<B.length),OkS B[k] ∧B[k].1=wide:=λk o=>K k _ (bD o);have L:∀v:Int,0≤v→v< (B.length:Int)→OkS (gv B v)∧(gv B v).1=wide:=λv d b=>by
  have:=g v.toNat nJ
  rw[←XV (bD (show v.toNat<B.length by omega)),oY d]at this;exact this
 obtain⟨w,M,N⟩:=CM (f:=λi (w:Int)=>(idx B i).bind λs=>some (if s.1>w then s.1 else w)) (n:=B.length) (λk (w:Int)=>0≤w∧w≤wide∧(0<k→w=wide)) nJ (s:=0) ⟨nJ,nJ,nJ⟩ (λk w o ⟨d,b,q⟩=>by
  rw[GV o,oM,(g k o).2];refine⟨_,rfl,?_⟩;split
  ·exact⟨nJ,nJ,λ_=>rfl⟩
  ·exact⟨nJ,nJ,nJ⟩)
 rw[M,oM];obtain⟨all,O,X,P⟩:=Mb (f:=λi (p:List Ae)=>(idx B i).bind λs=>(Kc s).bind λl=>(DY w l).bind λs'=>app p [s']) (n:=B.length) nJ (λk s=>OkS s∧s.1=wide∧ ∀j,mem s j=mem (gv B k) j) (λk p o Q=>by
  have c:=g k o;have F:w=wide:=N.2.2 nJ;rw[GV o,oM,JO c.1,oM];obtain⟨s,e,b,q,u⟩:=of_ok w (EV B[k]) (by have:=QM c.1;omega);rw[F,T1 H I]at q u;refine⟨s,by rw[e,oM,dO nJ],b,q,λj=>?_⟩;rw[u,XV (bD o)];by_cases t:mem B[k] j=true
  ·have x:=Pa c.1 t;rw[c.2]at x;rw[mW x,t,rE];exact pY.2 ((Fk c.1 j).2 t)
  ·have R:(EV B[k]).contains j=false:=by
    rw[Bool.eq_false_iff];intro S;exact t ((Fk c.1 j).1 (pY.1 S))
   rw[R,Bool.and_false];rw[Bool.not_eq_true]at t;exact t.symm)
 rw[O,oM];have m:∀v:Int,0≤v→v< (B.length:Int)→OkS (gv all v)∧(gv all v).1=wide∧ ∀j,mem (gv all v) j=mem (gv B v) j:=λv d b=>by
  have y:v.toNat<all.length:=nJ
  have:=P v.toNat _ (bD y)
  rw[←XV (bD y),oY d]at this;exact this
 have T:L4 ll (B.length:Int) wide B all:=⟨nJ,λv d b=>⟨(m v d b).1,(m v d b).2.1⟩,λv j d b h=>by rw[(m v d b).2.2];exact h,λv j d b h=>⟨v,.refl _,by rw[← (m v d b).2.2];exact h⟩⟩;obtain⟨⟨low,stk,z⟩,G,D,J⟩:=YQ (YR (ll:=ll) (n:=(B.length:Int)) (wide:=wide) (B:=B) nJ) nJ nJ E (a:=all) ⟨T,λv U=>U.elim⟩ (fuel:=B.length) nJ;dsimp only at D J;have A:∀v:Int,0≤v→v< (B.length:Int)→ ∀j,mem (gv z v) j=true↔Nf ll (B.length:Int) B v j:=λv d b j=>⟨D.sound v j d b,J v ⟨d,b⟩ d b j⟩;rw[G,oM];have Y:=D.len;refine Mb nJ (λk s=>OkS s∧s.1=wide∧ ∀j,mem s j=true↔Nf ll (B.length:Int) B k j) λk p o Q=>?_;have c:=g k o;obtain⟨C,V⟩:=D.ok (k:Int) nJ nJ;dsimp only;rw[GV o,oM,T0 nJ nJ,oM,JO C,oM,c.2];obtain⟨s,e,b,q,u⟩:=of_ok wide (EV (gv z (k:Int))) (by have:=QM C;omega);rw[T1 H I]at q u;refine⟨s,by rw[e,oM,dO nJ],b,q,λj=>?_⟩;rw[u,←A (k:Int) nJ nJ];constructor
 ·intro h;rw[pI]at h;exact(Fk C j).1 (pY.1 h.2)
 ·intro h;have x:=Pa C h;rw[V]at x;rw[mW x,rE];exact pY.2 ((Fk C j).2 h)
def SN(ll a:List nH)(wide i j:Int):Prop:=0≤j∧j<wide∧ ∃z,Reach ll (a.length:Int) i z∧j∈bz a z
end Go.Proofs.YtfnppeejaimnbaaGreatDoor.Dg
namespace Go.Proofs.YtfnppeejaimnbaaGreatDoor
open Go Go.Eng Dg
section
variable {ss:List Ae}
structure Sy (p:dtP):Prop where
 t1:1≤p.1.length∧p.1.length≤1000
 v1:p.2.1.length≤1000
 few:p.2.2.1.length≤1000
 left:∀r∈p.2.2.1,nT p≤r.1∧r.1≤nT p+(p.2.1.length:Int)
 right:∀r∈p.2.2.1,∀s∈r.2.1,0≤s∧s<nT p+(p.2.1.length:Int)
 short:∀r∈p.2.2.1,r.2.1.length≤1000
theorem Sx{α:Type}{p q:α→Bool}:∀ {l:List α},(∀x∈l,p x=true→q x=true)→l.countP p≤l.countP q:=by
 intro l
 induction l with
 |nil=>intro _;simp
 |cons a l b=>
  intro h;have e:=b λx c=>h x (pM _ c);have d:=h a rT;rw[pR,pR];cases hp:p a with
  |false=>simp;omega
  |true=>rw[d hp];simp;omega
theorem YS{α:Type}{p q:α→Bool}:∀ {l:List α},(∀x∈l,p x=true→q x=true)→(∃x∈l,q x=true∧p x=false)→l.countP p<l.countP q:=by
 intro l
 induction l with
 |nil=>rintro _ ⟨x,b,_⟩;cases b
 |cons a l e=>
  rintro h ⟨x,b,c,d⟩;have g:=Sx (l:=l) λx b=>h x (pM _ b);have f:=h a rT;rw[pR,pR];rcases List.mem_cons.1 b with rfl | b
  ·rw[c,d];simp;omega
  ·have i:=e (λx b=>h x (pM _ b)) ⟨x,b,c,d⟩;cases hp:p a with
   |false=>simp;omega
   |true=>rw[f hp];simp;omega
def card(s:Ae):Nat:=(rK 1000).countP λk:Nat=>mem s (k:Int)
theorem dP(s:Ae):card s≤1000:=by
 unfold card
 have:=List.countP_le_length (p:=λk:Nat=>mem s (k:Int)) (l:=rK 1000)
 rwa [rZ]at this
theorem dQ:∀(l:nH) {s:Ae}{g:Bool},OkS s→(∀i∈l,0≤i)→(l.foldl Dg.stepG (s,false,g)).2.2=true→g=true∨ ∃i∈l,i<s.1∧mem s i=false:=by
 intro l
 induction l with
 |nil=>intro s g _ _ h;exact .inl h
 |cons i l f=>
  intro s g H c h;rw[List.foldl_cons]at h;by_cases b:s.1≤i
  ·have e:Dg.stepG (s,false,g) i=(s,true,g):=by unfold Dg.stepG;rw[nA nP,mZ b]
   rw[e,Zp l rfl]at h;exact .inl h
  ·obtain⟨s',hd,k,m,n⟩:=Dg.add_ok H i;have e:Dg.stepG (s,false,g) i=(s',false,(decide (0≤i∧i<s.1) && !mem s i) || g):=by unfold Dg.stepG;rw[nA nP,nA b,hd];rfl
   rw[e]at h;have o:=c i nP;rcases f k (λi b=>c i (pM _ b)) h with a | ⟨j,p,q,d⟩
   ·rw[pE,pI]at a;rcases a with⟨_,a⟩|a
    ·exact .inr ⟨i,nP,nJ,by simpa using a⟩
    ·exact .inl a
   ·refine .inr ⟨j,pM _ p,by rw[←m];exact q,?_⟩;rw[n,qD]at d;exact d.1
theorem VI{s o:Ae}(H:OkS s)(K:OkS o):OkS (BT s o)∧(BT s o).1=s.1∧card s≤card (BT s o)∧(F9 s o=true→card s<card (BT s o)):=by
 have⟨f,g,a⟩:=Og H K;refine⟨f,g,Sx λk _ b=>by rw[a,b];rfl,λj=>?_⟩;rcases dQ (EV o) H (λi l=>(Lu K l).1) j with h | ⟨i,c,m,d⟩
 ·cases h
 ·have⟨e,n⟩:=Lu K c;have p:=H.hi;refine YS (λk _ b=>by rw[a,b];rfl) ⟨i.toNat,qO.2 nJ,?_,?_⟩
  ·rw[oY e,a,d,(Fk K i).1 c,mW m];rfl
  ·rw[oY e];exact d
def Ss(w:Int)(ss:List Ae):Prop:= ∀s∈ss,OkS s∧s.1=w
def room(ss:List Ae):Nat:=(ss.map λs=>1000 - card s).sum
theorem XW:∀ {ss:List Ae}{k:Nat}{s s':Ae},ss[k]? =some s→card s≤card s'→room (ss.set k s') ≤room ss∧(card s<card s'→room (ss.set k s') <room ss):=by
 intro ss
 induction ss with
 |nil=>intro k s s' h;simp at h
 |cons a ss c=>
  intro k s s' h d;have e:=dP s';cases k with
  |zero=>
   obtain rfl:a=s:=by simpa using h
   simp only[List.set_cons_zero,room,rS,List.sum_cons];exact⟨nJ,λh=>nJ⟩
  |succ k=>
   obtain⟨f,b⟩:=c (k:=k) (s:=s) (s':=s') (by simpa using h) d;simp only[room]at f b;simp only[qX,room,rS,List.sum_cons];exact⟨nJ,λh=>by have:=b h;omega⟩
theorem Ss.set{w:Int}(H:Ss w ss){k:Nat}{s:Ae}(a:OkS s∧s.1=w):Ss w (ss.set k s):=λx b=>by
 rcases rA b with h | rfl
 ·exact H x h
 ·exact a
theorem dR{w:Int}{x:Int}{o:Ae}(H:Ss w ss)(e:0≤x)(n:x< (ss.length:Int))(b:OkS o):
 Ok (dJ ss x o) λr=>Ss w r.2∧r.2.length=ss.length∧room r.2≤room ss∧(r.1=true→room r.2<room ss):=by
 have a:x.toNat<ss.length:=nJ
 have c:=bD a;have⟨d,f⟩:=H _ (oQ a);have⟨h,i,j,k⟩:=VI d b;have⟨l,m⟩:=XW c j;unfold dJ;exact Cx e c (Bu ⟨d,b⟩ (AB ⟨H.set ⟨h,i.trans f⟩,nP,l,λg=>m (k g)⟩))
theorem XX{w:Int}{x y:Int}(H:Ss w ss)(f:0≤x)(q:x< (ss.length:Int))(h:0≤y)(s:y< (ss.length:Int)):
 Ok (YP ss x y) λr=>Ss w r.2∧r.2.length=ss.length∧room r.2≤room ss∧(r.1=true→room r.2<room ss):=by
 have b:x.toNat<ss.length:=nJ
 have a:y.toNat<ss.length:=nJ
 have c:=bD b;have i:=bD a;have⟨d,j⟩:=H _ (oQ b);have e:=(H _ (oQ a)).1;have⟨k,l,m,n⟩:=VI d e;have⟨o,p⟩:=XW c m;unfold YP;exact Cx f c (Cx h i (Bu ⟨d,e⟩ (AB ⟨H.set ⟨k,l.trans j⟩,nP,o,λg=>p (n g)⟩)))
def Nl(p:dtP)(null:List Bool)(s:Int):Prop:=nT p≤s∧null[(s - nT p).toNat]? =some true
def mu(null:List Bool)(ss:List Ae):Nat:=room ss+null.countP (λb=> !b)
theorem Hd:∀ {l:List Bool}{k:Nat},l[k]? =some false→(l.set k true).countP (λb=> !b)+1=l.countP (λb=> !b):=by
 intro l
 induction l with
 |nil=>intro k h;simp at h
 |cons a l c=>
  intro k h;cases k with
  |zero=>
   obtain rfl:a=false:=by simpa using h
   simp
  |succ k=>
   have:=c (k:=k) (by simpa using h)
   rw[qX,pR,pR];omega
theorem aV{α:Type}{l:List α}{k:Nat}{x:α}(h:l[k]? =some x):l.set k x=l:=by
 refine List.ext_getElem? λi=>?_;rw[rC];split
 ·rename_i e
  subst e;rw[h,mZ (oI.1 h).1]
 ·rfl
theorem gL(p:dtP){s:Int}(h:s<nT p)(null:List Bool):¬Nl p null s:=λg=>by have:=g.1;omega
section
variable {p:dtP}{w:Int}
theorem Sz(S:Sy p){null:List Bool}{x:Nat}{seq:nH}{m:Nat}(P:m=p.2.1.length+1)(Q:null.length=m)(H:Ss w ss)(R:ss.length=m+m)(T:x<m+m)(L:∀s∈seq,0≤s∧s<nT p+(p.2.1.length:Int))(U:seq.length≤1000):
 Ok (Ma p (m:Int) null (x:Int) ss seq) λr=>Ss w r.2.2∧r.2.2.length=ss.length∧room r.2.2≤room ss∧(r.1=true→room r.2.2<room ss)∧(r.2.1=true↔∀s∈seq,Nl p null s):=by
 have V:=S.t1;have W:=S.v1;have M:nT p=(p.1.length:Int):=rfl;unfold Ma;refine Gs (λk (z:Bool×List Ae)=>Ss w z.2∧z.2.length=ss.length∧room z.2≤room ss∧(z.1=true→room z.2<room ss)∧ ∀s∈seq.take k,Nl p null s)
  (λb=>Ss w b.2.2∧b.2.2.length=ss.length∧room b.2.2≤room ss∧(b.1=true→room b.2.2<room ss)∧b.2.1=false∧ ¬ ∀s∈seq,Nl p null s) nJ ⟨H,rfl,pH _,(λh=>by cases h),nP⟩ (λk z K F=>?_) (λz F=>AB ?_) λb v=>AB ?_
 ·obtain⟨g,X⟩:=z;obtain⟨j,d,f,n,q⟩:=F;dsimp only at j d f n q ⊢;have y:=bD K;have a:=oQ K;have⟨Y,Z⟩:=L _ a;refine AS y (AO (HO p seq[k]) ?_);refine AR (λG=>?_) λG=>?_
  ·rw[pI,nD,nD]at G;obtain⟨o,e,o1,o2,_⟩:=Dg.of_ok (nT p) [seq[k]] nP;refine AO e (AM (dR j (x:=(x:Int)) nJ nJ o1) λu I=>?_);obtain⟨C,D,E,J⟩:=I;refine BB ⟨C,D.trans d,qG E f,λh=>?_,rfl,λc=>gL p nJ null (c _ a)⟩;dsimp only at h ⊢;rw[pE]at h;rcases h with h | h
   ·have:=J h;omega
   ·have:=n h;omega
  ·rw[pZ,nF,nF]at G;have e:bO .i64 (seq[k] - nT p)=(((seq[k] - nT p).toNat:Nat):Int):=by rw[w64 nJ nJ];omega
   have N:(seq[k] - nT p).toNat<m:=nJ
   rw[e];refine Bu nJ (AM (XX j (x:=(x:Int)) nJ nJ nJ nJ) λu I=>?_);obtain⟨C,D,E,J⟩:=I;have v:=bD (l:=null) (i:=(seq[k] - nT p).toNat) nJ;refine AS v ?_;have A:(u.1 || g)=true→room u.2<room ss:=λh=>by
    rw[pE]at h;rcases h with h | h
    ·have:=J h;omega
    ·have:=n h;omega
   refine AR (λt=>Bd ⟨C,D.trans d,qG E f,A,λs B=>?_⟩) λt=>BB ⟨C,D.trans d,qG E f,A,rfl,λc=>?_⟩
   ·rw[qP,y]at B;rcases pA.1 B with h | h
    ·exact q s h
    ·have:s=seq[k]:=by simpa using h
     subst this;exact⟨nJ,by rw[v,t]⟩
   ·have:=(c _ a).2
    rw[v,t]at this;cases this
 ·obtain⟨j,d,f,n,q⟩:=F;rw[pU (pH _)]at q;exact⟨j,d,f,n,λ_=>q,λ_=>rfl⟩
 ·obtain⟨j,d,f,n,q,O⟩:=v;exact⟨j,d,f,n,λh=>(by rw[q]at h;cases h),λh=>nC h O⟩
structure aW (p:dtP) (w:Int) (null:List Bool) (ss:List Ae) (k:Nat) (z:Bool×List Bool×List Ae):Prop where
 len:z.2.1.length=null.length
 sets:Ss w z.2.2
 lens:z.2.2.length=ss.length
 le:mu z.2.1 z.2.2≤mu null ss
 lt:z.1=true→mu z.2.1 z.2.2<mu null ss
 stay:z.1=false→z.2.1=null∧ ∀(j:Nat) r,j<k→p.2.2.1[j]? =some r→(∀s∈r.2.1,Nl p null s)→Nl p null r.1
 sound:(∀s,Nl p null s→Nul p.2.2.1 s)→ ∀s,Nl p z.2.1 s→Nul p.2.2.1 s
theorem aX(S:Sy p){null:List Bool}{m:Nat}(R:m=p.2.1.length+1)(hn:null.length=m)(H:Ss w ss)(hl:ss.length=m+m):
 Ok (RY p (m:Int) null ss) (aW p w null ss p.2.2.1.length):=by
 have hT:=S.t1;have hV:=S.v1;have hF:=S.few;have T:nT p=(p.1.length:Int):=rfl;refine CM (n:=p.2.2.1.length) (λk=>aW p w null ss k) nJ (s:=(false,null,ss)) ⟨rfl,H,rfl,pH _,(λh=>by cases h),λ_=>⟨rfl,λj r E=>nJ⟩,λh=>h⟩ λk z L t=>?_;obtain⟨c,C,U⟩:=z;have F:=bD L;have a:=oQ L;obtain⟨r,G⟩:∃r,p.2.2.1[k] =r:=⟨_,rfl⟩;rw[G]at F a;have⟨V,l1⟩:=S.left r a;have e:bO .i64 (r.1 - nT p)=(((r.1 - nT p).toNat:Nat):Int):=by rw[w64 nJ nJ];omega
 have W:(r.1 - nT p).toNat<m:=nJ
 have o:=t.len;have v:=t.lens;dsimp only at o v ⊢;refine AS F ?_;rw[e];refine Bu nJ ?_;have X:=S.right r a;refine AM (Sz S (null:=C) (ss:=U) (x:=(r.1 - nT p).toNat) R nJ t.sets nJ nJ X (S.short r a)) λg Y=>?_;obtain⟨M,N,g3,Z,O⟩:=Y;have D:=bD (l:=C) (i:=(r.1 - nT p).toNat) nJ;refine AS D (Ex nJ nJ (AB ?_));rw[oU];obtain⟨b,I⟩:∃b,C[(r.1 - nT p).toNat] =b:=⟨_,rfl⟩;rw[I]at D ⊢;by_cases d:b=false∧g.2.1=true
 ·obtain⟨rfl,u⟩:=d;have hc:=Hd D;have f:=t.le;rw[u];refine⟨by simp[o],M,N.trans v,?_,λ_=>?_,λh=>?_,λP s h=>?_⟩
  ·show mu (C.set _ true) g.2.2≤mu null ss;unfold mu at f ⊢;dsimp only at f;omega
  ·show mu (C.set _ true) g.2.2<mu null ss;unfold mu at f ⊢;dsimp only at f;omega
  ·exfalso;dsimp only at h;simp at h
  ·obtain⟨h0,y⟩:=h;change (C.set _ true)[_]? =some true at y;rw[rC]at y;split at y
   ·rename_i he
    have:s=r.1:=nJ
    subst this;exact .rule a λs J=>t.sound P s (O.1 u s J)
   ·exact t.sound P s ⟨h0,y⟩
 ·have K:(b || g.2.1)=b:=by
   cases b with
   |true=>rfl
   |false=>cases hgg:g.2.1 with
    |false=>rfl
    |true=>exact nC ⟨rfl,hgg⟩ d
  have A:(g.2.1 && !b)=false:=by
   cases b with
   |true=>simp
   |false=>cases hgg:g.2.1 with
    |false=>rfl
    |true=>exact nC ⟨rfl,hgg⟩ d
  rw[K,A,aV D,Bool.or_false];have f:=t.le;have q:=t.lt;unfold mu at f q;dsimp only at f q;refine⟨o,M,N.trans v,?_,λh=>?_,λh=>?_,t.sound⟩
  ·unfold mu;dsimp only;omega
  ·unfold mu;dsimp only at h ⊢;rw[pE]at h;rcases h with h | h
   ·have:=q h;omega
   ·have:=Z h;omega
  ·dsimp only at h ⊢;rw[qD]at h;have⟨y,h2⟩:=t.stay h.1;dsimp only at y;subst y;refine⟨rfl,λj r' E B Q=>?_⟩;rcases Nat.lt_succ_iff_lt_or_eq.1 E with E | rfl
   ·exact h2 j r' E B Q
   ·rw[F]at B;cases B;refine⟨V,?_⟩;rw[D];rw[O.2 Q]at A;simpa using A
end
end
section
variable {p:dtP}{w:Int}
theorem WV(S:Sy p){null:List Bool}{ss:List Ae}{m:Nat}(M:m=p.2.1.length+1)(N:null.length=m)(H:Ss w ss)(X:ss.length=m+m):
 Ok (Ot p (m:Int) null ss) λr=>Ss w r.2∧r.2.length=ss.length∧room r.2≤room ss∧(r.1=true→room r.2<room ss):=by
 have Y:=S.t1;have Z:=S.v1;have hF:=S.few;have O:nT p=(p.1.length:Int):=rfl;refine CM (n:=p.2.2.1.length) (λ_ (z:Bool×List Ae)=>Ss w z.2∧z.2.length=ss.length∧room z.2≤room ss∧(z.1=true→room z.2<room ss)) nJ (s:=(false,ss)) ⟨H,rfl,pH _,(λh=>by cases h)⟩ λk z C c=>?_;have D:=bD C;have a:=oQ C;obtain⟨r,d⟩:∃r,p.2.2.1[k] =r:=⟨_,rfl⟩;rw[d]at D a;have⟨l0,l1⟩:=S.left r a;have E:=S.right r a;have nS:=S.short r a;refine AS D (CM (λ_ (z:Bool×List Ae)=>Ss w z.2∧z.2.length=ss.length∧room z.2≤room ss∧(z.1=true→room z.2<room ss)) nJ c λj z F c=>?_);obtain⟨g,f⟩:=z;obtain⟨i,b,l,o⟩:=c;dsimp only at i b l o ⊢;have⟨b0,b1⟩:=E _ (oQ F);refine AS (bD F) (AO (HO p _) ?_);refine AR (λG=>AB ⟨i,b,l,o⟩) λG=>?_;rw[pZ,nF,nF]at G;have e:bO .i64 (r.2.1[j] - nT p)=(((r.2.1[j] - nT p).toNat:Nat):Int):=by rw[w64 nJ nJ];omega
 have P:(m:Int)+(((r.2.1[j] - nT p).toNat:Nat):Int)=((m+(r.2.1[j] - nT p).toNat:Nat):Int):=nJ
 have R:(r.2.1[j] - nT p).toNat<m:=nJ
 rw[e,P];refine Bu nJ (AM (Sz S (null:=null) (ss:=f) (x:=m+(r.2.1[j] - nT p).toNat) (seq:=r.2.1.drop ((j:Int)+1).toNat) M N i nJ nJ (λs T=>E s (qU T)) nN) λq U=>?_);obtain⟨I,J,K,L,_⟩:=U;refine AM (Q:=λ(u:Bool×List Ae)=>Ss w u.2∧u.2.length=ss.length∧room u.2≤room f∧(u.1=true→room u.2<room f)) ?_ λu t=>?_
 ·refine AR (λV=>?_) λV=>AB ⟨I,J.trans b,K,L⟩;have W:bO .i64 (r.1 - nT p)=(((r.1 - nT p).toNat:Nat):Int):=by rw[w64 nJ nJ];omega
  rw[W];refine Bu nJ (AM (XX I nJ nJ nJ nJ) λu t=>AB ?_);obtain⟨v,y,A,B⟩:=t;refine⟨v,y.trans (J.trans b),qG A K,λh=>?_⟩;dsimp only at h ⊢;rw[pE]at h;rcases h with h | h
  ·have:=B h;omega
  ·have:=L h;omega
 ·obtain⟨v,y,A,B⟩:=t;refine AB ⟨v,y,qG A l,λh=>?_⟩;dsimp only at h ⊢;rw[pE]at h;rcases h with h | h
  ·have:=o h;omega
  ·have:=B h;omega
theorem Ou(S:Sy p):Mw (nT p)=nT p:=by have b:=S.t1;have a:nT p=(p.1.length:Int):=rfl;exact T1 nJ nJ
theorem VJ(S:Sy p):Ok (Pi p) λf=>f.length=p.2.1.length+1∧Ss (nT p) f:=by
 have m:=S.v1;unfold Pi;have e:bO .i64 ((p.2.1.length:Int)+1)=((p.2.1.length+1:Nat):Int):=by rw[w64 nJ nJ];omega
 rw[e];obtain⟨l,c,d,g⟩:=Mb (f:=λ_ a=>(CN (nT p)).bind λs=>app a [s]) (n:=p.2.1.length+1) nJ (λ_ (s:Ae)=>OkS s∧s.1=nT p) λk a b o=>by
  have⟨s,e,h,i,_⟩:=Dg.new_ok (nT p);rw[e,oM,dO nJ];exact⟨s,rfl,h,i.trans (Ou S)⟩
 refine⟨l,c,d,λs j=>?_⟩;obtain⟨k,b⟩:=pD j;exact g k s b
theorem VK{ss:List Ae}(H:Ss w ss)(j:ss.length≤100000):Ok (Lz ss) λl=>l.length=ss.length∧ ∀x∈l,x.length≤64000:=by
 unfold Lz;obtain⟨l,d,e,g⟩:=Mb (f:=λi (a:List nH)=>(idx ss i).bind λs=>(Kc s).bind λl=>app a [l]) (n:=ss.length) nJ (λ_ (x:nH)=>x.length≤64000) λk a b m=>by
  have c:=(H _ (oQ b)).1;rw[GV b,oM,JO c,oM,dO nJ];refine⟨_,rfl,?_⟩;have d:=Pn ss[k];have e:=c.len;have g:=c.hi;omega
 refine⟨l,d,e,λx h=>?_⟩;obtain⟨k,b⟩:=pD h;exact g k x b
structure aY (p:dtP) (fa:dtF):Prop where
 len:fa.1.length=p.2.1.length+1
 nul:∀s,nT p≤s→(fa.1[(s - nT p).toNat]? =some true↔Nul p.2.2.1 s)
 flen:fa.2.1.length=p.2.1.length+1
 few:∀l∈fa.2.1,l.length≤64000
theorem dS(S:Sy p){null:List Bool}(e:null.length=p.2.1.length+1)(a:∀(j:Nat) r,p.2.2.1[j]? =some r→(∀s∈r.2.1,Nl p null s)→Nl p null r.1){s:Int}(h:Nul p.2.2.1 s):Nl p null s:=by
 induction h with
 |rule b _ c=>
  obtain⟨j,d⟩:=pD b;exact a j _ d c
theorem aZ(S:Sy p):Ok (RZ p) (aY p):=by
 have W:=S.t1;have X:=S.v1;have Y:=S.few;have H:nT p=(p.1.length:Int):=rfl;unfold RZ;have e:bO .i64 ((p.2.1.length:Int)+1)=((p.2.1.length+1:Nat):Int):=by rw[w64 nJ nJ];omega
 rw[e];refine AO (x:=pS (p.2.1.length+1) false) (by unfold EC;rw[mZ ⟨nJ,nJ⟩,oU])<|AM (VJ S) λf I=>AM (VJ S) λg J=>?_;obtain⟨A,K⟩:=I;obtain⟨L,M⟩:=J;have B:Ss (nT p) (f++g):=λs k=>(pA.1 k).elim (K s) (M s);refine Bz (λ(z:Int×List Bool×List Ae)=>z.2.1.length=p.2.1.length+1∧Ss (nT p) z.2.2∧z.2.2.length=f.length+f.length∧ ∀s,Nl p z.2.1 s→Nul p.2.2.1 s) (λz=>mu z.2.1 z.2.2)
  (λz=>z.2.1.length=p.2.1.length+1∧Ss (nT p) z.2.2∧z.2.2.length=f.length+f.length∧(∀s,Nl p z.2.1 s→Nul p.2.2.1 s)∧ ∀(j:Nat) r,p.2.2.1[j]? =some r→(∀s∈r.2.1,Nl p z.2.1 s)→Nl p z.2.1 r.1) ⟨nP,B,by simp[A,L],λs h=>?_⟩ (λz C=>?_) λz C=>?_
 ·have:=h.2
  dsimp only at this;rw[rG]at this;split at this<;>simp at this
 ·obtain⟨c,D,y⟩:=z;obtain⟨l,n,o,q⟩:=C;dsimp only at l n o q ⊢;refine AM (aX S (null:=D) (ss:=y) (m:=f.length) A nJ n nJ) λr d=>AR (λt=>Bd ⟨⟨d.len.trans l,d.sets,d.lens.trans o,d.sound q⟩,d.lt t⟩) λt=>BB ⟨d.len.trans l,d.sets,d.lens.trans o,d.sound q,?_⟩;have⟨N,O⟩:=d.stay t;dsimp only;rw[N];exact λj P E=>O j P (Bt E) E
 ·obtain⟨c,D,y⟩:=z;obtain⟨l,n,o,q,F⟩:=C;dsimp only at l n o q F ⊢;have u:f.length+p.2.1.length<y.length:=nJ
  have v:=bD u;have⟨Q,R⟩:=n _ (oQ u);refine AS (x:=y[f.length+p.2.1.length]) (by rw[qY];exact v) ?_;obtain⟨s',T,U,V,_⟩:=Dg.add_ok Q 0;refine AO T<|Bz (λ(ss:List Ae)=>Ss (nT p) ss∧ss.length=f.length+f.length) room (λ(ss:List Ae)=>Ss (nT p) ss∧ss.length=f.length+f.length) ⟨n.set ⟨U,V.trans R⟩,by simp[o]⟩ (λss i=>?_) λss i=>?_
  ·refine AM (WV S (null:=D) (ss:=ss) (m:=f.length) A nJ i.1 i.2) λr d=>AR (λt=>Bd ⟨⟨d.1,d.2.1.trans i.2⟩,d.2.2.2 t⟩) λt=>BB ⟨d.1,d.2.1.trans i.2⟩
  ·refine AM (VK (w:=nT p) (λs k=>i.1 s (List.mem_of_mem_take k)) nN) λa G=>AM (VK (w:=nT p) (λs k=>i.1 s (qU k)) nN) λb Z=>AB ?_;refine⟨l,λs k=>⟨λh=>q s ⟨k,h⟩,λh=>(dS S l F h).2⟩,?_,G.2⟩;dsimp only;rw[G.1,rH];omega
end
end Go.Proofs.YtfnppeejaimnbaaGreatDoor
namespace Go.Proofs.YtfnppeejaimnbaaGreatDoor
open Go Go.Eng
noncomputable def Pp(r1 b a:Nat):T:=oB 0 lZ (oN lZ [lN 1] λi=>hC 90 [lP (lF a)] lU λl=>cond l (hM [lN (wN i.1)]) (oP 0 [lN i.1])) λm=>jM a 8 λj=>jM r1 1 λc=>nW j.1 λn=>chk (0≤(c.2.1:Int)∧(c.2.1:Int) < (j.2.1:Nat))<|kX n (c.2.1:Int) 1 λo=>hC 91 [lP o,lN 0] lU λt=>oB 2 [] (oN [] [] λu=>hC 92 [lP (lF a)] lU λp=>cond p (hM []) (oP 2 [])) λv=>jM a 6 λd=>jM a 7 λq=>jM a 8 λk=>hC 93 [sv q] lS λr=>kJ a 8 k<|kJ a 6 d<|hC 93 [sv k] lS λs=>kJ a 6 d<|jQ b 0 d<|jQ b 1 r<|jQ b 2 s<|jZ b 3 m.1<|jM b 0 λe=>jM b 1 λf=>jM b 2 λg=>jY b 3 λh=>oC (.agg #[sv e,sv f,sv g,lN h])
noncomputable def Ra(p_0:Pl6):T:=jO #[sv p_0.1,sv p_0.2.1,sv p_0.2.2.1,sv p_0.2.2.2.1,sv p_0.2.2.2.2.1,sv p_0.2.2.2.2.2.1] 32 λr1=>jO #[lO,lO,lO,lN 0] 122 λo=>L6 r1 λt3 t4 t5 t6 t7 t8=>jM r1 1 λg=>L6 r1 λh i j k l m=>L6 r1 λa b c d e f=>qR (oV (oX 100 (lN (bO .i64 ((g.2.1:Int)+(1:Int)))) (lN (bO .i64 ((g.2.1:Int)+(1:Int))))) lS λp=>S6 r1 a b c d e f<|S6 r1 h i j k l m<|S6 r1 t3 t4 t5 t6 t7 t8<|hC 89 [aH h i j k l m] lS λq=>S6 r1 a b c d e f<|S6 r1 t3 t4 t5 t6 t7 t8<|hC 89 [aH a b c d e f] lS λr=>S6 r1 t3 t4 t5 t6 t7 t8<|jO #[sv t3,sv t4,sv t5,sv t6,sv t7,sv t8,sv p,sv q,sv r] 186 λs=>Pp r1 o s) (hC 89 [aH h i j k l m] lS λn=>S6 r1 a b c d e f<|kJ r1 1 g<|S6 r1 t3 t4 t5 t6 t7 t8<|qR (oV (oX 100 (lN (bO .i64 ((g.2.1:Int)+(1:Int)))) (lN (bO .i64 ((g.2.1:Int)+(1:Int))))) lS λt=>S6 r1 a b c d e f<|S6 r1 t3 t4 t5 t6 t7 t8<|hC 89 [aH a b c d e f] lS λu=>S6 r1 t3 t4 t5 t6 t7 t8<|jO #[sv t3,sv t4,sv t5,sv t6,sv t7,sv t8,sv t,sv n,sv u] 186 λv=>Pp r1 o v) (hC 89 [aH a b c d e f] lS λw=>kJ r1 1 g<|S6 r1 t3 t4 t5 t6 t7 t8<|oV (oX 100 (lN (bO .i64 ((g.2.1:Int)+(1:Int)))) (lN (bO .i64 ((g.2.1:Int)+(1:Int))))) lS λx=>S6 r1 t3 t4 t5 t6 t7 t8<|jO #[sv t3,sv t4,sv t5,sv t6,sv t7,sv t8,sv x,sv n,sv w] 186 λy=>Pp r1 o y))
theorem T2(p_0:Pl6):Ab eE f54 [(aG p_0)] =Ra p_0:=nU
noncomputable def NW(p_0:Pl6):T:=jO #[sv p_0.1,sv p_0.2.1,sv p_0.2.2.1,sv p_0.2.2.2.1,sv p_0.2.2.2.2.1,sv p_0.2.2.2.2.2.1] 32 λr1=>jM r1 1 λt2=>oB 0 lY (oN lY [lN 0,lO] λa=>cond (decide (a.1< (bO .i64 ((t2.2.1:Int)+(1:Int))))) (jM r1 0 λt5=>hC 96 [lN (t5.2.1:Int)] lR λt6=>jO #[lP t6] 187 λb=>oV (oA #[131,131] 131 #[sv a.2.1,.slice (lF b) 1 1]) lS λt8=>hM [lN (wN a.1),sv t8]) (oP 0 [lN a.1,sv a.2.1])) λc=>oC (sv c.2.1)
theorem QY(p_0:Pl6):Ab eE f89 [(aG p_0)] =NW p_0:=nU
noncomputable def Hy(s_0:nG):T:=nW s_0 λy=>jT y 2 λt2=>oB 0 lW (oN lW [lN 0,.bool false] λb=>cond (decide (b.1< (t2.2.1:Int))) (nW t2.1 λi=>chk (0≤b.1∧b.1< (t2.2.1:Nat))<|jR i b.1 3 λt6=>jU i b.1 3 1 λt7=>jX i b.1 3 2 λt8=>jO #[lN 0,lO,lN 0] 156 λe=>jZ e 0 t6<|jQ e 1 t7<|jZ e 2 t8<|jY e 0 λj=>hC 128 [lP s_0,lN j] lT λa=>jM e 1 λk=>nW s_0 λl=>jT l 7 λf=>nW f.1 λm=>chk (0≤a∧a< (f.2.1:Nat))<|kX m a 1 λn=>hC 129 [lP s_0,sv k,.func (.func 98) #[lP n] #[]] (.tuple [aB,aB]) λd=>oF lV (cond b.2.1 (hM [.bool true]) (cond d.1 (hM [.bool true]) (cond d.2.1 (nW s_0 λo=>jT o 6 λg=>nW g.1 λp=>chk (0≤a∧a< (g.2.1:Nat))<|kZ p a 1 λq=>hM [.bool (!q)]) (hM [.bool false])))) λr=>oF [] (nW s_0 λs=>jT s 6 λc=>nW s_0 λt=>jT t 6 λh=>nW h.1 λu=>chk (0≤a∧a< (h.2.1:Nat))<|kZ u a 1 λv=>cond v (nW c.1 λw=>chk (0≤a∧a< (c.2.1:Nat))<|pN (w.add (oJ a *1)) (.bool true)<|hM []) (nW c.1 λx=>chk (0≤a∧a< (c.2.1:Nat))<|pN (x.add (oJ a *1)) (.bool d.2.1)<|hM [])) λz=>hM [lN (wN b.1),.bool r.1]) (oP 0 [lN b.1,.bool b.2.1])) λA=>oC (.bool A.2.1)
theorem L5(s_0:nG):Ab eE f90 [(.pointer s_0)] =Hy s_0:=nU
noncomputable def HD(s_0:nG):T:=nW s_0 λJ=>jT J 2 λt2=>oB 0 lW (oN lW [lN 0,.bool false] λc=>cond (decide (c.1< (t2.2.1:Int))) (nW t2.1 λo=>chk (0≤c.1∧c.1< (t2.2.1:Nat))<|jR o c.1 3 λt6=>jU o c.1 3 1 λt7=>jX o c.1 3 2 λt8=>jO #[lN 0,lO,lN 0] 156 λj=>jZ j 0 t6<|jQ j 1 t7<|jZ j 2 t8<|jM j 1 λd=>oB 2 lW (oN lW [lN 0,.bool c.2.1] λa=>cond (decide (a.1< (d.2.1:Int))) (oB 3 lV (nW d.1 λp=>chk (0≤a.1∧a.1< (d.2.1:Nat))<|jR p a.1 1 λk=>nW s_0 λq=>M6 q λr s t u v w=>hC 30 [aH r s t u v w,lN k] lU λy=>cond y (oP 3 [.bool a.2.1]) (nW s_0 λl=>jT l 8 λe=>hC 128 [lP s_0,lN k] lT λf=>pG (l.add 8) (sv e)<|nW e.1 λz=>chk (0≤f∧f< (e.2.1:Nat))<|kX z f 1 λm=>jM j 1 λb=>chk (0≤(wN a.1)∧(wN a.1) ≤(b.2.1:Int)∧(b.2.1:Int) ≤(b.2.2:Nat))<|hC 129 [lP s_0,.slice (if b.2.2=oJ (wN a.1) then b.1 else sI (λx=>sQ x (oJ (wN a.1) *1)) b.1) (oJ (b.2.1:Int) - oJ (wN a.1)) (b.2.2 - oJ (wN a.1)),.func (.func 98) #[lP m] #[]] (.tuple [aB,aB]) λg=>oF lV (cond g.2.1 (oF lV (nW s_0 λn=>jT n 8 λh=>jY j 0 λA=>hC 128 [lP s_0,lN A] lT λi=>pG (n.add 8) (sv h)<|nW h.1 λB=>chk (0≤i∧i< (h.2.1:Nat))<|kX B i 1 λC=>hC 98 [lP m,lP C] lU λD=>cond D (hM [.bool true]) (hM [.bool g.1])) λE=>hM [.bool E.1]) (hM [.bool g.1])) λF=>oF lV (cond a.2.1 (hM [.bool true]) (hM [.bool F.1])) λG=>hM [.bool G.1])) λH=>hM [lN (wN a.1),.bool H.1]) (oP 2 [lN a.1,.bool a.2.1])) λI=>hM [lN (wN c.1),.bool I.2.1]) (oP 0 [lN c.1,.bool c.2.1])) λK=>oC (.bool K.2.1)
theorem Kw(s_0:nG):Ab eE f92 [(.pointer s_0)] =HD s_0:=nU
noncomputable def NX(c:nG)(a d:Nat):T:=oB 0 lY (oN lY [lN 0,lO] λb=>cond (decide (b.1< ((a:Nat):Int))) (nW c λe=>chk (0≤b.1∧b.1< (a:Nat))<|kX e b.1 1 λt4=>hC 101 [lP t4] lS λt5=>jO #[sv t5] 30 λf=>oV (oA #[57,57] 57 #[sv b.2.1,.slice (lF f) 1 1]) lS λt7=>hM [lN (wN b.1),sv t7]) (oP 0 [lN b.1,sv b.2.1])) λg=>oC (sv g.2.1)
theorem QZ(a:nG)(b c:Nat):Ab eE f93 [(.slice a b c)] =NX a b c:=nU
noncomputable def Ov(f_0:Slc×Slc×Slc×Int×Unit)(c:Pl6)(d:nG)(a g:Nat):T:=jO #[sv f_0.1,sv f_0.2.1,sv f_0.2.2.1,lN f_0.2.2.2.1] 122 λr1=>jO #[sv c.1,sv c.2.1,sv c.2.2.1,sv c.2.2.2.1,sv c.2.2.2.2.1,sv c.2.2.2.2.2.1] 32 λj=>jM j 0 λt3=>hC 96 [lN (t3.2.1:Int)] lR λt4=>oB 0 mA (oN mA [lN 0,.bool false,lO] λe=>lL e.1 a (oB 1 [aB,aS] (lK d a e.1 λD=>jR D e.1 1 λf=>L6 j λk l m n o p=>hC 30 [aH k l m n o p,lN f] lU λq=>cond q (hC 91 [lP t4,lN f] lU λE=>hC 101 [lP t4] lS λr=>oC (.tuple #[sv r,.bool false])) (jM j 0 λb=>oF lV (lM ((lQ (f - (b.2.1:Int))) < 0) (hM [.bool true]) (jM r1 1 λs=>hM [.bool (decide ((lQ (f - (b.2.1:Int))) ≥ (s.2.1:Int)))])) λt=>cond t.1 (oP 1 [.bool e.2.1,sv e.2.2.1]) (jM j 0 λu=>jM r1 1 λh=>nW h.1 λv=>chk (0≤(lQ (f - (b.2.1:Int)))∧(lQ (f - (b.2.1:Int))) < (h.2.1:Nat))<|jN v (lQ (f - (b.2.1:Int))) 1 λw=>hC 99 [lN (u.2.1:Int),sv w] lR λx=>hC 98 [lP t4,lP x] lU λF=>jM r1 0 λi=>nW i.1 λy=>chk (0≤(lQ (f - (b.2.1:Int)))∧(lQ (f - (b.2.1:Int))) < (i.2.1:Nat))<|kZ y (lQ (f - (b.2.1:Int))) 1 λz=>cond (!z) (hC 101 [lP t4] lS λA=>oC (.tuple #[sv A,.bool false])) (hM [.bool e.2.1,sv e.2.2.1])))) λC=>hM [lN (wN e.1),.bool C.1,sv C.2.1]) (oP 0 [lN e.1,.bool e.2.1,sv e.2.2.1])) λG=>hC 101 [lP t4] lS λB=>oC (.tuple #[sv B,.bool true])
theorem Mx(d:Slc×Slc×Slc×Int×Unit)(e:Pl6)(a:nG)(b c:Nat):Ab eE f106 [(.agg #[(sv d.1),(sv d.2.1),(sv d.2.2.1),(.int .i64 d.2.2.2.1)]),(aG e),(.slice a b c)] =Ov d e a b c:=nU
noncomputable def Kd(s_0:nG)(a:Int):T:=nW s_0 λb=>lA b λt2=>oC (lN (bO .i64 (a - (t2.2.1:Int))))
theorem Ow(s_0:nG)(a:Int):Ab eE f128 [(.pointer s_0),(.int .i64 a)] =Kd s_0 a:=nU
noncomputable def GK(s_0:nG)(b:nG)(a h:Nat)(i:nG):T:=oB 0 [aI,aB,aB] (oN [aI,aB,aB] [lN 0,.bool false,.bool false] λc=>cond (decide (c.1< ((a:Nat):Int))) (nW b λA=>chk (0≤c.1∧c.1< (a:Nat))<|jR A c.1 1 λt4=>nW s_0 λB=>M6 B λt6 t7 t8 C n o=>hC 30 [aH t6 t7 t8 C n o,lN t4] lU λp=>cond p (oF [aB,aB] (nW s_0 λq=>lA q λr=>jO #[lN t4] 3 λs=>hC 99 [lN (r.2.1:Int),.slice (lF s) 1 1] lR λt=>hC 98 [lP i,lP t] lU λu=>cond u (hM [.bool true,.bool false]) (hM [.bool c.2.2.1,.bool false])) λj=>oC (.tuple #[.bool j.1,.bool j.2.1])) (oF lV (nW s_0 λk=>jT k 7 λd=>hC 128 [lP s_0,lN t4] lT λe=>pG (k.add 7) (sv d)<|nW d.1 λv=>chk (0≤e∧e< (d.2.1:Nat))<|kX v e 1 λw=>hC 98 [lP i,lP w] lU λx=>cond x (hM [.bool true]) (hM [.bool c.2.2.1])) λl=>nW s_0 λm=>jT m 6 λf=>hC 128 [lP s_0,lN t4] lT λg=>pG (m.add 6) (sv f)<|nW f.1 λy=>chk (0≤g∧g< (f.2.1:Nat))<|kZ y g 1 λz=>cond (!z) (oC (.tuple #[.bool l.1,.bool false])) (hM [lN (wN c.1),.bool c.2.1,.bool l.1]))) (oP 0 [lN c.1,.bool c.2.1,.bool c.2.2.1])) λD=>oC (.tuple #[.bool D.2.2.1,.bool true])
theorem JT(s_0:nG)(a:nG)(b c:Nat)(d:nG):Ab eE f129 [(.pointer s_0),(.slice a b c),(.func (.func 98) #[(.pointer d)] #[])] =GK s_0 a b c d:=nU
noncomputable def S1(p_0:Pl6)(a_1:nG):T:=jO #[sv p_0.1,sv p_0.2.1,sv p_0.2.2.1,sv p_0.2.2.2.1,sv p_0.2.2.2.2.1,sv p_0.2.2.2.2.2.1] 32 λr1=>L6 r1 λt2 t3 t4 t5 t6 t7=>L6 r1 λt8 l a b c d=>qR (hC 54 [aH t8 l a b c d] mH λe=>S6 r1 t2 t3 t4 t5 t6 t7<|qR (rM (.map #[] 0) λy=>S6 r1 t2 t3 t4 t5 t6 t7<|rM (.map #[] 0) λz=>S6 r1 t2 t3 t4 t5 t6 t7<|jO #[sv t2,sv t3,sv t4,sv t5,sv t6,sv t7,lP a_1,sv e.1,sv e.2.1,sv e.2.2.1,lN e.2.2.2.1,lO,.map (some y),.map (some z)] 128 λf=>hC 55 [lP (lF f),.func (.func 56) #[lP (lF f)] #[]] mG λZ=>hC 57 [lP (lF f)] (.tuple mB) λq=>hC 60 [lP (lF f)] lS λA=>hC 59 [sv q.2.1,sv q.1] lS λB=>hC 59 [sv A,sv B] lS λC=>hC 58 [lP (lF f),sv C] mG λa0=>oC (lP (lF f))) (rM (.map #[] 0) λD=>S6 r1 t2 t3 t4 t5 t6 t7<|rM (.map #[] 0) λE=>S6 r1 t2 t3 t4 t5 t6 t7<|jO #[sv t2,sv t3,sv t4,sv t5,sv t6,sv t7,lP a_1,sv e.1,sv e.2.1,sv e.2.2.1,lN e.2.2.2.1,lO,.map (some E),.map (some D)] 128 λg=>hC 55 [lP (lF g),.func (.func 56) #[lP (lF g)] #[]] mG λa1=>hC 57 [lP (lF g)] (.tuple mB) λr=>hC 60 [lP (lF g)] lS λF=>hC 59 [sv r.2.1,sv r.1] lS λG=>hC 59 [sv F,sv G] lS λH=>hC 58 [lP (lF g),sv H] mG λa2=>oC (lP (lF g)))) (qR (rM (.map #[] 0) λs=>S6 r1 t8 l a b c d<|S6 r1 t2 t3 t4 t5 t6 t7<|qR (hC 54 [aH t8 l a b c d] mH λm=>S6 r1 t2 t3 t4 t5 t6 t7<|rM (.map #[] 0) λI=>S6 r1 t2 t3 t4 t5 t6 t7<|jO #[sv t2,sv t3,sv t4,sv t5,sv t6,sv t7,lP a_1,sv m.1,sv m.2.1,sv m.2.2.1,lN m.2.2.2.1,lO,.map (some s),.map (some I)] 128 λh=>hC 55 [lP (lF h),.func (.func 56) #[lP (lF h)] #[]] mG λa3=>hC 57 [lP (lF h)] (.tuple mB) λt=>hC 60 [lP (lF h)] lS λJ=>hC 59 [sv t.2.1,sv t.1] lS λK=>hC 59 [sv J,sv K] lS λL=>hC 58 [lP (lF h),sv L] mG λa4=>oC (lP (lF h))) (rM (.map #[] 0) λM=>S6 r1 t8 l a b c d<|S6 r1 t2 t3 t4 t5 t6 t7<|hC 54 [aH t8 l a b c d] mH λn=>S6 r1 t2 t3 t4 t5 t6 t7<|jO #[sv t2,sv t3,sv t4,sv t5,sv t6,sv t7,lP a_1,sv n.1,sv n.2.1,sv n.2.2.1,lN n.2.2.2.1,lO,.map (some s),.map (some M)] 128 λi=>hC 55 [lP (lF i),.func (.func 56) #[lP (lF i)] #[]] mG λa5=>hC 57 [lP (lF i)] (.tuple mB) λu=>hC 60 [lP (lF i)] lS λN=>hC 59 [sv u.2.1,sv u.1] lS λO=>hC 59 [sv N,sv O] lS λP=>hC 58 [lP (lF i),sv P] mG λa6=>oC (lP (lF i)))) (rM (.map #[] 0) λv=>S6 r1 t8 l a b c d<|S6 r1 t2 t3 t4 t5 t6 t7<|qR (hC 54 [aH t8 l a b c d] mH λo=>S6 r1 t2 t3 t4 t5 t6 t7<|rM (.map #[] 0) λQ=>S6 r1 t2 t3 t4 t5 t6 t7<|jO #[sv t2,sv t3,sv t4,sv t5,sv t6,sv t7,lP a_1,sv o.1,sv o.2.1,sv o.2.2.1,lN o.2.2.2.1,lO,.map (some Q),.map (some v)] 128 λj=>hC 55 [lP (lF j),.func (.func 56) #[lP (lF j)] #[]] mG λa7=>hC 57 [lP (lF j)] (.tuple mB) λw=>hC 60 [lP (lF j)] lS λR=>hC 59 [sv w.2.1,sv w.1] lS λS=>hC 59 [sv R,sv S] lS λU=>hC 58 [lP (lF j),sv U] mG λa8=>oC (lP (lF j))) (rM (.map #[] 0) λV=>S6 r1 t8 l a b c d<|S6 r1 t2 t3 t4 t5 t6 t7<|hC 54 [aH t8 l a b c d] mH λp=>S6 r1 t2 t3 t4 t5 t6 t7<|jO #[sv t2,sv t3,sv t4,sv t5,sv t6,sv t7,lP a_1,sv p.1,sv p.2.1,sv p.2.2.1,lN p.2.2.2.1,lO,.map (some V),.map (some v)] 128 λk=>hC 55 [lP (lF k),.func (.func 56) #[lP (lF k)] #[]] mG λa9=>hC 57 [lP (lF k)] (.tuple mB) λx=>hC 60 [lP (lF k)] lS λW=>hC 59 [sv x.2.1,sv x.1] lS λX=>hC 59 [sv W,sv X] lS λY=>hC 58 [lP (lF k),sv Y] mG λb0=>oC (lP (lF k)))))
theorem VL(p_0:Pl6)(a_1:nG):Ab eE f25 [(aG p_0),(.pointer a_1)] =S1 p_0 a_1:=nU
noncomputable def Hz(l_0:nG)(e:nG):T:=nW l_0 λs=>lB s 6 λt2=>hC 8 [lP t2] lT λt3=>oB 0 lZ (oN lZ [lN 0] λc=>lM (c.1<t3) (nW l_0 λt=>lB t 6 λt7=>hC 94 [lP t7,lN c.1] lS λt8=>oB 2 lZ (oN lZ [lN 0] λa=>lL a.1 t8.2.1 (lK t8.1 t8.2.1 a.1 λd=>jR d a.1 2 λf=>jX d a.1 2 1 λg=>jO #[lN 0,lN 0] 120 λb=>jZ b 0 f<|jZ b 1 g<|nW l_0 λh=>M6 h λi j k l m n=>jY b 0 λo=>hC 30 [aH i j k l m n,lN o] lU λp=>oF [] (cond (!p) (jY b 0 λq=>jY b 1 λr=>hC 56 [lP e,.agg #[lN c.1,lN q],lN r] mG λu=>hM []) (hM [])) λv=>hM [lN (wN a.1)]) (oP 2 [lN a.1])) λw=>hM [lN (wN c.1)]) (oP 0 [lN c.1])) λx=>oC (.tuple #[])
theorem L7(l_0:nG)(a:nG):Ab eE f55 [(.pointer l_0),(.func (.func 56) #[(.pointer a)] #[])] =Hz l_0 a:=nU
noncomputable def H5(l_0:nG)(c:Nat)(d:Nat)(e:Nat):T:=nW l_0 λu=>lB u 6 λt2=>hC 8 [lP t2] lT λt3=>oB 0 lZ (oN lZ [lN 0] λf=>lM (f.1<t3) (nW l_0 λv=>lB v 6 λt7=>hC 94 [lP t7,lN f.1] lS λt8=>oB 2 lZ (oN lZ [lN 0] λa=>lL a.1 t8.2.1 (lK t8.1 t8.2.1 a.1 λg=>jR g a.1 2 λh=>jX g a.1 2 1 λi=>jO #[lN 0,lN 0] 120 λb=>jZ b 0 h<|jZ b 1 i<|nW l_0 λj=>M6 j λk l m n o p=>jY b 0 λq=>hC 30 [aH k l m n o p,lN q] lU λr=>oF [] (cond (!r) (jY b 0 λs=>jY b 1 λt=>hC 95 [.agg #[lN f.1,lN s],lN t,lP (lF c),lP (lF d),lP (lF e)] mG λw=>hM []) (hM [])) λx=>hM [lN (wN a.1)]) (oP 2 [lN a.1])) λy=>hM [lN (wN f.1)]) (oP 0 [lN f.1])) λz=>oC (.tuple #[])
theorem L8(l_0:nG)(a:Nat)(b:Nat)(c:Nat):Ab eE f55 [(.pointer l_0),(.func (.func 95) #[] #[(.pointer (lF a)),(.pointer (lF b)),(.pointer (lF c))])] =H5 l_0 a b c:=nU
noncomputable def Ff(l_0:nG)(a:Int×Int×Unit)(h:Int):T:=jO #[lN a.1,lN a.2.1] 191 λr1=>nW l_0 λj=>lC j 12 λt3=>jY r1 0 λt4=>jY r1 1 λt5=>nW l_0 λk=>jT k 11 λt7=>oV (sB (qL 124 (.map t3) (.agg #[lN t4,lN t5]) (lN (t7.2.1:Int))) λ_=>.pure undef) mG λl=>nW l_0 λi=>jT i 11 λb=>jY r1 0 λc=>jY r1 1 λd=>jO #[lN c,lN d] 191 λe=>pG (i.add 11) (sv b)<|oV (oA #[126,126] 126 #[sv b,.slice (lF e) 1 1]) lS λf=>nW l_0 λg=>pN (g.add 11) (sv f)<|oC (.tuple #[])
theorem L9(l_0:nG)(b:Int×Int×Unit)(a:Int):Ab eE f56 [(.pointer l_0),(.agg #[(.int .i64 b.1),(.int .i64 b.2.1)]),(.int .i64 a)] =Ff l_0 b a:=nU
noncomputable def H6(l_0:nG):T:=jO #[lP l_0] 34 λr1=>jO #[lO] 131 λa=>jO #[lO] 57 λr3=>jS r1 0 λt4=>hC 55 [lP t4,.func (.func 95) #[] #[lP (lF r1),lP (lF a),lP (lF r3)]] mG λt5=>jM a 0 λt6=>jM r3 0 λt7=>oC (.tuple #[sv t6,sv t7])
theorem MA(l_0:nG):Ab eE f57 [(.pointer l_0)] =H6 l_0:=nU
noncomputable def Er(s_0:Int×Int×Unit)(h:Int)(e:Nat)(d:Nat)(a:Nat):T:=jO #[lN s_0.1,lN s_0.2.1] 191 λr1=>jS e 0 λt2=>nW t2 λa3=>lA a3 λt4=>hC 96 [lN (t4.2.1:Int)] lR λt5=>jS e 0 λt6=>hC 97 [lP t6,lN h,lN 0] lU λt7=>oF [] (cond t7 (hC 91 [lP t5,lN 0] lU λt9=>hM []) (hM [])) λz8=>jS e 0 λp=>nW p λq=>lB q 6 λr=>hC 94 [lP r,lN h] lS λi=>oB 0 lY (oN lY [lN 0,lO] λb=>cond (decide (b.1< (i.2.1:Int))) (nW i.1 λm=>chk (0≤b.1∧b.1< (i.2.1:Nat))<|jR m b.1 2 λs=>jX m b.1 2 1 λt=>jO #[lN 0,lN 0] 120 λg=>jZ g 0 s<|jZ g 1 t<|jS e 0 λu=>nW u λv=>M6 v λw x y z A B=>jY g 0 λC=>hC 30 [aH w x y z A B,lN C] lU λD=>oF [aS] (cond D (jY g 0 λE=>hC 91 [lP t5,lN E] lU λa6=>hM [sv b.2.1]) (jS e 0 λF=>nW F λG=>jT G 7 λn=>jY g 0 λj=>jS e 0 λH=>nW H λI=>lA I λk=>nW n.1 λJ=>chk (0≤(bO .i64 (j - (k.2.1:Int)))∧(bO .i64 (j - (k.2.1:Int))) < (n.2.1:Nat))<|kZ J (bO .i64 (j - (k.2.1:Int))) 1 λK=>oF [aS] (cond K (jS e 0 λL=>nW L λM=>lC M 12 λN=>jY g 0 λO=>oV (pO 124 (.map N) (.agg #[lN h,lN O]) false) lT λP=>jO #[lN P] 3 λQ=>oV (oA #[30,30] 30 #[sv b.2.1,.slice (lF Q) 1 1]) lS λR=>hM [sv R]) (hM [sv b.2.1])) λS=>hM [sv S.1])) λU=>hM [lN (wN b.1),sv U.1]) (oP 0 [lN b.1,sv b.2.1])) λl=>jM d 0 λf=>jM a 0 λc=>qR (jO #[lP t5] 187 λo=>kJ a 0 c<|kJ d 0 f<|qR (oV (oA #[131,131] 131 #[sv f,.slice (lF o) 1 1]) lS λV=>kJ a 0 c<|jO #[sv l.2.1] 30 λW=>kJ a 0 c<|oV (oA #[57,57] 57 #[sv c,.slice (lF W) 1 1]) lS λX=>jQ d 0 V<|jQ a 0 X<|oC (.tuple #[])) (jO #[sv l.2.1] 30 λY=>kJ a 0 c<|kJ d 0 f<|oV (oA #[131,131] 131 #[sv f,.slice (lF o) 1 1]) lS λZ=>kJ a 0 c<|oV (oA #[57,57] 57 #[sv c,.slice (lF Y) 1 1]) lS λa0=>jQ d 0 Z<|jQ a 0 a0<|oC (.tuple #[]))) (jO #[sv l.2.1] 30 λa1=>kJ a 0 c<|kJ d 0 f<|jO #[lP t5] 187 λa2=>kJ a 0 c<|kJ d 0 f<|oV (oA #[131,131] 131 #[sv f,.slice (lF a2) 1 1]) lS λa4=>kJ a 0 c<|oV (oA #[57,57] 57 #[sv c,.slice (lF a1) 1 1]) lS λa5=>jQ d 0 a4<|jQ a 0 a5<|oC (.tuple #[]))
theorem J8(s_0:Int×Int×Unit)(a:Int)(b:Nat)(c:Nat)(d:Nat):Ab eE f95 [(.agg #[(.int .i64 s_0.1),(.int .i64 s_0.2.1)]),(.int .i64 a),(.pointer (lF b)),(.pointer (lF c)),(.pointer (lF d))] =Er s_0 a b c d:=nU
noncomputable def GL(l_0:nG):T:=nW l_0 λa1=>jT a1 11 λt2=>oV (oX 57 (lN (t2.2.1:Int)) (lN (t2.2.1:Int))) lS λt3=>nW l_0 λa4=>jT a4 11 λt5=>oB 0 lZ (oN lZ [lN 0] λh=>cond (decide (h.1< (t5.2.1:Int))) (nW t5.1 λa8=>chk (0≤h.1∧h.1< (t5.2.1:Nat))<|jR a8 h.1 2 λt9=>jX a8 h.1 2 1 λm=>jO #[lN 0,lN 0] 191 λf=>jZ f 0 t9<|jZ f 1 m<|nW l_0 λn=>jT n 2 λi=>oB 2 lZ (oN lZ [lN 0] λb=>cond (decide (b.1< (i.2.1:Int))) (oB 3 [] (nW i.1 λj=>chk (0≤b.1∧b.1< (i.2.1:Nat))<|jR j b.1 3 λo=>jU j b.1 3 1 λp=>jX j b.1 3 2 λq=>jO #[lN 0,lO,lN 0] 156 λd=>jZ d 0 o<|jQ d 1 p<|jZ d 2 q<|jY d 0 λr=>jY f 1 λs=>cond (r !=s) (oP 3 []) (jY f 0 λt=>jM d 1 λk=>oB 4 lX (oN lX [lN 0,lN t] λa=>cond (decide (a.1< (k.2.1:Int))) (nW k.1 λu=>chk (0≤a.1∧a.1< (k.2.1:Nat))<|jR u a.1 1 λl=>nW l_0 λg=>jT g 7 λv=>lA ((g.add 7).add 1) λw=>lA ((g.add 7).add 2) λy=>kQ ((g.add 7).add 3) λz=>nW l_0 λA=>M6 A λB C D E F G=>jM d 1 λc=>chk (0≤(wN a.1)∧(wN a.1) ≤(c.2.1:Int)∧(c.2.1:Int) ≤(c.2.2:Nat))<|hC 106 [.agg #[sv v,sv w,sv y,lN z],aH B C D E F G,.slice (if c.2.2=oJ (wN a.1) then c.1 else sI (λx=>sQ x (oJ (wN a.1) *1)) c.1) (oJ (c.2.1:Int) - oJ (wN a.1)) (c.2.2 - oJ (wN a.1))] (.tuple mC) λH=>oF lV (cond H.2.1 (nW l_0 λI=>M6 I λJ K L M N O=>hC 30 [aH J K L M N O,lN l] lU λP=>hM [.bool (!P)]) (hM [.bool false])) λQ=>oF [] (cond Q.1 (nW l_0 λR=>lC R 12 λS=>oV (pO 124 (.map S) (.agg #[lN a.2.1,lN l]) false) lT λe=>nW t3.1 λU=>chk (0≤e∧e< (t3.2.1:Nat))<|jN U e 1 λV=>jO #[lN h.1] 3 λW=>oV (oA #[30,30] 30 #[sv V,.slice (lF W) 1 1]) lS λX=>nW t3.1 λY=>chk (0≤e∧e< (t3.2.1:Nat))<|pN (Y.add (oJ e *1)) (sv X)<|hM []) (hM [])) λa3=>nW l_0 λZ=>lB Z 6 λa0=>hC 40 [lP a0,lN a.2.1,lN l] lT λa2=>hM [lN (wN a.1),lN a2]) (oP 4 [lN a.1,lN a.2.1])) λa5=>hM [])) λa6=>hM [lN (wN b.1)]) (oP 2 [lN b.1])) λa7=>hM [lN (wN h.1)]) (oP 0 [lN h.1])) λz6=>oC (sv t3)
theorem JU(l_0:nG):Ab eE f60 [(.pointer l_0)] =GL l_0:=nU
noncomputable def Ib(l_0:nG)(a:nG)(b i:Nat):T:=nW l_0 λa1=>jT a1 11 λt2=>oB 0 lZ (oN lZ [lN 0] λf=>cond (decide (f.1< (t2.2.1:Int))) (nW t2.1 λa5=>chk (0≤f.1∧f.1< (t2.2.1:Nat))<|jR a5 f.1 2 λt6=>jX a5 f.1 2 1 λt7=>jO #[lN 0,lN 0] 191 λq=>jZ q 0 t6<|jZ q 1 t7<|nW l_0 λa9=>jT a9 2 λj=>oB 2 lZ (oN lZ [lN 0] λc=>cond (decide (c.1< (j.2.1:Int))) (oB 3 [] (nW j.1 λk=>chk (0≤c.1∧c.1< (j.2.1:Nat))<|jR k c.1 3 λG=>jU k c.1 3 1 λH=>jX k c.1 3 2 λI=>jO #[lN 0,lO,lN 0] 156 λg=>jZ g 0 G<|jQ g 1 H<|jZ g 2 I<|jY g 0 λJ=>jY q 1 λK=>cond (J !=K) (oP 3 []) (nW l_0 λr=>lB r 6 λl=>jY q 0 λm=>jM g 1 λn=>qR (hC 21 [lP l,lN m,sv n] lT λL=>jO #[lN 0,lN 0] 194 λd=>jZ d 0 L<|jZ d 1 c.1<|nW l_0 λM=>lC M 13 λN=>jY d 0 λO=>jY d 1 λP=>oV (pO 125 (.map N) (.agg #[lN O,lN P]) false) lR λQ=>oF [] (cond (oZ Q) (nW l_0 λs=>lC s 13 λt=>jY d 0 λu=>jY d 1 λv=>nW l_0 λR=>lA R λS=>hC 96 [lN (S.2.1:Int)] lR λU=>lD d 0 u<|lD d 1 v<|pG (s.add 13) (.map t)<|oV (sB (qL 125 (.map t) (.agg #[lN u,lN v]) (lP U)) λ_=>.pure undef) mG λc3=>hM []) (hM [])) λc4=>nW l_0 λV=>lC V 13 λW=>jY d 0 λX=>jY d 1 λY=>nW a λw=>chk (0≤f.1∧f.1< (b:Nat))<|kX w f.1 1 λx=>oV (pO 125 (.map W) (.agg #[lN X,lN Y]) false) lR λZ=>pG (w.add (oJ f.1 *1)) (lP x)<|hC 98 [lP Z,lP x] lU λc5=>hM []) (jO #[lN 0,lN 0] 194 λe=>kJ g 1 n<|lD q 0 m<|pG (r.add 6) (lP l)<|hC 21 [lP l,lN m,sv n] lT λa0=>jZ e 0 a0<|jZ e 1 c.1<|nW l_0 λa2=>lC a2 13 λa3=>jY e 0 λa4=>jY e 1 λa6=>oV (pO 125 (.map a3) (.agg #[lN a4,lN a6]) false) lR λa7=>oF [] (cond (oZ a7) (nW l_0 λy=>lC y 13 λz=>jY e 0 λA=>jY e 1 λB=>nW l_0 λa8=>lA a8 λb0=>hC 96 [lN (b0.2.1:Int)] lR λb1=>lD e 0 A<|lD e 1 B<|pG (y.add 13) (.map z)<|oV (sB (qL 125 (.map z) (.agg #[lN A,lN B]) (lP b1)) λ_=>.pure undef) mG λc6=>hM []) (hM [])) λc7=>nW l_0 λb2=>lC b2 13 λb3=>jY e 0 λb4=>jY e 1 λb5=>nW a λC=>chk (0≤f.1∧f.1< (b:Nat))<|kX C f.1 1 λD=>oV (pO 125 (.map b3) (.agg #[lN b4,lN b5]) false) lR λb6=>pG (C.add (oJ f.1 *1)) (lP D)<|hC 98 [lP b6,lP D] lU λc8=>hM []))) λc9=>hM [lN (wN c.1)]) (oP 2 [lN c.1])) λd0=>hM [lN (wN f.1)]) (oP 0 [lN f.1])) λz3=>nW l_0 λb7=>lB b7 6 λb8=>hC 8 [lP b8] lT λb9=>oB 4 lZ (oN lZ [lN 0] λh=>cond (decide (h.1<b9)) (hC 97 [lP l_0,lN h.1,lN 0] lU λc0=>oF [] (cond c0 (nW l_0 λo=>lC o 13 λp=>nW l_0 λE=>lA E λF=>jO #[lN 0] 3 λc1=>pG E (sv F)<|pG (o.add 13) (.map p)<|hC 99 [lN (F.2.1:Int),.slice (lF c1) 1 1] lR λc2=>pG (o.add 13) (.map p)<|oV (sB (qL 125 (.map p) (.agg #[lN h.1,lN 0]) (lP c2)) λ_=>.pure undef) mG λd1=>hM []) (hM [])) λd2=>hM [lN (wN h.1)]) (oP 4 [lN h.1])) λd3=>oC (.tuple #[])
theorem My(l_0:nG)(a:nG)(b c:Nat):Ab eE f58 [(.pointer l_0),(.slice a b c)] =Ib l_0 a b c:=nU
noncomputable def Ox(l_0:nG)(b:Int)(a:Int):T:=oF lV (lM (a< 0) (hM [.bool true]) (nW l_0 λh=>jT h 2 λt3=>hM [.bool (decide (a≥ (t3.2.1:Int)))])) λi=>cond i.1 (oC (.bool false)) (nW l_0 λj=>lB j 6 λt5=>nW l_0 λe=>jT e 2 λt7=>lK t7.1 t7.2.1 a λf=>jU f a 3 1 λg=>hC 133 [lP t5,lN b] lS λc=>pG ((f.add (oJ a *3)).add 1) (sv g)<|pG (e.add 2) (sv t7)<|hC 83 [sv c,.agg #[lN a,lN (g.2.1:Int)]] lU λd=>oC (.bool d))
theorem Mz(l_0:nG)(a:Int)(b:Int):Ab eE f97 [(.pointer l_0),(.int .i64 a),(.int .i64 b)] =Ox l_0 a b:=nU
noncomputable def Oy(l_0:nG)(a:Int):T:=nW l_0 λo=>lB o 6 λt2=>hC 133 [lP t2,lN a] lS λt3=>oB 0 lY (oN lY [lN 0,lO] λb=>lL b.1 t3.2.1 (lK t3.1 t3.2.1 b.1 λn=>jR n b.1 2 λt7=>jX n b.1 2 1 λt8=>jO #[lN 0,lN 0] 116 λc=>jZ c 0 t7<|jZ c 1 t8<|jY c 1 λf=>nW l_0 λg=>jT g 2 λd=>jY c 0 λe=>lK d.1 d.2.1 e λh=>jU h e 3 1 λi=>oF [aS] (cond (f==(i.2.1:Int)) (jY c 0 λj=>jO #[lN j] 3 λk=>oV (oA #[30,30] 30 #[sv b.2.1,.slice (lF k) 1 1]) lS λl=>hM [sv l]) (hM [sv b.2.1])) λm=>hM [lN (wN b.1),sv m.1]) (oP 0 [lN b.1,sv b.2.1])) λp=>oC (sv p.2.1)
theorem M0(l_0:nG)(a:Int):Ab eE f107 [(.pointer l_0),(.int .i64 a)] =Oy l_0 a:=nU
noncomputable def Ke(l_0:nG)(a:Int)(b:Int):T:=nW l_0 λc=>lC c 13 λt2=>oV (pO 125 (.map t2) (.agg #[lN a,lN b]) false) lR λt3=>cond (oZ t3) (oC lO) (hC 101 [lP t3] lS λt4=>oC (sv t4))
theorem Oz(l_0:nG)(a:Int)(b:Int):Ab eE f109 [(.pointer l_0),(.int .i64 a),(.int .i64 b)] =Ke l_0 a b:=nU
end Go.Proofs.YtfnppeejaimnbaaGreatDoor
namespace Go.Proofs.YtfnppeejaimnbaaGreatDoor
open Go Go.Eng Dg
abbrev PlK(φ:AD)(t:Slc×Slc×Slc×Slc×Slc×Slc×Unit)(p:dtP):Prop:=G8 φ t p
abbrev plV(t:Slc×Slc×Slc×Slc×Slc×Slc×Unit):List sU:=[sv t.1,sv t.2.1,sv t.2.2.1,sv t.2.2.2.1,sv t.2.2.2.2.1,sv t.2.2.2.2.2.1]
structure FsK (φ:AD) (a:sV) (t:Slc×Slc×Slc×Slc×Slc×Slc×Unit) (n f g:Slc) (p:dtP) (ps qs:List nG):Prop where
 cells:Cv φ (some a) (plV t++ [sv n,sv f,sv g])
 pl:PlK φ t p
 kf:nY pW φ f ps
 kg:nY pW φ g qs
section
variable {φ ψ:AD}{h:AH}{F:List Chk}{a:sV}{t:Slc×Slc×Slc×Slc×Slc×Slc×Unit}{n f g:Slc}{p:dtP}{ps qs:List nG}
theorem FsK.mono(H:FsK φ a t n f g p ps qs)(b:Sub φ ψ):FsK ψ a t n f g p ps qs:=⟨H.cells.mono b,H.pl.mono b,H.kf.mono b,H.kg.mono b⟩
theorem FsK.at(H:FsK φ a t n f g p ps qs)(st:St φ F h){j:Nat}{v:sU}(b:(plV t++ [sv n,sv f,sv g])[j]? =some v):Bb h (a.add j)=some v:=AG st.sub (H.cells.at j b)
theorem T3{K:Bool→T}{P:Bl→AH→Prop}(cells:∀j v,(plV t)[j]? =some v→Bb h (a.add j)=some v)(k:PlK φ t p)(st:St φ F h){s:Int}{r:Bool}(hd:Bp p s=some r)
 (d:∀ψ h',Sub φ ψ→St ψ F h'→(K r).wp eE P h'):
 (pB .slice a λ(t6:Slc)=>pB .slice (a.add 1) λ(t7:Slc)=>pB .slice (a.add 2) λ(t8:Slc)=>pB .slice (a.add 3) λ(e:Slc)=>pB .slice (a.add 4) λ(b:Slc)=>pB .slice (a.add 5) λ(c:Slc)=>
  hC 30 [(.agg #[(sv t6),(sv t7),(sv t8),(sv e),(sv b),(sv c)]),(.int .i64 s)] lU K).wp eE P h:=by
 have e0:a.add 0=a:=by cases a;rfl
 refine AF (by have:=cells 0 _ rfl;rwa [e0]at this) rfl<|AF (cells 1 _ rfl) rfl<|AF (cells 2 _ rfl) rfl<|AF (cells 3 _ rfl) rfl<|AF (cells 4 _ rfl) rfl<|AF (cells 5 _ rfl) rfl<|AK (Eg k st hd) ?_;rintro _ f ⟨ψ,y,le,rfl,rfl,g⟩;exact⟨y,rfl,d ψ f le g⟩
theorem FsK.pv(H:FsK φ a t n f g p ps qs)(st:St φ F h):∀j v,(plV t)[j]? =some v→Bb h (a.add j)=some v:=λj v b=>H.at st (by
 rw[oK (oI.1 b).1];exact b)
theorem add_zero(a:sV):a.add 0=a:=by cases a;rfl
theorem Rb(H:FsK φ a t n f g p ps qs)(st:St φ F h)(s:Int):
 nX eE 128 [.pointer (some a),.int .i64 s] h (An λv b=>v=lT.val (bO .i64 (s - nT p))∧St φ F b):=by refine A9 mixed func128 ?_;rw[Ow];unfold Kd;refine AI _ rfl (AF (by have:=H.at st (j:=0) rfl;rwa [add_zero]at this) rfl ?_);have e:t.1.2.1=p.1.length:=H.pl.k0.length;rw[e];exact AC ⟨rfl,st⟩
theorem SO{α:Type}{l:List α}{k:Nat}{x:α}(h:idx l (k:Int)=some x):l[k]? =some x:=by rw[CD]at h;exact h
theorem WW{ps qs:List nG}{k:Nat}{q:nG}(h:ps[k]? =some q):(ps++qs)[k]? =some q:=by rw[oK (oI.1 h).1];exact h
abbrev fsC(n:Slc)(null:List Bool)(ps:List nG)(ss:List Ae)(F:List Chk):List Chk:=cR 4 oH n null::(Aa ps ss++F)
theorem Rc(gk:Dg.Glob φ)(K:FsK φ a t n f g p ps qs){sq:Slc}{seq:nH}(ks:nY (oG .i64) φ sq seq){null:List Bool}{ss:List Ae}{x:Nat}{q:nG}(hq:(ps++qs)[x]? =some q)(hl:(ps++qs).length=ss.length){r:Bool×Bool×List Ae}
 (hd:Ma p (ps.length:Int) null (x:Int) ss seq=some r) (s0:St φ (fsC n null (ps++qs) ss F) h):
 nX eE 129 [.pointer (some a),sv sq,.func (.func 98) #[.pointer q] #[]] h (An λv h'=>∃ψ:AD,Sub φ ψ∧v=((.tuple [aB,aB]):Sh).val (r.1,r.2.1,())∧r.2.2.length=ss.length∧St ψ (fsC n null (ps++qs) r.2.2 F) h'):=by
 refine A9 mixed func129 ?_;rw[JT];unfold GK;unfold Ma at hd;have nk:=ks.length;have⟨g3,a0,hd⟩:=bS hd;refine Af (λ(y:Int×Bool×Bool×Unit) w g=>∃(ψ:AD) (I:List Ae),Sub φ ψ∧g=pC (y.2.2.1,I)∧I.length=ss.length∧St ψ (fsC n null (ps++qs) I F) w) (g:=g3) ?_ ?_
 ·refine PM a0 (λi (y:Int×Bool×Bool×Unit) w g=>∃(ψ:AD),Sub φ ψ∧y.1=i∧y.2.2.1=g.1∧g.2.length=ss.length∧St ψ (fsC n null (ps++qs) g.2 F) w) rfl ⟨φ,oT _,rfl,rfl,rfl,s0⟩ ?_ ?_
  ·rintro i z w ⟨gr,D⟩ e ⟨ψ,le,rfl,U,m,st⟩ d h0 hlt hw hb;dsimp only at U m st d;subst U;refine Ad (by rw[nk];exact mW hlt) ?_;have⟨sym,a1,d⟩:=bS d;have⟨tm,a2,d⟩:=bS d;obtain⟨A1,b3,a3,a4,r1,a5⟩:=(ks.mono le).get a1;refine AI _ a3 (Ai a4 ?_);obtain rfl:=r1;refine AF (AG st.sub (a5 0 _ rfl)) rfl<|AI _ rfl (T3 ((K.mono le).pv st) (K.mono le).pl st a2 ?_);intro ψ1 h1 a6 J;have c:=le.trans a6;refine mP d rfl (λd=>?_) (λd=>?_)
   ·have⟨o,V,d⟩:=bS d;have⟨u,A,d⟩:=bS d;obtain rfl:=iS d;obtain rfl:=hb _ rfl;obtain rfl:=iS hd;unfold dJ at A;have⟨s,hs,A⟩:=bS A;have⟨ok,A⟩:=CG A;obtain rfl:=iS A;refine AY (λ(y:Bool×Bool×Unit) w (_:Unit)=>y=(F9 s o || z.2.2.1,false,())∧ ∃ψ,Sub φ ψ∧St ψ (fsC n null (ps++qs) (D.set x (BT s o)) F) w) (g:=()) ?_ ?_
    ·refine AI _ rfl<|AF (by have:=(K.mono c).at J (j:=0) rfl;rwa [add_zero]at this) rfl<|AU (vs:=[.int .i64 sym]) J ?_;intro a7 h2 E;have M:=sS (r:=oG .i64) (l:=[sym]) (n:=1) E (.cons (a:=[_]) rfl .nil) rfl nQ;have⟨ψ2,N,k2,O⟩:=oS (t:=(some ⟨a7,0,none⟩,1,1)) M;have e:t.1.2.1=p.1.length:=K.pl.k0.length;rw[e];refine AK (FL k2 O V) ?_;rintro _ h3 ⟨ψ3,p',Y,P,rfl,rfl,a8⟩;refine⟨p',rfl,?_⟩;have a9:St ψ3 (Bi p' Y::(Aa (ps++qs) D++(cR 4 oH n null::F))) h3:=a8.perm (nZ _ (mE (l₁:=Aa (ps++qs) D)).symm);refine AK (U4 (gk.mono ((c.trans N).trans P)) (SO hs) hq ok a9) ?_;rintro _ h4 ⟨Q,G,rfl,b0⟩;refine⟨_,rfl,?_⟩;have H:St Q (fsC n null (ps++qs) (D.set x (BT s Y)) F) h4:=b0.tail.perm (mE (l₁:=Aa (ps++qs) (D.set x (BT s Y))));cases hgr:F9 s Y
     ·exact AW rfl (lG rfl ⟨nP,Q,((c.trans N).trans P).trans G,H⟩)
     ·exact Ad rfl (lG rfl ⟨nP,Q,((c.trans N).trans P).trans G,H⟩)
    ·rintro y h5 ⟨rfl,Z,B,L⟩;exact Ak (Ah (AC ⟨Z,B,rfl,by simp[m],L⟩))
   ·have⟨hm,d⟩:=CG d;have⟨u,A,d⟩:=bS d;have⟨b,W,d⟩:=bS d;unfold YP at A;have⟨s,hs,A⟩:=bS A;have⟨o,V,A⟩:=bS A;have⟨ok,A⟩:=CG A;obtain rfl:=iS A;have⟨y0,y1,y2⟩:=B9 V;obtain⟨k,hk⟩:∃k:Nat,bO .i64 (sym - nT p)=(k:Int):=⟨_,(oY y0).symm⟩;have b1:k<ps.length:=nJ
    have X:ps[k]? =some ps[k]:=bD b1;rw[hk]at V W;refine AY (λ(y:Bool×Unit) w (_:Unit)=>y=(F9 s o || z.2.2.1,())∧ ∃ψ,Sub φ ψ∧St ψ (fsC n null (ps++qs) (D.set x (BT s o)) F) w) (g:=()) ?_ ?_
    ·refine AI _ rfl<|AF ((K.mono c).at J (j:=7) rfl) rfl<|AK (Rb (K.mono c) J sym) ?_;rintro _ h2 ⟨rfl,E⟩;refine⟨_,rfl,AP ((K.mono c).at E (j:=7) rfl) ?_⟩;rw[hk];obtain⟨A2,b2,R,S,r2,T⟩:=((K.mono c).kf).get (i:=(k:Int)) (by rw[CD];exact X);refine AI _ R (Ai S ?_);obtain rfl:=r2;refine AF (AG E.sub (T 0 _ rfl)) rfl ?_;have M:St ψ1 (Aa (ps++qs) D++(cR 4 oH n null::F)) h2:=E.perm (mE (l₁:=Aa (ps++qs) D)).symm;refine AK (XL (gk.mono c) (SO hs) (SO V) hq (WW X) ok M) ?_;rintro _ h3 ⟨Q,G,rfl,O⟩;refine⟨_,rfl,?_⟩;have H:St Q (fsC n null (ps++qs) (D.set x (BT s o)) F) h3:=O.perm (mE (l₁:=Aa (ps++qs) (D.set x (BT s o))));cases hgr:F9 s o
     ·exact AW rfl (lG rfl ⟨nP,Q,c.trans G,H⟩)
     ·exact Ad rfl (lG rfl ⟨nP,Q,c.trans G,H⟩)
    ·rintro y h5 ⟨rfl,Z,B,L⟩;refine AI _ rfl<|AF ((K.mono B).at L (j:=6) rfl) rfl<|AK (Rb (K.mono B) L sym) ?_;rintro _ h6 ⟨rfl,C⟩;refine⟨_,rfl,AP ((K.mono B).at C (j:=6) rfl) ?_⟩;rw[hk];have⟨A2,b2,R,S,r2,T⟩:=C.get W;refine AI _ R (Ai S ?_);obtain rfl:=r2;refine AF (T 0 _ rfl) rfl ?_;cases b
     ·obtain rfl:=iS d;obtain rfl:=hb _ rfl;obtain rfl:=iS hd;refine Ad rfl<|Ak (Ah (AC ⟨Z,B,rfl,by simp[m],C⟩))
     ·obtain rfl:=iS d;refine AW rfl<|lH rfl rfl ⟨Z,B,hw,rfl,by simp[m],C⟩
  ·rintro i z w ⟨gr,D⟩ ⟨ψ,le,rfl,U,m,st⟩ hge hr;subst hr;dsimp only at U m st;refine AW (by rw[nk];exact mV (oW.2 hge))<|AJ (lI rfl ⟨ψ,D,le,by rw[U],m,st⟩)
 ·rintro z h1 ⟨ψ,I,le,rfl,m,st⟩;obtain rfl:=iS hd;exact AC ⟨ψ,le,rfl,m,st⟩
end
section
variable {φ ψ:AD}{h:AH}{F:List Chk}{a:sV}{t:Slc×Slc×Slc×Slc×Slc×Slc×Unit}{n f g:Slc}{p:dtP}{ps qs:List nG}
theorem Qk{R:Slc}{rs:List Ap}{i:Int}{r:Ap}{K:Nat→T}{P:Bl→AH→Prop}(k:nY BL φ R rs)(g:idx rs i=some r)(st:St φ F h)
 (l:∀(a:Nat) (u:Slc) (h':AH),nY (oG .i64) φ u r.2.1→St φ (⟨qT 156,[.pointer (lF a)],[.int .i64 r.1,sv u,.int .i64 r.2.2]⟩::F) h'→(K a).wp eE P h'):
 (nW R.1 λd=>chk (0≤i∧i< (R.2.1:Nat))<|pB (.int .i64) (d.add (oJ i *3)) λ(t6:Int)=>pB .slice ((d.add (oJ i *3)).add 1) λ(t7:Slc)=>pB (.int .i64) ((d.add (oJ i *3)).add 2) λ(t8:Int)=>
  rM (.cells #[(.int .i64 (0:Int)),(.slice none 0 0),(.int .i64 (0:Int))] 156 (0,0)) λa=>pN ⟨a,0,none⟩ (.int .i64 t6)<|pN ⟨a,1,none⟩ (sv t7)<|pN ⟨a,2,none⟩ (.int .i64 t8)<|K a).wp eE P h:=by have⟨x,m,e,f,n,c⟩:=k.get g;refine AI _ e (Ai f ?_);obtain⟨_,_,rfl,rfl,⟨_,_,rfl,⟨u,rfl,o⟩,rfl⟩⟩:=n;refine AF (AG st.sub (c 0 _ rfl)) rfl<|AF (by rw[Aj];exact AG st.sub (c 1 _ rfl)) rfl<|AF (by rw[Aj];exact AG st.sub (c 2 _ rfl)) rfl<|AU (vs:=[.int .i64 0,.slice none 0 0,.int .i64 0]) st ?_;intro a y p;refine Cr (b:=a) (j:=0) (v:=.int .i64 r.1) p rfl nP ?_;intro z q;refine Cr (b:=a) (j:=1) (v:=sv u) q rfl nP ?_;intro A s;refine Cr (b:=a) (j:=2) (v:=.int .i64 r.2.2) s rfl nP ?_;intro t w;exact l a u t o w
theorem YT(gk:Dg.Glob φ)(K:FsK φ a t n f g p ps qs){null:List Bool}{ss:List Ae}(hl:(ps++qs).length=ss.length){r:Bool×List Bool×List Ae}
 (hd:RY p (ps.length:Int) null ss=some r) (Z:St φ (fsC n null (ps++qs) ss F) h):
 nX eE 90 [.pointer (some a)] h (An λv h'=>∃ψ:AD,Sub φ ψ∧v=lU.val r.1∧r.2.2.length=ss.length∧St ψ (fsC n r.2.1 (ps++qs) r.2.2 F) h'):=by
 refine A9 mixed func90 ?_;rw[L5];unfold Hy;unfold RY at hd;refine AI _ rfl<|AF (K.at Z (j:=2) rfl) rfl ?_;have nk:=K.pl.k2.length;refine Af (λ(y:Int×Bool×Unit) w g=>∃(ψ:AD),Sub φ ψ∧y.2.1=g.1∧g.2.2.length=ss.length∧St ψ (fsC n g.2.1 (ps++qs) g.2.2 F) w) (g:=r) ?_ ?_
 ·refine By hd (λi (y:Int×Bool×Unit) w g=>y.1=i∧ ∃(ψ:AD),Sub φ ψ∧y.2.1=g.1∧g.2.2.length=ss.length∧St ψ (fsC n g.2.1 (ps++qs) g.2.2 F) w) rfl ⟨rfl,φ,oT _,rfl,rfl,Z⟩ ?_ ?_
  ·rintro i z w ⟨gr,nu,s1⟩ e ⟨rfl,ψ,le,N,m,st⟩ l h0 hlt hw;dsimp only at N m st l;subst N;refine Ad (by rw[nk];exact mW hlt) ?_;have⟨O,P,l⟩:=bS l;have⟨hm,l⟩:=CG l;have⟨I,J,l⟩:=bS l;have⟨b,C,l⟩:=bS l;obtain⟨Q,q,l⟩:=bS l;obtain rfl:=iS l;obtain⟨k,hk⟩:∃k:Nat,bO .i64 (O.1 - nT p)=(k:Int):=⟨_,(oY hm.1).symm⟩;rw[hk]at hm J C q;have R:k<ps.length:=nJ
   have L:ps[k]? =some ps[k]:=bD R;refine Qk (K.pl.k2.mono le) P st ?_;intro r9 u h1 ku M;refine AA (b:=r9) (j:=0) (x:=O.1) M rfl<|AK (Rb (K.mono le) M O.1) ?_;rintro _ h2 ⟨rfl,s⟩;refine⟨_,rfl,?_⟩;rw[hk];refine AA (b:=r9) (j:=1) (x:=u) s rfl<|AI _ rfl<|AF ((K.mono le).at s (j:=7) rfl) rfl ?_;obtain⟨A2,a0,S,T,r2,U⟩:=((K.mono le).kf).get (i:=(k:Int)) (by rw[CD];exact L);refine AI _ S (Ai T ?_);obtain rfl:=r2;refine AF (AG s.sub (U 0 _ rfl)) rfl<|AK (Rc (gk.mono le) (K.mono le) ku (WW L) (hl.trans m.symm) J s.tail) ?_;rintro _ h3 ⟨V,W,rfl,X,c⟩;refine⟨_,rfl,?_⟩;have A:=le.trans W;refine AY (λ(y:Bool×Unit) w (_:Unit)=>y=(z.2.1 || I.1 || (I.2.1 && !b),())∧St V (fsC n nu (ps++qs) I.2.2 F) w) (g:=()) ?_ ?_
   ·cases hz:z.2.1
    ·refine AW rfl ?_;cases hgg:I.1
     ·refine AW (by dsimp only) ?_;cases hgn:I.2.1
      ·refine AW (by dsimp only)<|lG rfl ⟨nP,c⟩
      ·refine Ad (by dsimp only)<|AI _ rfl<|AF ((K.mono A).at c (j:=6) rfl) rfl ?_;have⟨A3,Y,D,E,r3,G⟩:=c.get C;refine AI _ D (Ai E ?_);obtain rfl:=r3;refine AF (G 0 _ rfl) rfl<|lG rfl ⟨nP,c⟩
     ·refine Ad (by dsimp only)<|lG rfl ⟨nP,c⟩
    ·refine Ad rfl<|lG rfl ⟨nP,c⟩
   ·rintro y h4 ⟨rfl,d⟩;refine AY (λ(y:Unit) w (_:Unit)=>St V (fsC n Q (ps++qs) I.2.2 F) w) (g:=()) ?_ ?_
    ·refine AI _ rfl<|AF ((K.mono A).at d (j:=6) rfl) rfl<|AI _ rfl<|AF ((K.mono A).at d (j:=6) rfl) rfl ?_;have⟨A3,Y,D,E,r3,G⟩:=d.get C;refine AI _ D (Ai E ?_);obtain rfl:=r3;refine AF (G 0 _ rfl) rfl ?_;have⟨A4,B,q4⟩:=d.there q;cases b
     ·refine AW rfl<|AI _ B (Ai q4 (FH d q rfl B ?_));intro h5 o;exact lG rfl o
     ·refine Ad rfl<|AI _ B (Ai q4 (FH d q rfl B ?_));intro h5 o;exact lG rfl o
    ·rintro _ h5 o;exact lH rfl rfl ⟨hw,V,A,rfl,X.trans m,o⟩
  ·rintro i z w ⟨rfl,H⟩ hge;refine AW (by rw[nk];exact mV (oW.2 hge))<|AJ (lI rfl H)
 ·rintro z h1 ⟨ψ,le,N,m,st⟩;exact AC ⟨ψ,le,by rw[N];rfl,m,st⟩
theorem Tj{u:Slc}{l:nH}{lo:Int}(k:nY (oG .i64) φ u l)(b:0≤lo)(c:lo≤(l.length:Int)):cut l lo (u.2.1:Int)=some (l.drop lo.toNat):=by have a:=k.length;unfold cut;rw[mZ ⟨nJ,nJ,nJ⟩,oU,a,rF]
theorem O0{ps qs:List nG}{k:Nat}{q:nG}(h:qs[k]? =some q):(ps++qs)[ps.length+k]? =some q:=by rw[pJ nJ,Nat.add_sub_cancel_left];exact h
theorem WX(gk:Dg.Glob φ)(K:FsK φ a t n f g p ps qs)(d0:qs.length=ps.length){null:List Bool}{ss:List Ae}(hl:(ps++qs).length=ss.length){r:Bool×List Ae}
 (hd:Ot p (ps.length:Int) null ss=some r) (s0:St φ (fsC n null (ps++qs) ss F) h):
 nX eE 92 [.pointer (some a)] h (An λv h'=>∃ψ:AD,Sub φ ψ∧v=lU.val r.1∧r.2.length=ss.length∧St ψ (fsC n null (ps++qs) r.2 F) h'):=by
 refine A9 mixed func92 ?_;rw[Kw];unfold HD;unfold Ot at hd;refine AI _ rfl<|AF (K.at s0 (j:=2) rfl) rfl ?_;have nk:=K.pl.k2.length;refine Af (λ(y:Int×Bool×Unit) w g=>∃(ψ:AD),Sub φ ψ∧y.2.1=g.1∧g.2.length=ss.length∧St ψ (fsC n null (ps++qs) g.2 F) w) (g:=r) ?_ ?_
 ·refine By hd (λi (y:Int×Bool×Unit) w g=>y.1=i∧ ∃(ψ:AD),Sub φ ψ∧y.2.1=g.1∧g.2.length=ss.length∧St ψ (fsC n null (ps++qs) g.2 F) w) rfl ⟨rfl,φ,oT _,rfl,rfl,s0⟩ ?_ ?_
  ·rintro i z w ⟨gr,s1⟩ e ⟨rfl,ψ,le,hg,M,st⟩ he h0 hlt hw;dsimp only at hg M st he;subst hg;refine Ad (by rw[nk];exact mW hlt) ?_;have⟨V,b1,he⟩:=bS he;refine Qk (K.pl.k2.mono le) b1 st ?_;intro r9 u h1 ku a4;refine AA (b:=r9) (j:=1) (x:=u) a4 rfl ?_;have nu:=ku.length;obtain⟨G,hG⟩:∃G:List Chk,G=⟨qT 156,[.pointer (lF r9)],[.int .i64 V.1,sv u,.int .i64 V.2.2]⟩::F:=⟨_,rfl⟩;have b2:St ψ (fsC n null (ps++qs) s1 G) h1:=by
    rw[hG];exact a4.perm ((oR _ _ _).trans (nZ _ (mE (l₁:=Aa (ps++qs) s1)).symm))
   have raw:∀ {B:AD} {s':List Ae} {h':AH},St B (fsC n null (ps++qs) s' G) h'→St B (⟨qT 156,[.pointer (lF r9)],[.int .i64 V.1,sv u,.int .i64 V.2.2]⟩::fsC n null (ps++qs) s' F) h':=λ{B s' h'} H=>by
    rw[hG]at H;exact H.perm ((nZ _ (mE (l₁:=Aa (ps++qs) s'))).trans (oR _ _ _))
   refine Af (λ(y:Int×Bool×Unit) w g=>∃(ψ:AD),Sub φ ψ∧y.2.1=g.1∧g.2.length=ss.length∧St ψ (fsC n null (ps++qs) g.2 G) w) (g:=e) ?_ ?_
   ·refine By he (λi (y:Int×Bool×Unit) w g=>y.1=i∧ ∃(B:AD),Sub ψ B∧y.2.1=g.1∧g.2.length=ss.length∧St B (fsC n null (ps++qs) g.2 G) w) rfl ⟨rfl,ψ,oT _,rfl,M,b2⟩ ?_ ?_
    ·rintro i2 z2 w2 ⟨d1,s2⟩ e2 ⟨rfl,ψ2,m,a5,E,N⟩ c d2 a6 O;dsimp only at a5 E N c;subst a5;have I:=le.trans m;refine Ad (by rw[nu];exact mW a6) ?_;have⟨sym,b3,c⟩:=bS c;have⟨tm,b4,c⟩:=bS c;refine Af (λ(y:Bool×Unit) w (_:Unit)=>∃(B:AD),Sub ψ B∧y.1=e2.1∧e2.2.length=ss.length∧St B (fsC n null (ps++qs) e2.2 G) w) (g:=()) ?_ ?_
     ·obtain⟨A1,d3,b5,b6,r1,b7⟩:=(ku.mono m).get b3;refine AI _ b5 (Ai b6 ?_);obtain rfl:=r1;refine AF (AG N.sub (b7 0 _ rfl)) rfl<|AI _ rfl (T3 ((K.mono I).pv N) (K.mono I).pl N b4 ?_);intro ψ3 h3 D W;have d:=I.trans D;refine mP c rfl (λc=>?_) (λc=>?_)
      ·obtain rfl:=iS c;exact Qw (z2.2.1,()) rfl ⟨ψ3,m.trans D,rfl,E,W⟩
      ·have⟨hm,c⟩:=CG c;have⟨gg,X,c⟩:=bS c;have⟨hh,l,c⟩:=bS c;obtain rfl:=iS c;obtain⟨k,hk⟩:∃k:Nat,bO .i64 (sym - nT p)=(k:Int):=⟨_,(oY hm.1).symm⟩;have hx:(ps.length:Int)+(k:Int)=((ps.length+k:Nat):Int):=nJ
       rw[hk,hx]at X l;rw[hk]at hm;have b8:k<qs.length:=nJ
       have Y:qs[k]? =some qs[k]:=bD b8;refine AI _ rfl<|AF ((K.mono d).at W (j:=8) rfl) rfl<|AK (Rb (K.mono d) W sym) ?_;rintro _ h4 ⟨rfl,P⟩;refine⟨_,rfl,AP ((K.mono d).at P (j:=8) rfl) ?_⟩;rw[hk];obtain⟨A2,d4,b9,c0,r2,c1⟩:=((K.mono d).kg).get (i:=(k:Int)) (by rw[CD];exact Y);refine AI _ b9 (Ai c0 ?_);obtain rfl:=r2;refine AF (AG P.sub (c1 0 _ rfl)) rfl<|AA (b:=r9) (j:=1) (x:=u) (raw P) rfl ?_;obtain⟨q1,kt⟩:=(ku.mono (m.trans D)).cut (Tj (ku.mono (m.trans D)) (lo:=bO .i64 (z2.1+1)) (by rw[O];omega) (by rw[O];omega)) (sz:=1) rfl;refine Ai q1 ?_;rw[←O]at X;refine AK (Rc (gk.mono d) (K.mono d) kt (O0 Y) (hl.trans E.symm) X P) ?_;rintro _ h5 ⟨ψ5,Z,rfl,a7,Q⟩;refine⟨_,rfl,?_⟩;have q:=d.trans Z;refine AY (λ(y:Bool×Unit) w (_:Unit)=>y=(hh.1,())∧hh.2.length=ss.length∧ ∃B,Sub ψ B∧St B (fsC n null (ps++qs) hh.2 G) w) (g:=()) ?_ ?_
       ·refine mP l rfl (λl=>?_) (λl=>?_)
        ·have⟨a8,l⟩:=CG l;have⟨uu,R,l⟩:=bS l;obtain rfl:=iS l;obtain⟨k2,a0⟩:∃k:Nat,bO .i64 (V.1 - nT p)=(k:Int):=⟨_,(oY a8.1).symm⟩;have c2:(ps.length:Int)+(k2:Int)=((ps.length+k2:Nat):Int):=nJ
         rw[a0,c2]at R;rw[a0]at a8;have a9:k2<qs.length:=nJ
         have S:qs[k2]? =some qs[k2]:=bD a9;unfold YP at R;have⟨s,hs,R⟩:=bS R;have⟨o,ho,R⟩:=bS R;have⟨ok,R⟩:=CG R;obtain rfl:=iS R;refine AY (λ(y:Bool×Unit) w (_:Unit)=>y=(F9 s o || gg.1,())∧ ∃B,Sub ψ B∧St B (fsC n null (ps++qs) (gg.2.2.set (ps.length+k) (BT s o)) G) w) (g:=()) ?_ ?_
         ·refine AI _ rfl<|AF ((K.mono q).at Q (j:=8) rfl) rfl<|AA (b:=r9) (j:=0) (x:=V.1) (raw Q) rfl<|AK (Rb (K.mono q) Q V.1) ?_;rintro _ h7 ⟨rfl,a1⟩;refine⟨_,rfl,AP ((K.mono q).at a1 (j:=8) rfl) ?_⟩;rw[a0];obtain⟨A3,d5,c3,c4,r3,c5⟩:=((K.mono q).kg).get (i:=(k2:Int)) (by rw[CD];exact S);refine AI _ c3 (Ai c4 ?_);obtain rfl:=r3;refine AF (AG a1.sub (c5 0 _ rfl)) rfl ?_;have c6:St ψ5 (Aa (ps++qs) gg.2.2++(cR 4 oH n null::G)) h7:=a1.perm (mE (l₁:=Aa (ps++qs) gg.2.2)).symm;refine AK (XL (gk.mono q) (SO hs) (SO ho) (O0 Y) (O0 S) ok c6) ?_;rintro _ h8 ⟨ψ8,c7,rfl,c8⟩;refine⟨_,rfl,?_⟩;have T:St ψ8 (fsC n null (ps++qs) (gg.2.2.set (ps.length+k) (BT s o)) G) h8:=c8.perm (mE (l₁:=Aa (ps++qs) (gg.2.2.set (ps.length+k) (BT s o))));have U:=((m.trans D).trans Z).trans c7;cases hgr:F9 s o
          ·exact AW rfl (lG rfl ⟨nP,ψ8,U,T⟩)
          ·exact Ad rfl (lG rfl ⟨nP,ψ8,U,T⟩)
         ·rintro y h9 ⟨rfl,ψ9,a2,C⟩;refine lG rfl ⟨rfl,by simp[a7,E],ψ9,a2,?_⟩;rw[oU];exact C
        ·obtain rfl:=iS l;exact lG rfl ⟨rfl,by rw[a7,E],ψ5,(m.trans D).trans Z,Q⟩
       ·rintro y h9 ⟨rfl,c9,ψ9,a2,C⟩;refine AY (λ(y:Bool×Unit) w (_:Unit)=>y=(z2.2.1 || hh.1,())∧St ψ9 (fsC n null (ps++qs) hh.2 G) w) (g:=()) ?_ ?_
        ·cases hz:z2.2.1
         ·exact AW rfl (lG rfl ⟨nP,C⟩)
         ·exact Ad rfl (lG rfl ⟨nP,C⟩)
        ·rintro y b0 ⟨rfl,A⟩;exact lJ rfl ⟨ψ9,a2,rfl,c9,A⟩
     ·rintro y b0 ⟨a3,J,hy,L,A⟩;exact lH rfl rfl ⟨O,a3,J,hy,L,A⟩
    ·rintro i2 z2 w2 ⟨rfl,ψ2,m,H⟩ hge;refine AW (by rw[nu];exact mV (oW.2 hge))<|AJ (lI rfl ⟨ψ2,le.trans m,H⟩)
   ·rintro y b0 ⟨a3,J,hy,L,A⟩;exact lH rfl rfl ⟨hw,a3,J,hy,L,(raw A).tail⟩
  ·rintro i z w ⟨rfl,H⟩ hge;refine AW (by rw[nk];exact mV (oW.2 hge))<|AJ (lI rfl H)
 ·rintro z h1 ⟨ψ,le,hg,M,st⟩;exact AC ⟨ψ,le,by rw[hg];rfl,M,st⟩
end
section
variable {φ ψ:AD}{h:AH}{F:List Chk}{t:Slc×Slc×Slc×Slc×Slc×Slc×Unit}{p:dtP}
theorem St.blk{ty:TypeId}{b:Nat}{vs:List sU}(H:St φ (⟨qT ty,[.pointer (lF b)],vs⟩::F) h):∃ψ,Sub φ ψ∧Cv ψ (lF b) vs∧St ψ F h:=by
 obtain⟨ψ,G,le,⟨g,e,a,c⟩,d,s⟩:=St.hide H;cases e;refine⟨ψ,le,λi v f=>⟨_,rfl,?_⟩,s⟩
 have:=d b ((c b).2 rfl)
 rw[EN];unfold Ef;dsimp only;rw[this,a];dsimp only;rw[qH];simp[f]
theorem St.drop:∀(L:List Chk) {M:List Chk}{φ:AD}{h:AH},St φ (L++M) h→St φ M h
 | [],_,_,_,H=>H
 |_::L,_,_,_,H=>St.drop L H.tail
theorem FN{b:Nat}{K:Slc→Slc→Slc→Slc→Slc→Slc→T}{P:Bl→AH→Prop}(a:∀j v,(plV t)[j]? =some v→Bb h ⟨b,j,none⟩=some v)(H:(K t.1 t.2.1 t.2.2.1 t.2.2.2.1 t.2.2.2.2.1 t.2.2.2.2.2.1).wp eE P h):
 (pB .slice ⟨b,0,none⟩ λ(t3:Slc)=>pB .slice ⟨b,1,none⟩ λ(t4:Slc)=>pB .slice ⟨b,2,none⟩ λ(t5:Slc)=>pB .slice ⟨b,3,none⟩ λ(t6:Slc)=>pB .slice ⟨b,4,none⟩ λ(t7:Slc)=>pB .slice ⟨b,5,none⟩ λ(t8:Slc)=>K t3 t4 t5 t6 t7 t8).wp eE P h:=by refine AF (a 0 _ rfl) rfl<|AF (a 1 _ rfl) rfl<|AF (a 2 _ rfl) rfl<|AF (a 3 _ rfl) rfl<|AF (a 4 _ rfl) rfl<|AF (a 5 _ rfl) rfl H
theorem JV(k:PlK φ t p)(D:St φ F h){r:List Ae}(hd:Pi p=some r):
 nX eE 89 [.agg #[sv t.1,sv t.2.1,sv t.2.2.1,sv t.2.2.2.1,sv t.2.2.2.2.1,sv t.2.2.2.2.2.1]] h
  (An λv E=>∃(ψ:AD) (y:Slc) (ps:List nG),Sub φ ψ∧v=lS.val y∧ps.length=r.length∧St ψ (Fq y ps::(Aa ps r++F)) E):=by
 refine A9 mixed func89 ?_;rw[QY];unfold NW;unfold Pi at hd;refine AU (vs:=plV t) D ?_;intro r1 L d;have⟨A,f,B,d⟩:=St.blk d;refine AF (AG d.sub (B.at 1 rfl)) rfl ?_;have C:t.2.1.2.1=p.2.1.length:=k.k1.length;have G:t.1.2.1=p.1.length:=k.k0.length;refine Af (λ(z:Int×Slc×Unit) w g=>∃(ψ:AD) (ps:List nG),Sub φ ψ∧ps.length=g.length∧St ψ (Fq z.2.1 ps::(Aa ps g++F)) w) (g:=r) ?_ ?_
 ·refine By hd (λi (z:Int×Slc×Unit) w g=>z.1=i∧ ∃(ψ:AD) (ps:List nG),Sub A ψ∧ps.length=g.length∧St ψ (Fq z.2.1 ps::(Aa ps g++F)) w) rfl ⟨rfl,A,[],oT _,rfl,sE _ _ d⟩ ?_ ?_
  ·rintro i z w g e ⟨j,ψ,ps,le,b,st⟩ l M hlt hw;subst j;refine Ad (by rw[C];exact mW hlt) ?_;have⟨s,m,l⟩:=bS l;refine AF (AG st.sub ((B.mono le).at 0 rfl)) rfl ?_;rw[G];refine AK (Ej st m) ?_;rintro _ I ⟨J,q,N,n,rfl,rfl,o⟩;refine⟨q,rfl,AU (vs:=[.pointer q]) o ?_⟩;intro O P c;have K:=pT c;obtain⟨u,rfl⟩:=Hu l b q;refine AV (ms:=[q]) Sn (c.tail.at1) rfl K (.cons (a:=[_]) rfl .nil) rfl u ?_;intro t7 Q x;exact lH rfl rfl ⟨hw,J,ps++ [q],le.trans n,by simp[b],RI b x⟩
  ·rintro i z w ⟨j,ψ,ps,le,H⟩ hge;subst j;refine AW (by rw[C];exact mV (oW.2 hge))<|AJ (lI rfl ⟨ψ,ps,f.trans le,H⟩)
 ·rintro z I ⟨ψ,ps,le,b,st⟩;exact AC ⟨ψ,z.2.1,ps,le,rfl,b,st⟩
theorem S2(M:Dg.Glob φ){l:Slc}{o b:List nG}{ss c:List Ae}{off:Nat}(kl:nY pW φ l o)(N:∀(i:Nat) q,o[i]? =some q→b[off+i]? =some q)(p:∀(i:Nat) s,c[i]? =some s→ss[off+i]? =some s)(O:o.length=c.length)(P:St φ (Aa b ss++F) h){r:List nH}(hd:Lz c=some r):
 nX eE 93 [sv l] h (An λv Q=>∃(ψ:AD) (y:Slc),Sub φ ψ∧v=lS.val y∧nY (pP (oG .i64)) ψ y r∧St ψ (Aa b ss++F) Q):=by
 refine A9 mixed func93 ?_;rw[QZ];unfold NX;unfold Lz at hd;have L:l.2.1=c.length:=kl.length.trans O;refine Af (λ(z:Int×Slc×Unit) w (g:List nH)=>∃(ψ:AD),Sub φ ψ∧St ψ (WI z.2.1 g::(Aa b ss++F)) w) (g:=r) ?_ ?_
 ·refine By hd (λi (z:Int×Slc×Unit) w (g:List nH)=>z.1=i∧ ∃(ψ:AD),Sub φ ψ∧St ψ (WI z.2.1 g::(Aa b ss++F)) w) rfl ⟨rfl,φ,oT _,sE _ _ P⟩ ?_ ?_
  ·rintro i z w g e ⟨t,ψ,le,st⟩ k Z hlt u;subst t;refine Ad (by rw[L];exact mW hlt) ?_;have⟨s,R,k⟩:=bS k;have⟨S,x,k⟩:=bS k;have⟨i0,i1,T⟩:=B9 R;have d:z.1.toNat<o.length:=nJ
   have U:=bD d;obtain⟨A1,V,A,B,r1,C⟩:=(kl.mono le).get (MU i0 d);refine AI _ A (Ai B ?_);obtain rfl:=r1;refine AF (AG st.sub (C 0 _ rfl)) rfl ?_;have D:St ψ (Aa b ss++(WI z.2.1 g::F)) w:=st.perm (mE (l₁:=Aa b ss)).symm;have⟨rr,W,X⟩:=Hv (N _ _ U) (p _ _ T) D;refine AK (Oj (M.mono le) W x) ?_;rintro _ E ⟨m,y,f,rfl,G,j⟩;refine⟨y,rfl,?_⟩;have I:=X m E [] j;have J:St m (WI z.2.1 g::(Aa b ss++F)) E:=I.perm (mE (l₁:=Aa b ss));refine AU (vs:=[sv y]) J ?_;intro r6 h3 n;have Y:=pT n;refine AV (ms:=[S]) XK n.tail rfl Y (.cons (a:=[_]) ⟨y,rfl,G⟩ .nil) rfl k ?_;intro t7 h4 K;exact lH rfl rfl ⟨u,m,le.trans f,K⟩
  ·rintro i z w ⟨t,H⟩ hge;subst t;refine AW (by rw[L];exact mV (oW.2 hge))<|AJ (lI rfl H)
 ·rintro z E ⟨ψ,le,st⟩;obtain⟨m,f,G,j⟩:=st.freezeRow;exact AC ⟨m,z.2.1,le.trans f,rfl,G,j⟩
end
abbrev WY(φ:AD)(F:List Chk)(r:dtF):sU→AH→Prop:=λv a=>∃(ψ:AD) (y:Slc×Slc×Slc×Int×Unit),Sub φ ψ∧v=((.one (.agg [.slice,.slice,.slice,.int .i64])):Sh).val y∧
 nY oH ψ y.1 r.1∧nY (pP (oG .i64)) ψ y.2.1 r.2.1∧nY (pP (oG .i64)) ψ y.2.2.1 r.2.2.1∧y.2.2.2.1=r.2.2.2∧St ψ F a
noncomputable def Mc(p:dtP)(m:Nat)(null:List Bool)(ss:List Ae):Option dtF:=(loop (σ:=Int×List Bool×List Ae) (β:=Int×List Bool×List Ae) (1,null,ss) λz=>(RY p ((m:Nat):Int) z.2.1 z.2.2).bind λr=>cond r.1 (some (.next (bO .i64 (z.1+1),r.2))) (some (.done (z.1,r.2)))).bind λz=>(idx (z.2.2.drop m) (p.2.1.length:Int)).bind λs=>(Aw s 0).bind λa=>(loop (σ:=List Ae) (β:=List Ae) (z.2.2.set (m+p.2.1.length) a.2) λss=>(Ot p ((m:Nat):Int) z.2.1 ss).bind λr=>cond r.1 (some (.next r.2)) (some (.done r.2))).bind λss=>(Lz (ss.take m)).bind λa=>(Lz (ss.drop m)).bind λb=>some (z.2.1,a,b,z.1)
section
variable {φ φ0 ψ:AD}{h:AH}{F:List Chk}{t:Slc×Slc×Slc×Slc×Slc×Slc×Unit}{n f g:Slc}{p:dtP}{ps qs:List nG}
theorem dU(W:Dg.Glob φ)(a0:Sub φ0 φ){r1 A M:Nat}(cB:Cv φ (lF r1) (plV t))(K:FsK φ ⟨M,0,none⟩ t n f g p ps qs)(a3:qs.length=ps.length){null:List Bool}{ss:List Ae}(X:(ps++qs).length=ss.length){r:dtF}(hd:Mc p ps.length null ss=some r)
 (s0:St φ (fsC n null (ps++qs) ss (⟨qT 122,[.pointer (lF A)],[.slice none 0 0,.slice none 0 0,.slice none 0 0,.int .i64 0]⟩::F)) h):(Pp r1 A M).wp eE (NP (An (WY φ0 F r))) h:=by
 unfold Pp;unfold Mc at hd;have⟨z,hz,hd⟩:=bS hd;have⟨s,hs,hd⟩:=bS hd;have⟨a,ha,hd⟩:=bS hd;have⟨sf,a4,hd⟩:=bS hd;have⟨la,a5,hd⟩:=bS hd;have⟨lb,a6,hd⟩:=bS hd;obtain rfl:=iS hd;obtain⟨G,hG⟩:∃G:List Chk,G=⟨qT 122,[.pointer (lF A)],[.slice none 0 0,.slice none 0 0,.slice none 0 0,.int .i64 0]⟩::F:=⟨_,rfl⟩;rw[←hG]at s0;refine Af (λ(y:Int×Unit) w g=>∃(ψ:AD),Sub φ ψ∧y.1=g.1∧g.2.2.length=ss.length∧St ψ (fsC n g.2.1 (ps++qs) g.2.2 G) w) (g:=z) ?_ ?_
 ·refine Bx hz (λ(y:Int×Unit) w g=>∃(ψ:AD),Sub φ ψ∧y.1=g.1∧g.2.2.length=ss.length∧St ψ (fsC n g.2.1 (ps++qs) g.2.2 G) w) rfl ⟨φ,oT _,rfl,rfl,s0⟩ ?_;rintro y w ⟨gc,gn,gs⟩ e ⟨ψ,le,rfl,u,st⟩ l hb;dsimp only at l u st;have⟨rr,hr,l⟩:=bS l;refine AK (YT (W.mono le) (K.mono le) (X.trans u.symm) hr st) ?_;rintro _ h1 ⟨Y,m,rfl,N,o⟩;refine⟨_,rfl,mP l rfl (λl=>?_) (λl=>?_)⟩
  ·obtain rfl:=iS l;exact lH rfl rfl ⟨Y,le.trans m,rfl,N.trans u,o⟩
  ·obtain rfl:=iS l;obtain rfl:=hb _ rfl;exact AJ (lI rfl ⟨Y,le.trans m,rfl,N.trans u,o⟩)
 ·rintro y1 h1 ⟨Y,m,a7,u,o⟩;refine AF ((K.mono m).at o (j:=8) rfl) rfl<|AF (AG o.sub ((cB.mono m).at 1 rfl)) rfl ?_;have n1:t.2.1.2.1=p.2.1.length:=K.pl.k1.length;rw[n1];have⟨i0,i1,i2⟩:=B9 hs;rw[oU]at i2;rw[qY]at i2;have a8:p.2.1.length<qs.length:=by
   rw[List.length_drop]at i1;rw[pK]at X;omega
  have hq:=bD a8;obtain⟨A2,b9,a9,b0,q2,b1⟩:=((K.mono m).kg).get (i:=(p.2.1.length:Int)) (by rw[CD];exact hq);refine AI _ a9 (Ai b0 ?_);obtain rfl:=q2;refine AF (AG o.sub (b1 0 _ rfl)) rfl ?_;have⟨rs,a1,a2⟩:=FM (O0 (ps:=ps) hq) i2;have b2:St Y (Bi qs[p.2.1.length] s::(rs++(cR 4 oH n z.2.1::G))) h1:=(o.perm (mE (l₁:=Aa (ps++qs) z.2.2)).symm).perm (oD _ a1);refine AK (Cd b2 ha) ?_;rintro _ h2 ⟨ψ2,y,l2,b3,rfl,e2,b4⟩;refine⟨_,rfl,?_⟩;have b5:l2=a.2:=by rw[←e2]
  subst b5;have O:=m.trans b3;have b6:St ψ2 (fsC n z.2.1 (ps++qs) (z.2.2.set (ps.length+p.2.1.length) a.2) G) h2:=(b4.perm (oD _ (a2 a.2)).symm).perm (mE (l₁:=Aa (ps++qs) (z.2.2.set (ps.length+p.2.1.length) a.2)));refine Af (λ(y:Unit) w g=>∃(ψ:AD),Sub φ ψ∧g.length=ss.length∧St ψ (fsC n z.2.1 (ps++qs) g G) w) (g:=sf) ?_ ?_
  ·refine Bx a4 (λ(y:Unit) w g=>∃(ψ:AD),Sub φ ψ∧g.length=ss.length∧St ψ (fsC n z.2.1 (ps++qs) g G) w) rfl ⟨ψ2,O,by simp[u],b6⟩ ?_;rintro y w gs e ⟨ψ,le,B,st⟩ l hb;have⟨rr,hr,l⟩:=bS l;refine AK (WX (W.mono le) (K.mono le) a3 (X.trans B.symm) hr st) ?_;rintro _ h3 ⟨ψ3,D,rfl,P,E⟩;refine⟨_,rfl,mP l rfl (λl=>?_) (λl=>?_)⟩
   ·obtain rfl:=iS l;exact lH rfl rfl ⟨ψ3,le.trans D,P.trans B,E⟩
   ·obtain rfl:=iS l;obtain rfl:=hb _ rfl;exact AJ (lI rfl ⟨ψ3,le.trans D,P.trans B,E⟩)
  ·rintro _ h3 ⟨ψ3,D,B,E⟩;have⟨ψ4,b7,kn,H⟩:=oS (t:=n) E;have c:=D.trans b7;refine AF ((K.mono c).at H (j:=6) rfl) rfl<|AF ((K.mono c).at H (j:=7) rfl) rfl<|AF ((K.mono c).at H (j:=8) rfl) rfl ?_;have b8:sf.length=ps.length+qs.length:=by rw[B,←X,pK]
   refine AK (S2 (W.mono c) (off:=0) (K.mono c).kf (λi q C=>by rw[qH];exact WW C) (λi s C=>by
    rw[List.getElem?_take]at C;split at C
    ·rw[qH];exact C
    ·cases C) nN H a5) ?_
   rintro _ h4 ⟨ψ5,Z,Q,rfl,k5,J⟩;refine⟨Z,rfl,?_⟩;have d:=c.trans Q;refine AP ((K.mono d).at J (j:=8) rfl)<|AP ((K.mono d).at J (j:=6) rfl)<|AK (S2 (W.mono d) (off:=ps.length) (K.mono d).kg (λi q C=>O0 C) (λi s C=>by
    rw[qY]at C;exact C) nN J a6) ?_
   rintro _ h5 ⟨ψ6,y6,L,rfl,k6,R⟩;refine⟨y6,rfl,?_⟩;have I:=d.trans L;refine AP ((K.mono I).at R (j:=6) rfl) ?_;have S:=St.drop _ R;rw[hG]at S;refine Cr (b:=A) (j:=0) (v:=sv n) S rfl nP ?_;intro h6 T;refine Cr (b:=A) (j:=1) (v:=sv Z) T rfl nP ?_;intro h7 U;refine Cr (b:=A) (j:=2) (v:=sv y6) U rfl nP ?_;intro h8 V;refine Cr (b:=A) (j:=3) (v:=.int .i64 y1.1) V rfl nP ?_;intro h9 k;refine AA (b:=A) (j:=0) (x:=n) k rfl<|AA (b:=A) (j:=1) (x:=Z) k rfl<|AA (b:=A) (j:=2) (x:=y6) k rfl<|AA (b:=A) (j:=3) (x:=y1.1) k rfl<|AC ⟨ψ6,(n,Z,y6,y1.1,()),a0.trans I,rfl,kn.mono (Q.trans L),k5.mono L,k6,a7,k.tail⟩
theorem J9:Sc eE 100 4 (.bool false):=⟨rU,⟨t4,nU,rfl,⟨_,rfl,rfl⟩,nQ⟩⟩
theorem WZ(x:Dg.Glob φ)(l:Sub φ0 φ){r1 w:Nat}(y:Cv φ (lF r1) (plV t))(k:PlK φ t p){null:List Bool}{b c:List Ae}(m:ps.length=b.length)(z:qs.length=c.length)(H:c.length=b.length){r:dtF}(hd:Mc p b.length null (b++c)=some r)
 (A:St φ (Fq f ps::Fq g qs::cR 4 oH n null::(Aa ps b++(Aa qs c++(⟨qT 122,[.pointer (lF w)],[.slice none 0 0,.slice none 0 0,.slice none 0 0,.int .i64 0]⟩::F)))) h):
 (rM (.cells #[sv t.1,sv t.2.1,sv t.2.2.1,sv t.2.2.2.1,sv t.2.2.2.2.1,sv t.2.2.2.2.2.1,sv n,sv f,sv g] 186 (0,0)) λi=>Pp r1 w i).wp eE (NP (An (WY φ0 F r))) h:=by
 refine AU (vs:=plV t++ [sv n,sv f,sv g]) A ?_;intro i B o;have⟨I,q,C,s⟩:=St.blk o;have⟨J,j,D,u⟩:=oS (t:=f) s;have⟨E,d,G,v⟩:=oS (t:=g) u;have a:=(q.trans j).trans d;refine dU (ps:=ps) (qs:=qs) (f:=f) (g:=g) (n:=n) (t:=t) (x.mono a) (l.trans a) (y.mono a) ⟨C.mono (j.trans d),k.mono a,D.mono d,G⟩ nJ (null:=null) (ss:=b++c) (by rw[pK,pK,m,z]) (by rw[m];exact hd) ?_;have e:Aa (ps++qs) (b++c)=Aa ps b++Aa qs c:=by
  unfold Aa;exact List.zipWith_append m
 show St E (cR 4 oH n null::(Aa (ps++qs) (b++c) ++_)) B;rw[e,oE];exact v
theorem iV(a c n:Chk)(B D G:List Chk):(a::(B++(c::(D++(n::G))))).Perm (c::a::n::(D++(B++G))):=
 (nZ a (List.perm_middle.trans (nZ c ((qQ B mE).trans (List.perm_middle.trans (nZ n (by rw[←oE,←oE];exact oD _ qB))))))).trans (oR _ _ _)
theorem iW(a c n:Chk)(B D G:List Chk):(a::(B++(n::c::(D++G)))).Perm (c::a::n::(D++(B++G))):=
 (nZ a (List.perm_middle.trans ((nZ n (List.perm_middle.trans (nZ c (by rw[←oE,←oE];exact oD _ qB)))).trans (oR _ _ _)))).trans (oR _ _ _)
theorem iX(a c n:Chk)(B D G:List Chk):(n::a::(B++(c::(D++G)))).Perm (c::a::n::(D++(B++G))):=
 (oR _ _ _).trans (((nZ a ((nZ n (List.perm_middle.trans (nZ c (by rw[←oE,←oE];exact oD _ qB)))).trans (oR _ _ _)))).trans (oR _ _ _))
theorem T4(K:Dg.Glob φ)(k:PlK φ t p)(L:St φ F h){r:dtF}(hd:RZ p=some r):
 nX eE 54 [.agg #[sv t.1,sv t.2.1,sv t.2.2.1,sv t.2.2.2.1,sv t.2.2.2.2.1,sv t.2.2.2.2.2.1]] h (An (WY φ F r)):=by
 refine A9 mixed func54 ?_;rw[T2];unfold Ra;unfold RZ at hd;have⟨null,M,hd⟩:=bS hd;have⟨C,c,hd⟩:=bS hd;have⟨N,B,hd⟩:=bS hd;obtain rfl:C=N:=by rw[c]at B;exact iS B
 have hd:Mc p C.length null (C++C)=some r:=hd;refine AU (vs:=plV t) L ?_;intro r1 S E;have⟨O,d,D,E⟩:=St.blk E;refine AU (vs:=[.slice none 0 0,.slice none 0 0,.slice none 0 0,.int .i64 0]) E ?_;intro T U G;have P:t.2.1.2.1=p.2.1.length:=k.k1.length;have m:∀ {ψ:AD} {Γ:List Chk} {h':AH},Sub O ψ→St ψ Γ h'→ ∀j v,(plV t)[j]? =some v→Bb h' ⟨r1,j,none⟩=some v:=λ{ψ Γ h'} le st j v hv=>by
  have:=AG st.sub ((D.mono le).at j hv)
  rw[EN,qH]at this;exact this
 have o:=m (oT _) G;refine FN o<|AF (o 1 _ rfl) rfl<|FN o<|FN o ?_;have s:=k.mono d;have y:=K.mono d;have mk:EC (bO .i64 ((t.2.1.2.1:Int)+1)) false=some null:=by rw[P];exact M
 refine DP ?_ ?_
 ·refine FW (r:=oH) (x:=false) J9 G rfl rfl mk ?_;intro n H u;have e:=m (oT _) u
  repeat refine AP (e _ _ rfl) ?_
  refine AK (JV s u c) ?_;rintro _ Q ⟨R,f,ps,a,rfl,q,A⟩;refine⟨f,rfl,?_⟩;have z:=m a A
  repeat refine AP (z _ _ rfl) ?_
  refine AK (JV (s.mono a) A c) ?_;rintro _ I ⟨J,g,qs,b,rfl,i,w⟩;refine⟨g,rfl,?_⟩;have l:=m (a.trans b) w
  repeat refine AP (l _ _ rfl) ?_
  exact WZ (f:=f) (g:=g) (n:=n) (ps:=ps) (qs:=qs) (y.mono (a.trans b)) (d.trans (a.trans b)) (D.mono (a.trans b)) (s.mono (a.trans b)) q i rfl hd (w.perm (iV _ _ _ _ _ _))
 ·refine AK (JV s G c) ?_;rintro _ Q ⟨R,f,ps,a,rfl,q,A⟩;refine⟨f,rfl,?_⟩;have z:=m a A
  repeat refine AP (z _ _ rfl) ?_
  refine DP ?_ ?_
  ·refine FW (r:=oH) (x:=false) J9 A rfl rfl mk ?_;intro n H u;have e:=m a u
   repeat refine AP (e _ _ rfl) ?_
   refine AK (JV (s.mono a) u c) ?_;rintro _ I ⟨J,g,qs,b,rfl,i,w⟩;refine⟨g,rfl,?_⟩;have l:=m (a.trans b) w
   repeat refine AP (l _ _ rfl) ?_
   exact WZ (f:=f) (g:=g) (n:=n) (ps:=ps) (qs:=qs) (y.mono (a.trans b)) (d.trans (a.trans b)) (D.mono (a.trans b)) (s.mono (a.trans b)) q i rfl hd (w.perm (iW _ _ _ _ _ _))
  ·refine AK (JV (s.mono a) A c) ?_;rintro _ I ⟨J,g,qs,b,rfl,i,w⟩;refine⟨g,rfl,?_⟩;have l:=m (a.trans b) w
   repeat refine AP (l _ _ rfl) ?_
   refine FW (r:=oH) (x:=false) J9 w rfl rfl mk ?_;intro n H u;have e:=m (a.trans b) u
   repeat refine AP (e _ _ rfl) ?_
   exact WZ (f:=f) (g:=g) (n:=n) (ps:=ps) (qs:=qs) (y.mono (a.trans b)) (d.trans (a.trans b)) (D.mono (a.trans b)) (s.mono (a.trans b)) q i rfl hd (u.perm (iX _ _ _ _ _ _))
end
end Go.Proofs.YtfnppeejaimnbaaGreatDoor
namespace Go.Proofs.YtfnppeejaimnbaaGreatDoor
open Go Go.Eng
section
variable {φ:AD}{h:AH}{F:List Chk}
noncomputable def EX(f_0:ec)(a:As)(c:nH):Option (nH×Bool):=
 (CN (a.1.length:Int)).bind λt4=>
 (C6 (σ:=DN) (β:=(nH×Bool)) 0 (c.length:Int) t4 λd k=>
  (((idx c d).bind λb=>
  (Bp a b).bind λl=>
  cond l
  ((Aw k b).bind λm=>
   (Sq m.2).bind λn=>
   some (pL (n,false)))
  ((cond (decide ((bO .i64 (b - (a.1.length:Int))) < 0))
   (some true)
   (some (decide ((bO .i64 (b - (a.1.length:Int))) ≥ (f_0.2.1.length:Int))))).bind λo=>
   cond o
   (some (pC k))
   ((idx f_0.2.1 (bO .i64 (b - (a.1.length:Int)))).bind λp=>
    (DY (a.1.length:Int) p).bind λq=>
    (Tu k q).bind λe=>
    (idx f_0.1 (bO .i64 (b - (a.1.length:Int)))).bind λf=>
    cond (!f)
    ((Sq e.2).bind λr=>
     some (pL (r,false)))
    (some (pC e.2))))):Option (AX DN (nH×Bool))).bind λg=>match g with
  |.next t=>
   some (pC t)
  |.done h=>some (pL h)).bind λi=>match i with
 |.next u=>
  (Sq u).bind λs=>
  some (s,true)
 |.done j=>some j
theorem M1{A:Slc×Slc×Slc×Int×Unit}{o:List Bool}{j:List nH}{p:List nH}{B:Pl6}{k:As}{C:Slc}{l:nH}(I:Dg.Glob φ)(W:nY oH φ A.1 o)(q:nY (pP (oG .i64)) φ A.2.1 j)(d2:nY (pP (oG .i64)) φ A.2.2.1 p)(s:G8 φ B k)(u:nY (oG .i64) φ C l)(X:St φ F h){r:(nH×Bool)}(hd:EX (o,j,p,A.2.2.2.1) k l=some r):
 nX eE 106 [.agg #[sv A.1,sv A.2.1,sv A.2.2.1,lN A.2.2.2.1],aG B,sv C] h (An λv Y=>∃ψ:AD,∃y:Slc×Bool×Unit,∃w:nH,Sub φ ψ∧v=((.tuple mC):Sh).val y∧(w,y.2.1)=r∧nY (oG .i64) ψ y.1 w∧St ψ F Y):=by
 refine AT mixed func106 (Mx ..) ?_;have Z:A.2.1.2.1=oL j:=q.length;have b:B.1.2.1=oL k.1:=s.k0.length;have x:C.2.1=oL l:=u.length;refine AU (vs:=[sv A.1,sv A.2.1,sv A.2.2.1,.int .i64 A.2.2.2.1]) X λr1 d3 al=>D5 (t:=B) al λJ d4 z=>AA z rfl ?_;have⟨d5,a0,hd⟩:=bS hd;rw[←b]at a0;refine AK (Ej z a0) ?_;rintro _ d6 ⟨O,t4,ap,d7,rfl,rfl,ax⟩;refine⟨t4,rfl,?_⟩;have⟨d8,b0,hd⟩:=bS hd;refine BQ b0 (λb1 y D g=>∃ψ:AD,∃P:DN,Sub O ψ∧y.1=b1∧P=g∧St ψ (cO 226 E7 t4 P::Wq2 J B::Wq7 r1 A::F) D) rfl ⟨O,ap,sb,rfl,rfl,ax.at2.at2.at2⟩ ?_ ?_ ?_
 ·rintro _ z6 d9 _ _ ⟨b2,Q,dd,rfl,rfl,m⟩ c dk b3 b4 R;refine Ad (dT x b3) ?_;have⟨b5,a,c⟩:=bS c;refine Af (λy D g=>∃ψ:AD,∃S:DN,Sub b2 ψ∧pC S=g∧St ψ (cO 226 E7 t4 S::Wq2 J B::Wq7 r1 A::F) D) (g:=b5) ?_ ?_
  ·refine gx u a m λb6 a=>BS (t:=B) m.at1 ?_;have⟨dl,b7,a⟩:=bS a;refine AK (Eg s.up m b7) ?_;rintro _ dm ⟨n,K,dn,rfl,rfl,d⟩;refine⟨K,rfl,mP a rfl (λa=>?_) (λa=>?_)⟩
   ·have⟨dp,b8,a⟩:=bS a;refine AK (Cd d b8) ?_;rintro _ ds ⟨dx,L,dy,e0,rfl,rfl,b9⟩;refine⟨L,rfl,?_⟩;have⟨e1,ba,a⟩:=bS a;refine AK (Pd (I.mono sb) b9 ba) ?_;rintro _ e2 ⟨bb,E,bd,e3,rfl,rfl,bf,bg⟩;refine⟨E,rfl,?_⟩;obtain rfl:=iS a;obtain rfl:=iS c;obtain rfl:=R _ rfl;obtain rfl:=iS hd;exact Ah (Ak (Ah (AC ⟨bb,(E,false,()),bd,sb,rfl,rfl,bf,bg.tail.tail.tail⟩)))
   refine AA d.at1 rfl ?_;have⟨bi,e,a⟩:=bS a;refine AY (λy D g=>∃ψ:AD,Sub n ψ∧y.1=g∧St ψ (cO 226 E7 t4 Q::Wq2 J B::Wq7 r1 A::F) D) (g:=bi) ?_ ?_
   ·refine mP e (by rw[b] <;>rfl) (λe=>?_) (λe=>?_)
    ·have bj:=d.at2;exact lG rfl ⟨n,sb,iS e,bj.at2.at2⟩
    refine AA d.at2 rfl ?_;have bl:=d.at2.at2.at2;obtain rfl:=iS e;exact lG rfl ⟨n,sb,(by rw[b,Z]),bl⟩
   rintro f6 e4 ⟨bn,e5,rfl,f⟩;refine mP a rfl (λa=>?_) (λa=>?_)
   ·have bp:=f.at2;exact lI rfl ⟨bn,Q,sb,iS a,bp.at2.at2⟩
   refine AA f.at1 rfl<|AA f.at2 rfl ?_;have⟨e6,T,a⟩:=bS a;rw[←b]at T;refine TZ q T (rI sb f.sub) λe7 bq=>?_;have⟨e8,U,a⟩:=bS a;rw[←b]at U;refine AK (FL bq.up f U) ?_;rintro _ e9 ⟨ea,M,ed,ee,rfl,rfl,bs⟩;refine⟨M,rfl,?_⟩;have⟨ef,bt,a⟩:=bS a;refine AK (WJ (I.mono sb) bs.at1 bt) ?_;rintro _ eg ⟨bx,N,bz,el,rfl,rfl,i⟩;refine⟨N,rfl,AA i.at3 rfl ?_⟩;have⟨em,V,a⟩:=bS a;rw[←b]at V;refine NR W V (rI sb i.sub)<|mP a rfl (λa=>?_) (λa=>?_)
   ·have⟨en,c0,a⟩:=bS a;refine AK (Pd (I.mono sb) i c0) ?_;rintro _ eo ⟨c1,G,c2,er,rfl,rfl,c3,c4⟩;refine⟨G,rfl,?_⟩;obtain rfl:=iS a;obtain rfl:=iS c;obtain rfl:=R _ rfl;obtain rfl:=iS hd;exact Ah (Ak (Ah (AC ⟨c1,(G,false,()),c2,sb,rfl,rfl,c3,c4.tail.tail.tail.tail⟩)))
   exact lJ rfl ⟨bx,bz,sb,iS a,i.at1.tail.at2.at2.at2⟩
  rintro z7 es ⟨c5,c6,ev,rfl,c7⟩;obtain rfl:=iS c;exact lH rfl rfl ⟨c5,c6,sb,b4,rfl,c7.at2.at2.at2⟩
 ·rintro _ z6 ew _ ⟨c8,c9,ex,rfl,rfl,ch⟩ cl cm;subst cm;refine AW (dF x cl)<|AJ (lI rfl ⟨_,rfl,_,c8,c9,sb,rfl,rfl,ch.at2.at2.at2⟩)
 rintro z5 ez ⟨_,rfl,_,f0,f1,f2,_,rfl,cp⟩;have⟨f3,cs,hd⟩:=bS hd;refine AK (Pd (I.mono sb) cp cs) ?_;rintro _ f4 ⟨cw,H,cx,f5,rfl,rfl,d0,d1⟩;exact⟨H,rfl,AC ⟨cw,(H,true,()),cx,sb,rfl,iS hd,d0,d1.tail.tail.tail⟩⟩
noncomputable def CO(l_0:Se)(b:Int)(a:Int):Option Bool:=(cond (decide (a< 0)) (some true) (some (decide (a≥ (l_0.2.2.1.length:Int))))).bind λf=>cond f (some false) ((idx l_0.2.2.1 a).bind λc=>(C1 l_0.2.2.2.2.2.2.1 b).bind λd=>(BC d (a,(c.2.1.length:Int))).bind λe=>some e)
theorem HE{l_0:nG}{e:Se}{x:Int}{v:Int}(c:Pt Uk φ l_0 e)(B:St φ F h){r:Bool}(hd:CO e x v=some r):
 nX eE 97 [lP l_0,lN x,lN v] h (An (mM φ r F)):=by
 refine AT mixed func97 (Mz ..) ?_;have⟨m,a,hd⟩:=bS hd;refine AY (λy D g=>∃ψ:AD,Sub φ ψ∧y.1=g∧St ψ F D) (g:=m) ?_ ?_
 ·refine mP a rfl (λa=>?_) (λa=>?_)
  ·exact lG rfl ⟨φ,sb,iS a,B⟩
  refine pfR W8 c B λn o=>?_;have p:=o.length;obtain rfl:=iS a;exact lG rfl ⟨φ,sb,(by rw[p]),B⟩
 rintro M ap ⟨f,N,rfl,b⟩;refine mP hd rfl (λhd=>?_) (λhd=>?_)
 ·exact AC ⟨f,false,sb,rfl,iS hd,b⟩
 refine pfR W9 c b λO q=>?_;obtain⟨P,Q,s,⟨_,_,rfl,⟨R,rfl,S⟩,_,_,rfl,⟨T,rfl,U⟩,_,_,rfl,⟨t,rfl,u⟩,_,_,rfl,⟨V,rfl,W⟩,_,_,rfl,⟨X,rfl,Y⟩,_,_,rfl,⟨Z,rfl,bd⟩,_,_,rfl,⟨bf,rfl,bg⟩,_,_,rfl,⟨bi,rfl,bj⟩,_,_,rfl,⟨bl,rfl,bn⟩,_,_,rfl,⟨bp,rfl,bq⟩,_,_,rfl,rfl,_,_,rfl,⟨bs,rfl,bt⟩,_,_,rfl,rfl,rfl⟩,i⟩:=id c;refine AI _ s<|AF (AG (rI sb b.sub) (i.at 2 rfl)) rfl ?_;have⟨bx,w,hd⟩:=bS hd;obtain⟨bz,c0,z,a0,E,j⟩:=(u.up (ψ:=f)).get w;refine AI _ z (Ai a0 ?_);obtain⟨_,_,rfl,rfl,⟨_,_,rfl,⟨k,rfl,G⟩,H⟩⟩:=E;have I:=G.length;obtain rfl:=H;refine AF (by rw[Aj];exact(AG (rI sb b.sub) (j 1 _ rfl))) rfl ?_;have⟨c1,J,hd⟩:=bS hd;refine AK (GI q.up b J) ?_;rintro _ c2 ⟨c3,C,c4,c5,rfl,rfl,K,d⟩;refine⟨C,rfl,AP (by rw[Aj];exact(AG (rI sb d.sub) (j 1 _ rfl)))<|AP (AG (rI sb d.sub) (i.at 2 rfl)) ?_⟩;have⟨c6,l,hd⟩:=bS hd;rw[←I]at l;refine AK (EP (v_1:=(v,(k.2.1:Int),())) K d l) ?_;rintro _ c7 ⟨L,A,c8,rfl,rfl,al⟩;exact⟨A,rfl,AC ⟨L,A,sb,rfl,iS hd,al⟩⟩
noncomputable def EY(l_0:Se)(a:Int):Option nH:=(C1 l_0.2.2.2.2.2.2.1 a).bind λt3=>(forS (σ:=nH) 0 (t3.length:Int) ([]:nH) λc g=>(idx t3 c).bind λb=>(idx l_0.2.2.1 b.1).bind λd=>(cond (b.2==(d.2.1.length:Int)) ((app g ([b.1]:nH)).bind λe=>some e) (some g)).bind λf=>some f).bind λh=>some h
theorem M2{l_0:nG}{i:Se}{k:Int}(j:Pt Uk φ l_0 i)(A:St φ F h){r:nH}(hd:EY i k=some r):
 nX eE 107 [lP l_0,lN k] h (An (mO φ (oG .i64) r F)):=by
 refine AT mixed func107 (M0 ..)<|pfR W9 j A λbb u=>?_;have⟨bd,w,hd⟩:=bS hd;refine AK (GI u A w) ?_;rintro _ bf ⟨l,t3,bg,bi,rfl,rfl,m,x⟩;refine⟨t3,rfl,?_⟩;have n:=m.length;have⟨bj,z,hd⟩:=bS hd;refine BD z (λa0 y v g=>∃ψ:AD,∃o:nH,Sub l ψ∧y.1=a0∧o=g∧St ψ (cR 3 (oG .i64) y.2.1 o::F) v) rfl ⟨l,[],sb,rfl,rfl,(x.nil 3 (oG .i64))⟩ ?_ ?_ ?_
 ·rintro _ C bl _ _ ⟨f,D,bn,rfl,rfl,p⟩ b bp E G;refine Ad (dT n E)<|QQ m b p λe b=>AU (vs:=[.int .i64 (0:Int),.int .i64 (0:Int)]) p λH bq I=>AQ I rfl rfl λbs J=>AQ J rfl rfl λbt c=>AA c rfl<|pfR W8 j c λbx K=>AA c rfl<|ixR Gf K b c λbz c0 L b=>?_;have M:=L.length;have⟨N,d,b⟩:=bS b;refine AY (λy v g=>∃ψ:AD,∃q:nH,Sub f ψ∧q=g∧St ψ (cR 3 (oG .i64) y.1 q::cW 116 H [.int .i64 e.1,.int .i64 e.2]::F) v) (g:=N) ?_ ?_
  ·refine mP d (by rw[M] <;>rfl) (λd=>?_) (λd=>?_)
   ·refine AA c rfl<|AU (vs:=[.int .i64 e.1]) c λO c1 s=>?_;have⟨P,al,d⟩:=bS d;refine AV (ms:=([e.1]:nH)) BR s.tail.at1 rfl (pT s) (.cons (a:=[_]) rfl .nil) rfl al ?_;intro Q c2 ap;exact lG rfl ⟨f,P,sb,iS d,ap.at1.at1⟩
   exact lG rfl ⟨f,D,sb,iS d,c.at1.at1.at1⟩
  rintro R c3 ⟨S,T,c4,rfl,U⟩;obtain rfl:=iS b;exact lH rfl rfl ⟨S,T,sb,G,rfl,U.at1.tail⟩
 ·rintro _ C c5 ⟨V,W,c6,rfl,rfl,X⟩ Y;refine AW (dF n Y)<|AJ (lI rfl ⟨_,V,W,sb,rfl,rfl,X⟩)
 rintro B c7 ⟨_,c8,Z,c9,_,rfl,b7⟩;have⟨b8,ch,b9,ba⟩:=oS (t:=B.2.1) b7;exact AC ⟨b8,B.2.1,Z,sb,rfl,iS hd,b9,ba⟩
end
end Go.Proofs.YtfnppeejaimnbaaGreatDoor
namespace Go.Proofs.YtfnppeejaimnbaaGreatDoor
open Go Go.Eng Dg
abbrev Stp:Type:=ZL
noncomputable def SP{σ:Type}(p:dtP)(A:dtA)(f:σ→Stp→Int→Option σ)(s:σ):Option σ:=(B6 A).bind λn=>forS 0 n s λi s=>(C2 A i).bind λes=>forS 0 (es.length:Int) s λj s=>(idx es j).bind λe=>(Bp p e.1).bind λt=>cond (!t) (f s (i,e.1) e.2) (some s)
abbrev EnS:Type:=List Stp×List (Stp×Int)
def MB(st:EnS)(s:Stp)(_:Int):Option EnS:=(app st.1 [s]).bind λl=>some (l,CK s (st.1.length:Int) st.2)
noncomputable def dV(l_0:nG)(g:Nat)(args:Int→Int→Int→List sU):T:=nW l_0 λs=>lB s 6 λt2=>hC 8 [lP t2] lT λt3=>oB 0 lZ (oN lZ [lN 0] λd=>cond (decide (d.1<t3)) (nW l_0 λt=>lB t 6 λt7=>hC 94 [lP t7,lN d.1] lS λt8=>oB 2 lZ (oN lZ [lN 0] λa=>cond (decide (a.1< (t8.2.1:Int))) (nW t8.1 λe=>chk (0≤a.1∧a.1< (t8.2.1:Nat))<|jR e a.1 2 λf=>jX e a.1 2 1 λh=>jO #[lN 0,lN 0] 120 λc=>jZ c 0 f<|jZ c 1 h<|nW l_0 λb=>lA b λi=>jT b 1 λj=>jT b 2 λk=>jT b 3 λl=>jT b 4 λm=>jT b 5 λn=>jY c 0 λo=>hC 30 [.agg #[sv i,sv j,sv k,sv l,sv m,sv n],lN o] lU λp=>oF [] (cond (!p) (jY c 0 λq=>jY c 1 λr=>hC g (args d.1 q r) mG λ_=>hM []) (hM [])) λ_=>hM [lN (bO .i64 (a.1+(1:Int)))]) (oP 2 [lN a.1])) λ_=>hM [lN (bO .i64 (d.1+(1:Int)))]) (oP 0 [lN d.1])) λ_=>oC (.tuple #[])
section
variable {φ ψ:AD}{h:AH}{F:List Chk}{a:sV}{t:Slc×Slc×Slc×Slc×Slc×Slc×Unit}{p:dtP}{ap:nG}{A:dtA}
theorem VM{K:Bool→T}{P:Bl→AH→Prop}{b:Nat}{v:sU}{s:Int}(cells:∀j v,(plV t)[j]? =some v→Bb h (a.add j)=some v)(f:Bb h ⟨b,0,none⟩=some (.int .i64 s))(k:PlK φ t p)(st:St φ F h){r:Bool}(hd:Bp p s=some r)
 (g:∀ψ h',Sub φ ψ→St ψ F h'→(K r).wp eE P h'):
 (pB .slice a λ(t6:Slc)=>pB .slice (a.add 1) λ(t7:Slc)=>pB .slice (a.add 2) λ(t8:Slc)=>pB .slice (a.add 3) λ(i:Slc)=>pB .slice (a.add 4) λ(c:Slc)=>pB .slice (a.add 5) λ(d:Slc)=>
  pB (.int .i64) ⟨b,0,none⟩ λ(e:Int)=>
  hC 30 [(.agg #[(sv t6),(sv t7),(sv t8),(sv i),(sv c),(sv d)]),(.int .i64 e)] lU K).wp eE P h:=by refine AF (by have:=cells 0 _ rfl;rwa [add_zero]at this) rfl<|AF (cells 1 _ rfl) rfl<|AF (cells 2 _ rfl) rfl<|AF (cells 3 _ rfl) rfl<|AF (cells 4 _ rfl) rfl<|AF (cells 5 _ rfl) rfl<|AF f rfl<|AK (Eg k st hd) ?_;rintro _ l ⟨ψ,y,le,rfl,rfl,m⟩;exact⟨y,rfl,g ψ l le m⟩
theorem XY{X σ:Type}(Γ:X→List Chk)(al:X→σ)(f:σ→Stp→Int→Option σ)(g:Nat)(args:Int→Int→Int→List sU)
 (d:∀ψ x w Δ,Sub φ ψ→St ψ (Γ x++Δ) w→ ∀j v,(plV t++ [.pointer ap])[j]? =some v→Bb w (a.add j)=some v)
 (B:∀ψ w x s' n s to Δ,Sub φ ψ→St ψ (Γ x++Δ) w→f (al x) (n,s) to=some s'→nX eE g (args n s to) w (An λv Q=>v= .tuple #[] ∧ ∃u c,Sub ψ u∧al c=s'∧St u (Γ c++Δ) Q))
 (kA:Pt Jl φ ap A) (kP:PlK φ t p) {x:X} {s':σ} (hd:SP p A f (al x)=some s') (s0:St φ (Γ x++F) h):
 (dV (some a) g args).wp eE (NP (An λv Q=>v= .tuple #[] ∧ ∃ψ c,Sub φ ψ∧al c=s'∧St ψ (Γ c++F) Q)) h:=by
 unfold dV;unfold SP at hd;have⟨n,hn,hd⟩:=bS hd;have pc:∀ {ψ x w Δ},Sub φ ψ→St ψ (Γ x++Δ) w→ ∀j v,(plV t)[j]? =some v→Bb w (a.add j)=some v:=λ{ψ x w Δ} le st j v hv=>d ψ x w Δ le st j v (by rw[oK (oI.1 hv).1];exact hv);refine AI _ rfl<|AF (d _ _ _ _ (oT _) s0 6 _ rfl) rfl<|AK (Cz kA s0 hn) ?_;rintro _ h1 ⟨ψ1,y,R,rfl,rfl,S⟩;refine⟨y,rfl,Af (λ(z:Int×Unit) w g=>∃ψ c,Sub φ ψ∧al c=g∧St ψ (Γ c++F) w) (g:=s') ?_ ?_⟩
 ·refine By hd (λi (z:Int×Unit) w g=>z.1=i∧ ∃ψ c,Sub φ ψ∧al c=g∧St ψ (Γ c++F) w) rfl ⟨rfl,ψ1,x,R,rfl,S⟩ ?_ ?_
  ·rintro i z w s e ⟨rfl,ψ,x1,le,rfl,st⟩ T h0 hlt hw;refine Ad (mW hlt) ?_;have⟨es,U,T⟩:=bS T;refine AI _ rfl<|AF (d _ _ _ _ le st 6 _ rfl) rfl<|AK (GJ (kA.mono le) st U) ?_;rintro _ h2 ⟨V,t8,l2,G,rfl,rfl,k8,W⟩;refine⟨t8,rfl,?_⟩;have n8:=k8.length;refine Af (λ(z:Int×Unit) w g=>∃ψ c,Sub φ ψ∧al c=g∧St ψ (Γ c++F) w) (g:=e) ?_ ?_
   ·refine By T (λi (z:Int×Unit) w g=>z.1=i∧ ∃u c,Sub V u∧al c=g∧St u (Γ c++F) w) rfl ⟨rfl,V,x1,oT _,rfl,W⟩ ?_ ?_
    ·rintro i2 z2 w2 s2 e2 ⟨rfl,Y,x3,o,rfl,C⟩ k a8 I Z;have q:=(le.trans G).trans o;refine Ad (by rw[n8];exact mW I) ?_;have⟨m,a0,k⟩:=bS k;have⟨tm,a1,k⟩:=bS k;obtain⟨A1,a9,a2,a3,q1,J⟩:=(k8.mono o).get a0;refine AI _ a2 (Ai a3 ?_);obtain⟨_,_,rfl,rfl,rfl⟩:=q1;refine AF (AG C.sub (J 0 _ rfl)) rfl<|AF (by rw[Aj];exact AG C.sub (J 1 _ rfl)) rfl<|AU (vs:=[.int .i64 0,.int .i64 0]) C ?_;intro l h3 a4;refine Cr (b:=l) (j:=0) (v:=.int .i64 m.1) a4 rfl nP ?_;intro h4 a5;refine Cr (b:=l) (j:=1) (v:=.int .i64 m.2) a5 rfl nP ?_;intro h5 K;have L:St Y (Γ x3++(⟨qT 120,[.pointer (lF l)],[.int .i64 m.1,.int .i64 m.2]⟩::F)) h5:=K.perm (mE (l₁:=Γ x3)).symm;refine AI _ rfl (VM (v:=.nilFunc) (pc q L) (K.cell rfl) (kP.mono q) L a1 ?_);intro O h6 D E;refine AY (λ(_:Unit) w g=>∃u c,Sub V u∧al c=g∧St u (Γ c++F) w) (g:=e2) ?_ ?_
     ·refine mP k rfl (λk=>?_) (λk=>?_)
      ·have r:St O (⟨qT 120,[.pointer (lF l)],[.int .i64 m.1,.int .i64 m.2]⟩::(Γ x3++F)) h6:=E.perm (mE (l₁:=Γ x3));refine AA (b:=l) (j:=0) (x:=m.1) r rfl<|AA (b:=l) (j:=1) (x:=m.2) r rfl<|AK (B O h6 x3 e2 z.1 m.1 m.2 _ (q.trans D) E k) ?_;rintro _ P ⟨rfl,ψ5,x5,a6,a7,M⟩;refine⟨(),rfl,?_⟩;have N:St ψ5 (⟨qT 120,[.pointer (lF l)],[.int .i64 m.1,.int .i64 m.2]⟩::(Γ x5++F)) P:=M.perm (mE (l₁:=Γ x5));exact lG rfl ⟨ψ5,x5,(o.trans D).trans a6,a7,N.tail⟩
      ·obtain rfl:=iS k;have r:St O (⟨qT 120,[.pointer (lF l)],[.int .i64 m.1,.int .i64 m.2]⟩::(Γ x3++F)) h6:=E.perm (mE (l₁:=Γ x3));exact lG rfl ⟨O,x3,o.trans D,rfl,r.tail⟩
     ·rintro _ P H;exact lH rfl rfl ⟨Z,H⟩
    ·rintro i2 z2 w2 ⟨rfl,Y,x3,o,H⟩ hge;refine AW (by rw[n8];exact mV (oW.2 hge))<|AJ (lI rfl ⟨Y,x3,(le.trans G).trans o,H⟩)
   ·rintro _ P H;exact lH rfl rfl ⟨hw,H⟩
  ·rintro i z w ⟨rfl,H⟩ hge;refine AW (mV (oW.2 hge))<|AJ (lI rfl H)
 ·rintro _ P H;exact AC ⟨rfl,H⟩
end
theorem T5:TW eE 191:=⟨_,_,underlying191,nU,nQ,nQ,rfl,rfl,qS,qS⟩
theorem VN:TW eE 194:=⟨_,_,underlying194,nU,nQ,nQ,rfl,rfl,qS,qS⟩
theorem dW:Fy eE 126 126 191 2:=⟨rV,.inl rV,⟨t191,nU,rfl,⟨_,rfl,rfl⟩,nQ,nQ⟩,nQ⟩
abbrev lkV(t:Slc×Slc×Slc×Slc×Slc×Slc×Unit)(ap:nG)(fz:Slc×Slc×Slc×Int×Unit)(sl:Slc)(nm lm:Nat):List sU:=
 plV t++ [.pointer ap,sv fz.1,sv fz.2.1,sv fz.2.2.1,.int .i64 fz.2.2.2.1,sv sl,.map (some nm),.map (some lm)]
abbrev lkB(b:Nat)(t:Slc×Slc×Slc×Slc×Slc×Slc×Unit)(ap:nG)(fz:Slc×Slc×Slc×Int×Unit)(sl:Slc)(nm lm:Nat):Chk:=cW 128 b (lkV t ap fz sl nm lm)
structure EnX where
 sl:Slc
 steps:List Stp
 num:List (Stp×Int)
abbrev enC(b:Nat)(t:Slc×Slc×Slc×Slc×Slc×Slc×Unit)(ap:nG)(fz:Slc×Slc×Slc×Int×Unit)(nm lm:Nat)(x:EnX):List Chk:=
 [lkB b t ap fz x.sl nm lm,cR 191 Uj x.sl x.steps,cM DT (oG .i64) nm x.num]
section
variable {φ ψ:AD}{h:AH}{F:List Chk}{t:Slc×Slc×Slc×Slc×Slc×Slc×Unit}{p:dtP}{ap:nG}{A:dtA}{fz:Slc×Slc×Slc×Int×Unit}{nm lm b:Nat}
theorem YU{x:EnX}{n s to:Int}{r:EnS}(hd:MB (x.steps,x.num) (n,s) to=some r)(m:St φ (enC b t ap fz nm lm x++F) h):
 nX eE 56 [.pointer (lF b),.agg #[.int .i64 n,.int .i64 s],.int .i64 to] h (An λv o=>v= .tuple #[] ∧ ∃ψ g,Sub φ ψ∧(g.steps,g.num)=r∧St ψ (enC b t ap fz nm lm g++F) o):=by refine A9 mixed func56 ?_;rw[show Ab eE f56 [.pointer (lF b),.agg #[.int .i64 n,.int .i64 s],.int .i64 to] =Ff (lF b) (n,s,()) to from L9 (lF b) (n,s,()) to];unfold Ff;unfold MB at hd;have⟨l,p,hd⟩:=bS hd;obtain rfl:=iS hd;have c:=(m.at1).rowLen;refine AU (vs:=[.int .i64 n,.int .i64 s]) m ?_;intro r1 A d;refine AI _ rfl<|AA (b:=b) (j:=12) (x:=some nm) d.at1 rfl<|AA (b:=r1) (j:=0) (x:=n) d rfl<|AA (b:=r1) (j:=1) (x:=s) d rfl<|AI _ rfl<|AA (b:=b) (j:=11) (x:=x.sl) d.at1 rfl<|LU (kk:=DT) (k:=(n,s)) (y:=(x.steps.length:Int)) qZ T5 (d.at3) (by rw[←c];rfl) ?_;intro B f;refine AI _ rfl<|AA (b:=b) (j:=11) (x:=x.sl) (f.at2) rfl<|AA (b:=r1) (j:=0) (x:=n) (f.at1) rfl<|AA (b:=r1) (j:=1) (x:=s) (f.at1) rfl<|AU (vs:=[.int .i64 n,.int .i64 s]) f ?_;intro q C i;refine AP (i.at3.cell (b:=b) (j:=11) rfl) ?_;have u:=pT i;refine AV (ms:=[(n,s)]) dW (i.at4) rfl u (.cons (a:=[_,_]) ⟨[_],_,rfl,rfl,rfl⟩ .nil) rfl p ?_;intro e D w;refine AI _ rfl<|Cr (b:=b) (j:=11) (v:=sv e) (w.at4) rfl nP ?_;intro E z;refine AC ⟨rfl,φ,⟨e,l,CK (n,s) (x.steps.length:Int) x.num⟩,oT _,rfl,z.at2.tail.at3.tail⟩
theorem gM(l k:nG):Hz l k=dV l 56 λn s to=>[.pointer k,.agg #[.int .i64 n,.int .i64 s],.int .i64 to]:=rfl
theorem aa(c:Pt Jl φ ap A)(d:PlK φ t p){x:EnX}{s':EnS}(hd:SP p A MB (x.steps,x.num)=some s')(f:St φ (enC b t ap fz nm lm x++F) h):
 nX eE 55 [.pointer (lF b),.func (.func 56) #[.pointer (lF b)] #[]] h (An λv g=>v= .tuple #[] ∧ ∃ψ a,Sub φ ψ∧(a.steps,a.num)=s'∧St ψ (enC b t ap fz nm lm a++F) g):=by
 refine A9 mixed func55 ?_;rw[L7,gM];refine XY (φ:=φ) (F:=F) (A:=A) (ap:=ap) (t:=t) (p:=p) (λx:EnX=>enC b t ap fz nm lm x) (λx=>(x.steps,x.num)) MB _ _ ?_ ?_ c d hd f
 ·intro ψ x w Δ le st j v hv;have i:(lkV t ap fz x.sl nm lm)[j]? =some v:=by
   have e:lkV t ap fz x.sl nm lm=(plV t++ [.pointer ap]) ++ [sv fz.1,sv fz.2.1,sv fz.2.2.1,.int .i64 fz.2.2.2.1,sv x.sl,.map (some nm),.map (some lm)]:=rfl;rw[e,oK (oI.1 hv).1];exact hv
  rw[EN,qH];exact sH st i
 ·intro ψ w x s' n s to Δ le st hf;exact YU hf st
end
abbrev jG:Type:=Se
abbrev lkT(p:dtP)(A:dtA)(fa:dtF)(steps:List Stp)(nm lm:Option Nat):jG:=(p.1,p.2.1,p.2.2.1,p.2.2.2.1,p.2.2.2.2.1,p.2.2.2.2.2,A,fa.1,fa.2.1,fa.2.2.1,fa.2.2.2,steps,nm,lm)
structure LkK (φ:AD) (a:sV) (t:Slc×Slc×Slc×Slc×Slc×Slc×Unit) (ap:nG) (fz:Slc×Slc×Slc×Int×Unit) (sl:Slc) (nm lm:Nat) (p:dtP) (A:dtA) (fa:dtF) (steps:List Stp):Prop where
 cells:Cv φ (some a) (lkV t ap fz sl nm lm)
 pl:PlK φ t p
 kA:Pt Jl φ ap A
 f0:nY oH φ fz.1 fa.1
 f1:nY (pP (oG .i64)) φ fz.2.1 fa.2.1
 f2:nY (pP (oG .i64)) φ fz.2.2.1 fa.2.2.1
 f3:fz.2.2.2.1=fa.2.2.2
 ks:nY Uj φ sl steps
section
variable {φ ψ:AD}{h:AH}{F:List Chk}{a:sV}{t:Slc×Slc×Slc×Slc×Slc×Slc×Unit}{p:dtP}{ap:nG}{A:dtA}{fz:Slc×Slc×Slc×Int×Unit}{sl:Slc}{nm lm b:Nat}{fa:dtF}{steps:List Stp}
theorem LkK.mono(H:LkK φ a t ap fz sl nm lm p A fa steps)(b:Sub φ ψ):LkK ψ a t ap fz sl nm lm p A fa steps:=
 ⟨H.cells.mono b,H.pl.mono b,H.kA.mono b,H.f0.mono b,H.f1.mono b,H.f2.mono b,H.f3,H.ks.mono b⟩
theorem LkK.at(H:LkK φ a t ap fz sl nm lm p A fa steps)(st:St φ F h){j:Nat}{v:sU}(b:(lkV t ap fz sl nm lm)[j]? =some v):Bb h (a.add j)=some v:=AG st.sub (H.cells.at j b)
theorem LkK.pv(H:LkK φ a t ap fz sl nm lm p A fa steps)(st:St φ F h):∀j v,(plV t)[j]? =some v→Bb h (a.add j)=some v:=λj v b=>H.at st (by
 rw[oK (oI.1 b).1];exact b)
theorem LkK.pt(H:LkK φ a t ap fz sl nm lm p A fa steps):Pt Uk φ (some a) (lkT p A fa steps (some nm) (some lm)):=by
 refine⟨a,_,rfl,?_,H.cells⟩;exact⟨[_],_,rfl,⟨t.1,rfl,H.pl.k0⟩,[_],_,rfl,⟨t.2.1,rfl,H.pl.k1⟩,[_],_,rfl,⟨t.2.2.1,rfl,H.pl.k2⟩,[_],_,rfl,⟨t.2.2.2.1,rfl,H.pl.k3⟩,[_],_,rfl,⟨t.2.2.2.2.1,rfl,H.pl.k4⟩,[_],_,rfl,⟨t.2.2.2.2.2.1,rfl,H.pl.k5⟩,[_],_,rfl,⟨ap,rfl,H.kA⟩,
  [_],_,rfl,⟨fz.1,rfl,H.f0⟩,[_],_,rfl,⟨fz.2.1,rfl,H.f1⟩,[_],_,rfl,⟨fz.2.2.1,rfl,H.f2⟩,[_],_,rfl,(show[Value.int .i64 fz.2.2.2.1] = [Value.int .i64 fa.2.2.2] by rw[H.f3]),[_],_,rfl,⟨sl,rfl,H.ks⟩,[_],_,rfl,rfl,rfl⟩
end
abbrev RdS:Type:=List Ae×List nH
noncomputable def Rd(p:dtP)(A:dtA)(fa:dtF)(steps:List Stp)(a:List (Stp×Int))(st:RdS)(s:Stp)(to:Int):Option RdS:=(CN (nT p)).bind λc=>(CO (lkT p A fa steps none none) to 0).bind λb=>(cond b ((Aw c 0).bind λu=>some u.2) (some c)).bind λd=>(C2 A to).bind λes=>(forS (σ:=Ae×nH) 0 (es.length:Int) (d,[]) λj z=>(idx es j).bind λe=>(Bp p e.1).bind λt=>cond t ((Aw z.1 e.1).bind λu=>some (u.2,z.2)) ((idx fa.1 (bO .i64 (e.1 - nT p))).bind λb=>cond b ((app z.2 [(BZ (to,e.1) a).getD 0]).bind λl=>some (z.1,l)) (some z))).bind λz=>(app st.1 [z.1]).bind λf=>(app st.2 [z.2]).bind λg=>some (f,g)
structure RdX where
 dl:Slc
 el:Slc
 ps:List nG
 ds:List Ae
 es:List nH
 eq:ps.length=ds.length
abbrev rdC(b c nm:Nat)(a:List (Stp×Int))(x:RdX):List Chk:=
 cW 131 b [sv x.dl]::cW 57 c [sv x.el]::Fq x.dl x.ps::WI x.el x.es::cM DT (oG .i64) nm a::Aa x.ps x.ds
theorem ab:Fy eE 30 30 3 1:=ZX
section
variable {φ ψ:AD}{h:AH}{F:List Chk}{a:sV}{t:Slc×Slc×Slc×Slc×Slc×Slc×Unit}{p:dtP}{ap:nG}{A:dtA}{fz:Slc×Slc×Slc×Int×Unit}{sl:Slc}{nm lm b:Nat}{fa:dtF}{steps:List Stp}
theorem T6{b c:Nat}{a:List (Stp×Int)}{x:RdX}{q:nG}{s:Ae}{d e:Slc}{es:List nH}
 (H:St φ (cW 57 c [sv e]::cW 131 b [sv d]::WI e es::Fq d (x.ps++ [q])::Bi q s::cM DT (oG .i64) nm a::(Aa x.ps x.ds++F)) h):
 St φ (rdC b c nm a ⟨d,e,x.ps++ [q],x.ds++ [s],es,by simp[x.eq]⟩ ++F) h:=by have f:Aa (x.ps++ [q]) (x.ds++ [s])=Aa x.ps x.ds++ [Bi q s]:=MX x.eq q s;show St φ (cW 131 b [sv d]::cW 57 c [sv e]::Fq d (x.ps++ [q])::WI e es::cM DT (oG .i64) nm a::(Aa (x.ps++ [q]) (x.ds++ [s]) ++F)) h;rw[f,oE];refine H.perm<|(oR _ _ _).trans (nZ _ (nZ _ ((oR _ _ _).trans (nZ _ (nZ _ ((oR _ _ _).trans (nZ _ ?_)))))));exact(mE (l₁:=Aa x.ps x.ds)).symm
theorem Wa{c2 D E:Nat}(K:LkK φ a t ap fz sl nm lm p A fa steps)(a6:Ef φ ⟨c2,0,none⟩=some (.pointer (some a))){f:List (Stp×Int)}{x:RdX}{n s to:Int}{r:RdS}(hd:Rd p A fa steps f (x.ds,x.es) (n,s) to=some r)(s0:St φ (rdC D E nm f x++F) h):
 nX eE 95 [.agg #[.int .i64 n,.int .i64 s],.int .i64 to,.pointer (lF c2),.pointer (lF D),.pointer (lF E)] h (An λv h'=>v= .tuple #[] ∧ ∃ψ x',Sub φ ψ∧(x'.ds,x'.es)=r∧St ψ (rdC D E nm f x'++F) h'):=by
 refine A9 mixed func95 ?_;rw[show Ab eE f95 [.agg #[.int .i64 n,.int .i64 s],.int .i64 to,.pointer (lF c2),.pointer (lF D),.pointer (lF E)] =Er (n,s,()) to c2 D E from J8 (n,s,()) to c2 D E];unfold Er;unfold Rd at hd;have⟨e5,b9,hd⟩:=bS hd;have⟨b,hb,hd⟩:=bS hd;have⟨c0,G,hd⟩:=bS hd;have⟨es,c1,hd⟩:=bS hd;have⟨X,c5,hd⟩:=bS hd;obtain⟨d',c6,hd⟩:=bS hd;obtain⟨e',Y,hd⟩:=bS hd;obtain rfl:=iS hd;have Z:∀ {ψ:AD} {Γ:List Chk} {w:AH},Sub φ ψ→St ψ Γ w→Bb w ⟨c2,0,none⟩=some (.pointer (some a)):=λle st=>AG st.sub (Ar le a6);have n0:t.1.2.1=p.1.length:=K.pl.k0.length;refine AU (vs:=[.int .i64 n,.int .i64 s]) s0 ?_;intro r1 h1 s1;have s1:=s1.tail;refine AF (Z (oT _) s1) rfl<|AI _ rfl<|AF (by have:=K.at s1 (j:=0) rfl;rwa [add_zero]at this) rfl ?_;rw[n0];refine AK (Ej s1 b9) ?_;rintro _ h2 ⟨ψ2,q,l2,a0,rfl,rfl,s2⟩;refine⟨q,rfl,AF (Z a0 s2) rfl<|AK (HE (K.mono a0).pt s2 (show CO (lkT p A fa steps (some nm) (some lm)) to 0=some b from hb)) ?_⟩;rintro _ h3 ⟨ψ3,y3,c7,rfl,rfl,s3⟩;refine⟨y3,rfl,?_⟩;have U:=a0.trans c7;refine AY (λ(_:Unit) w g=>∃ψ,Sub φ ψ∧St ψ (Bi q g::(rdC D E nm f x++F)) w) (g:=c0) ?_ ?_
 ·refine mP G rfl (λG=>?_) (λG=>?_)
  ·have⟨u,hu,G⟩:=bS G;obtain rfl:=iS G;refine AK (Cd s3 hu) ?_;rintro _ h4 ⟨ψ4,y4,l4,N,rfl,e4,s4⟩;refine⟨y4,rfl,?_⟩
   have:u.2=l4:=by rw[←e4]
   rw[this];exact lG rfl ⟨ψ4,U.trans N,s4⟩
  ·obtain rfl:=iS G;exact lG rfl ⟨ψ3,U,s3⟩
 ·rintro _ h4 ⟨ψ4,N,s4⟩;refine AF (Z N s4) rfl<|AI _ rfl<|AF ((K.mono N).at s4 (j:=6) rfl) rfl<|AK (GJ (K.mono N).kA s4 c1) ?_;rintro _ h5 ⟨ψ5,c8,l5,c9,rfl,rfl,a7,s5⟩;refine⟨c8,rfl,?_⟩;have a8:=a7.length;have V:=N.trans c9;refine Af (λ(z:Int×Slc×Unit) w g=>∃ψ,Sub φ ψ∧St ψ (cR 3 (oG .i64) z.2.1 g.2::Bi q g.1::(rdC D E nm f x++F)) w) (g:=X) ?_ ?_
  ·refine By c5 (λi (z:Int×Slc×Unit) w g=>z.1=i∧ ∃ψ,Sub ψ5 ψ∧St ψ (cR 3 (oG .i64) z.2.1 g.2::Bi q g.1::(rdC D E nm f x++F)) w) rfl ⟨rfl,ψ5,oT _,sE _ _ s5⟩ ?_ ?_
   ·rintro i z w ⟨gs,gl⟩ e ⟨rfl,ψ6,B,s6⟩ o h0 hlt hw;dsimp only at s6 o;have L:=V.trans B;refine Ad (by rw[a8];exact mW hlt) ?_;have⟨W,d0,o⟩:=bS o;have⟨tm,d1,o⟩:=bS o;obtain⟨A1,e6,d2,d3,q1,a9⟩:=(a7.mono B).get d0;refine AI _ d2 (Ai d3 ?_);obtain⟨_,_,rfl,rfl,rfl⟩:=q1;refine AF (AG s6.sub (a9 0 _ rfl)) rfl<|AF (by rw[Aj];exact AG s6.sub (a9 1 _ rfl)) rfl<|AU (vs:=[.int .i64 0,.int .i64 0]) s6 ?_;intro P h7 s7;refine Cr (b:=P) (j:=0) (v:=.int .i64 W.1) s7 rfl nP ?_;intro h8 Q;refine Cr (b:=P) (j:=1) (v:=.int .i64 W.2) Q rfl nP ?_;intro h9 C;refine AF (Z L C) rfl<|AI _ rfl (VM (v:=.nilFunc) ((K.mono L).pv C) (C.cell rfl) (K.mono L).pl C d1 ?_);intro b0 a1 M c;have d:=L.trans M;refine AY (λ(y:Slc×Unit) w g=>∃ψ,Sub ψ5 ψ∧St ψ (cR 3 (oG .i64) y.1 g.2::Bi q g.1::(rdC D E nm f x++F)) w) (g:=e) ?_ ?_
    ·refine mP o rfl (λo=>?_) (λo=>?_)
     ·have⟨u,hu,o⟩:=bS o;obtain rfl:=iS o;refine AA (b:=P) (j:=0) (x:=W.1) c rfl<|AK (Cd (c.tail.at1) hu) ?_;rintro _ O ⟨d4,d5,d6,b1,rfl,d7,l⟩;refine⟨d5,rfl,?_⟩
      have:u.2=d6:=by rw[←d7]
      rw[this];exact lG rfl ⟨d4,(B.trans M).trans b1,l.at1⟩
     ·have⟨bb,d8,o⟩:=bS o;refine AF (Z d c) rfl<|AI _ rfl<|AF ((K.mono d).at c (j:=7) rfl) rfl<|AA (b:=P) (j:=0) (x:=W.1) c rfl<|AF (Z d c) rfl<|AI _ rfl<|AF (by have:=(K.mono d).at c (j:=0) rfl;rwa [add_zero]at this) rfl ?_;rw[n0];obtain⟨A2,e7,d9,e0,q4,e1⟩:=((K.mono d).f0).get d8;refine AI _ d9 (Ai e0 ?_);obtain rfl:=q4;refine AF (AG c.sub (e1 0 _ rfl)) rfl<|AY (λ(y:Slc×Unit) w g=>∃ψ,Sub ψ5 ψ∧St ψ (cR 3 (oG .i64) y.1 g.2::Bi q g.1::(rdC D E nm f x++F)) w) (g:=e) ?_ ?_
      ·refine mP o rfl (λo=>?_) (λo=>?_)
       ·obtain⟨l',e2,o⟩:=bS o;obtain rfl:=iS o;refine AF (Z d c) rfl<|AI _ rfl<|AF ((K.mono d).at c (j:=12) rfl) rfl<|AA (b:=P) (j:=0) (x:=W.1) c rfl<|Ha (kk:=DT) (a:=.int .i64) (k:=(to,W.1)) (m:=f) (0:Int) qZ T5 (i:=t3) nU rfl (c.at7)<|AU (vs:=[.int .i64 ((BZ (to,W.1) f).getD 0)]) c ?_;intro e8 O l;have cw:=pT l;refine AV (ms:=[(BZ (to,W.1) f).getD 0]) ab (l.at2) rfl cw (.cons (a:=[_]) rfl .nil) rfl e2 ?_;intro e9 a2 I;exact lG rfl ⟨b0,B.trans M,I.at1.tail.at1.tail⟩
       ·obtain rfl:=iS o;exact lG rfl ⟨b0,B.trans M,c.tail⟩
      ·rintro y O H;exact lG rfl H
    ·rintro y O H;exact lH rfl rfl ⟨hw,H⟩
   ·rintro i z w ⟨rfl,ψ6,B,H⟩ hge;refine AW (by rw[a8];exact mV (oW.2 hge))<|AJ (lI rfl ⟨ψ6,V.trans B,H⟩)
  ·rintro J h6 ⟨ψ6,B,s6⟩;have⟨ψ7,e3,a3,s7⟩:=oS (t:=J.2.1) s6;have R:=B.trans e3;obtain⟨a4,rfl⟩:=Hu c6 x.eq q;refine AA (b:=D) (j:=0) (x:=x.dl) s7.at1 rfl<|AA (b:=E) (j:=0) (x:=x.el) s7.at2 rfl<|DP ?_ ?_
   ·refine AU (vs:=[.pointer q]) s7 ?_;intro f1 h8 Q;refine AP (Q.at3.cell rfl)<|AP (Q.at2.cell rfl) ?_;have cw:=pT Q;refine DP ?_ ?_
    ·refine AV (ms:=[q]) Sn (Q.at4) rfl cw (.cons (a:=[_]) rfl .nil) rfl a4 ?_;intro b2 h9 C;refine AP (C.at4.cell rfl)<|AU (vs:=[sv J.2.1]) C ?_;intro f2 a1 c;refine AP (c.at5.cell rfl) ?_;have S:=pT c;refine AV (ms:=[X.2]) XK (c.at6) rfl S (.cons (a:=[_]) ⟨J.2.1,rfl,a3⟩ .nil) rfl Y ?_;intro b3 O l;refine Cr (b:=D) (j:=0) (v:=sv b2) (l.at5) rfl nP ?_;intro a2 I;refine Cr (b:=E) (j:=0) (v:=sv b3) (I.at6) rfl nP ?_;intro b4 T;exact AC ⟨rfl,ψ7,⟨b2,b3,x.ps++ [q],x.ds++ [X.1],e',by simp[x.eq]⟩,R,rfl,T6 T.at3.tail.at4.tail⟩
    ·refine AU (vs:=[sv J.2.1]) Q ?_;intro f3 h9 C;refine AP (C.at4.cell rfl)<|AP (C.at3.cell rfl) ?_;have a5:=pT C.at1;refine AV (ms:=[q]) Sn (C.at5) rfl a5 (.cons (a:=[_]) rfl .nil) rfl a4 ?_;intro b5 a1 c;refine AP (c.at5.cell rfl) ?_;have S:=pT c.at1;refine AV (ms:=[X.2]) XK (c.at6) rfl S (.cons (a:=[_]) ⟨J.2.1,rfl,a3⟩ .nil) rfl Y ?_;intro b6 O l;refine Cr (b:=D) (j:=0) (v:=sv b5) (l.at5) rfl nP ?_;intro a2 I;refine Cr (b:=E) (j:=0) (v:=sv b6) (I.at6) rfl nP ?_;intro b4 T;exact AC ⟨rfl,ψ7,⟨b5,b6,x.ps++ [q],x.ds++ [X.1],e',by simp[x.eq]⟩,R,rfl,T6 T.at4.tail.at4.tail⟩
   ·refine AU (vs:=[sv J.2.1]) s7 ?_;intro f4 h8 Q;refine AP (Q.at3.cell rfl)<|AP (Q.at2.cell rfl)<|AU (vs:=[.pointer q]) Q ?_;intro f5 h9 C;refine AP (C.at4.cell rfl)<|AP (C.at3.cell rfl) ?_;have a5:=pT C;refine AV (ms:=[q]) Sn (C.at5) rfl a5 (.cons (a:=[_]) rfl .nil) rfl a4 ?_;intro b7 a1 c;refine AP (c.at5.cell rfl) ?_;have S:=pT c.at2;refine AV (ms:=[X.2]) XK (c.at6) rfl S (.cons (a:=[_]) ⟨J.2.1,rfl,a3⟩ .nil) rfl Y ?_;intro b8 O l;refine Cr (b:=D) (j:=0) (v:=sv b7) (l.at5) rfl nP ?_;intro a2 I;refine Cr (b:=E) (j:=0) (v:=sv b8) (I.at6) rfl nP ?_;intro b4 T;exact AC ⟨rfl,ψ7,⟨b7,b8,x.ps++ [q],x.ds++ [X.1],e',by simp[x.eq]⟩,R,rfl,T6 T.at4.tail.at4.tail⟩
end
noncomputable def Pq(p:dtP)(A:dtA)(fa:dtF)(steps:List Stp)(a:List (Stp×Int)):Option RdS:=SP p A (Rd p A fa steps a) ([],[])
noncomputable def ac(p:dtP)(A:dtA)(fa:dtF)(c:List (Stp×Int))(n:Int)(a:nH)(i:Int)(z:Int×List nH):Option (Int×List nH):=(idx a i).bind λsym=>need (0≤i∧i< (a.length:Int))<|(EX fa p (a.drop (i+1).toNat)).bind λe=>(cond e.2 ((Bp p sym).bind λt=>some (!t)) (some false)).bind λb=>(cond b ((idx z.2 ((BZ (z.1,sym) c).getD 0)).bind λrow=>(app row [n]).bind λd=>DQ z.2 ((BZ (z.1,sym) c).getD 0) d) (some z.2)).bind λf=>(BF A z.1 sym).bind λst=>some (st,f)
noncomputable def He(p:dtP)(A:dtA)(fa:dtF)(steps:List Stp)(a:List (Stp×Int)):Option (List nH):=(EC (steps.length:Int) ([]:nH)).bind λe0=>forS (σ:=List nH) 0 (steps.length:Int) e0 λn E=>(idx steps n).bind λs=>forS (σ:=List nH) 0 (p.2.2.1.length:Int) E λk E=>(idx p.2.2.1 k).bind λr=>cond (r.1 !=s.2) (some E) ((forS (σ:=Int×List nH) 0 (r.2.1.length:Int) (s.1,E) (ac p A fa a n r.2.1)).bind λz=>some z.2)
section
variable {φ ψ:AD}{h:AH}{F:List Chk}{a:sV}{t:Slc×Slc×Slc×Slc×Slc×Slc×Unit}{p:dtP}{ap:nG}{A:dtA}{fz:Slc×Slc×Slc×Int×Unit}{sl:Slc}{nm lm b:Nat}{fa:dtF}{steps:List Stp}
theorem gN(l:nG)(a b c:Nat):H5 l a b c=dV l 95 λn s to=>[.agg #[.int .i64 n,.int .i64 s],.int .i64 to,.pointer (lF a),.pointer (lF b),.pointer (lF c)]:=rfl
theorem ae{i d f:Nat}(K:LkK φ a t ap fz sl nm lm p A fa steps)(c:Ef φ ⟨i,0,none⟩=some (.pointer (some a))){b:List (Stp×Int)}{x:RdX}{r:RdS}(hd:SP p A (Rd p A fa steps b) (x.ds,x.es)=some r)(k:St φ (rdC d f nm b x++F) h):
 nX eE 55 [.pointer (some a),.func (.func 95) #[] #[.pointer (lF i),.pointer (lF d),.pointer (lF f)]] h (An λv l=>v= .tuple #[] ∧ ∃ψ g,Sub φ ψ∧(g.ds,g.es)=r∧St ψ (rdC d f nm b g++F) l):=by
 refine A9 mixed func55 ?_;rw[L8,gN];refine XY (φ:=φ) (F:=F) (A:=A) (ap:=ap) (t:=t) (p:=p) (λx:RdX=>rdC d f nm b x) (λx=>(x.ds,x.es)) (Rd p A fa steps b) _ _ ?_ ?_ K.kA K.pl hd k
 ·intro ψ x w Δ le st j v hv;refine(K.mono le).at st ?_;have e:lkV t ap fz sl nm lm=(plV t++ [.pointer ap]) ++ [sv fz.1,sv fz.2.1,sv fz.2.2.1,.int .i64 fz.2.2.2.1,sv sl,.map (some nm),.map (some lm)]:=rfl;rw[e,oK (oI.1 hv).1];exact hv
 ·intro ψ w x s' n s to Δ le st hf;exact Wa (K.mono le) (Ar le c) hf st
theorem YV(K:LkK φ a t ap fz sl nm lm p A fa steps){c:List (Stp×Int)}{r:RdS}(hd:Pq p A fa steps c=some r)(w:St φ (cM DT (oG .i64) nm c::F) h):
 nX eE 57 [.pointer (some a)] h (An λv y=>∃(ψ:AD) (n o:Slc) (ps:List nG),Sub φ ψ∧v=((.tuple mB):Sh).val (n,o,())∧ps.length=r.1.length∧nY pW ψ n ps∧nY (pP (oG .i64)) ψ o r.2∧St ψ (Aa ps r.1++(cM DT (oG .i64) nm c::F)) y):=by refine A9 mixed func57 ?_;rw[MA];unfold H6;unfold Pq at hd;refine AU (vs:=[.pointer (some a)]) w ?_;intro r1 O f;have⟨z,d,q,f⟩:=Dg.St.box f;refine AU (vs:=[.slice none 0 0]) f ?_;intro s P B;refine AU (vs:=[.slice none 0 0]) B ?_;intro r3 C u;refine AF (AG u.sub q) rfl ?_;have D:St z (rdC s r3 nm c ⟨(none,0,0),(none,0,0),[],[],[],rfl⟩ ++F) C:=(sE 187 pW (sE 30 (pP (oG .i64)) u.at1)).at3.at3;refine AK (ae (K.mono d) q (x:=⟨(none,0,0),(none,0,0),[],[],[],rfl⟩) hd D) ?_;rintro _ Q ⟨rfl,R,E,g,G,i⟩;refine⟨(),rfl,?_⟩;obtain⟨k,l,ps,H,es,eq⟩:=E;obtain rfl:=G;refine AA (b:=s) (j:=0) (x:=k) i rfl<|AA (b:=r3) (j:=0) (x:=l) i.at1 rfl ?_;have⟨S,m,I,J⟩:=oS (t:=k) i.at2;have⟨L,e,M,N⟩:=oS (t:=l) J.at2;exact AC ⟨L,k,l,ps,((d.trans g).trans m).trans e,rfl,eq,I.mono e,M,N.tail.tail.perm (mE (l₁:=Aa ps H)).symm⟩
end
theorem iY:Sc eE 57 30 (.slice none 0 0):=⟨underlying57,⟨t30,nU,rfl,⟨_,rfl,rfl⟩,nQ⟩⟩
theorem af{α:Type}{e:TypeId}{r:Ro α}{φ:AD}{h:AH}{F:List Chk}(st:St φ F h):∀n:Nat,St φ (QE e r (pS n mQ) (pS n []) ++F) h:=by
 intro n
 induction n with
 |zero=>exact st
 |succ n a=>exact sE e r a
theorem ag{α:Type}{r:Ro α}{φ:AD}:∀ {ts:List Slc}{E:List (List α)}{vs:List sU},ts.length=E.length→(∀(i:Nat) t l,ts[i]? =some t→E[i]? =some l→nY r φ t l)→Ro.slc.All φ vs ts→(pP r).All φ vs E:=by
 intro ts
 induction ts with
 |nil=>
  intro E vs b c H;cases E with
  |nil=>cases H;exact .nil
  |cons _ _=>cases b
 |cons t ts d=>
  intro E vs b c H;cases E with
  |nil=>cases b
  |cons l E=>
   cases H with
   | @cons x v _ _ e f=>
    obtain rfl:x= [sv t]:=e;exact Ro.All.cons (a:=[_]) ⟨t,rfl,c 0 t l rfl rfl⟩ (d (by simpa using b) (λi g l' h j=>c (i+1) g l' (by simpa using h) (by simpa using j)) f)
theorem KA{α:Type}{r:Ro α}{φ:AD}{o:Slc}{ts:List Slc}{E:List (List α)}(a:ts.length=E.length)(b:∀(i:Nat) t l,ts[i]? =some t→E[i]? =some l→nY r φ t l)(H:nY sJ φ o ts):nY (pP r) φ o E:=by obtain⟨c,d,e,f,vs,g,h⟩:=H;exact⟨a.symm.trans c,d,e,λj=>List.eq_nil_of_length_eq_zero (by rw[←a,f j];rfl),vs,ag a b g,h⟩
abbrev Qa(o:Slc)(ts:List Slc)(E:List nH)(Δ:List Chk):List Chk:=cR 30 sJ o ts::(QE 3 (oG .i64) ts E++Δ)
section
variable {φ ψ:AD}{h:AH}{F:List Chk}{a:sV}{t:Slc×Slc×Slc×Slc×Slc×Slc×Unit}{p:dtP}{ap:nG}{A:dtA}{fz:Slc×Slc×Slc×Int×Unit}{sl:Slc}{nm lm b:Nat}{fa:dtF}{steps:List Stp}
theorem dX{o:Slc}{ts:List Slc}{E l:List nH}{Δ:List Chk}{k n:Int}{row c:nH}{K:T}{P:Bl→AH→Prop}(x:ts.length=E.length)(y:idx E k=some row)(z:app row [n] =some c)(A:DQ E k c=some l)(st:St φ (Qa o ts E Δ) h)
 (B:∀ts' h',ts'.length=l.length→St φ (Qa o ts' l Δ) h'→K.wp eE P h'):
 (nW o.1 λm=>chk (0≤k∧k< (o.2.1:Nat))<|pB .slice (m.add (oJ k *1)) λ(p:Slc)=>rM (.cells #[(.int .i64 n)] 3 (0,0)) λd=>
  oV (oA #[30,30] 30 #[(sv p),(.slice (lF d) 1 1)]) lS λ(b:Slc)=>
  nW o.1 λq=>chk (0≤k∧k< (o.2.1:Nat))<|pN (q.add (oJ k *1)) (sv b)<|K).wp eE P h:=by
 have⟨k0,S,C⟩:=B9 y;have g:k.toNat<ts.length:=nJ
 have v:=bD g;obtain⟨u,i⟩:∃u,ts[k.toNat] =u:=⟨_,rfl⟩;rw[i]at v;have D:idx ts k=some u:=by rw[MU k0 g,i]
 have⟨U,F,r,s,r1,t⟩:=sT st D;refine AI _ r (Ai s ?_);obtain rfl:=r1;refine AF (t 0 _ rfl) rfl<|AU (vs:=[.int .i64 n]) st ?_;intro d G s4;have H:=pT s4;have⟨rest,I,J⟩:=MT (f:=cR 3 (oG .i64)) v C;have L:St φ (cR 3 (oG .i64) u row::cW 3 d [.int .i64 n]::cR 30 sJ o ts::(rest++Δ)) G:=
  s4.perm ((nZ _ (nZ _ (oD Δ I))).trans (BP 2 (cW 3 d [.int .i64 n]::cR 30 sJ o ts::cR 3 (oG .i64) u row::(rest++Δ))))
 refine AV (ms:=[n]) ab L rfl H (.cons (a:=[_]) rfl .nil) rfl z ?_;intro b V M;obtain⟨e0,W,rfl⟩:=EL A;have e:DQ ts k b=some (ts.set k.toNat b):=by unfold DQ;rw[mZ ⟨k0,nJ⟩]
 have w:=M.at2;have⟨X,j,N⟩:=w.there e;refine AI _ j (Ai N (FH w e rfl j ?_));intro O Q;refine B (ts.set k.toNat b) O (by simp[x]) ?_;have R:=Q.at2.tail;exact R.perm (nZ _ (oD Δ (J b c).symm))
theorem dY{K:Slc→Slc→Slc→Slc→Slc→Slc→T}{P:Bl→AH→Prop}(b:∀j v,(plV t)[j]? =some v→Bb h (a.add j)=some v)(H:(K t.1 t.2.1 t.2.2.1 t.2.2.2.1 t.2.2.2.2.1 t.2.2.2.2.2.1).wp eE P h):
 (pB .slice a λ(t3:Slc)=>pB .slice (a.add 1) λ(t4:Slc)=>pB .slice (a.add 2) λ(t5:Slc)=>pB .slice (a.add 3) λ(t6:Slc)=>pB .slice (a.add 4) λ(t7:Slc)=>pB .slice (a.add 5) λ(t8:Slc)=>K t3 t4 t5 t6 t7 t8).wp eE P h:=by refine AF (by have:=b 0 _ rfl;rwa [add_zero]at this) rfl<|AF (b 1 _ rfl) rfl<|AF (b 2 _ rfl) rfl<|AF (b 3 _ rfl) rfl<|AF (b 4 _ rfl) rfl<|AF (b 5 _ rfl) rfl H
theorem CA{b:Nat}{vs:List sU}(c:Cv φ (lF b) vs)(st:St φ F h){j:Nat}{v:sU}(a:vs[j]? =some v):Bb h ⟨b,j,none⟩=some v:=by
 have:=AG st.sub (c.at j a)
 rwa [EN,qH]at this
theorem T7(gk:Dg.Glob φ)(K:LkK φ a t ap fz sl nm lm p A fa steps){G:List (Stp×Int)}{r:List nH}(hd:He p A fa steps G=some r)(s0:St φ (cM DT (oG .i64) nm G::F) h):
 nX eE 60 [.pointer (some a)] h (An λv h'=>∃(ψ:AD) (y:Slc),Sub φ ψ∧v=lS.val y∧nY (pP (oG .i64)) ψ y r∧St ψ (cM DT (oG .i64) nm G::F) h'):=by
 refine A9 mixed func60 ?_;rw[JU];unfold GL;unfold He at hd;have⟨e0,b3,hd⟩:=bS hd;obtain⟨m0,m1,rfl⟩:=Qy b3;have nS:sl.2.1=steps.length:=K.ks.length;have nR:t.2.2.1.2.1=p.2.2.1.length:=K.pl.k2.length;obtain⟨I,X⟩:∃I:List Chk,I=cM DT (oG .i64) nm G::F:=⟨_,rfl⟩;refine AI _ rfl<|AF (K.at s0 (j:=11) rfl) rfl<|FW (r:=sJ) (x:=mQ) (l:=pS (steps.length:Int).toNat mQ) iY s0 rfl rfl (by rw[nS];unfold EC;rw[mZ ⟨m0,m1⟩]) ?_;intro o h1 s1;have s2:St φ (Qa o (pS (steps.length:Int).toNat mQ) (pS (steps.length:Int).toNat []) I) h1:=by
  rw[X];exact(af (e:=3) (r:=oG .i64) s1 _).perm (mE (l₁:=QE 3 (oG .i64) _ _))
 refine AI _ rfl<|AF (K.at s2 (j:=11) rfl) rfl<|Af (λ(y:Int×Unit) w E=>∃ψ ts,Sub φ ψ∧ts.length=E.length∧St ψ (Qa o ts E I) w) (g:=r) ?_ ?_
 ·refine By hd (λi (y:Int×Unit) w E=>y.1=i∧ ∃ψ ts,Sub φ ψ∧ts.length=E.length∧St ψ (Qa o ts E I) w) rfl ⟨rfl,φ,_,oT _,nP,s2⟩ ?_ ?_
  ·rintro i z w E e ⟨rfl,ψ,ts,le,hl,st⟩ he h0 hlt hw;refine Ad (by rw[nS];exact mW hlt) ?_;have⟨s,hs,he⟩:=bS he;obtain⟨A1,d6,b4,b5,q1,a3⟩:=(K.ks.mono le).get hs;refine AI _ b4 (Ai b5 ?_);obtain⟨_,_,rfl,rfl,rfl⟩:=q1;refine AF (AG st.sub (a3 0 _ rfl)) rfl<|AF (by rw[Aj];exact AG st.sub (a3 1 _ rfl)) rfl<|AU (vs:=[.int .i64 0,.int .i64 0]) st ?_;intro a4 h3 s3;refine Cr (b:=a4) (j:=0) (v:=.int .i64 s.1) s3 rfl nP ?_;intro h4 s4;refine Cr (b:=a4) (j:=1) (v:=.int .i64 s.2) s4 rfl nP ?_;intro h5 s5;have⟨ψ1,Y,cB,P⟩:=St.blk s5;have J:=le.trans Y;refine AI _ rfl<|AF ((K.mono J).at P (j:=2) rfl) rfl<|Af (λ(y:Int×Unit) w E=>∃ψ ts,Sub φ ψ∧ts.length=E.length∧St ψ (Qa o ts E I) w) (g:=e) ?_ ?_
   ·refine By he (λi (y:Int×Unit) w E=>y.1=i∧ ∃ψ ts,Sub ψ1 ψ∧ts.length=E.length∧St ψ (Qa o ts E I) w) rfl ⟨rfl,ψ1,ts,oT _,hl,P⟩ ?_ ?_
    ·rintro i2 z2 w2 E2 e2 ⟨rfl,ψ2,R,d,a5,S⟩ f d7 a6 b6;have W:=J.trans d;refine Ad (by rw[nR];exact mW a6) ?_;have⟨ru,b7,f⟩:=bS f;refine Af (λ(_:Unit) w (_:Unit)=>∃ψ ts,Sub ψ1 ψ∧ts.length=e2.length∧St ψ (Qa o ts e2 I) w) (g:=()) ?_ ?_
     ·refine Qk (K.pl.k2.mono W) b7 S ?_;intro d8 u h7 ku s7;have⟨ψ3,L,Z,s8⟩:=St.blk s7;have ku:=ku.mono L;have a7:=W.trans L;have a8:=cB.mono (d.trans L);refine AF (CA Z s8 (j:=0) rfl) rfl<|AF (CA a8 s8 (j:=1) rfl) rfl<|mP f rfl (λf=>?_) (λf=>?_)
      ·obtain rfl:=iS f;exact Qw () rfl ⟨ψ3,R,d.trans L,a5,s8⟩
      ·have⟨zz,b8,f⟩:=bS f;obtain rfl:=iS f;refine AF (CA a8 s8 (j:=0) rfl) rfl<|AF (CA Z s8 (j:=1) rfl) rfl ?_;have nu:=ku.length;refine Af (λ(y:Int×Int×Unit) w (g:Int×List nH)=>∃ψ ts,Sub ψ1 ψ∧ts.length=g.2.length∧St ψ (Qa o ts g.2 I) w) (g:=zz) ?_ ?_
       ·refine By b8 (λi (y:Int×Int×Unit) w (g:Int×List nH)=>y.1=i∧y.2.1=g.1∧ ∃ψ ts,Sub ψ3 ψ∧ts.length=g.2.length∧St ψ (Qa o ts g.2 I) w) rfl ⟨rfl,rfl,ψ3,R,oT _,a5,s8⟩ ?_ ?_
        ·rintro i4 z4 w4 ⟨g1,E4⟩ e4 ⟨rfl,hg,ψ4,D,B,a0,n⟩ c d9 a9 T;dsimp only at hg a0 n c;subst hg;have M:=a7.trans B;unfold ac at c;refine Ad (by rw[nu];exact mW a9) ?_;have⟨sym,b9,c⟩:=bS c;have⟨_,c⟩:=CG c;have⟨sq,b0,c⟩:=bS c;have⟨bb,C,c⟩:=bS c;obtain⟨E',q,c⟩:=bS c;have⟨so,c0,c⟩:=bS c;obtain rfl:=iS c;obtain⟨A4,e1,c1,c2,q4,c3⟩:=(ku.mono B).get b9;refine AI _ c1 (Ai c2 ?_);obtain rfl:=q4;refine AF (AG n.sub (c3 0 _ rfl)) rfl<|AI _ rfl ?_;have Q:=K.mono M;refine AF (Q.at n (j:=7) rfl) rfl<|AF (by rw[Aj];exact Q.at n (j:=8) rfl) rfl<|AF (by rw[Aj];exact Q.at n (j:=9) rfl) rfl<|AF (by rw[Aj];exact Q.at n (j:=10) rfl) rfl<|AI _ rfl (dY (Q.pv n) ?_);refine AF (CA (Z.mono B) n (j:=1) rfl) rfl ?_;obtain⟨q5,kt⟩:=(ku.mono B).cut (Tj (ku.mono B) (lo:=bO .i64 (z4.1+1)) (by rw[T];omega) (by rw[T];omega)) (sz:=1) rfl;refine Ai q5 ?_;rw[←T]at b0;refine AK (M1 (A:=fz) (gk.mono M) Q.f0 Q.f1 Q.f2 Q.pl kt n (r:=sq) (by rw[Q.f3];exact b0)) ?_;rintro _ h9 ⟨ψ5,y5,l5,b1,rfl,e5,k5,a1⟩;refine⟨y5,rfl,?_⟩;have c4:sq.2=y5.2.1:=by rw[←e5]
         rw[c4]at C;have N:=M.trans b1;refine AY (λ(y:Bool×Unit) w g=>y.1=g∧ ∃ψ,Sub ψ5 ψ∧St ψ (Qa o D E4 I) w) (g:=bb) ?_ ?_
         ·refine mP C rfl (λC=>?_) (λC=>?_)
          ·have⟨tm,c5,C⟩:=bS C;obtain rfl:=iS C;refine AI _ rfl (T3 ((K.mono N).pv a1) (K.mono N).pl a1 c5 ?_);intro ψ6 h6 U P;exact lG rfl ⟨rfl,ψ6,U,P⟩
          ·obtain rfl:=iS C;exact lG rfl ⟨rfl,ψ5,oT _,a1⟩
         ·rintro y c6 ⟨hy,ψ6,U,P⟩;obtain rfl:=hy;have O:=N.trans U;refine AY (λ(_:Unit) w g=>∃ts,ts.length=g.length∧St ψ6 (Qa o ts g I) w) (g:=E') ?_ ?_
          ·refine AE q rfl (λ_ q=>?_) (λ_ q=>?_)
           ·obtain⟨row,b2,q⟩:=bS q;obtain⟨d5,a2,q⟩:=bS q;refine AI _ rfl<|AF ((K.mono O).at P (j:=12) rfl) rfl ?_;have sM:St ψ6 (cM DT (oG .i64) nm G::(cR 30 sJ o D::(QE 3 (oG .i64) D E4++F))) c6:=by
             rw[X]at P;exact P.perm ((nZ _ (mE (l₁:=QE 3 (oG .i64) D E4))).trans (oR _ _ _))
            refine Ha (kk:=DT) (a:=.int .i64) (k:=(z4.2.1,sym)) (m:=G) (0:Int) qZ T5 (i:=t3) nU rfl sM<|dX a0 b2 a2 q P ?_;intro c7 c8 c9 V;exact lG rfl ⟨c7,c9,V⟩
           ·obtain rfl:=iS q;exact lG rfl ⟨D,a0,P⟩
          ·rintro _ c8 ⟨d0,d1,V⟩;refine AI _ rfl<|AF ((K.mono O).at V (j:=6) rfl) rfl<|AK (D9 (K.mono O).kA V c0) ?_;rintro _ e3 ⟨ψ7,y7,d2,rfl,rfl,d3⟩;exact⟨y7,rfl,lH rfl rfl ⟨T,rfl,ψ7,d0,((B.trans b1).trans U).trans d2,d1,d3⟩⟩
        ·rintro i4 z4 w4 ⟨rfl,hg,ψ4,D,B,H⟩ hge;refine AW (by rw[nu];exact mV (oW.2 hge))<|AJ (lI rfl ⟨ψ4,D,(d.trans L).trans B,H⟩)
       ·rintro _ h9 H;exact lJ rfl H
     ·rintro _ h9 H;exact lH rfl rfl ⟨b6,H⟩
    ·rintro i2 z2 w2 ⟨rfl,ψ2,R,d,H⟩ hge;refine AW (by rw[nR];exact mV (oW.2 hge))<|AJ (lI rfl ⟨ψ2,R,J.trans d,H⟩)
   ·rintro _ h9 H;exact lH rfl rfl ⟨hw,H⟩
  ·rintro i z w ⟨rfl,H⟩ hge;refine AW (by rw[nS];exact mV (oW.2 hge))<|AJ (lI rfl H)
 ·rintro _ h9 ⟨ψ,ts,le,hl,st⟩;have⟨ψ1,Y,k1,d4⟩:=oS (t:=o) st;have⟨ψ2,d,k2,S⟩:=St.freezeRows hl d4;rw[X]at S;exact AC ⟨ψ2,o,(le.trans Y).trans d,rfl,KA hl k2 (k1.mono d),S⟩
end
section
variable {s:Ae}
abbrev At:Type:=iK
def mz(ps:List nG)(L:List (At×Ae)):List (At×nG):=List.zipWith (λp e=>(e.1,p)) ps L
theorem XZ{k:At}:∀ {ps:List nG}{L:List (At×Ae)},BZ k L=none→BZ k (mz ps L)=none:=by
 intro ps
 induction ps with
 |nil=>intro L _;rfl
 |cons p ps a=>
  intro L h;cases L with
  |nil=>rfl
  |cons e L=>
   simp only[BZ]at h;split at h
   ·cases h
   ·rename_i b
    show BZ k ((e.1,p)::mz ps L)=none;simp only[BZ];rw[nA b];exact a h
theorem VO{k:At}{p:nG}:∀ {ps:List nG}{L:List (At×Ae)},ps.length=L.length→BZ k L=none→CK k s L=L++ [(k,s)] ∧CK k p (mz ps L)=mz (ps++ [p]) (L++ [(k,s)]):=by
 intro ps
 induction ps with
 |nil=>
  intro L a _;cases L with
  |nil=>exact⟨rfl,rfl⟩
  |cons _ _=>cases a
 |cons q ps c=>
  intro L a h;cases L with
  |nil=>cases a
  |cons e L=>
   simp only[BZ]at h;split at h
   ·cases h
   ·rename_i b
    obtain⟨d,f⟩:=c (L:=L) (by simpa using a) h;refine⟨?_,?_⟩
    ·simp only[CK,nA b,d];rfl
    ·show CK k p ((e.1,q)::mz ps L)=(e.1,q)::mz (ps++ [p]) (L++ [(k,s)]);simp only[CK,nA b,f]
theorem Ql{k:At}:∀ {ps:List nG}{L:List (At×Ae)},ps.length=L.length→BZ k L=some s→
 ∃(i:Nat) (p:nG),ps[i]? =some p∧(L.map (·.2))[i]? =some s∧BZ k (mz ps L)=some p∧(∀s',(CK k s' L).map (·.2)=(L.map (·.2)).set i s'∧mz ps (CK k s' L)=mz ps L∧(CK k s' L).length=L.length)∧ ∀s' a,CK k a (mz ps L)=mz (ps.set i a) (CK k s' L):=by
 intro ps
 induction ps with
 |nil=>
  intro L c h;cases L with
  |nil=>cases h
  |cons _ _=>cases c
 |cons q ps d=>
  intro L c h;cases L with
  |nil=>cases c
  |cons e L=>
   simp only[BZ]at h;split at h
   ·rename_i b
    cases h;refine⟨0,q,rfl,rfl,?_,λs'=>?_,λs' a=>?_⟩
    ·show BZ k ((e.1,q)::mz ps L)=some q;simp only[BZ,mZ b]
    ·simp only[CK,mZ b];exact⟨rfl,rfl,rfl⟩
    ·show CK k a ((e.1,q)::mz ps L)=mz (a::ps) (CK k s' (e::L));simp only[CK,mZ b];rfl
   ·rename_i b
    obtain⟨i,p,f,g,j,l,m⟩:=d (L:=L) (by simpa using c) h;refine⟨i+1,p,by simpa using f,by simpa using g,?_,λs'=>?_,λs' a=>?_⟩
    ·show BZ k ((e.1,q)::mz ps L)=some p;simp only[BZ,nA b];exact j
    ·have⟨n,o,r⟩:=l s';simp only[CK,nA b,rS,qX,List.length_cons];refine⟨by rw[n],?_,by rw[r]⟩;show(e.1,q)::mz ps (CK k s' L)=(e.1,q)::mz ps L;rw[o]
    ·show CK k a ((e.1,q)::mz ps L)=mz (q::ps.set i a) (CK k s' (e::L));simp only[CK,nA b];show(e.1,q)::CK k a (mz ps L)=(e.1,q)::mz (ps.set i a) (CK k s' L);rw[m s']
abbrev LkL:Type:=List (At×Ae)
noncomputable def VQ(p:dtP)(A:dtA)(b:List Ae)(n:Int)(s:Stp)(k:Int)(L:LkL):Option LkL:=(idx p.2.2.1 k).bind λr=>cond (r.1 !=s.2) (some L) ((Cf A s.1 r.2.1).bind λw=>(cond (BZ (w,k) L).isNone ((CN (nT p)).bind λc=>some (CK (w,k) c L)) (some L)).bind λa=>(idx b n).bind λo=>(BZ (w,k) a).bind λs'=>need (OkS s'∧OkS o)<|some (CK (w,k) (BT s' o) a))
noncomputable def S7(p:dtP)(A:dtA)(fa:dtF)(steps:List Stp)(a:List Ae):Option LkL:=(forS (σ:=LkL) 0 (steps.length:Int) [] λn L=>(idx steps n).bind λs=>forS (σ:=LkL) 0 (p.2.2.1.length:Int) L λk L=>VQ p A a n s k L).bind λL=>(B6 A).bind λm=>forS (σ:=LkL) 0 m L λn L=>(CO (lkT p A fa steps none none) n 0).bind λb=>cond b ((DY (nT p) [0]).bind λs=>some (CK (n,0) s L)) (some L)
abbrev giC(lm:Nat)(ps:List nG)(L:LkL)(Δ:List Chk):List Chk:=cM DT pW lm (mz ps L)::(Aa ps (L.map (·.2)) ++Δ)
section
variable {φ ψ:AD}{h:AH}{F:List Chk}{a:sV}{t:Slc×Slc×Slc×Slc×Slc×Slc×Unit}{p:dtP}{ap:nG}{A:dtA}{fz:Slc×Slc×Slc×Int×Unit}{sl:Slc}{nm lm b:Nat}{fa:dtF}{steps:List Stp}
theorem S8{φ:AD}{h:AH}{F:List Chk}{p:nG}(H:St φ (Bi p s::F) h):p.isNone=false:=by have⟨b,e⟩:=St.ptr H;rw[e];rfl
theorem ah{ps:List nG}{L:LkL}{Δ:List Chk}{k:At}{q:nG}(a:ps.length=L.length)(st:St φ (cM DT pW lm (CK k q (mz ps L))::Bi q s::(Aa ps (L.map (·.2)) ++Δ)) h):
 ∃b,b.length=(CK k s L).length∧St φ (giC lm b (CK k s L) Δ) h:=by
 cases hg:BZ k L with
 |none=>
  have⟨c,d⟩:=VO (s:=s) (p:=q) a hg;refine⟨ps++ [q],by rw[c];simp[a],?_⟩;rw[d]at st;have e:Aa (ps++ [q]) ((CK k s L).map (·.2))=Aa ps (L.map (·.2)) ++ [Bi q s]:=by
   rw[c,pX];exact MX (by simpa using a) q s
  show St φ (cM DT pW lm (mz (ps++ [q]) (CK k s L))::(Aa (ps++ [q]) ((CK k s L).map (·.2)) ++Δ)) h;rw[e,oE,c];exact st.perm (nZ _ (mE (l₁:=Aa ps (L.map (·.2)))).symm)
 |some r=>
  have⟨i,t,c,d,u,j,l⟩:=Ql a hg;have⟨m,v,n⟩:=j s;refine⟨ps.set i q,by simp[n,a],?_⟩;rw[l s q]at st;have⟨rest,r1,o⟩:=J2 c d;show St φ (cM DT pW lm (mz (ps.set i q) (CK k s L))::(Aa (ps.set i q) ((CK k s L).map (·.2)) ++Δ)) h;rw[m];have f:=st.perm (nZ _ (nZ _ (oD Δ r1)));have g:=f.at2.tail;exact g.perm (nZ _ (oD Δ (o q s).symm))
noncomputable def ai(l_0 h:nG)(i:Nat)(n:Int)(a:Nat):T:=nW l_0 λj=>lC j 13 λk=>jY a 0 λl=>jY a 1 λm=>oV (pO 125 (.map k) (.agg #[lN l,lN m]) false) lR λo=>oF [] (cond (oZ o) (nW l_0 λb=>lC b 13 λc=>jY a 0 λd=>jY a 1 λe=>nW l_0 λp=>lA p λq=>hC 96 [lN (q.2.1:Int)] lR λr=>lD a 0 d<|lD a 1 e<|pG (b.add 13) (.map c)<|oV (sB (qL 125 (.map c) (.agg #[lN d,lN e]) (lP r)) λ_=>.pure undef) mG λ_=>hM []) (hM [])) λ_=>nW l_0 λs=>lC s 13 λt=>jY a 0 λu=>jY a 1 λv=>nW h λf=>chk (0≤n∧n< (i:Nat))<|kX f n 1 λg=>oV (pO 125 (.map t) (.agg #[lN u,lN v]) false) lR λw=>pG (f.add (oJ n *1)) (lP g)<|hC 98 [lP w,lP g] lU λ_=>hM []
theorem aj(gk:Dg.Glob φ)(K:LkK φ a t ap fz sl nm lm p A fa steps){F:Slc}{qs:List nG}{f:List Ae}(kf:nY pW φ F qs)(hq:qs.length=f.length){n w k:Int}{u:Nat}(l:Cv φ (lF u) [.int .i64 w,.int .i64 k]){L c:LkL}{o s':Ae}{ps:List nG}{Δ:List Chk}{P:Bl→AH→Prop}
 (s:cond (BZ (w,k) L).isNone ((CN (nT p)).bind λv=>some (CK (w,k) v L)) (some L)=some c) (ho:idx f n=some o) (hs:BZ (w,k) c=some s') (ok:OkS s'∧OkS o) (G:ps.length=L.length) (st:St φ (giC lm ps L (Aa qs f++Δ)) h)
 (hk:∀ψ b h',Sub φ ψ→b.length=(CK (w,k) (BT s' o) c).length→St ψ (giC lm b (CK (w,k) (BT s' o) c) (Aa qs f++Δ)) h'→P (.out []) h'):(ai (some a) F.1 F.2.1 n u).wp eE P h:=by
 unfold ai;have n0:t.1.2.1=p.1.length:=K.pl.k0.length;refine AI _ rfl<|AF (K.at st (j:=13) rfl) rfl<|AF (CA l st (j:=0) rfl) rfl<|AF (CA l st (j:=1) rfl) rfl<|Ha (kk:=DT) (a:=.pointer) (k:=(w,k)) (m:=mz ps L) (none:nG) pV VN (i:=sN) nU rfl st<|AY (λ(_:Unit) wd g=>∃ψ b,Sub φ ψ∧b.length=g.length∧St ψ (giC lm b g (Aa qs f++Δ)) wd) (g:=c) ?_ ?_
 ·cases hg:BZ (w,k) L with
  |none=>
   rw[hg]at s;have⟨v,h0,s⟩:=bS (show((CN (nT p)).bind λv=>some (CK (w,k) v L))=some c from s);obtain rfl:=iS s;rw[XZ hg];refine Ad rfl<|AI _ rfl<|AF (K.at st (j:=13) rfl) rfl<|AF (CA l st (j:=0) rfl) rfl<|AF (CA l st (j:=1) rfl) rfl<|AI _ rfl<|AF (by have:=K.at st (j:=0) rfl;rwa [add_zero]at this) rfl ?_;rw[n0];refine AK (Ej st h0) ?_;rintro _ C ⟨ψ2,q,l2,e,rfl,rfl,D⟩;refine⟨q,rfl,AP (CA (l.mono e) D (j:=0) rfl)<|AP (CA (l.mono e) D (j:=1) rfl)<|AP ((K.mono e).at D (j:=13) rfl)<|LU (kk:=DT) (k:=(w,k)) (y:=q) pV VN D.at1 rfl ?_⟩;intro E s3;obtain⟨b,H,I⟩:=ah G s3;exact lG rfl ⟨ψ2,b,e,H,I⟩
  |some v=>
   rw[hg]at s;obtain rfl:=iS (show some L=some c from s);have⟨i,U,J,C,E,N,V⟩:=Ql G hg;have⟨rest,r1,_⟩:=J2 J C;have hp:U.isNone=false:=S8 (st.tail.perm (oD (Aa qs f++Δ) r1));rw[E];refine AW hp<|lG rfl ⟨φ,ps,oT _,G,st⟩
 ·rintro _ N ⟨W,b,d,x,r⟩;have⟨i0,i1,i2⟩:=B9 ho;have z:n.toNat<qs.length:=nJ
  have O:=bD z;have⟨i,U,J,C,E,V,h6⟩:=Ql x hs;refine AI _ rfl<|AF ((K.mono d).at r (j:=13) rfl) rfl<|AF (CA (l.mono d) r (j:=0) rfl) rfl<|AF (CA (l.mono d) r (j:=1) rfl) rfl ?_;obtain⟨A1,a0,Q,R,r1,B⟩:=(kf.mono d).get (MU i0 z);refine AI _ Q (Ai R ?_);obtain rfl:=r1;refine AF (AG r.sub (B 0 _ rfl)) rfl<|Ha (kk:=DT) (a:=.pointer) (k:=(w,k)) (m:=mz b c) (none:nG) pV VN (i:=sN) nU rfl r ?_;rw[E];refine AP (AG r.sub (B 0 _ rfl)) ?_;have⟨rq,X,_⟩:=FM O i2;obtain⟨M,Y⟩:∃M:Chk,M=cM DT pW lm (mz b c):=⟨_,rfl⟩;have s5:St W (Bi qs[n.toNat] o::(Aa b (c.map (·.2)) ++(M::(rq++Δ)))) N:=by
   have S:St W (M::(Aa b (c.map (·.2)) ++(Aa qs f++Δ))) N:=by rw[Y];exact r
   refine S.perm<|(nZ M (qQ _ (oD Δ X))).trans<|(nZ M (mE (l₁:=Aa b (c.map (·.2))))).trans ((oR _ _ _).trans (nZ _ (mE (l₁:=Aa b (c.map (·.2)))).symm))
  refine AK (U4 (gk.mono d) C J ok s5) ?_;rintro _ Z ⟨ψ7,T,rfl,s7⟩;refine⟨_,rfl,?_⟩;have⟨H,I,g3⟩:=V (BT s' o);refine hk ψ7 b Z (d.trans T) (by rw[g3];exact x) ?_;show St ψ7 (cM DT pW lm (mz b (CK (w,k) (BT s' o) c))::(Aa b ((CK (w,k) (BT s' o) c).map (·.2)) ++(Aa qs f++Δ))) Z;rw[H,I,←Y];refine s7.perm<|((nZ _ (mE (l₁:=Aa b ((c.map (·.2)).set i (BT s' o))))).trans (oR _ _ _)).trans (nZ M ?_);exact(mE (l₁:=Aa b ((c.map (·.2)).set i (BT s' o)))).symm.trans (qQ _ (oD Δ X.symm))
end
end
section
variable {φ ψ:AD}{h:AH}{F:List Chk}{a:sV}{t:Slc×Slc×Slc×Slc×Slc×Slc×Unit}{p:dtP}{ap:nG}{A:dtA}{fz:Slc×Slc×Slc×Int×Unit}{sl:Slc}{nm lm b:Nat}{fa:dtF}{steps:List Stp}
theorem T8(lm:Nat)(ps:List nG)(L:LkL)(Δ M:List Chk):giC lm ps L Δ++M=giC lm ps L (Δ++M):=by unfold giC;rw[List.cons_append,oE]
theorem ak(gk:Dg.Glob φ)(K:LkK φ a t ap fz sl nm lm p A fa steps){fs:Slc}{qs:List nG}{B:List Ae}(kf:nY pW φ fs qs)(hq:qs.length=B.length){r:LkL}(hd:S7 p A fa steps B=some r)(s0:St φ (giC lm [] [] (Aa qs B++F)) h):
 nX eE 58 [.pointer (some a),sv fs] h (An λv h'=>v= .tuple #[] ∧ ∃(ψ:AD) (ps:List nG),Sub φ ψ∧ps.length=r.length∧St ψ (giC lm ps r (Aa qs B++F)) h'):=by
 refine A9 mixed func58 ?_;rw[My];unfold Ib;unfold S7 at hd;have⟨L1,b8,hd⟩:=bS hd;have⟨mm,b9,hd⟩:=bS hd;have nS:sl.2.1=steps.length:=K.ks.length;have nR:t.2.2.1.2.1=p.2.2.1.length:=K.pl.k2.length;have n0:t.1.2.1=p.1.length:=K.pl.k0.length;refine AI _ rfl<|AF (K.at s0 (j:=11) rfl) rfl<|Af (λ(y:Int×Unit) w L=>∃ψ ps,Sub φ ψ∧ps.length=oL L∧St ψ (giC lm ps L (Aa qs B++F)) w) (g:=L1) ?_ ?_
 ·refine By b8 (λi (y:Int×Unit) w L=>y.1=i∧ ∃ψ ps,Sub φ ψ∧ps.length=oL L∧St ψ (giC lm ps L (Aa qs B++F)) w) rfl ⟨rfl,φ,[],oT _,rfl,s0⟩ ?_ ?_
  ·rintro i z w L e ⟨rfl,ψ,ps,le,hl,st⟩ D h0 hlt hw;refine Ad (by rw[nS];exact mW hlt) ?_;have⟨s,hs,D⟩:=bS D;obtain⟨A1,e0,c0,c1,q1,a9⟩:=(K.ks.mono le).get hs;refine AI _ c0 (Ai c1 ?_);obtain⟨_,_,rfl,rfl,rfl⟩:=q1;refine AF (AG st.sub (a9 0 _ rfl)) rfl<|AF (by rw[Aj];exact AG st.sub (a9 1 _ rfl)) rfl<|AU (vs:=[.int .i64 0,.int .i64 0]) st ?_;intro r8 h3 s3;refine Cr (b:=r8) (j:=0) (v:=.int .i64 s.1) s3 rfl nP ?_;intro h4 s4;refine Cr (b:=r8) (j:=1) (v:=.int .i64 s.2) s4 rfl nP ?_;intro h5 s5;have⟨ψ1,O,cB,s6⟩:=St.blk s5;have I:=le.trans O;refine AI _ rfl<|AF ((K.mono I).at s6 (j:=2) rfl) rfl<|Af (λ(y:Int×Unit) w L=>∃ψ ps,Sub φ ψ∧ps.length=oL L∧St ψ (giC lm ps L (Aa qs B++F)) w) (g:=e) ?_ ?_
   ·refine By D (λi (y:Int×Unit) w L=>y.1=i∧ ∃ψ ps,Sub ψ1 ψ∧ps.length=oL L∧St ψ (giC lm ps L (Aa qs B++F)) w) rfl ⟨rfl,ψ1,ps,oT _,hl,s6⟩ ?_ ?_
    ·rintro i2 z2 w2 L2 e2 ⟨rfl,ψ2,Q,E,b0,V⟩ c e1 b1 c2;have C:=I.trans E;unfold VQ at c;refine Ad (by rw[nR];exact mW b1) ?_;have⟨ru,c3,c⟩:=bS c;refine Af (λ(_:Unit) w (_:Unit)=>∃ψ ps,Sub ψ1 ψ∧ps.length=oL e2∧St ψ (giC lm ps e2 (Aa qs B++F)) w) (g:=()) ?_ ?_
     ·refine Qk (K.pl.k2.mono C) c3 V ?_;intro e3 u h7 ku s7;have⟨ψ3,J,W,T⟩:=St.blk s7;have ku:=ku.mono J;have d:=C.trans J;have M:=E.trans J;have X:=cB.mono M;have Y:=K.mono d;refine AF (CA W T (j:=0) rfl) rfl<|AF (CA X T (j:=1) rfl) rfl<|mP c rfl (λc=>?_) (λc=>?_)
      ·obtain rfl:=iS c;exact Qw () rfl ⟨ψ3,Q,M,b0,T⟩
      ·have⟨wk,b2,c⟩:=bS c;obtain⟨L',c4,c⟩:=bS c;have⟨o,ho,c⟩:=bS c;obtain⟨s',c5,c⟩:=bS c;have⟨ok,c⟩:=CG c;obtain rfl:=iS c;refine AI _ rfl<|AF (Y.at T (j:=6) rfl) rfl<|AF (CA X T (j:=0) rfl) rfl<|AF (CA W T (j:=1) rfl) rfl ?_;have b3:∀ {Z:AD} {R:AH} {G:Nat},Sub ψ3 Z→Cv Z (lF G) [.int .i64 wk,.int .i64 z2.1] →St Z (giC lm Q L2 (Aa qs B++F)) R→ ∀ {P:Bl→AH→Prop},
        (∀(ψ:AD) (f:List nG) (h':AH),Sub ψ1 ψ→f.length=oL (CK (wk,z2.1) (BT s' o) L')→St ψ (giC lm f (CK (wk,z2.1) (BT s' o) L') (Aa qs B++F)) h'→P (.out []) h')→
        (ai (some a) fs.1 fs.2.1 z.1 G).wp eE P R:=by
        intro Z R G m cX a0 P hP;refine aj (gk.mono (d.trans m)) (Y.mono m) (kf.mono (d.trans m)) hq cX c4 ho c5 ok b0 a0 ?_;intro ψ6 f a1 x N b4;exact hP ψ6 f a1 ((M.trans m).trans x) N b4
       refine DP ?_ ?_
       ·refine AK (El Y.kA ku T b2) ?_;rintro _ R ⟨ψ4,y4,a2,rfl,rfl,s9⟩;refine⟨y4,rfl,AU (vs:=[.int .i64 0,.int .i64 0]) s9 ?_⟩;intro G a1 a3;refine Cr (b:=G) (j:=0) (v:=.int .i64 y4) a3 rfl nP ?_;intro c6 a4;refine Cr (b:=G) (j:=1) (v:=.int .i64 z2.1) a4 rfl nP ?_;intro c7 a5;have⟨Z,m,cX,a6⟩:=St.blk a5;refine b3 (a2.trans m) cX a6 ?_;intro ψ6 f c8 x N a7;exact⟨(),rfl,ψ6,f,x,N,a7⟩
       ·refine AU (vs:=[.int .i64 0,.int .i64 0]) T ?_;intro b5 R s9;refine AP (CA W s9 (j:=1) rfl)<|AP (CA X s9 (j:=0) rfl)<|AP (Y.at s9 (j:=6) rfl)<|AK (El Y.kA ku s9 b2) ?_;rintro _ a1 ⟨ψ4,y4,a2,rfl,rfl,a3⟩;refine⟨y4,rfl,Cr (b:=b5) (j:=0) (v:=.int .i64 y4) a3 rfl nP ?_⟩;intro c6 a4;refine Cr (b:=b5) (j:=1) (v:=.int .i64 z2.1) a4 rfl nP ?_;intro c7 a5;have⟨Z,m,cX,a6⟩:=St.blk a5;refine b3 (a2.trans m) cX a6 ?_;intro ψ6 f c8 x N a7;exact⟨(),rfl,ψ6,f,x,N,a7⟩
     ·rintro _ R H;exact lH rfl rfl ⟨c2,H⟩
    ·rintro i2 z2 w2 ⟨rfl,ψ2,Q,E,H⟩ hge;refine AW (by rw[nR];exact mV (oW.2 hge))<|AJ (lI rfl ⟨ψ2,Q,I.trans E,H⟩)
   ·rintro _ R H;exact lH rfl rfl ⟨hw,H⟩
  ·rintro i z w ⟨rfl,H⟩ hge;refine AW (by rw[nS];exact mV (oW.2 hge))<|AJ (lI rfl H)
 ·rintro _ h1 ⟨ψ1,c9,O,d0,b6⟩;have K1:=K.mono O;refine AI _ rfl<|AF (K1.at b6 (j:=6) rfl) rfl<|AK (Cz K1.kA b6 b9) ?_;rintro _ h2 ⟨ψ2,y2,E,rfl,rfl,V⟩;refine⟨y2,rfl,?_⟩;have C:=O.trans E;refine Af (λ(y:Int×Unit) w L=>∃ψ ps,Sub φ ψ∧ps.length=oL L∧St ψ (giC lm ps L (Aa qs B++F)) w) (g:=r) ?_ ?_
  ·refine By hd (λi (y:Int×Unit) w L=>y.1=i∧ ∃ψ ps,Sub φ ψ∧ps.length=oL L∧St ψ (giC lm ps L (Aa qs B++F)) w) rfl ⟨rfl,ψ2,c9,C,d0,V⟩ ?_ ?_
   ·rintro i z w L e ⟨rfl,ψ,ps,le,hl,st⟩ D h0 hlt hw;refine Ad (mW hlt) ?_;have⟨bd,d1,D⟩:=bS D;have Y:=K.mono le;refine AK (HE Y.pt st (show CO (lkT p A fa steps (some nm) (some lm)) z.1 0=some bd from d1)) ?_;rintro _ h3 ⟨ψ3,y3,J,rfl,rfl,S⟩;refine⟨y3,rfl,?_⟩;have d:=le.trans J;refine AY (λ(_:Unit) w L=>∃ψ ps,Sub φ ψ∧ps.length=oL L∧St ψ (giC lm ps L (Aa qs B++F)) w) (g:=e) ?_ ?_
    ·refine mP D rfl (λD=>?_) (λD=>?_)
     ·have⟨sn,d2,D⟩:=bS D;obtain rfl:=iS D;refine AI _ rfl<|AF ((K.mono d).at S (j:=13) rfl) rfl<|AI _ rfl<|AF (by have:=(K.mono d).at S (j:=0) rfl;rwa [add_zero]at this) rfl<|AU (vs:=[.int .i64 0]) S ?_;intro d3 h4 a8;refine AP (by have:=(K.mono d).at a8 (j:=0) rfl;rwa [add_zero]at this)<|AP ((K.mono d).at a8 (j:=13) rfl) ?_;have d4:=sS (r:=oG .i64) (l:=[(0:Int)]) (n:=1) a8 (.cons (a:=[_]) rfl .nil) rfl nQ;have⟨Z,m,k5,d5⟩:=oS (t:=(some ⟨d3,0,none⟩,1,1)) d4;rw[n0];refine AK (FL k5 d5 d2) ?_;rintro _ h6 ⟨ψ6,q,l6,x,rfl,rfl,b7⟩;refine⟨q,rfl,?_⟩;have U:=(d.trans m).trans x;refine AP ((K.mono U).at b7 (j:=13) rfl)<|LU (kk:=DT) (k:=(z.1,(0:Int))) (y:=q) pV VN b7.at1 rfl ?_;intro h8 d6;obtain⟨f,g1,g2⟩:=ah hl d6;exact lG rfl ⟨ψ6,f,U,g1,g2⟩
     ·obtain rfl:=iS D;exact lG rfl ⟨ψ3,ps,d,hl,S⟩
    ·rintro _ R H;exact lH rfl rfl ⟨hw,H⟩
   ·rintro i z w ⟨rfl,H⟩ hge;refine AW (mV (oW.2 hge))<|AJ (lI rfl H)
  ·rintro _ R ⟨ψ9,d7,d8,d9,a0⟩;exact AC ⟨rfl,ψ9,d7,d8,d9,a0⟩
end
structure LkD where
 p:dtP
 A:dtA
 fa:dtF
 steps:List Stp
 L:LkL
def LkL.at(φ:AD)(cs:List sU)(d:LkD)(Γ:List Chk):Prop:=
 ∃(a:sV) (t:Slc×Slc×Slc×Slc×Slc×Slc×Unit) (ap:nG) (fz:Slc×Slc×Slc×Int×Unit) (sl:Slc) (nm lm:Nat) (ps:List nG),
  cs= [.pointer (some a)] ∧LkK φ a t ap fz sl nm lm d.p d.A d.fa d.steps∧ps.length=d.L.length∧Γ=giC lm ps d.L []
def am:Pk (Option LkD) where
 sz:=1
 L φ cs x Γ:=match x with
  |none=>cs= [.pointer none] ∧Γ= []
  |some d=>LkL.at φ cs d Γ
 len {φ cs x Γ} h:=by
  cases x with
  |none=>rw[h.1];rfl
  |some d=>obtain⟨a,t,ap,fz,sl,nm,lm,ps,b,_⟩:=h;rw[b];rfl
 mono {φ ψ cs x Γ} hs h:=by
  cases x with
  |none=>exact h
  |some d=>obtain⟨a,t,ap,fz,sl,nm,lm,ps,b,c,e,f⟩:=h;exact⟨a,t,ap,fz,sl,nm,lm,ps,b,c.mono hs,e,f⟩
 plain {φ cs x Γ} h v hv:=by
  cases x with
  |none=>rw[h.1]at hv;simp at hv;subst hv;rfl
  |some d=>obtain⟨a,t,ap,fz,sl,nm,lm,ps,b,_⟩:=h;rw[b]at hv;simp at hv;subst hv;rfl
abbrev DB:Rep (Option LkD):=Rep.pack am
noncomputable def Xa(p:dtP)(A:dtA):Option (Option LkD):=(RZ p).bind λfa=>(SP p A MB ([],[])).bind λst=>(Pq p A fa st.1 st.2).bind λb=>(He p A fa st.1 st.2).bind λa=>(Iu b.2 b.1).bind λc=>(Iu a c).bind λd=>(S7 p A fa st.1 d).bind λL=>some (some ⟨p,A,fa,st.1,L⟩)
noncomputable def Qm(d:Option LkD)(s:Int):Option nH:=d.bind λd=>EY (lkT d.p d.A d.fa d.steps none none) s
noncomputable def NY(d:Option LkD)(s r:Int):Option nH:=d.bind λd=>match BZ (s,r) d.L with
 |none=>some []
 |some x=>Kc x
section
variable {φ ψ:AD}{h:AH}{F:List Chk}{a:sV}{t:Slc×Slc×Slc×Slc×Slc×Slc×Unit}{p:dtP}{ap:nG}{A:dtA}{fz:Slc×Slc×Slc×Int×Unit}{sl:Slc}{nm lm b:Nat}{fa:dtF}{steps:List Stp}
theorem T9(H:St φ F h):St φ (⟨DB,[.pointer none],none⟩::F) h:=sP (p:=am) (Γ:=[]) ⟨rfl,rfl⟩ H
theorem gO{q:nG}{d:Option LkD}(H:St φ (⟨DB,[.pointer q],d⟩::F) h):oZ q=oZ d:=by
 have⟨Γ,b,_⟩:=sO H;cases d with
 |none=>cases b.1;rfl
 |some d=>obtain⟨a,t,ap,fz,sl,nm,lm,ps,b,_⟩:=b;cases b;rfl
theorem Wb{q:nG}{d:Option LkD}{s:Int}(f:St φ (⟨DB,[.pointer q],d⟩::F) h){r:nH}(hd:Qm d s=some r):
 nX eE 107 [.pointer q,.int .i64 s] h (An (mO φ (oG .i64) r (⟨DB,[.pointer q],d⟩::F))):=by obtain⟨d,rfl,b⟩:=rJ.1 hd;obtain⟨Γ,⟨a,t,ap,fz,sl,nm,lm,ps,g,c,i,j⟩,m⟩:=sO f;cases g;refine(M2 c.pt m (show EY (lkT d.p d.A d.fa d.steps (some nm) (some lm)) s=some r from b)).mono ?_;rintro e o ⟨v,rfl,ψ,y,l,le,rfl,rfl,k,n⟩;exact⟨_,rfl,ψ,y,l,le,rfl,rfl,k,sP (p:=am) ⟨a,t,ap,fz,sl,nm,lm,ps,rfl,c.mono le,i,j⟩ n⟩
theorem an{q:nG}{d:Option LkD}{s k:Int}(o:Dg.Glob φ)(u:St φ (⟨DB,[.pointer q],d⟩::F) h){r:nH}(hd:NY d s k=some r):
 nX eE 109 [.pointer q,.int .i64 s,.int .i64 k] h (An (mO φ (oG .i64) r (⟨DB,[.pointer q],d⟩::F))):=by
 obtain⟨d,rfl,b⟩:=rJ.1 hd;obtain⟨Γ,⟨a,t,ap,fz,sl,nm,lm,ps,v,f,g,w⟩,c⟩:=sO u;cases v;subst w;rw[T8,rN]at c;refine A9 mixed func109 ?_;rw[Oz];unfold Ke;refine AI _ rfl<|AF (f.at c (j:=13) rfl) rfl<|Ha (kk:=DT) (a:=.pointer) (k:=(s,k)) (m:=mz ps d.L) (none:nG) pV VN (i:=sN) nU rfl c ?_;have back:∀ {ψ:AD} {h':AH},Sub φ ψ→St ψ (giC lm ps d.L F) h'→St ψ (⟨DB,[.pointer (some a)],some d⟩::F) h':=λle st=>
  sP (p:=am) (Γ:=giC lm ps d.L []) ⟨a,t,ap,fz,sl,nm,lm,ps,rfl,f.mono le,g,rfl⟩ (by rw[T8,rN];exact st)
 cases hg:BZ (s,k) d.L with
 |none=>
  rw[hg]at b;obtain rfl:=iS b;rw[XZ hg];refine Ad rfl<|AC ⟨φ,(none,0,0),[],oT _,rfl,rfl,Ro.SliceIs.nil _ _,back (oT _) c⟩
 |some x=>
  rw[hg]at b;have⟨i,y,z,A,B,G,H⟩:=Ql g hg;rw[B];have⟨rest,r1,_⟩:=FM z A;have l:St φ (Bi y x::(rest++(cM DT pW lm (mz ps d.L)::F))) h:=c.perm ((nZ _ (oD F r1)).trans ((oR _ _ _).trans (nZ _ (mE (l₁:=rest)).symm)));refine AW (S8 l)<|AK (Oj o l b) ?_;rintro _ I ⟨C,n,e,rfl,D,E⟩;refine⟨n,rfl,AC ⟨C,n,r,e,rfl,rfl,D,back e ?_⟩⟩;exact E.perm (((nZ _ (mE (l₁:=rest))).trans (oR _ _ _)).trans (nZ _ (oD F r1).symm))
noncomputable def ao(t2 t3 t4 t5 t6 t7:Slc)(ap:nG)(fz:Slc×Slc×Slc×Int×Unit)(nm lm:Nat):T:=jO #[sv t2,sv t3,sv t4,sv t5,sv t6,sv t7,lP ap,sv fz.1,sv fz.2.1,sv fz.2.2.1,lN fz.2.2.2.1,lO,.map (some nm),.map (some lm)] 128 λa=>hC 55 [lP (lF a),.func (.func 56) #[lP (lF a)] #[]] mG λf=>hC 57 [lP (lF a)] (.tuple mB) λb=>hC 60 [lP (lF a)] lS λc=>hC 59 [sv b.2.1,sv b.1] lS λd=>hC 59 [sv c,sv d] lS λe=>hC 58 [lP (lF a),sv e] mG λg=>oC (lP (lF a))
noncomputable def Wc(p:dtP)(A:dtA)(fa:dtF):Option (Option LkD):=(SP p A MB ([],[])).bind λst=>(Pq p A fa st.1 st.2).bind λb=>(He p A fa st.1 st.2).bind λa=>(Iu b.2 b.1).bind λc=>(Iu a c).bind λd=>(S7 p A fa st.1 d).bind λL=>some (some ⟨p,A,fa,st.1,L⟩)
def OfS(φ:AD)(F:List Chk)(r:Option LkD)(v:sU)(a:AH):Prop:= ∃ψ:AD,∃y:nG,∃l:Option LkD,Sub φ ψ∧v=lR.val y∧l=r∧St ψ (⟨DB,[.pointer y],l⟩::F) a
theorem Hf{φ0:AD}(C:Sub φ0 φ)(B:Dg.Glob φ)(Z:PlK φ t p)(kA:Pt Jl φ ap A)(f0:nY oH φ fz.1 fa.1)(f1:nY (pP (oG .i64)) φ fz.2.1 fa.2.1)(f2:nY (pP (oG .i64)) φ fz.2.2.1 fa.2.2.1)(f3:fz.2.2.2.1=fa.2.2.2)
 {r:Option LkD} (hd:Wc p A fa=some r) (s0:St φ (cM DT (oG .i64) nm []::cM DT pW lm []::F) h):
 (ao t.1 t.2.1 t.2.2.1 t.2.2.2.1 t.2.2.2.2.1 t.2.2.2.2.2.1 ap fz nm lm).wp eE (NP (An (OfS φ0 F r))) h:=by
 unfold ao;unfold Wc at hd;have⟨en,D,hd⟩:=bS hd;have⟨b,E,hd⟩:=bS hd;have⟨a0,u,hd⟩:=bS hd;have⟨f,G,hd⟩:=bS hd;have⟨c,H,hd⟩:=bS hd;have⟨L,hL,hd⟩:=bS hd;obtain rfl:=iS hd;refine AU (vs:=lkV t ap fz mQ nm lm) s0 ?_;intro g h1 s1;have s2:St φ (enC g t ap fz nm lm ⟨mQ,[],[]⟩ ++(cM DT pW lm []::F)) h1:=(sE 191 Uj s1).at1;refine AK (aa kA Z (x:=⟨mQ,[],[]⟩) D s2) ?_;rintro _ h2 ⟨rfl,ψ2,x,I,hx,s3⟩;refine⟨(),rfl,?_⟩;obtain⟨sl,steps,J⟩:=x;obtain rfl:=hx;have⟨ψ3,M,cB,s4⟩:=St.blk s3;have⟨ψ4,v,ks,s5⟩:=oS (t:=sl) s4;have a:=(I.trans M).trans v;have K:LkK ψ4 ⟨g,0,none⟩ t ap fz sl nm lm p A fa steps:=⟨cB.mono v,Z.mono a,kA.mono a,f0.mono a,f1.mono a,f2.mono a,f3,ks⟩;refine AK (YV K E s5) ?_;rintro _ h5 ⟨ψ5,y1,y2,ps,o,rfl,N,k1,k2,s6⟩;refine⟨_,rfl,?_⟩;have j:=a.trans o;have s7:St ψ5 (cM DT (oG .i64) nm J::(Aa ps b.1++(cM DT pW lm []::F))) h5:=s6.perm (mE (l₁:=Aa ps b.1));refine AK (T7 (B.mono j) (K.mono o) u s7) ?_;rintro _ h6 ⟨ψ6,y3,i,rfl,k3,s8⟩;refine⟨_,rfl,?_⟩;have k:=j.trans i;refine AK (So (B.mono k) (k2.mono i) (k1.mono i) N s8.tail G) ?_;rintro _ h7 ⟨ψ7,y4,qs,q,rfl,O,s9⟩;refine⟨_,rfl,?_⟩;have w:=k.trans q;have⟨ψ8,s,k4,P⟩:=oS (t:=y4) s9;have l:=w.trans s;refine AK (So (B.mono l) (k3.mono (q.trans s)) k4 O P H) ?_;rintro _ h8 ⟨ψ9,y5,us,y,rfl,Q,R⟩;refine⟨_,rfl,?_⟩;have⟨S,m,k5,T⟩:=oS (t:=y5) R;have d:=(l.trans y).trans m;have e:=(((((o.trans i).trans q).trans s).trans y).trans m);have U:St S (giC lm [] [] (Aa us c++(Aa qs f++(Aa ps b.1++F)))) h8:=by
  refine T.perm ?_;show(Aa us c++(Aa qs f++(Aa ps b.1++(cM DT pW lm []::F)))).Perm (cM DT pW lm []::(Aa us c++(Aa qs f++(Aa ps b.1++F))));rw[←oE,←oE,←oE (Aa us c),←oE (Aa us c++Aa qs f)];exact mE
 refine AK (ak (B.mono d) (K.mono e) k5 Q hL U) ?_;rintro _ h9 ⟨rfl,z,vs,n,V,W⟩;refine⟨(),rfl,?_⟩;refine AC ⟨z,some ⟨g,0,none⟩,_,(C.trans d).trans n,rfl,rfl,?_⟩;refine sP (p:=am) (Γ:=giC lm vs L []) ⟨⟨g,0,none⟩,t,ap,fz,sl,nm,lm,vs,rfl,K.mono (e.trans n),V,rfl⟩ ?_;rw[T8,rN];have Y:St z ((Aa us c++(Aa qs f++Aa ps b.1)) ++(giC lm vs L F)) h9:=by
  refine W.perm ?_;show(cM DT pW lm (mz vs L)::(Aa vs (L.map (·.2)) ++(Aa us c++(Aa qs f++(Aa ps b.1++F))))).Perm ((Aa us c++(Aa qs f++Aa ps b.1)) ++(cM DT pW lm (mz vs L)::(Aa vs (L.map (·.2)) ++F)));rw[show Aa us c++(Aa qs f++(Aa ps b.1++F))=(Aa us c++(Aa qs f++Aa ps b.1)) ++F by simp[oE]]
  generalize Aa us c++(Aa qs f++Aa ps b.1)=X
  refine(nZ _ ?_).trans (mE (l₁:=X)).symm;rw[←oE,←oE];exact oD F qB
 exact St.drop _ Y
theorem aq{p_0:Slc×Slc×Slc×Slc×Slc×Slc×Unit}{d0 d1:List nI}{d2:List Ap}{d3 d4:nH}{d5:List nI}{z:dtA}{a_1:nG}(I:Dg.Glob φ)
 (k0:nY sK φ p_0.1 d0) (J:nY sK φ p_0.2.1 d1) (L:nY BL φ p_0.2.2.1 d2) (M:nY (oG .i64) φ p_0.2.2.2.1 d3) (N:nY (oG .i64) φ p_0.2.2.2.2.1 d4) (O:nY sK φ p_0.2.2.2.2.2.1 d5) (P:Pt Jl φ a_1 z) (R:St φ F h) {r:Option LkD} (hd:Xa (d0,d1,d2,d3,d4,d5) z=some r):
 nX eE 25 [.agg #[sv p_0.1,sv p_0.2.1,sv p_0.2.2.1,sv p_0.2.2.2.1,sv p_0.2.2.2.2.1,sv p_0.2.2.2.2.2.1],.pointer a_1] h (An (OfS φ F r)):=by
 refine A9 mixed func25 ?_;rw[VL];unfold S1;have⟨fa,A,hd⟩:=bS hd;have hd:Wc (d0,d1,d2,d3,d4,d5) z fa=some r:=hd;have S:PlK φ p_0 (d0,d1,d2,d3,d4,d5):=⟨k0,J,L,M,N,O⟩;refine AU (vs:=plV p_0) R ?_;intro r1 V s;have⟨B,d,U,s⟩:=St.blk s;have n:∀ {ψ:AD} {Γ:List Chk} {h':AH},Sub B ψ→St ψ Γ h'→ ∀j v,(plV p_0)[j]? =some v→Bb h' ⟨r1,j,none⟩=some v:=λ{ψ Γ h'} le st j v hv=>by
  have:=AG st.sub ((U.mono le).at j hv)
  rw[EN,qH]at this;exact this
 have t:=n (oT _) s;refine FN t<|FN t ?_;have e:=I.mono d;have f:=S.mono d;have g:=P.mono d;have call:∀ {Γ:List Chk} {w:AH} {K:(Slc×Slc×Slc×Int×Unit)→T} {Q:Bl→AH→Prop},St B Γ w→
  (∀(ψ:AD) (fz:Slc×Slc×Slc×Int×Unit) (x:AH),Sub B ψ→nY oH ψ fz.1 fa.1→nY (pP (oG .i64)) ψ fz.2.1 fa.2.1→nY (pP (oG .i64)) ψ fz.2.2.1 fa.2.2.1→fz.2.2.2.1=fa.2.2.2→St ψ Γ x→(K fz).wp eE Q x)→
  (hC 54 [(.agg #[(sv p_0.1),(sv p_0.2.1),(sv p_0.2.2.1),(sv p_0.2.2.2.1),(sv p_0.2.2.2.2.1),(sv p_0.2.2.2.2.2.1)])] mH K).wp eE Q w:=by
  intro Γ w K Q st hk;refine AK (T4 e f st A) ?_;rintro _ x ⟨ψ,y,le,rfl,i,k,l,m,C⟩;exact⟨y,rfl,hk ψ y x le i k l m C⟩
 refine DP ?_ (DP ?_ ?_)
 ·refine call s ?_;intro ψ fz w le i k l m st;have b:=λ{Γ:List Chk} {h':AH} (st:St ψ Γ h')=>n le st
  repeat refine AP (b st _ _ rfl) ?_
  refine DP ?_ ?_
  ·refine EB DT (oG .i64) st ?_;intro D E c
   repeat refine AP (b c _ _ rfl) ?_
   refine EB DT pW c ?_;intro G u a
   repeat refine AP (b a _ _ rfl) ?_
   exact Hf (d.trans le) (e.mono le) (f.mono le) (g.mono le) i k l m hd a.at1
  ·refine EB DT pW st ?_;intro D E c
   repeat refine AP (b c _ _ rfl) ?_
   refine EB DT (oG .i64) c ?_;intro G u a
   repeat refine AP (b a _ _ rfl) ?_
   exact Hf (d.trans le) (e.mono le) (f.mono le) (g.mono le) i k l m hd a
 ·refine EB DT (oG .i64) s ?_;intro H E c;have o:=n (oT _) c
  repeat refine AP (o _ _ rfl) ?_
  refine DP ?_ ?_
  ·refine call c ?_;intro ψ fz w le i k l m st;have b:=λ{Γ:List Chk} {h':AH} (st:St ψ Γ h')=>n le st
   repeat refine AP (b st _ _ rfl) ?_
   refine EB DT pW st ?_;intro p u a
   repeat refine AP (b a _ _ rfl) ?_
   exact Hf (d.trans le) (e.mono le) (f.mono le) (g.mono le) i k l m hd a.at1
  ·refine EB DT pW c ?_;intro p u a;have q:=n (oT _) a
   repeat refine AP (q _ _ rfl) ?_
   refine call a ?_;intro ψ fz w le i k l m st;have b:=λ{Γ:List Chk} {h':AH} (st:St ψ Γ h')=>n le st
   repeat refine AP (b st _ _ rfl) ?_
   exact Hf (d.trans le) (e.mono le) (f.mono le) (g.mono le) i k l m hd st.at1
 ·refine EB DT pW s ?_;intro H E c;have o:=n (oT _) c
  repeat refine AP (o _ _ rfl) ?_
  refine DP ?_ ?_
  ·refine call c ?_;intro ψ fz w le i k l m st;have b:=λ{Γ:List Chk} {h':AH} (st:St ψ Γ h')=>n le st
   repeat refine AP (b st _ _ rfl) ?_
   refine EB DT (oG .i64) st ?_;intro p u a
   repeat refine AP (b a _ _ rfl) ?_
   exact Hf (d.trans le) (e.mono le) (f.mono le) (g.mono le) i k l m hd a
  ·refine EB DT (oG .i64) c ?_;intro p u a;have q:=n (oT _) a
   repeat refine AP (q _ _ rfl) ?_
   refine call a ?_;intro ψ fz w le i k l m st;have b:=λ{Γ:List Chk} {h':AH} (st:St ψ Γ h')=>n le st
   repeat refine AP (b st _ _ rfl) ?_
   exact Hf (d.trans le) (e.mono le) (f.mono le) (g.mono le) i k l m hd st
end
section
variable {n:Nat}
def trE(p:dtP)(n:Nat)(es:List Edge):List (Stp×Int):=(es.filter λe=> !(decide (0≤e.1) && decide (e.1<nT p))).map λe=>(((n:Int),e.1),e.2)
def trs(p:dtP)(E:List (List Edge))(n:Nat):List (Stp×Int):=(rK n).flatMap λk=>trE p k (E[k]?.getD [])
theorem Re(p:dtP)(E:List (List Edge))(n:Nat):trs p E (n+1)=trs p E n++trE p n (E[n]?.getD []):=by unfold trs;rw[List.range_succ,List.flatMap_append];simp
theorem ar(p:dtP)(E:List (List Edge)){m:Nat}(h:n≤m):trs p E n<+:trs p E m:=by
 induction h with
 |refl=>exact List.prefix_refl _
 |step _ a=>rw[Re];exact a.trans (List.prefix_append _ _)
theorem VR{p:dtP}{es:List Edge}{j:Nat}{e:Edge}(h:es[j]? =some e):trE p n (es.take (j+1))=trE p n (es.take j) ++trE p n [e]:=by unfold trE;rw[qP,h,rX,pX];rfl
theorem dZ(p:dtP)(n:Nat)(es:List Edge)(j:Nat):trE p n (es.take j) <+:trE p n es:=by unfold trE;have⟨r,a⟩:=List.take_prefix j es;refine⟨(r.filter λe=> !(decide (0≤e.1) && decide (e.1<nT p))).map λe=>(((n:Int),e.1),e.2),?_⟩;rw[←pX,←rX,a]
section
variable {p:dtP}{B:List dtK}{E:List (List Edge)}{tt:Int}
theorem Xb(V:VPp p)(H:Fin p B E)(u:B.length≤1000000){σ:Type}{f:σ→Stp→Int→Option σ}{s:σ}(I:List (Stp×Int)→σ→Prop)(m:I [] s)
 (o:∀pre x s,pre++ [x] <+:trs p E B.length→I pre s→Ok (f s x.1 x.2) (I (pre++ [x]))):Ok (SP p (BG p B E tt) f s) (I (trs p E B.length)):=by
 unfold SP;refine AO (RU H)<|CM (n:=B.length) (λk s=>I (trs p E k) s) nJ m λk s i c=>?_;have d:=bD i;have⟨es,g⟩:=H.edge d;refine AO (VF V H d g) ?_;have v:=H.edges_len V d g;have a:trs p E (k+1)=trs p E k++trE p k es:=by rw[Re,g];rfl
 have b:=ar p E (show k+1≤B.length from i);rw[a]at b;obtain⟨s',q,l⟩:=CM (f:=λj s=>(idx es j).bind λe=>(Bp p e.1).bind λt=>cond (!t) (f s ((k:Int),e.1) e.2) (some s)) (n:=es.length) (λj s=>I (trs p E k++trE p k (es.take j)) s) nJ (s:=s) (by
  rw[List.take_zero];show I (trs p E k++ []) s;rw[List.append_nil];exact c) λj s r c=>by
   have h:=bD r;refine AS h (AO (HO p _) ?_);rw[VR h];cases hc:(decide (0≤es[j].1) && decide (es[j].1<nT p)) with
   |true=>
    have e:trE p k [es[j]] = []:=by unfold trE;rw[sF,hc];rfl
    rw[e,List.append_nil];refine AZ ?_ (AB c);show(!(decide (0≤es[j].1) && decide (es[j].1<nT p)))=false;rw[hc];rfl
   |false=>
    have e:trE p k [es[j]] = [(((k:Int),es[j].1),es[j].2)]:=by unfold trE;rw[sF,hc];rfl
    rw[e];refine Ay ?_ ?_
    ·show(!(decide (0≤es[j].1) && decide (es[j].1<nT p)))=true;rw[hc];rfl
    ·rw[←oE];refine o _ (((k:Int),es[j].1),es[j].2) s ?_ c;rw[oE,←e,←VR h];exact((List.prefix_append_right_inj _).2 (dZ p k es (j+1))).trans b
 refine⟨s',q,?_⟩;rw[pU (pH _)]at l;show I (trs p E (k+1)) s';rw[a];exact l
theorem au(H:Fin p B E){b:dtK}{e:List Edge}(g:B[n]? =some b)(i:E[n]? =some e){s t:Int}:(s,t)∈e↔J6 p.2.2.1 B b e s t∧t≠-1:=by
 have hd:=H.done n b e g i;constructor
 ·intro h;have⟨q,c,d,a,j,f⟩:=hd.2 _ h;dsimp only at d f;exact⟨.inl ⟨by rw[←hd.1];exact qJ.2 ⟨_,h,rfl⟩,q,c,d,a,j,f,h⟩,nJ⟩
 ·rintro⟨⟨_,q,c,_,_,_,_,h⟩|⟨_,h⟩,a⟩
  ·exact h
  ·exact nC h a
theorem KC(H:Fin p B E){e:List Edge}(i:n<B.length)(d:E[n]? =some e){s t:Int}:(s,t)∈e↔∃m:Nat,t=(m:Int)∧TrB p B E n s m:=by
 have f:=bD i;rw[au H f d];constructor
 ·rintro⟨c,j⟩;have g:=c;rcases c with⟨_,q,l,k,_⟩|⟨_,h⟩
  ·subst k;exact⟨q,rfl,_,e,f,d,g⟩
  ·exact nC h j
 ·rintro⟨m,rfl,o,r,a,b,c⟩;rw[f]at a;cases a;rw[d]at b;cases b;exact⟨c,nJ⟩
theorem Md(V:VPp p)(H:Fin p B E){x:Stp×Int}:x∈trs p E B.length↔∃(n:Nat) (s:Int) (m:Nat),x=(((n:Int),s),(m:Int))∧nT p≤s∧TrB p B E n s m:=by
 unfold trs trE;rw[sG];constructor
 ·rintro⟨n,a,d⟩;have a:=qO.1 a;have⟨e,c⟩:=H.edge (bD a);rw[c]at d;obtain⟨y,g,rfl⟩:=qJ.1 d;have⟨h,i⟩:=rO.1 g;obtain⟨m,j,b⟩:=(KC H a c (s:=y.1) (t:=y.2)).1 h;have f:=((HP V H).st b).2.2.2;refine⟨n,y.1,m,by rw[j],?_,b⟩;rw[mW f,rE,qC,nF]at i;omega
 ·rintro⟨n,s,m,rfl,k,b⟩;have a:n<B.length:=((HP V H).st b).1;have⟨e,c⟩:=H.edge (bD a);have f:=((HP V H).st b).2.2.2;refine⟨n,qO.2 a,?_⟩;rw[c];refine qJ.2 ⟨(s,(m:Int)),rO.2 ⟨(KC H a c).2 ⟨m,rfl,b⟩,?_⟩,rfl⟩;rw[mV (show ¬s<nT p by omega),Bool.and_false];rfl
theorem S9(V:VPp p)(H:Fin p B E):((trs p E B.length).map (·.1)).Nodup:=by
 have f:∀n,n≤B.length→((trs p E n).map (·.1)).Nodup∧ ∀x∈(trs p E n).map (·.1),x.1< (n:Int):=by
  intro n
  induction n with
  |zero=>intro _;exact⟨by simp[trs],by simp[trs]⟩
  |succ n o=>
   intro q;obtain⟨r,j⟩:=o nJ;have d:=bD (show n<B.length from q);have⟨e,k⟩:=H.edge d;have hd:=(H.done n _ e d k).1;have l:=eu p.2.2.1 B[n].2.1;rw[←hd]at l;have m:∀x∈(trE p n e).map (·.1),x.1=(n:Int):=by
    intro x i;obtain⟨y,s,rfl⟩:=qJ.1 i;obtain⟨z,_,rfl⟩:=qJ.1 s;rfl
   have t:((trE p n e).map (·.1)).Nodup:=by
    unfold trE;rw[List.map_map];have c:((e.filter λe=> !(decide (0≤e.1) && decide (e.1<nT p))).map (·.1)).Pairwise (· < ·):=l.sublist (List.Sublist.map _ List.filter_sublist);rw[List.nodup_iff_pairwise_ne,sC];rw[sC]at c;exact c.imp λ{a b} h g=>by
     have:=(Prod.mk.inj g).2
     omega
   rw[Re,k];show((trs p E n++trE p n e).map (·.1)).Nodup∧ ∀x∈(trs p E n++trE p n e).map (·.1),x.1< ((n+1:Nat):Int);rw[pX];refine⟨rD.2 ⟨r,t,λa u b d g=>?_⟩,λx i=>?_⟩
   ·have:=j a u
    have:=m b d
    subst g;omega
   ·rcases pA.1 i with h | h
    ·have:=j x h;omega
    ·have:=m x h;omega
 exact(f _ (pH _)).1
theorem da(V:VPp p)(H:Fin p B E)(d:∀n s m,TrB p B E n s m→s<nT p+(p.2.1.length:Int)):(trs p E B.length).length≤B.length *p.2.1.length:=by
 have h:=List.Nodup.length_le_of_subset (l₂:=(rK B.length).flatMap λa=>(rK p.2.1.length).map λb=>(((a:Nat):Int),nT p+((b:Nat):Int))) (S9 V H) λx e=>by
  obtain⟨y,f,rfl⟩:=qJ.1 e;obtain⟨n,s,m,rfl,i,c⟩:=(Md V H).1 f;have j:=d n s m c;have g:n<B.length:=((HP V H).st c).1;refine sG.2 ⟨n,qO.2 g,qJ.2 ⟨(s - nT p).toNat,qO.2 nJ,Prod.ext rfl ?_⟩⟩;dsimp only;omega
 rw[pF,List.length_flatMap]at h;simp only[pF,rZ,List.map_const',List.sum_replicate_nat]at h;exact h
structure Num (st:List Stp) (nm:List (Stp×Int)):Prop where
 at_:∀(i:Nat) k,st[i]? =some k→BZ k nm=some (i:Int)
 none:∀k,k∉st→BZ k nm=none
theorem av(V:VPp p)(H:Fin p B E)(m:B.length≤1000000)(t:(trs p E B.length).length≤100000):Ok (SP p (BG p B E tt) MB ([],[])) λst=>st.1=(trs p E B.length).map (·.1)∧Num st.1 st.2:=by
 have c:=S9 V H;refine Xb V H m (λa (st:EnS)=>st.1=a.map (·.1)∧Num st.1 st.2) ⟨rfl,λi k h=>by simp at h,λ_ _=>rfl⟩ λa x st b n=>?_;obtain⟨o,nm⟩:=st;obtain⟨rfl,j⟩:=n;dsimp only at j ⊢;have l:a.length+1≤(trs p E B.length).length:=by
  have:=b.length_le
  simpa using this
 have d:x.1∉a.map (·.1):=by
  obtain⟨r,q⟩:=b;rw[←q,pX,pX]at c
  have:=(rD.1 (rD.1 c).1).2.2
  intro s;exact this _ s x.1 nP rfl
 unfold MB;dsimp only;refine Az nN (AB ⟨nP,λi k h=>?_,λk f=>?_⟩)
 ·dsimp only at h ⊢;rw[DR];rcases sD i a.length with g | g
  ·rw[oK (by simpa using g)]at h;rw[nA (λe=>d (by rw[←e];exact oO h))];exact j.at_ i k h
  ·rw[pJ (by simpa using g),pF]at h
   have:i - a.length=0:=by
    have:=(oI.1 h).1
    simp at this;omega
   rw[this]at h;simp at h;rw[mZ h.symm];congr 1;simp;omega
 ·dsimp only at f ⊢;rw[pA]at f;rw[DR,nA λe=>f (.inr (by simp[e])),j.none k λh=>f (.inl h)]
end
end
structure EZ (p:dtP) (B:List dtK) (E:List (List Edge)) (fa:dtF):Prop where
 vp:VPp p
 sy:Sy p
 fin:Fin p B E
 gr:Gr (nT p) p.2.2.1
 few:B.length≤300
 vars:p.2.1.length≤24
 fa:aY p fa
 zero:∃st,p.2.2.1[0]? =some (nT p+(p.2.1.length:Int),[st],0)
section
variable {p:dtP}{B:List dtK}{E:List (List Edge)}{fa:dtF}{tt:Int}{steps:List Stp}{o1 o2:Option Nat}
theorem EZ.aut(H:EZ p B E fa):Aut p.2.2.1 (SB B) (KB B) (TrB p B E):=HP H.vp H.fin
theorem EZ.sym(H:EZ p B E fa){n m:Nat}{s:Int}(h:TrB p B E n s m):0≤s∧s<nT p+(p.2.1.length:Int):=by have A:=H.aut;have⟨y,a,b⟩:=A.some_ h;obtain⟨k,d,rfl,_,_⟩:=A.form (A.st h).1 a;have⟨r,c,e⟩:=Ga H.gr b (A.st h).2.2.2;exact H.sy.right r (oO c) s (oO e)
theorem EZ.lens(H:EZ p B E fa):(trs p E B.length).length≤7200:=by have h:=da H.vp H.fin λn s m a=>(H.sym a).2;have b:=H.few;have c:=H.vars;have d:B.length *p.2.1.length≤300 *24:=Nat.mul_le_mul b c;omega
theorem Xc(H:EZ p B E fa){n:Nat}(e:n<B.length){k:Nat}{r:Ap}(d:p.2.2.1[k]? =some r):
 Ok (CO (lkT p (BG p B E tt) fa steps o1 o2) (n:Int) (k:Int)) λb=>b=true↔It p.2.2.1 (KB B) n k r.2.1.length:=by have g:=Bt d;have a:=bD e;have h:=(H.fin.good H.vp a).2.2.2.2;unfold CO;refine AM (Q:=λc=>c=false) (AZ (mV nJ) (AB (mV nO))) λc f=>?_;subst f;refine AZ rfl (AS d (AO (VE H.vp H.fin a) (AO (contains_ok nJ) (AB ?_))));rw[nD];exact Gb H.vp H.fin a _
def Dir(p:dtP)(B:List dtK)(E:List (List Edge))(m:Nat)(j:Int):Prop:=(j<nT p∧ ∃q,TrB p B E m j q)∨(j=0∧It p.2.2.1 (KB B) m 0 1)
structure RdI (p:dtP) (B:List dtK) (E:List (List Edge)) (num:List (Stp×Int)) (x:Stp×Int) (d:Ae) (l:nH):Prop where
 ok:OkS d∧d.1=nT p
 mem:∀m:Nat,x.2=(m:Int)→ ∀j,Dg.mem d j=true↔Dir p B E m j
 few:l.length≤20000
 next:∀m:Nat,x.2=(m:Int)→ ∀k,k∈l↔∃c q,TrB p B E m c q∧nT p≤c∧Nul p.2.2.1 c∧(BZ ((m:Int),c) num).getD 0=k
theorem Bf{α:Type}{l:List α}{k:Nat}{x:α}(h:l[k]? =some x){y:α}:y∈l.take (k+1)↔y∈l.take k∨y=x:=by rw[qP,h,pA];simp
theorem aw(H:EZ p B E fa){J:List (Stp×Int)}{x:Stp×Int}{st:RdS}(o:x∈trs p E B.length)(a:st.1.length≤100000)(f:st.2.length≤100000):
 Ok (Rd p (BG p B E tt) fa steps J st x.1 x.2) λV=>∃d l,V=(st.1++ [d],st.2++ [l])∧RdI p B E J x d l:=by
 obtain⟨n,s,m,rfl,hs,ht⟩:=(Md H.vp H.fin).1 o;have A:=H.aut;have K:m<B.length:=(A.st ht).2.1;have hT:=H.sy.t1;have hV:=H.vars;have a7:nT p=(p.1.length:Int):=rfl;have W:=bD K;have⟨es,L⟩:=H.fin.edge W;have a8:=H.fin.edges_len H.vp W L;have cl:=Ou H.sy;obtain⟨z,S⟩:=H.zero;unfold Rd;dsimp only;have⟨s0,e0,k1,X,k3⟩:=Dg.new_ok (nT p);refine AO e0 (AM (Xc H K (k:=0) S) λb y=>?_);have y:b=true↔It p.2.2.1 (KB B) m 0 1:=y;refine AM (Q:=λ(u:Ae)=>OkS u∧u.1=nT p∧ ∀j,mem u j=true↔(j=0∧It p.2.2.1 (KB B) m 0 1)) (AR (λM=>?_) λM=>AB ⟨k1,X.trans cl,λj=>?_⟩) λu hu=>?_
 ·have⟨u,Y,Z,a3,a4⟩:=Dg.add_ok k1 0;refine AO Y (AB ⟨Z,a3.trans (X.trans cl),λj=>?_⟩);dsimp only;rw[a4,k3,Bool.false_or,nD];exact⟨λh=>⟨h.1,y.1 M⟩,λh=>⟨h.1,nJ,by rw[X,cl];omega⟩⟩
 ·rw[k3];constructor
  ·intro h;cases h
  ·intro h;have:=y.2 h.2;rw[M]at this;cases this
 obtain⟨u1,u2,u3⟩:=hu;refine AO (VF H.vp H.fin W L)<|BK (λj (z:Ae×nH)=>OkS z.1∧z.1.1=nT p∧(∀i,mem z.1 i=true↔(mem u i=true∨ ∃e∈es.take j,e.1=i∧e.1<nT p))∧z.2.length≤j∧ ∀k,k∈z.2↔∃e∈es.take j,nT p≤e.1∧Nul p.2.2.1 e.1∧(BZ ((m:Int),e.1) J).getD 0=k) nJ
  ⟨u1,u2,λi=>nP,nP,λk=>nP⟩ (λj z hj S=>?_) λz S=>?_
 ·obtain⟨zs,zl⟩:=z;obtain⟨N,C,O,z4,D⟩:=S;dsimp only at N C O z4 D ⊢;have o:=bD hj;obtain⟨e,a0⟩:∃e,es[j] =e:=⟨_,rfl⟩;rw[a0]at o;obtain⟨q,F,a5⟩:=(KC H.fin K L (s:=e.1) (t:=e.2)).1 (oO o);have⟨g0,g1⟩:=H.sym a5;refine AS o (AO (HO p _) (AR (λM=>?_) λM=>?_))
  ·rw[pI,nD,nD]at M;have⟨v,Y,Z,a3,a4⟩:=Dg.add_ok N e.1;refine AO Y (AB ⟨Z,a3.trans C,λi=>?_,nO,λk=>?_⟩)
   ·dsimp only;rw[a4,pE,O,nD,C];constructor
    ·rintro((h | ⟨g,a,f⟩)|h)
     ·exact .inl h
     ·exact .inr ⟨g,(Bf o).2 (.inl a),f⟩
     ·exact .inr ⟨e,(Bf o).2 (.inr rfl),h.1.symm,nJ⟩
    ·rintro(h | ⟨g,a,f,r⟩)
     ·exact .inl (.inl h)
     ·rcases(Bf o).1 a with a | rfl
      ·exact .inl (.inr ⟨g,a,f,r⟩)
      ·exact .inr ⟨f.symm,g0,r⟩
   ·dsimp only;rw[D];constructor
    ·rintro⟨g,a,f⟩;exact⟨g,(Bf o).2 (.inl a),f⟩
    ·rintro⟨g,a,f⟩;rcases(Bf o).1 a with a | rfl
     ·exact⟨g,a,f⟩
     ·omega
  ·rw[pZ,nF,nF]at M;have T:nT p≤e.1:=nJ
   have ee:bO .i64 (e.1 - nT p)=(((e.1 - nT p).toNat:Nat):Int):=by rw[w64 nJ nJ];omega
   have hn:=H.fa.len;have a6:(e.1 - nT p).toNat<fa.1.length:=nJ
   have U:=bD a6;have w:=H.fa.nul e.1 T;rw[U]at w;rw[ee];refine AS U ?_;have G:∀i,mem zs i=true↔(mem u i=true∨ ∃e∈es.take (j+1),e.1=i∧e.1<nT p):=λi=>by
    rw[O];constructor
    ·rintro(h | ⟨g,a,f⟩)
     ·exact .inl h
     ·exact .inr ⟨g,(Bf o).2 (.inl a),f⟩
    ·rintro(h | ⟨g,a,f,r⟩)
     ·exact .inl h
     ·rcases(Bf o).1 a with a | rfl
      ·exact .inr ⟨g,a,f,r⟩
      ·omega
   refine AR (λP=>Az nN (AB ⟨N,C,G,nN,λk=>?_⟩)) λP=>AB ⟨N,C,G,nO,λk=>?_⟩
   ·dsimp only;rw[pA,D,qM];constructor
    ·rintro(⟨g,a,f⟩|h)
     ·exact⟨g,(Bf o).2 (.inl a),f⟩
     ·exact⟨e,(Bf o).2 (.inr rfl),T,w.1 (by rw[P]),h.symm⟩
    ·rintro⟨g,a,f,r,I⟩;rcases(Bf o).1 a with a | rfl
     ·exact .inl ⟨g,a,f,r,I⟩
     ·exact .inr I.symm
   ·dsimp only;rw[D];constructor
    ·rintro⟨g,a,f⟩;exact⟨g,(Bf o).2 (.inl a),f⟩
    ·rintro⟨g,a,f,r,I⟩;rcases(Bf o).1 a with a | rfl
     ·exact⟨g,a,f,r,I⟩
     ·have:=w.2 r
      rw[P]at this;cases this
 ·obtain⟨zs,zl⟩:=z;obtain⟨N,C,O,z4,D⟩:=S;dsimp only at N C O z4 D ⊢;rw[pU (pH _)]at O D;refine Az nN (Az nN (AB ⟨zs,zl,rfl,⟨⟨N,C⟩,λm' R j=>?_,nJ,λm' R k=>?_⟩⟩))
  ·have:m'=m:=by dsimp only at R;omega
   subst this;rw[O,u3];unfold Dir;constructor
   ·rintro(h | ⟨e,a,rfl,r⟩)
    ·exact .inr h
    ·obtain⟨q,_,F⟩:=(KC H.fin K L (s:=e.1) (t:=e.2)).1 a;exact .inl ⟨r,q,F⟩
   ·rintro(⟨a,q,F⟩|h)
    ·exact .inr ⟨(j,(q:Int)),(KC H.fin K L).2 ⟨q,rfl,F⟩,rfl,a⟩
    ·exact .inl h
  ·have:m'=m:=by dsimp only at R;omega
   subst this;rw[D];constructor
   ·rintro⟨e,a,f,r,I⟩;obtain⟨q,_,F⟩:=(KC H.fin K L (s:=e.1) (t:=e.2)).1 a;exact⟨e.1,q,F,f,r,I⟩
   ·rintro⟨c,q,F,f,r,I⟩;exact⟨(c,(q:Int)),(KC H.fin K L).2 ⟨q,rfl,F⟩,f,r,I⟩
theorem db{α:Type}{l:List α}{i:Nat}{x y:α}(h:(l++ [x])[i]? =some y):(i<l.length∧l[i]? =some y)∨(i=l.length∧y=x):=by
 rcases sD i l.length with g | g
 ·rw[oK g]at h;exact .inl ⟨g,h⟩
 ·rw[pJ g]at h
  have:i - l.length=0:=by
   have:=(oI.1 h).1
   simp at this;omega
  rw[this]at h;simp at h;exact .inr ⟨nJ,h.symm⟩
theorem TA{α:Type}(l:List α)(x:α):(l++ [x])[l.length]? =some x:=nP
theorem ay(H:EZ p B E fa){c:List (Stp×Int)}:
 Ok (Pq p (BG p B E tt) fa steps c) λr=>r.1.length=(trs p E B.length).length∧r.2.length=(trs p E B.length).length∧ ∀(i:Nat) x,(trs p E B.length)[i]? =some x→ ∃d l,r.1[i]? =some d∧r.2[i]? =some l∧RdI p B E c x d l:=by
 have v:=H.lens;unfold Pq;refine Xb H.vp H.fin (by have:=H.few;omega) (λa (r:RdS)=>r.1.length=a.length∧r.2.length=a.length∧ ∀(i:Nat) x,a[i]? =some x→ ∃d l,r.1[i]? =some d∧r.2[i]? =some l∧RdI p B E c x d l) ⟨rfl,rfl,λi x h=>by simp at h⟩ λa x st b m=>?_;obtain⟨j,k,n⟩:=m;have e:=b.length_le;rw[pK,rQ]at e;refine(aw H (b.mem nP) nJ nJ).mono ?_;rintro _ ⟨d,l,rfl,o⟩;refine⟨by simp[j],by simp[k],λi y f=>?_⟩;rcases db f with⟨g,f⟩|⟨rfl,rfl⟩
 ·obtain⟨q,l',s,t,u⟩:=n i y f;exact⟨q,l',E0 s,E0 t,u⟩
 ·exact⟨d,l,by rw[←j];exact TA _ _,by rw[←k];exact TA _ _,o⟩
theorem O1{ll:List nH}{n x y:Int}:y∈DO ll x n↔x< (ll.length:Int)∧y∈ll[x.toNat]?.getD [] ∧0≤y∧y<n:=by
 unfold DO Lr;split
 ·constructor
  ·intro h;cases h
  ·intro h;omega
 ·rw[rO];constructor
  ·rintro⟨b,a⟩;rw[qC,qD,nF,nF]at a;exact⟨nJ,b,nJ,nJ⟩
  ·rintro⟨b,a,c,d⟩;refine⟨a,?_⟩;rw[qC,qD,nF,nF];omega
theorem Rf(H:EZ p B E fa){a:List (Stp×Int)}(c:Num ((trs p E B.length).map (·.1)) a){n m:Nat}{s:Int}(d:nT p≤s)(e:TrB p B E n s m):∃i:Nat,(trs p E B.length)[i]? =some (((n:Int),s),(m:Int))∧BZ ((n:Int),s) a=some (i:Int):=by obtain⟨i,b⟩:=pD ((Md H.vp H.fin).2 ⟨n,s,m,rfl,d,e⟩);exact⟨i,b,c.at_ i _ (by rw[pQ,b];rfl)⟩
theorem Rg{a:List Ae}{i:Nat}{d:Ae}(h:a[i]? =some d)(j:Int):mem (gv a (i:Int)) j=mem d j:=by rw[XV h]
theorem gP(H:EZ p B E fa){F:List (Stp×Int)}(O:Num ((trs p E B.length).map (·.1)) F){o:List Ae}{es:List nH}(U:o.length=(trs p E B.length).length)(h2:es.length=(trs p E B.length).length)
 (u:∀(i:Nat) x,(trs p E B.length)[i]? =some x→ ∃d l,o[i]? =some d∧es[i]? =some l∧RdI p B E F x d l):
 Ok (Iu es o) λr=>r.length=(trs p E B.length).length∧ ∀(i:Nat) (n:Int) (s:Int) (m:Nat),(trs p E B.length)[i]? =some ((n,s),(m:Int))→ ∃d,r[i]? =some d∧(OkS d∧d.1=nT p)∧ ∀j,mem d j=true↔Rdd (nT p) p.2.2.1 (KB B) (TrB p B E) m j:=by
 have hT:=H.sy.t1;have P:=H.lens;have V:nT p=(p.1.length:Int):=rfl;have A:=H.aut;obtain⟨r,W,X,Y⟩:=VH (ll:=es) (B:=o) (wide:=nT p) nJ nJ nJ (λl P=>by
  obtain⟨i,a⟩:=pD P;have G:=Bt a;obtain⟨d,l',_,C,b⟩:=u i _ (bD nJ);rw[a]at C;cases C
  have:=b.few
  omega) (λk s Q=>by
  have G:=Bt Q;obtain⟨d,l',g,_,b⟩:=u k _ (bD nJ);rw[Q]at g;cases g;exact b.ok)
 refine⟨r,W,X.trans U,λi n s m a=>?_⟩;have G:=Bt a;have R:=bD (l:=r) (i:=i) nJ;have⟨Z,k2,k3⟩:=Y i _ R;refine⟨_,R,⟨Z,k2⟩,λj=>?_⟩;rw[k3];constructor
 ·rintro⟨z,hz,D⟩;have w:∀(v z:Int),Dg.Reach es (o.length:Int) v z→mem (gv o z) j=true→ ∀(i:Nat) (n s:Int) (m:Nat),v=(i:Int)→(trs p E B.length)[i]? =some ((n,s),(m:Int))→Rdd (nT p) p.2.2.1 (KB B) (TrB p B E) m j:=by
   intro v z I
   induction I with
   |refl v=>
    intro D i n s m I a;have⟨d,l,g,_,b⟩:=u i _ a;subst I;rw[Rg g]at D;rcases(b.mem m rfl j).1 D with⟨e,q,f⟩|⟨rfl,f⟩
    ·exact .term f e
    ·exact .fin f
   | @step x y z hy _ K=>
    intro D i n s m I a;subst I;have⟨d,l,g,C,b⟩:=u i _ a;have⟨f1,S,f3,f4⟩:=O1.1 hy;rw[oU,C]at S;obtain⟨c,q,e,f,L,T⟩:=(b.next m rfl y).1 S;obtain⟨M,J,N⟩:=Rf H O f e;rw[N]at T;exact .next e f L (K D M _ _ q T.symm J)
  exact w _ _ hz D i n s m rfl a
 ·intro h;have w:∀ {m:Nat} {j:Int},Rdd (nT p) p.2.2.1 (KB B) (TrB p B E) m j→ ∀(i:Nat) (n s:Int),(trs p E B.length)[i]? =some ((n,s),(m:Int))→Nf es (o.length:Int) o (i:Int) j:=by
   intro m j h
   induction h with
   |term e f=>
    intro i n s a;have⟨d,l,g,_,b⟩:=u i _ a;exact⟨_,.refl _,by rw[Rg g];exact(b.mem _ rfl _).2 (.inl ⟨f,_,e⟩)⟩
   |fin e=>
    intro i n s a;have⟨d,l,g,_,b⟩:=u i _ a;exact⟨_,.refl _,by rw[Rg g];exact(b.mem _ rfl _).2 (.inr ⟨rfl,e⟩)⟩
   | @next m q c t e f L _ K=>
    intro i n s a;have⟨d,l,g,C,b⟩:=u i _ a;obtain⟨M,J,N⟩:=Rf H O f e;refine Nf.back (.step (O1.2 ⟨by have:=Bt a;omega,?_,nJ,by have:=Bt J;omega⟩) (.refl _)) (K M _ _ J);rw[oU,C];exact(b.next m rfl _).2 ⟨c,q,e,f,L,by rw[N];rfl⟩
  exact w h i n s a
end
section
variable {p:dtP}{B:List dtK}{E:List (List Edge)}{fa:dtF}{tt:Int}{steps:List Stp}{o1 o2:Option Nat}
theorem dc(H:EZ p B E fa){s:Int}(h:s<nT p):¬Nul p.2.2.1 s:=λg=>by have:=g.var H.gr;omega
theorem YW{s o:Ae}(H:OkS s)(K:OkS o):Ok (Tu s o) λr=>OkS r.2:=by unfold Tu;exact Bu ⟨H,K⟩ (AB (Og H K).1)
theorem Rh{s:Ae}(H:OkS s):Ok (Sq s) λ_=>True:=by unfold Sq;rw[JO H];exact AB trivial
theorem gQ(H:EZ p B E fa){seq:nH}(I:∀s∈seq,0≤s∧s<nT p+(p.2.1.length:Int))(S:seq.length≤1000):Ok (EX fa p seq) λr=>r.2=true↔∀s∈seq,Nul p.2.2.1 s:=by
 have T:=H.sy.t1;have U:=H.vars;have J:nT p=(p.1.length:Int):=rfl;have m:=H.fa;have cl:=Ou H.sy;unfold EX;have⟨V,e0,K,W,_⟩:=Dg.new_ok (nT p);refine AO e0<|Gs (λk (z:Ae)=>OkS z∧ ∀s∈seq.take k,Nul p.2.2.1 s) (λb=>b.2=false∧ ¬ ∀s∈seq,Nul p.2.2.1 s) nJ ⟨K,nP⟩ (λk z C t=>?_) (λz t=>?_) λb g=>AB ⟨λh=>(by rw[g.1]at h;cases h),λh=>nC h g.2⟩
 ·obtain⟨n,q⟩:=t;have j:=bD C;have d:=oQ C;have⟨X,Y⟩:=I _ d;refine AM (Q:=λ(e:AX Ae (nH×Bool))=>(∃s',e= .next s'∧OkS s'∧ ∀s∈seq.take (k+1),Nul p.2.2.1 s)∨ ∃b,e= .done b∧b.2=false∧ ¬ ∀s∈seq,Nul p.2.2.1 s) ?_ λe L=>?_
  ·refine AS j (AO (HO p seq[k]) (AR (λw=>?_) λw=>?_))
   ·rw[pI,nD,nD]at w;have⟨v,M,N,_⟩:=Dg.add_ok n seq[k];refine AO M (AM (Rh N) λl _=>AB (.inr ⟨_,rfl,rfl,λh=>dc H nJ (h _ d)⟩))
   ·rw[pZ,nF,nF]at w;have O:bO .i64 (seq[k] - (p.1.length:Int))=(((seq[k] - nT p).toNat:Nat):Int):=by rw[w64 nJ nJ];omega
    rw[O];have Z:=m.len;have P:=m.flen;refine AM (Q:=λc=>c=false) (AZ (mV nJ) (AB (mV nJ))) λc a=>?_;subst a;refine AZ rfl ?_;have D:=bD (l:=fa.2.1) (i:=(seq[k] - nT p).toNat) nJ;have F:=m.few _ (oO D);obtain⟨o,R,o1,_⟩:=Dg.of_ok (nT p) fa.2.1[(seq[k] - nT p).toNat] nJ;have g:=bD (l:=fa.1) (i:=(seq[k] - nT p).toNat) nJ;have f:=m.nul seq[k] nJ;rw[g]at f;refine AS D (AO R (AM (YW n o1) λu G=>AS g (AR (λa=>AM (Rh G) λl _=>AB (.inr ⟨_,rfl,rfl,λh=>?_⟩)) λa=>AB (.inl ⟨_,rfl,G,λs x=>?_⟩))))
    ·have:=f.2 (h _ d)
     rw[qC]at a;rw[a]at this;cases this
    ·rcases(Bf j).1 x with h | rfl
     ·exact q s h
     ·refine f.1 ?_;rw[Bool.not_eq_false']at a;rw[a]
  ·rcases L with⟨s',rfl,y,A⟩|⟨b,rfl,y,A⟩
   ·exact Bd ⟨y,A⟩
   ·exact BB ⟨y,A⟩
 ·obtain⟨n,q⟩:=t;rw[pU (pH _)]at q;exact AM (Rh n) λl _=>AB ⟨λ_=>q,λ_=>rfl⟩
def Hit(p:dtP)(B:List dtK)(E:List (List Edge))(a:List (Stp×Int))(n k i:Nat)(kk:Nat):Prop:=
 ∃(q m':Nat) (r:Ap) (c:Int),((trs p E B.length).map (·.1))[n]? =some ((q:Int),r.1)∧p.2.2.1[k]? =some r∧r.2.1[i]? =some c∧(∀s∈r.2.1.drop (i+1),Nul p.2.2.1 s)∧nT p≤c∧Pth (TrB p B E) q (r.2.1.take i) m'∧BZ ((m':Int),c) a=some (kk:Int)
def Bef(n k i a b c:Nat):Prop:=a<n∨(a=n∧(b<k∨(b=k∧c<i)))
structure Ri (p:dtP) (B:List dtK) (E:List (List Edge)) (num:List (Stp×Int)) (n k i:Nat) (X:List nH):Prop where
 len:X.length=(trs p E B.length).length
 few:∀l∈X,l.length≤(n *100+k) *100+i
 mem:∀(kk:Nat) l,X[kk]? =some l→ ∀z,z∈l↔∃n' k' i',z=((n':Nat):Int)∧Bef n k i n' k' i'∧Hit p B E num n' k' i' kk
theorem Ri.same{a:List (Stp×Int)}{n k i f g j:Nat}{X:List nH}(h:Ri p B E a n k i X)(s:(n *100+k) *100+i≤(f *100+g) *100+j)(r:∀b c d kk,Hit p B E a b c d kk→(Bef n k i b c d↔Bef f g j b c d)):Ri p B E a f g j X:=
 ⟨h.len,λl m=>qG (h.few l m) s,λkk l m z=>by
  rw[h.mem kk l m z];constructor
  ·rintro⟨b,c,d,o,q,e⟩;exact⟨b,c,d,o,(r _ _ _ _ e).1 q,e⟩
  ·rintro⟨b,c,d,o,q,e⟩;exact⟨b,c,d,o,(r _ _ _ _ e).2 q,e⟩⟩
theorem Me(H:EZ p B E fa){n:Nat}(a:n< (trs p E B.length).length):∃(q m:Nat) (s:Int),(trs p E B.length)[n]? =some (((q:Int),s),(m:Int))∧((trs p E B.length).map (·.1))[n]? =some ((q:Int),s)∧nT p≤s∧TrB p B E q s m:=by obtain⟨q,s,m,b,c,d⟩:=(Md H.vp H.fin).1 (oQ a);exact⟨q,m,s,by rw[bD a,b],by rw[pQ,bD a,b];rfl,c,d⟩
theorem iZ(H:EZ p B E fa){n m:Nat}{s:Int}(h:TrB p B E n s m):BF (BG p B E tt) (n:Int) s=some (m:Int):=by obtain⟨b,e,a,c,d⟩:=h;have⟨x,f,g⟩:=XT (t:=tt) H.vp H.fin a c s;rw[f,J6.unique H.fin g d]
theorem JW{n k i a b c:Nat}:Bef n k (i+1) a b c↔Bef n k i a b c∨(a=n∧b=k∧c=i):=by unfold Bef;omega
theorem de(H:EZ p B E fa){a:List (Stp×Int)}(hN:Num ((trs p E B.length).map (·.1)) a){n k:Nat}{q:Nat}{r:Ap}{m:Nat}(P:((trs p E B.length).map (·.1))[n]? =some ((q:Int),r.1))(j:p.2.2.1[k]? =some r)(Z:TrB p B E q r.1 m)
 {i:Nat} {c:Int} (o:r.2.1[i]? =some c) {R:Nat} (I:Pth (TrB p B E) q (r.2.1.take i) R) {X:List nH} (C:Ri p B E a n k i X) (hn:n≤7200):
 Ok (ac p (BG p B E tt) fa a (n:Int) r.2.1 (i:Int) ((R:Int),X)) λz=>∃G:Nat,z.1=(G:Int)∧Pth (TrB p B E) q (r.2.1.take (i+1)) G∧Ri p B E a n k (i+1) z.2:=by
 have A:=H.aut;have hi:=Bt o;have d:=oO j;have hk:=Bt j;have a0:=H.vp.few;have a1:=H.vp.short r d;have⟨a2,S⟩:=A.starts H.gr j Z;have hq:SB B q:=(A.st Z).1;have J:=A.part H.gr hq j S (l:=r.2.1.take i) (l':=r.2.1.drop i) (rR _ _).symm I;rw[rH,Nat.min_eq_left nJ]at J;have⟨G,T,g2⟩:=A.step H.gr (A.at0 hq I) J j o;unfold ac;have e1:((i:Int)+1).toNat=i+1:=nJ
 rw[e1];refine AS o (Bu ⟨nJ,nJ⟩ (AM (gQ H (seq:=r.2.1.drop (i+1)) (λs P=>H.sy.right r d s (qU P)) nN) λsq K=>?_));refine AM (Q:=λb=>b=true↔(∀s∈r.2.1.drop (i+1),Nul p.2.2.1 s)∧nT p≤c) (AR (λh=>AO (HO p c) (AB ?_)) λh=>AB ?_) λb hb=>?_
 ·have h0:=(H.sy.right r d c (oO o)).1;rw[mW h0,rE,qC,nF];exact⟨λg=>⟨K.1 h,oW.1 g⟩,λg=>oW.2 g.2⟩
 ·constructor
  ·intro g;cases g
  ·intro g;rw[K.2 g.1]at h;cases h
 have next:Pth (TrB p B E) q (r.2.1.take (i+1)) G:=by
  rw[qP,o];exact Pth.app.2 ⟨R,I,G,T,rfl⟩
 refine AM (Q:=λX'=>Ri p B E a n k (i+1) X') (AR (λh=>?_) λh=>AB ?_) λX' U=>?_
 ·have⟨ha,L⟩:=hb.1 h;have⟨kk,b1,V⟩:=Rf H hN L T;rw[V];have D:kk<X.length:=by rw[C.len];exact Bt b1
  have t:=bD D;have a3:=C.few _ (oQ D);refine AS (i:=kk) t (Az nN ?_);show Ok (DQ X ((kk:Nat):Int) (X[kk] ++ [(n:Int)])) _;rw[IW nJ nJ,oU];refine AB ⟨by simp[C.len],λl F=>?_,λk3 l F z=>?_⟩
  ·rcases rA F with h | rfl
   ·have:=C.few l h;omega
   ·rw[pK,rQ];omega
  ·have M:Hit p B E a n k i kk:=⟨q,R,r,c,P,j,o,ha,L,I,V⟩;rw[rC]at F;split at F
   ·rename_i e
    subst e;try rw[mZ D]at F
    cases F;rw[pA,C.mem kk _ t,qM];constructor
    ·rintro(⟨u,v,w,x,f,y⟩|rfl)
     ·exact⟨u,v,w,x,JW.2 (.inl f),y⟩
     ·exact⟨n,k,i,rfl,JW.2 (.inr ⟨rfl,rfl,rfl⟩),M⟩
    ·rintro⟨u,v,w,x,f,y⟩;rcases JW.1 f with f | ⟨rfl,rfl,rfl⟩
     ·exact .inl ⟨u,v,w,x,f,y⟩
     ·exact .inr x
   ·rename_i e
    rw[C.mem k3 l F];constructor
    ·rintro⟨u,v,w,x,f,y⟩;exact⟨u,v,w,x,JW.2 (.inl f),y⟩
    ·rintro⟨u,v,w,x,f,y⟩;rcases JW.1 f with f | ⟨rfl,rfl,rfl⟩
     ·exact⟨u,v,w,x,f,y⟩
     ·exfalso;obtain⟨q2,m3,r2,c2,W,N,O,_,_,j6,j7⟩:=y;rw[j]at N;cases N;rw[o]at O;cases O;rw[P]at W;have Y:q=q2:=by have:=(Prod.mk.inj (Option.some.inj W)).1;omega
      subst Y
      have:=Pth.fn A I j6
      subst this;rw[V]at j7
      have:=Option.some.inj j7
      omega
 ·refine C.same nJ λu v w kk hh=>?_;rw[JW];constructor
  ·exact λg=>.inl g
  ·rintro(g | ⟨rfl,rfl,rfl⟩)
   ·exact g
   ·exfalso;obtain⟨q2,m3,r2,c2,W,N,O,j4,j5,_,_⟩:=hh;rw[j]at N;cases N;rw[o]at O;cases O
    have:=hb.2 ⟨j4,j5⟩
    rw[h]at this;cases this
 ·refine AO (iZ H T) (AB ⟨G,rfl,next,U⟩)
theorem VS(H:EZ p B E fa){a:List (Stp×Int)}(O:Num ((trs p E B.length).map (·.1)) a):
 Ok (He p (BG p B E tt) fa ((trs p E B.length).map (·.1)) a) λX=>Ri p B E a (trs p E B.length).length 0 0 X:=by
 have b:=H.lens;have A:=H.aut;have P:=H.vp.few;unfold He;rw[pF];refine AO (x:=pS (trs p E B.length).length []) (by unfold EC;rw[mZ ⟨nJ,nJ⟩,oU])<|CM (n:=(trs p E B.length).length) (λn X=>Ri p B E a n 0 0 X) nJ ⟨nP,λl b=>by rw[(List.mem_replicate.1 b).2];simp,λkk l b z=>?_⟩ λn X Q v=>?_
 ·rw[rG]at b;split at b
  ·cases b;constructor
   ·intro h;cases h
   ·rintro⟨j,o,C,_,t,_⟩;unfold Bef at t;omega
  ·cases b
 have⟨q,m,s,h1,t,h3,R⟩:=Me H Q;refine AS t ?_;obtain⟨X',S,T⟩:=CM (f:=λk X=>(idx p.2.2.1 k).bind λr=>cond (r.1 !=s) (some X) ((forS (σ:=Int×List nH) 0 (r.2.1.length:Int) ((q:Int),X) (ac p (BG p B E tt) fa a (n:Int) r.2.1)).bind λz=>some z.2)) (n:=p.2.2.1.length) (λk X=>Ri p B E a n k 0 X) nJ (s:=X) v λk X U v=>by
  have d:=bD U;obtain⟨r,D⟩:∃r,p.2.2.1[k] =r:=⟨_,rfl⟩;rw[D]at d;have V:=H.vp.short r (oO d);refine AS d (AR (λw=>AB ?_) λw=>?_)
  ·refine v.same nJ λj o C kk u=>?_;constructor
   ·unfold Bef;omega
   ·intro g;by_cases e:j=n∧o=k
    ·obtain⟨rfl,rfl⟩:=e;exfalso;obtain⟨J,K,L,M,N,c,_⟩:=u;rw[d]at c;cases c;rw[t]at N
     have:=(Prod.mk.inj (Option.some.inj N)).2
     rw[this]at w;simp at w
    ·unfold Bef at g ⊢;omega
  ·have F:r.1=s:=by simpa using w
   subst F;refine BK (λi (z:Int×List nH)=>∃y:Nat,z.1=(y:Int)∧Pth (TrB p B E) q (r.2.1.take i) y∧Ri p B E a n k i z.2) nJ ⟨q,rfl,by rw[List.take_zero];rfl,v⟩ (λi z W G=>?_) λz G=>?_
   ·obtain⟨z1,z2⟩:=z;obtain⟨y,rfl,Y,I⟩:=G;exact de H O t d R (bD W) Y I nJ
   ·obtain⟨y,_,_,I⟩:=G;refine AB (I.same nJ λj o C kk u=>?_);constructor
    ·unfold Bef;omega
    ·intro g;by_cases e:j=n∧o=k
     ·obtain⟨rfl,rfl⟩:=e;obtain⟨J,K,L,M,_,c,Z,_⟩:=u;rw[d]at c;cases c
      have:=Bt Z
      unfold Bef;omega
     ·unfold Bef at g ⊢;omega
 refine⟨X',S,T.same nJ λj o C kk u=>?_⟩;obtain⟨J,K,L,M,_,c,_⟩:=u
 have:=Bt c
 unfold Bef;omega
theorem gR(H:EZ p B E fa){K:List (Stp×Int)}(Y:Num ((trs p E B.length).map (·.1)) K){u:List nH}(L:Ri p B E K (trs p E B.length).length 0 0 u){D:List Ae}(h1:D.length=(trs p E B.length).length)
 (Z:∀(i:Nat) (n:Int) (s:Int) (m:Nat),(trs p E B.length)[i]? =some ((n,s),(m:Int))→ ∃d,D[i]? =some d∧(OkS d∧d.1=nT p)∧ ∀j,mem d j=true↔Rdd (nT p) p.2.2.1 (KB B) (TrB p B E) m j):
 Ok (Iu u D) λr=>r.length=(trs p E B.length).length∧ ∀(i:Nat) (n:Nat) (s:Int) (m:Nat),(trs p E B.length)[i]? =some (((n:Int),s),(m:Int))→ ∃d,r[i]? =some d∧(OkS d∧d.1=nT p)∧ ∀j,mem d j=true↔Fol (nT p) p.2.2.1 (KB B) (TrB p B E) n s j:=by
 have hT:=H.sy.t1;have hl:=H.lens;have a9:nT p=(p.1.length:Int):=rfl;have A:=H.aut;obtain⟨r,T,e2,e3⟩:=VH (ll:=u) (B:=D) (wide:=nT p) nJ nJ nJ (λl hl=>by have:=L.few l hl;omega) (λk s hk=>by
  obtain⟨q,m,s',C,_⟩:=Me H (n:=k) (by have:=Bt hk;omega);have⟨d,U,F,_⟩:=Z k _ _ _ C;rw[hk]at U;cases U;exact F)
 refine⟨r,T,e2.trans h1,λi n s m f=>?_⟩;have b0:=Bt f;have hr:=bD (l:=r) (i:=i) nJ;have⟨k1,k2,k3⟩:=e3 i _ hr;refine⟨_,hr,⟨k1,k2⟩,λj=>?_⟩;rw[k3];have tr:∀ {i n m:Nat} {s:Int},(trs p E B.length)[i]? =some (((n:Int),s),(m:Int))→nT p≤s∧TrB p B E n s m:=λ{i n m s} h=>by
  obtain⟨V,s',m',C,U,F⟩:=(Md H.vp H.fin).1 (oO h);have M:=(Prod.mk.inj (Prod.mk.inj C).1).1;have w:=(Prod.mk.inj (Prod.mk.inj C).1).2;have N:=(Prod.mk.inj C).2
  have:n=V:=nJ
  subst this
  have:m=m':=nJ
  subst this;subst w;exact⟨U,F⟩
 constructor
 ·rintro⟨z,hz,J⟩;have G:∀(v z:Int),Dg.Reach u (D.length:Int) v z→mem (gv D z) j=true→ ∀(i n:Nat) (s:Int) (m:Nat),v=(i:Int)→(trs p E B.length)[i]? =some (((n:Int),s),(m:Int))→Fol (nT p) p.2.2.1 (KB B) (TrB p B E) n s j:=by
   intro v z O
   induction O with
   |refl v=>
    intro J i n s m O f;subst O;have⟨d,C,_,F⟩:=Z i _ _ _ f;rw[Rg C]at J;exact .read (tr f).2 ((F j).1 J)
   | @step x y z hy _ ih=>
    intro J i n s m O f;subst O;have⟨w1,w2,w3,w4⟩:=O1.1 hy;have I:i<u.length:=nJ
    have o:=bD I;rw[oU,o]at w2;obtain⟨V,k',P,rfl,_,q,m',r,c,j1,W,j3,j4,j5,j6,j7⟩:=(L.mem i _ o y).1 w2;have a0:V< (trs p E B.length).length:=by have:=Bt j1;rwa [pF]at this
    have⟨q2,m2,s2,M,w,N,X⟩:=Me H a0;rw[j1]at w;have Q:=(Prod.mk.inj (Option.some.inj w)).1;have b2:=(Prod.mk.inj (Option.some.inj w)).2
    have:q=q2:=nJ
    subst this;subst b2;have⟨b3,R⟩:=A.starts H.gr W X;have hq:SB B q:=(A.st X).1;have S:=A.part H.gr hq W R (l:=r.2.1.take P) (l':=r.2.1.drop P) (rR _ _).symm j6;rw[rH,Nat.min_eq_left (by have:=Bt j3;omega)]at S;have⟨mm,c1,c2⟩:=A.step H.gr (A.at0 hq j6) S W j3;have⟨kk,d1,d2⟩:=Rf H Y j5 c1;rw[j7]at d2
    have:kk=i:=by have:=Option.some.inj d2;omega
    subst this;rw[f]at d1;have d1:=Option.some.inj d1;have T:=(Prod.mk.inj (Prod.mk.inj d1).1).1;have e2:=(Prod.mk.inj (Prod.mk.inj d1).1).2;have T:n=m':=nJ
    subst T;subst e2;exact .incl (tr f).2 W (Hx j3) j4 R j6 (ih J V q r.1 m2 rfl M)
  exact G _ _ hz J i n s m rfl f
 ·intro h;have G:∀ {n:Nat} {s j:Int},Fol (nT p) p.2.2.1 (KB B) (TrB p B E) n s j→ ∀(i m:Nat),(trs p E B.length)[i]? =some (((n:Int),s),(m:Int))→Nf u (D.length:Int) D (i:Int) j:=by
   intro n s j h
   induction h with
   |read M w=>
    intro i m f
    have:=A.fn M (tr f).2
    subst this;have⟨d,C,_,F⟩:=Z i _ _ _ f;exact⟨_,.refl _,by rw[Rg C];exact(F _).2 w⟩
   | @incl n m0 q k a t r b g M w N X a5 a6 a7 ih=>
    intro i m f;obtain⟨m2,a8⟩:=a7.tr;have hL:nT p≤r.1:=(H.sy.left r (oO w)).1;obtain⟨P,Q,b2⟩:=Rf H Y hL a8;refine Nf.back (.step (O1.2 ⟨by have:=Bt f;have:=L.len;omega,?_,nJ,by have:=Bt Q;omega⟩) (.refl _)) (ih P m2 Q);have I:i<u.length:=by have:=Bt f;have:=L.len;omega
    have o:=bD I;rw[oU,o];refine(L.mem i _ o _).2 ⟨P,k,b.length,rfl,.inl (Bt Q),q,n,r,a,by rw[pQ,Q];rfl,w,by rw[N];simp,λs hs=>X s ?_,(tr f).1,by rw[N];simpa using a6,?_⟩
    ·rw[N]at hs;have e:(b++a::g).drop (b.length+1)=g:=nP
     rwa [e]at hs
    ·exact Y.at_ i _ (by rw[pQ,f];rfl)
  exact G h i m f
end
section
variable {p:dtP}{B:List dtK}{E:List (List Edge)}{fa:dtF}{tt:Int}{steps:List Stp}{o1 o2:Option Nat}
theorem az(H:Fin p B E){l:nH}{n m:Nat}(a:n<B.length)(h:Pth (TrB p B E) n l m):Walk p.2.2.1 B E (n:Int) l (m:Int):=(aR H a).2 h
theorem df(H:EZ p B E fa){n m:Nat}{l:nH}(a:n<B.length)(b:l.length≤1000000)(h:Pth (TrB p B E) n l m):Cf (BG p B E tt) (n:Int) l=some (m:Int):=by have⟨x,c,d,_⟩:=dH (t:=tt) H.vp H.fin a b;rw[c,Walk.unique H.fin d (az H.fin a h)]
def SN(p:dtP)(B:List dtK)(E:List (List Edge))(n k:Nat)(a:At)(q:Nat)(r:Ap):Prop:=
 ((trs p E B.length).map (·.1))[n]? =some ((q:Int),r.1)∧p.2.2.1[k]? =some r∧ ∃w:Nat,Pth (TrB p B E) q r.2.1 w∧a=((w:Int),(k:Int))
structure GiI (p:dtP) (B:List dtK) (E:List (List Edge)) (n k:Nat) (L:LkL):Prop where
 some_:∀key d,BZ key L=some d→(OkS d∧d.1=nT p)∧(∃n' k' q r,Bef n k 0 n' k' 0∧SN p B E n' k' key q r)∧ ∀j,mem d j=true↔∃n' k' q r,Bef n k 0 n' k' 0∧SN p B E n' k' key q r∧Fol (nT p) p.2.2.1 (KB B) (TrB p B E) q r.1 j
 none_:∀key,BZ key L=none→ ∀n' k' q r,Bef n k 0 n' k' 0→ ¬SN p B E n' k' key q r
theorem GB{n k a b:Nat}:Bef n (k+1) 0 a b 0↔Bef n k 0 a b 0∨(a=n∧b=k):=by unfold Bef;omega
theorem GiI.same{n k o s:Nat}{L:LkL}(h:GiI p B E n k L)(i:∀e f g q r,SN p B E e f g q r→(Bef n k 0 e f 0↔Bef o s 0 e f 0)):GiI p B E o s L:=by
 refine⟨λg d l=>?_,λg l e f q r m t=>h.none_ g l e f q r ((i _ _ _ _ _ t).2 m) t⟩;obtain⟨v,⟨e,f,q,r,w,u⟩,x⟩:=h.some_ g d l;refine⟨v,⟨e,f,q,r,(i _ _ _ _ _ u).1 w,u⟩,λj=>?_⟩;rw[x];constructor
 ·rintro⟨e,f,q,r,a,b,c⟩;exact⟨e,f,q,r,(i _ _ _ _ _ b).1 a,b,c⟩
 ·rintro⟨e,f,q,r,a,b,c⟩;exact⟨e,f,q,r,(i _ _ _ _ _ b).2 a,b,c⟩
theorem bA(H:EZ p B E fa){Z:List Ae}(hf:∀(i:Nat) (n:Nat) (s:Int) (m:Nat),(trs p E B.length)[i]? =some (((n:Int),s),(m:Int))→ ∃d,Z[i]? =some d∧(OkS d∧d.1=nT p)∧ ∀j,mem d j=true↔Fol (nT p) p.2.2.1 (KB B) (TrB p B E) n s j)
 {n k q m:Nat} {s:Int} (hn:(trs p E B.length)[n]? =some (((q:Int),s),(m:Int))) (ht:TrB p B E q s m) (hk:k<p.2.2.1.length) {L:LkL} (I:GiI p B E n k L):
 Ok (VQ p (BG p B E tt) Z (n:Int) ((q:Int),s) (k:Int) L) (GiI p B E n (k+1)):=by
 have A:=H.aut;have hT:=H.sy.t1;have a0:nT p=(p.1.length:Int):=rfl;have cl:=Ou H.sy;have D:=bD hk;obtain⟨r,N⟩:∃r,p.2.2.1[k] =r:=⟨_,rfl⟩;rw[N]at D;have G:((trs p E B.length).map (·.1))[n]? =some ((q:Int),s):=by rw[pQ,hn];rfl
 unfold VQ;refine AS D (AR (λJ=>AB ?_) λJ=>?_)
 ·refine I.same λv x e t u z=>?_;rw[GB];constructor
  ·exact λg=>.inl g
  ·rintro(g | ⟨rfl,rfl⟩)
   ·exact g
   ·exfalso;obtain⟨K,M,_⟩:=z;rw[D]at M;cases M;rw[G]at K
    have:=(Prod.mk.inj (Option.some.inj K)).2
    dsimp only at J;rw[this]at J;simp at J
 ·have O:r.1=s:=by simpa using J
  subst O;have⟨a5,P⟩:=A.starts H.gr D ht;have hq:SB B q:=(A.st ht).1;have⟨w,R,_⟩:=A.along H.gr D hq P (l:=r.2.1) rfl;have a6:=H.sy.short r (oO D);refine AO (df H hq nJ R) ?_;obtain⟨o,ho,⟨o1,o2⟩,o3⟩:=hf n q r.1 m hn;have F:SN p B E n k ((w:Int),(k:Int)) q r:=⟨G,D,w,R,rfl⟩;have y:∀e t u,SN p B E n k e t u→e=((w:Int),(k:Int))∧t=q∧u=r:=λe t u z=>by
   obtain⟨K,M,w',j3,j4⟩:=z;rw[D]at M;cases M;rw[G]at K;have S:q=t:=by have:=(Prod.mk.inj (Option.some.inj K)).1;omega
   subst S
   have:=Pth.fn A R j3
   subst this;exact⟨j4,rfl,rfl⟩
  refine AM (Q:=λT=>∃d,BZ ((w:Int),(k:Int)) T=some d∧(OkS d∧d.1=nT p)∧(∀j,mem d j=true↔∃v x t u,Bef n k 0 v x 0∧SN p B E v x ((w:Int),(k:Int)) t u∧Fol (nT p) p.2.2.1 (KB B) (TrB p B E) t u.1 j)∧ ∀e,e≠((w:Int),(k:Int))→BZ e T=BZ e L) ?_ λT U=>?_
  ·cases z:BZ ((w:Int),(k:Int)) L with
   |none=>
    have⟨s0,e0,k1,k2,k3⟩:=Dg.new_ok (nT p);refine Ay rfl (AO e0 (AB ⟨s0,by rw[DR,mZ rfl],⟨k1,k2.trans cl⟩,λj=>?_,λe V=>by rw[DR,nA V]⟩));rw[k3];constructor
    ·intro h;cases h
    ·rintro⟨v,x,t,u,a,b,_⟩;exact nC b (I.none_ _ z v x t u a)
   |some d=>
    have⟨W,a2,X⟩:=I.some_ _ d z;exact AZ rfl (AB ⟨d,z,W,X,λ_ _=>rfl⟩)
  ·obtain⟨d,b1,⟨b2,b3⟩,b4,b5⟩:=U;refine AS ho (AO b1 (Bu ⟨b2,o1⟩ (AB ?_)));have⟨u1,u2,u3⟩:=Og b2 o1;refine⟨λe dd f=>?_,λe f v x t u Y z=>?_⟩
   ·rw[DR]at f;by_cases C:e=((w:Int),(k:Int))
    ·subst C;rw[mZ rfl]at f;cases f;refine⟨⟨u1,u2.trans b3⟩,⟨n,k,q,r,GB.2 (.inr ⟨rfl,rfl⟩),F⟩,λj=>?_⟩;rw[u3,pE,pI,b4,o3,b3];constructor
     ·rintro(⟨v,x,t,u,a,b,c⟩|⟨h,_⟩)
      ·exact⟨v,x,t,u,GB.2 (.inl a),b,c⟩
      ·exact⟨n,k,q,r,GB.2 (.inr ⟨rfl,rfl⟩),F,h⟩
     ·rintro⟨v,x,t,u,a,b,c⟩;rcases GB.1 a with a | ⟨rfl,rfl⟩
      ·exact .inl ⟨v,x,t,u,a,b,c⟩
      ·have⟨_,e2,e3⟩:=y _ _ _ b;subst e2 e3;refine .inr ⟨c,mW ?_⟩
       have:=Pa o1 ((o3 j).2 c)
       omega
    ·rw[nA C,b5 e C]at f;obtain⟨W,⟨v,x,t,u,a2,X⟩,a4⟩:=I.some_ e dd f;refine⟨W,⟨v,x,t,u,GB.2 (.inl a2),X⟩,λj=>?_⟩;rw[a4];constructor
     ·rintro⟨v,x,t,u,a,b,c⟩;exact⟨v,x,t,u,GB.2 (.inl a),b,c⟩
     ·rintro⟨v,x,t,u,a,b,c⟩;rcases GB.1 a with a | ⟨rfl,rfl⟩
      ·exact⟨v,x,t,u,a,b,c⟩
      ·exact nC (y _ _ _ b).1 C
   ·rw[DR]at f;by_cases C:e=((w:Int),(k:Int))
    ·rw[mZ C]at f;cases f
    ·rw[nA C,b5 e C]at f;rcases GB.1 Y with Y | ⟨rfl,rfl⟩
     ·exact I.none_ e f v x t u Y z
     ·exact C (y _ _ _ z).1
structure gS (p:dtP) (B:List dtK) (E:List (List Edge)) (L:LkL):Prop where
 some_:∀key d,BZ key L=some d→OkS d∧d.1=nT p∧ ∃s k:Nat,key=((s:Int),(k:Int))∧s<B.length∧k<p.2.2.1.length∧ ∀j,mem d j=true↔Lk (nT p) p.2.2.1 (KB B) (TrB p B E) s k j
 none_:∀(s k:Nat) j,BZ ((s:Int),(k:Int)) L=none→k<p.2.2.1.length→ ¬Lk (nT p) p.2.2.1 (KB B) (TrB p B E) s k j
theorem dg(H:EZ p B E fa){Z:List Ae}(hf:∀(i:Nat) (n:Nat) (s:Int) (m:Nat),(trs p E B.length)[i]? =some (((n:Int),s),(m:Int))→ ∃d,Z[i]? =some d∧(OkS d∧d.1=nT p)∧ ∀j,mem d j=true↔Fol (nT p) p.2.2.1 (KB B) (TrB p B E) n s j):
 Ok (S7 p (BG p B E tt) fa ((trs p E B.length).map (·.1)) Z) (gS p B E):=by
 have hl:=H.lens;have A:=H.aut;have a0:=H.sy.few;have a5:=H.few;have hT:=H.sy.t1;have a6:nT p=(p.1.length:Int):=rfl;have cl:=Ou H.sy;obtain⟨z0,Q⟩:=H.zero;unfold S7;rw[pF];refine BK (λn L=>GiI p B E n 0 L) nJ ⟨(λa d h=>by cases h),λa _ l c q r N=>(by unfold Bef at N;omega)⟩ (λn L t v=>?_) λL v=>?_
 ·have⟨q,m,s,h1,h2,h3,h4⟩:=Me H t;refine AS h2 ?_;obtain⟨y,e1,e2⟩:=CM (f:=λk L=>VQ p (BG p B E tt) Z (n:Int) ((q:Int),s) k L) (n:=p.2.2.1.length) (λk L=>GiI p B E n k L) nJ (s:=L) v λk L u v=>bA H hf h1 h4 u v;refine⟨y,e1,e2.same λl c a q r G=>?_⟩
  have:=Bt G.2.1
  unfold Bef;omega
 ·refine AO (RU H.fin) ?_;have I:∀(w k:Nat) j,0<k→((∃l c q r,Bef (trs p E B.length).length 0 0 l c 0∧SN p B E l c ((w:Int),(k:Int)) q r∧Fol (nT p) p.2.2.1 (KB B) (TrB p B E) q r.1 j)↔Lk (nT p) p.2.2.1 (KB B) (TrB p B E) w k j):=λw k j u=>by
   constructor
   ·rintro⟨l,c,q,r,_,⟨z,K,w',R,J⟩,h⟩;have e1:w=w':=by have:=(Prod.mk.inj J).1;omega
    have e2:k=c:=by have:=(Prod.mk.inj J).2;omega
    subst e1 e2;obtain⟨m,hm⟩:=h.tr;exact .inr ⟨u,q,m,r,K,hm,R,h⟩
   ·rintro(⟨e,_⟩|⟨_,q,m,r,z,K,R,J⟩)
    ·omega
    ·have v:nT p≤r.1:=(H.sy.left r (oO z)).1;obtain⟨i,S⟩:=pD ((Md H.vp H.fin).2 ⟨q,r.1,m,rfl,v,K⟩);exact⟨i,k,q,r,.inl (Bt S),⟨by rw[pQ,S];rfl,z,w,R,rfl⟩,J⟩
  have pos:∀ {l c:Nat} {a:At} {q:Nat} {r:Ap},SN p B E l c a q r→0<c:=λ{l c a q r} G=>by
   obtain⟨z,K,_⟩:=G;have M:l< (trs p E B.length).length:=by have:=Bt z;rwa [pF]at this
   have⟨q2,m2,s2,O,C,X,a4⟩:=Me H M;rw[z]at C;have b1:=(Prod.mk.inj (Option.some.inj C)).1;have P:=(Prod.mk.inj (Option.some.inj C)).2
   have:q=q2:=nJ
   subst this;subst P;exact(A.starts H.gr K a4).1
  refine CM (n:=B.length) (λi (y:LkL)=>(∀(w k:Nat),0<k→BZ ((w:Int),(k:Int)) y=BZ ((w:Int),(k:Int)) L)∧(∀a d,BZ a y=some d→OkS d∧d.1=nT p∧ ∃s k:Nat,a=((s:Int),(k:Int))∧s<B.length∧k<p.2.2.1.length)∧
   (∀w:Nat,(∀d,BZ ((w:Int),(0:Int)) y=some d→(w<i∧It p.2.2.1 (KB B) w 0 1)∧ ∀j,mem d j=true↔j=0)∧(BZ ((w:Int),(0:Int)) y=none→w<i→ ¬It p.2.2.1 (KB B) w 0 1))) nJ (s:=L) ⟨λ_ _ _=>rfl,λa d u=>?_,λw=>⟨λd hd=>?_,λ_ h=>nJ⟩⟩ (λi y S D=>?_) |>.elim λy D=>⟨y,D.1,?_⟩
  ·obtain⟨⟨O,C⟩,⟨l,c,q,r,_,G⟩,_⟩:=v.some_ a d u;obtain⟨z,K,w,R,J⟩:=G;have M:l< (trs p E B.length).length:=by have:=Bt z;rwa [pF]at this
   have⟨q2,m2,s2,b1,P,b3,b4⟩:=Me H M;rw[z]at P;have c1:=(Prod.mk.inj (Option.some.inj P)).1
   have:q=q2:=nJ
   subst this;exact⟨O,C,w,c,J,A.at0 (A.st b4).1 R,Bt K⟩
  ·obtain⟨_,⟨l,c,q,r,_,G⟩,_⟩:=v.some_ _ d hd;have h0:=pos G;obtain⟨_,_,w',_,J⟩:=G
   have:=(Prod.mk.inj J).2
   omega
  ·obtain⟨T,Y,F⟩:=D;refine AM (Xc (tt:=tt) (steps:=(trs p E B.length).map (·.1)) (o1:=none) (o2:=none) H S (k:=0) Q) λb N=>?_;have N:b=true↔It p.2.2.1 (KB B) i 0 1:=N;refine AR (λhc=>?_) λhc=>AB ⟨T,Y,λw=>⟨λd hd=>⟨⟨by have:=((F w).1 d hd).1.1;omega,((F w).1 d hd).1.2⟩,((F w).1 d hd).2⟩,λt hw U=>?_⟩⟩
   ·obtain⟨o,e,O,C,X⟩:=Dg.of_ok (nT p) [0] nP;refine AO e (AB ⟨λw k u=>?_,λa d hd=>?_,λw=>⟨λd hd=>?_,λt hw=>?_⟩⟩)
    ·rw[DR,nA (λe=>by have:=(Prod.mk.inj e).2;omega)];exact T w k u
    ·rw[DR]at hd;split at hd
     ·rename_i V
      cases hd;exact⟨O,C.trans cl,i,0,V,S,Bt Q⟩
     ·exact Y a d hd
    ·rw[DR]at hd;split at hd
     ·rename_i V
      cases hd
      have:w=i:=by have:=(Prod.mk.inj V).1;omega
      subst this;refine⟨⟨nJ,N.1 hc⟩,λj=>?_⟩;rw[X,cl,pI,nD];constructor
      ·rintro⟨_,h⟩;simpa using h
      ·rintro rfl;exact⟨nJ,nP⟩
     ·obtain⟨⟨g1,g2⟩,g3⟩:=(F w).1 d hd;exact⟨⟨nJ,g2⟩,g3⟩
    ·rw[DR]at t;split at t
     ·cases t
     ·rename_i V
      have:w≠i:=λe=>V (by rw[e])
      exact(F w).2 t nJ
   ·by_cases e:w=i
    ·subst e
     have:=N.2 U
     rw[hc]at this;cases this
    ·exact(F w).2 t nJ U
  ·obtain⟨_,T,Y,F⟩:=D;refine⟨λa d hd=>?_,λs k j t u=>?_⟩
   ·obtain⟨O,C,s,k,rfl,X,a4⟩:=Y a d hd;refine⟨O,C,s,k,rfl,X,a4,λj=>?_⟩;rcases rY k with rfl | u
    ·obtain⟨⟨_,g2⟩,g3⟩:=(F s).1 d hd;rw[g3];constructor
     ·rintro rfl;exact .inl ⟨rfl,rfl,g2⟩
     ·exact dI
    ·rw[T s k u]at hd;rw[((v.some_ _ d hd).2.2 j),I s k j u]
   ·rcases rY k with rfl | W
    ·rintro(⟨_,_,h⟩|⟨h,_⟩)
     ·have hs:s<B.length:=by
       rcases sD s B.length with g | g
       ·exact g
       ·exfalso
        have:KB B s= []:=by unfold KB;rw[rP g]
        unfold It at h;rw[this]at h;have a:∀x,Cl p.2.2.1 [] x→False:=λx hx=>by
         induction hx with
         |base h=>cases h
         |step _ _ _ ih=>exact ih
        exact a _ h
      exact(F s).2 t hs h
     ·omega
    ·rw[T s k W]at t;intro h;obtain⟨l,c,q,r,b1,P,_⟩:=(I s k j W).2 h
     exact v.none_ _ t l c q r b1 P
theorem dh{p:dtP}{B:List dtK}{E:List (List Edge)}{tt:Int}(H:∀fa,aY p fa→EZ p B E fa)(S:Sy p):Ok (Xa p (BG p B E tt)) λr=>∃d,r=some d∧d.p=p∧d.A=BG p B E tt∧aY p d.fa∧gS p B E d.L:=by unfold Xa;refine AM (aZ S) λfa a=>?_;have H:=H fa a;have o:=H.lens;have i:=H.few;refine AM (av (tt:=tt) H.vp H.fin nJ nJ) λst f=>?_;obtain⟨j,k⟩:=st;obtain⟨rfl,e⟩:=f;dsimp only at e ⊢;refine AM (ay (tt:=tt) H) λq g=>?_;obtain⟨r1,l,r3⟩:=g;refine AM (VS (tt:=tt) H e) λm b=>AM (gP H e r1 l r3) λs c=>AM (gR H e b c.1 c.2) λt h=>AM (dg (tt:=tt) H h.2) λL n=>AB ⟨_,rfl,rfl,rfl,a,n⟩
end
end Go.Proofs.YtfnppeejaimnbaaGreatDoor
namespace Go.Proofs.YtfnppeejaimnbaaGreatDoor
open Go Go.Eng
section
variable {i:Nat}
section
variable {φ:AD}{h:AH}{F:List Chk}
theorem Xd{φ:AD}{S S':List Slc}{E:List (List Edge)}{B a:List dtK}{c:Nat}(d:S.length=B.length)(f:E.length=B.length)(H:DJ φ S E c)(g:Gx S E i)(h:(a=B∧S'=S)∨ ∃x,a=B++ [x] ∧S'=S++ [DC]):
 S'.length=a.length∧(EI E B.length a.length).length=a.length∧DJ φ S' (EI E B.length a.length) c∧Gx S' (EI E B.length a.length) i∧(∀(j:Nat) s,S[j]? =some s→S'[j]? =some s)∧(∀(j:Nat) e,E[j]? =some e→(EI E B.length a.length)[j]? =some e)∧ ∀(j:Nat) b,B[j]? =some b→a[j]? =some b:=by
 rcases h with⟨rfl,rfl⟩|⟨x,rfl,rfl⟩
 ·unfold EI;rw[mZ rfl];exact⟨d,f,H,g,λ_ _ h=>h,λ_ _ h=>h,λ_ _ h=>h⟩
 ·unfold EI;rw[nA nP];have ap:∀ {α:Type} {l:List α} {x y:α} {j:Nat},l[j]? =some y→(l++ [x])[j]? =some y:=λ{α l x y j} h=>by
   rw[oK (oI.1 h).1];exact h
  exact⟨by simp[d],by simp[f],H.snoc nJ,g.snoc,λ_ _ h=>ap h,λ_ _ h=>ap h,λ_ _ h=>ap h⟩
theorem VT{S:List Slc}{E:List (List Edge)}(H:Gx S E i)(c:i<S.length)(d:i<E.length):S[i]? =some DC∧E[i]? =some []:=by have a:=bD c;have b:=bD d;exact⟨by rw[a,(H i (pH _)).1 _ a],by rw[b,(H i (pH _)).2 _ b]⟩
theorem Gx.mono{S:List Slc}{E:List (List Edge)}{a:Nat}(H:Gx S E i)(h:i≤a):Gx S E a:=λj b=>H j (qG h b)
theorem bB{φ:AD}{S:List Slc}{E:List (List Edge)}{s:Slc}{e:List Edge}(H:DJ φ S E i)(c:Gx S E (i+1)):DJ φ (S.set i s) (E.set i e) i∧Gx (S.set i s) (E.set i e) (i+1):=by
 refine⟨λj s' b a d f=>?_,λj a=>⟨λs' h=>?_,λb h=>?_⟩⟩
 ·rw[qV nJ]at d f;exact H j s' b a d f
 ·rw[qV nJ]at h;exact(c j a).1 s' h
 ·rw[qV nJ]at h;exact(c j a).2 b h
theorem bE{φ:AD}{S:List Slc}{E:List (List Edge)}{s:Slc}{e:List Edge}(H:DJ φ S E i)(d:S[i]? =some s)(f:E[i]? =some e)(k:nY ED φ s e):DJ φ S E (i+1):=by
 intro j s' g h b c;by_cases a:j=i
 ·subst a;rw[d]at b;rw[f]at c;cases b;cases c;exact k
 ·exact H j s' g a b c
theorem St.to9'{e a0 a b c d f g i j:Chk}(H:St φ (e::d::a0::a::b::c::f::g::i::j::F) h):St φ (a0::a::b::c::d::f::g::i::j::e::F) h:=
 H.at9.at9.at9.at9.at5.at9.at9.at9.at9
def ey(φ:AD)(b c d e m a r1 f:Nat)(p:As)(G:List Chk)(i:Nat)(y:BSt)(w:AH):Prop:= ∃(ψ:AD) (ls:Slc) (S:List Slc),Sub φ ψ∧S.length=y.2.1.length∧y.2.2.1.length=y.2.1.length∧DJ ψ S y.2.2.1 i∧Gx S y.2.2.1 i∧St ψ (bC b c d e m a r1 f y.1 p ls 0 (Fe y.2.1 S) y.2.2.2.1 y.2.2.2.2 G) w
def ia(φ:AD)(c d f g m a r1 h:Nat)(p:As)(G:List Chk)(i:Nat)(b:dtK)(y:BSt)(w:AH):Prop:= ∃(ψ:AD) (ls:Slc) (S:List Slc) (s:Slc) (e:List Edge),Sub φ ψ∧S.length=y.2.1.length∧y.2.2.1.length=y.2.1.length∧DJ ψ S y.2.2.1 i∧Gx S y.2.2.1 (i+1)∧S[i]? =some s∧y.2.2.1[i]? =some e∧y.2.1[i]? =some b∧St ψ (bC c d f g m a r1 h y.1 p ls 0 (Fe y.2.1 S) y.2.2.2.1 y.2.2.2.2 (cR 120 ED s e::G)) w
theorem YX{p_0:Slc×Slc×Slc×Slc×Slc×Slc×Unit}{d0:List nI}{d1:List nI}{d2:List Ap}{d3:nH}{d4:nH}{d5:List nI}{st it:Int}
 (gk:Glob φ) (k0:nY sK φ p_0.1 d0) (k1:nY sK φ p_0.2.1 d1) (k2:nY BL φ p_0.2.2.1 d2) (k3:nY (oG .i64) φ p_0.2.2.2.1 d3) (k4:nY (oG .i64) φ p_0.2.2.2.2.1 d4) (k5:nY sK φ p_0.2.2.2.2.2.1 d5) (s0:St φ F h) {r:Option GQ×Int} (hd:RN (d0,d1,d2,d3,d4,d5) st it=some r):
 nX eE 24 [.agg #[.slice p_0.1.1 p_0.1.2.1 p_0.1.2.2,.slice p_0.2.1.1 p_0.2.1.2.1 p_0.2.1.2.2,.slice p_0.2.2.1.1 p_0.2.2.1.2.1 p_0.2.2.1.2.2,.slice p_0.2.2.2.1.1 p_0.2.2.2.1.2.1 p_0.2.2.2.1.2.2,.slice p_0.2.2.2.2.1.1 p_0.2.2.2.2.1.2.1 p_0.2.2.2.2.1.2.2,.slice p_0.2.2.2.2.2.1.1 p_0.2.2.2.2.2.1.2.1 p_0.2.2.2.2.2.1.2.2],.int .i64 st,.int .i64 it] h (An λv h'=>∃ψ:AD,∃y:nG×Int×Unit,∃l1:Option GQ,Sub φ ψ∧v=((.tuple [.atom .pointer,.atom (.int .i64)]):Sh).val y∧(l1,y.2.1)=r∧Np Jl ψ y.1 l1∧St ψ F h'):=by
 refine A9 mixed func24 ?_;rw[PS];unfold LW;unfold RN at hd;have⟨rm,f3,L⟩:=bS hd;clear hd;have⟨cl,f4,b7⟩:=bS L;clear L;have⟨ra,f5,hd⟩:=bS b7;clear b7;refine AU (vs:=[sv p_0.1,sv p_0.2.1,sv p_0.2.2.1,sv p_0.2.2.2.1,sv p_0.2.2.2.2.1,sv p_0.2.2.2.2.2.1]) s0 λb1 h1 s1=>AA s1 rfl<|AA s1 rfl<|AA s1 rfl<|AA s1 rfl<|AA s1 rfl<|AA s1 rfl<|AU (vs:=[sv p_0.1,sv p_0.2.1,sv p_0.2.2.1,sv p_0.2.2.2.1,sv p_0.2.2.2.2.1,sv p_0.2.2.2.2.2.1,.slice none 0 0,.int .i64 (0:Int)]) s1 λa h2 s2=>AU (vs:=[.pointer none]) s2 λc4 h3 s3=>AQ s3 rfl rfl λh4 s4=>AK (NT s4 f3) ?_;rintro _ h5 ⟨ψ1,f6,_,f7,rfl,rfl,s5⟩;refine⟨f6,rfl,AK (NT s5 f4) ?_⟩;rintro _ h6 ⟨ψ2,f8,_,f9,rfl,rfl,U⟩;refine⟨f8,rfl,?_⟩;obtain⟨r2,m6,rfl,q2,U⟩:=sR U;have U:=(sL U q2).at1;obtain⟨r1,m7,rfl,q1,U⟩:=sR U;have U:=(sL U q1).at1;refine AU (vs:=[.pointer none]) U λc5 h7 s7=>AU (vs:=[.pointer none]) s7 λc6 h8 s8=>AQ s8.at1 rfl rfl λh9 s9=>AQ s9.at1 rfl rfl λm8 g0=>EB kyS (oG .i64) g0 λm m9 g8=>AU (vs:=[.map none]) g8 λc3 n0 g9=>AQ g9 rfl rfl λn1 h0=>AU (vs:=[.int .i64 (0:Int),.int .i64 (0:Int)]) h0 λi0 n2 i1=>?_;have i2:=sS (r:=Au) (l:=[((0:Int),(0:Int))]) (n:=1) i1 (.cons (a:=[_,_]) ⟨[_],_,rfl,rfl,rfl⟩ .nil) rfl nQ;have⟨ψ3,i3,kk,i4⟩:=oS (t:=(some ⟨i0,0,none⟩,1,1)) i2;have k:=(f7.trans f9).trans i3;have i5:=sL (r:=Dz) (x:=qA (d0,d1,d2,d3,d4,d5) DC 0) i4.at7 ⟨[_],_,rfl,⟨_,rfl,k0.mono k⟩,[_],_,rfl,⟨_,rfl,k1.mono k⟩,[_],_,rfl,⟨_,rfl,k2.mono k⟩,[_],_,rfl,⟨_,rfl,k3.mono k⟩,[_],_,rfl,⟨_,rfl,k4.mono k⟩,[_],_,rfl,⟨_,rfl,k5.mono k⟩,[_],_,rfl,rfl,rfl⟩;have i6:=(i5.nil 112 roB).at6.at5.at7.at7.at4.at5.at8.at8.at8;refine AK (XM (B:=[]) (S:=[]) (ls:=DC) (gk.mono k) kk rfl i6 f5) ?_;rintro _ n3 ⟨ψ4,b8,i7,S0,i8,rfl,e1,e2,i9,b9⟩;refine⟨b8,rfl,?_⟩;have Z:=k.trans i8;refine mP hd (by rw[e2]) (λhd=>?_) (λhd=>?_)
 ·obtain rfl:=iS hd;exact AC ⟨ψ4,(none,b8.2.1,()),none,Z,rfl,by rw[e2],rfl,(St.tail9 b9).tail⟩
 have⟨g,hg,hd⟩:=bS hd;refine Af (λ(z:Int×Int×nG×Unit) w (g:AX BSt Int)=>∃y i,g=pC y∧y.2.1.length≤i∧ey φ c3 c4 c5 c6 m a r1 r2 (d0,d1,d2,d3,d4,d5) (cW 32 b1 [sv p_0.1,sv p_0.2.1,sv p_0.2.2.1,sv p_0.2.2.2.1,sv p_0.2.2.2.2.1,sv p_0.2.2.2.2.2.1]::F) i y w) (g:=g) ?_ ?_
 ·unfold Qg at hg;refine Bx hg (λ(z:Int×Int×nG×Unit) w (x:Int×BSt)=>z.1=x.1∧0≤x.1∧ey φ c3 c4 c5 c6 m a r1 r2 (d0,d1,d2,d3,d4,d5) (cW 32 b1 [sv p_0.1,sv p_0.2.1,sv p_0.2.2.1,sv p_0.2.2.2.1,sv p_0.2.2.2.2.1,sv p_0.2.2.2.2.2.1]::F) x.1.toNat x.2 w) rfl ⟨rfl,Int.le_refl _,?_⟩ ?_
  ·obtain⟨g1,g2,g3,g4,_⟩:=Xd (E:=[]) (c:=0) (i:=0) (φ:=ψ4) (S:=[]) (B:=[]) rfl rfl (λj s e _ h _=>by simp at h) (λj _=>⟨λs h=>by simp at h,λe h=>by simp at h⟩) i9;exact⟨ψ4,i7,S0,Z,g1,g2,g3,g4,b9⟩
  rintro⟨i,z2,z3,_⟩ w ⟨_,fd,B,E,j0,j1⟩ eo ⟨rfl,a9,ψ,ls,S,le,hS,hE,H,I,s⟩ o hbo;dsimp only at a9 hS hE H I s o ⊢;have nL:=St.rowLen s.at4;have nM:=St.rowMax s.at4;rw[En hS]at nL nM;refine AA s.at2 rfl<|AI _ rfl<|PL ls (WM s)<|AE o (by rw[nL]) (λc0 o=>?_) (λV o=>?_)
  ·have c0:=mX c0;have⟨b,hb,L⟩:=bS o;clear o;obtain⟨es,M,o⟩:=bS L;clear L;refine AA s.at2 rfl<|AI _ rfl<|PL ls (WM s) ?_;obtain⟨f1,f2⟩:=VT I nJ nJ;have⟨n4,m3,c1,c2,j2,c7⟩:=sT s.at4 (RO hb f1);refine AI _ c1 (Ai c2 ?_);obtain⟨_,_,rfl,⟨t0,rfl,q0⟩,_,_,rfl,⟨t1,rfl,q1⟩,_,_,rfl,rfl,_,_,rfl,rfl,rfl⟩:=j2;refine AF (by rw[Aj];exact c7 1 _ rfl) rfl<|AA s.at2 rfl ?_;unfold Tv at M;have⟨syms,j3,a0⟩:=bS M;clear M;have M:=a0;clear a0;refine AK (JQ q1 s.at3 (by rw[U7];exact j3)) ?_;rintro _ w2 ⟨ψ5,j4,_,A,rfl,rfl,c8,J⟩;refine⟨j4,rfl,?_⟩;have c9:=c8.length;have J:=(St.back3 J);have b0:=St.to9 (J.nil 120 ED);refine Af (λ(z:Int×Int×nG×Unit) w (g:AX BSt Int)=>∃y,g=pC y∧ia ψ5 c3 c4 c5 c6 m a r1 r2 (d0,d1,d2,d3,d4,d5) (cW 32 b1 [sv p_0.1,sv p_0.2.1,sv p_0.2.2.1,sv p_0.2.2.2.1,sv p_0.2.2.2.2.1,sv p_0.2.2.2.2.2.1]::F) i.toNat b y w) (g:=es) ?_ ?_
   ·refine PM M (λj (z:Int×Int×nG×Unit) w (y:BSt)=>z.1=j∧ia ψ5 c3 c4 c5 c6 m a r1 r2 (d0,d1,d2,d3,d4,d5) (cW 32 b1 [sv p_0.1,sv p_0.2.1,sv p_0.2.2.1,sv p_0.2.2.2.1,sv p_0.2.2.2.2.1,sv p_0.2.2.2.2.2.1]::F) i.toNat b y w) rfl ⟨rfl,ψ5,ls,S,DC,[],oT _,hS,hE,H.mono A,I.mono nJ,f1,f2,(B9 hb).2.2,b0⟩ ?_ ?_
    ·rintro _ ⟨j,u2,u3,_⟩ w3 ⟨j5,B3,E3,j6,j7⟩ e3 ⟨rfl,ψ6,d6,S3,s_,e_,d,K,N,C,D,b2,O,W,p⟩ f j8 d7 hw hbi;dsimp only at K N C D O W p f j8 d7 hw ⊢;refine Ad (by rw[c9];exact mW d7) ?_;have⟨sym,d8,P⟩:=bS f;clear f;unfold XN at P;have⟨kn,j9,a1⟩:=bS P;clear P;have⟨r3,X,f⟩:=bS a1;clear a1;dsimp only at f X;obtain⟨n5,m4,d9,e0,k6,e4⟩:=(c8.mono d).get d8;refine AI _ d9 (Ai e0 ?_);obtain rfl:=k6;refine AF (AG p.sub (e4 0 _ rfl)) rfl<|AA p.at2 rfl<|AK (Lw (q1.mono (A.trans d)) p.at3 (by rw[Z5];exact j9)) ?_;rintro _ w4 ⟨ψ7,k7,_,q,rfl,rfl,k8,Q⟩;refine⟨k7,rfl,AK (XM (gk.mono (((le.trans A).trans d).trans q)) k8 K (St.back3 Q) X) ?_⟩;rintro _ w5 ⟨ψ8,Y,b3,S4,b4,rfl,k9,e5,hG,u⟩;refine⟨Y,rfl,mP f (by rw[e5]) (λf=>?_) (λf=>?_)⟩
     ·obtain rfl:=iS f;obtain rfl:=hbi _ rfl;obtain rfl:=iS o;obtain rfl:=hbo _ rfl;obtain rfl:=iS hd;exact Ak (Ah (Ak (Ah (AC ⟨ψ8,(none,Y.2.1,()),none,((((le.trans A).trans d).trans q).trans b4),rfl,by rw[e5],rfl,(St.tail9 u).tail.tail⟩))))
     have⟨el,l0,a2⟩:=bS f;clear f;obtain⟨e6,a3,a4⟩:=bS a2;clear a2;obtain⟨E',l2,f⟩:=bS a4;clear a4;obtain rfl:=iS f;have⟨g1,g2,g3,g4,g5,g6,g7⟩:=Xd K N ((C.mono q).mono b4) D hG;have e7:=g5 _ _ b2;have l3:=g6 _ _ O;have b5:=g7 _ _ W;have⟨_,n6,a5⟩:=B9 l0;rw[l3]at a5;obtain rfl:=Option.some.inj a5;rw[←k9]at a3;have a6:idx r3.2.2.2.1 i=some b:=by unfold idx;rw[mZ a9];exact b5
     refine AA u.at2 rfl<|AI _ rfl<|PL b3 (WM u)<|AA u.at2 rfl<|AI _ rfl<|PL b3 (WM u) ?_;have⟨n7,m5,R,a7,l4,a8⟩:=sT u.at4 (RO a6 e7);refine AI _ R (Ai a7 ?_);obtain⟨_,_,rfl,⟨v0,rfl,p0⟩,_,_,rfl,⟨v1,rfl,p1⟩,_,_,rfl,rfl,_,_,rfl,rfl,rfl⟩:=l4;refine AF (by rw[Aj];exact a8 2 _ rfl) rfl<|GP (vs:=[.int .i64 sym,.int .i64 Y.1]) u λn8 w6 keep G=>AP (keep _ _ (by rw[Aj];exact a8 2 _ rfl))<|AP (WM G.tail)<|AP (sH G.tail.at2 rfl)<|AP (WM G.tail)<|AP (sH G.tail.at2 rfl)<|AV (ms:=[(sym,Y.1)]) fy G.tail.at9 rfl (pT G) (.cons (a:=[_,_]) ⟨[_],_,rfl,rfl,rfl⟩ .nil) rfl a3 λT w7 b6=>AP (WM b6.tail)<|AP (sH b6.tail.at2 rfl)<|AI _ R (Ai a7 ?_);have e8:DQ (Fe r3.2.2.2.1 S4) i (NV b T)=some (Fe r3.2.2.2.1 (S4.set i.toNat T)):=by
      unfold DQ;rw[mZ ⟨a9,by rw[En g1];omega⟩,Z6 _ b5]
     refine TY (j:=2) b6.at5 (RO a6 e7) e8 (λcs hq=>?_) rfl rfl R (Aj _ _ _) λw8 l5=>?_
     ·obtain⟨_,_,rfl,⟨x0,rfl,o0⟩,_,_,rfl,⟨x1,rfl,o1⟩,_,_,rfl,rfl,_,_,rfl,rfl,rfl⟩:=hq;exact⟨[_],_,rfl,⟨x0,rfl,o0⟩,[_],_,rfl,⟨x1,rfl,o1⟩,[_],_,rfl,rfl,[_],_,rfl,rfl,rfl⟩
     obtain⟨_,_,rfl⟩:=EL l2;have⟨w1,w2⟩:=bB (s:=T) (e:=e6) g3 g4;have l6:=St.to9' l5.at1;exact lH rfl rfl ⟨hw,ψ8,b3,S4.set i.toNat T,T,e6,(d.trans q).trans b4,by rw[List.length_set];exact g1,by rw[List.length_set];exact g2,w1,w2,by rw[rL nJ],by rw[rL nJ],b5,l6⟩
    ·rintro _ ⟨j,u2,u3,_⟩ w3 y3 ⟨rfl,hI⟩ V X;refine AW (by rw[c9];exact mV (oW.2 V))<|AJ (lI rfl ⟨y3,X,hI⟩)
   rintro⟨z1,u2,u3,_⟩ w3 ⟨⟨j5,B3,E3,j6,j7⟩,rfl,ψ6,d6,S3,s_,e_,d,K,N,C,D,b2,O,W,p⟩;dsimp only at K N C D O W p;obtain rfl:=iS o;have⟨ψ7,q,kE,Q⟩:=oS p.at9;have hw:bO .i64 (i+1)=i+1:=w64 nJ (by unfold maxLen at nM;omega);have e9:(i+1).toNat=i.toNat+1:=nJ
   refine lH rfl rfl ⟨rfl,by rw[hw];omega,ψ7,d6,S3,((le.trans A).trans d).trans q,K,N,?_,?_,Q⟩
   ·rw[hw,e9];exact bE (C.mono q) b2 O kE
   ·rw[hw,e9];exact D
  ·have V:=mY V;obtain rfl:=iS o;obtain rfl:=hbo _ rfl;exact AJ (lI rfl ⟨_,i.toNat,rfl,nO,ψ,ls,S,le,hS,hE,H,I,s⟩)
 rintro⟨z1,z2,z3,_⟩ w ⟨⟨fd,B,E,j0,j1⟩,i,rfl,hi,ψ,ls,S,le,hS,hE,H,I,s⟩;dsimp only at hd hi hS hE H I s;have⟨tot,ht,hd⟩:=bS hd;obtain rfl:=iS hd;refine AA s.at2 rfl<|AA s.at7 rfl<|AK (Ln s.at8 ht) ?_;rintro _ w1 ⟨ψ5,f0,A,rfl,rfl,J⟩;refine⟨f0,rfl,AP (sH J.at3 rfl)<|AI _ rfl ?_⟩;obtain⟨b,vs,e,⟨_,_,rfl,⟨u0,rfl,l7⟩,_,_,rfl,⟨u1,rfl,l8⟩,_,_,rfl,⟨u2,rfl,l9⟩,_,_,rfl,⟨u3,rfl,m0⟩,_,_,rfl,⟨u4,rfl,m1⟩,_,_,rfl,⟨u5,rfl,m2⟩,_,_,rfl,rfl,rfl⟩,b0⟩:=sR J.at4;obtain rfl:a=b:=by simpa using e
 refine AQ b0 rfl rfl λw2 p=>AA p.at4 rfl ?_;have⟨ψ6,d,kR,Q⟩:=oS p.at5;have kS:=YK hS hE (λj s e h1 h2=>(H j s e (by have:=(oI.1 h1).1;omega) h1 h2).mono (A.trans d)) kR;have u:=sL (r:=Jl) (x:=(d0,d1,d2,d3,d4,d5,Fe B E,f0)) Q ⟨[_],_,rfl,⟨u0,rfl,l7.mono d⟩,[_],_,rfl,⟨u1,rfl,l8.mono d⟩,[_],_,rfl,⟨u2,rfl,l9.mono d⟩,[_],_,rfl,⟨u3,rfl,m0.mono d⟩,[_],_,rfl,⟨u4,rfl,m1.mono d⟩,[_],_,rfl,⟨u5,rfl,m2.mono d⟩,[_],_,rfl,⟨ls,rfl,kS⟩,rfl⟩;have⟨ψ7,q,kP,G⟩:=St.freezeR (Jj _) u;exact AC ⟨ψ7,(some ⟨a,0,none⟩,(0:Int),()),some _,(((le.trans A).trans d).trans q),rfl,rfl,kP,G.tail.tail.tail.tail.tail.tail.tail.tail⟩
end
end
noncomputable def HQ(small_0:Int×Int×Slc×Slc×Slc×Slc×Slc×Unit):T:=jO #[.int .u8 small_0.1,.int .u8 small_0.2.1,sv small_0.2.2.1,sv small_0.2.2.2.1,sv small_0.2.2.2.2.1,sv small_0.2.2.2.2.2.1,sv small_0.2.2.2.2.2.2.1] 25 λr1=>hC 4 [] lU λt2=>jP r1 0 λt3=>jP r1 1 λt4=>jM r1 2 λt5=>jM r1 3 λt6=>jM r1 4 λt7=>jM r1 5 λt8=>jM r1 6 λW=>hC 5 [.agg #[.int .u8 t3,.int .u8 t4,sv t5,sv t6,sv t7,sv t8,sv W],lN 9,lN 4] lU λl=>cond (!l) (oC (.bool t2)) (jP r1 0 λm=>jP r1 1 λn=>jM r1 2 λo=>jM r1 3 λp=>jM r1 4 λq=>jM r1 5 λr=>jM r1 6 λs=>hC 6 [.agg #[.int .u8 m,.int .u8 n,sv o,sv p,sv q,sv r,sv s]] mI λa=>jO #[lO,lO,lO,lO,lO,lO] 32 λb=>jQ b 0 a.1.1<|jQ b 1 a.1.2.1<|jQ b 2 a.1.2.2.1<|jQ b 3 a.1.2.2.2.1<|jQ b 4 a.1.2.2.2.2.1<|jQ b 5 a.1.2.2.2.2.2.1<|cond (!a.2.2.2.2.1) (oC (.bool t2)) (L6 b λt u v w x y=>hC 7 [aH t u v w x y] lR λc=>oF lV (cond (oZ c) (hM [.bool true]) (nW c λf=>lB f 6 λg=>nW g λh=>jT h 6 λi=>hC 8 [lP a.2.1] lT λz=>pG (h.add 6) (sv i)<|pG (f.add 6) (lP g)<|hM [.bool (z !=(i.2.1:Int))])) λA=>cond A.1 (oF lV (cond t2 (hM [.bool (oZ c)]) (hM [.bool false])) λB=>oC (.bool B.1)) (oB 0 lW (oN lW [lN (-1:Int),.bool false] λd=>nW c λC=>lB C 6 λD=>nW D λE=>jT E 6 λF=>lM (d.1≤(F.2.1:Int)) (oB 2 lW (oN lW [lN (-1:Int),.bool d.2.1] λe=>jM b 0 λG=>jM b 1 λH=>lM (e.1≤(lQ ((G.2.1:Int)+(H.2.1:Int)))) (oF lV (hC 9 [lP a.2.2.2.1,lN d.1,lN e.1] mJ λj=>hC 10 [lP c,lN d.1,lN e.1] mJ λk=>cond (!((j.1==k.1) && ((j.2.1==k.2.1) && true))) (hM [.bool true]) (hC 11 [lP a.2.2.2.1,lN d.1,lN e.1] lT λI=>hC 12 [lP c,lN d.1,lN e.1] lT λJ=>hM [.bool (I !=J)])) λK=>cond K.1 (oC (.bool false)) (hM [lN (wN e.1),.bool e.2.1])) (oP 2 [lN e.1,.bool e.2.1])) λL=>hM [lN (wN d.1),.bool L.2.1]) (oP 0 [lN d.1,.bool d.2.1])) λX=>oF lV (cond t2 (hC 14 [lP a.2.2.2.1] lS λM=>hC 15 [lP c] lS λN=>hC 13 [sv M,sv N] lU λO=>cond O (hC 16 [lP a.2.2.2.1] lU λP=>hC 17 [lP c] lU λQ=>cond (P==Q) (hC 19 [lP a.2.2.2.1] lS λR=>hC 20 [lP c] lS λS=>hC 18 [sv R,sv S] lU λU=>hM [.bool U]) (hM [.bool false])) (hM [.bool false])) (hM [.bool false])) λV=>oC (.bool V.1))))
theorem Gz(a:Int×Int×Slc×Slc×Slc×Slc×Slc×Unit):Ab eE f3 [(.agg #[(.int .u8 a.1),(.int .u8 a.2.1),(sv a.2.2.1),(sv a.2.2.2.1),(sv a.2.2.2.2.1),(sv a.2.2.2.2.2.1),(sv a.2.2.2.2.2.2.1)])] =HQ a:=nU
noncomputable def MC:T:=jO #[.int .u8 0,.int .u8 0] 5 λr1=>jO #[.int .u8 2,.int .u8 0,.int .u8 2] 5 λF=>jO #[.int .u8 1] 5 λr3=>jO #[.slice (lF F) 3 3,.slice (lF r3) 1 1] 22 λG=>jO #[.int .u8 0] 5 λH=>jO #[.int .u8 1] 5 λI=>jO #[.int .u8 0,.int .u8 0,lO,lO,lO,lO,lO] 25 λb=>jV b 0 (.int .u8 1)<|jV b 1 (.int .u8 0)<|jV b 2 (.slice (lF r1) 2 2)<|jV b 3 (.slice (lF G) 2 2)<|kD b 4<|jV b 5 (.slice (lF H) 1 1)<|jV b 6 (.slice (lF I) 1 1)<|jP b 0 λt8=>jP b 1 λJ=>jM b 2 λj=>jM b 3 λk=>jM b 4 λl=>jM b 5 λm=>jM b 6 λn=>hC 6 [.agg #[.int .u8 t8,.int .u8 J,sv j,sv k,sv l,sv m,sv n]] mI λa=>jO #[lO,lO,lO,lO,lO,lO] 32 λd=>jQ d 0 a.1.1<|jQ d 1 a.1.2.1<|jQ d 2 a.1.2.2.1<|jQ d 3 a.1.2.2.2.1<|jQ d 4 a.1.2.2.2.2.1<|jQ d 5 a.1.2.2.2.2.2.1<|kD b 6<|jP b 0 λo=>jP b 1 λp=>jM b 2 λq=>jM b 3 λr=>jM b 4 λs=>jM b 5 λt=>jM b 6 λu=>hC 6 [.agg #[.int .u8 o,.int .u8 p,sv q,sv r,sv s,sv t,sv u]] mI λc=>jO #[lO,lO,lO,lO,lO,lO] 32 λe=>jQ e 0 c.1.1<|jQ e 1 c.1.2.1<|jQ e 2 c.1.2.2.1<|jQ e 3 c.1.2.2.2.1<|jQ e 4 c.1.2.2.2.2.1<|jQ e 5 c.1.2.2.2.2.2.1<|oF lV (cond (!a.2.2.2.2.1) (hM [.bool true]) (hM [.bool (!c.2.2.2.2.1)])) λv=>cond v.1 (oC (.bool false)) (jO #[lN 3,lN 1,lN 3] 3 λw=>hC 21 [lP a.2.1,lN 0,.slice (lF w) 3 3] lT λf=>hC 14 [lP a.2.2.2.1] lS λg=>hC 14 [lP c.2.2.2.1] lS λh=>oF lV (lM (f>(0:Int)) (cond ((g.2.1:Int)==(1:Int)) (cond ((h.2.1:Int)==(1:Int)) (hC 9 [lP a.2.2.2.1,lN f,lN 1] mJ λi=>cond ((i.1==(2:Int)) && ((i.2.1==(1:Int)) && true)) (hC 9 [lP c.2.2.2.1,lN f,lN 1] mJ λx=>cond (x.1==(1:Int)) (nW g.1 λy=>chk (0≤(0:Int)∧(0:Int) < (g.2.1:Nat))<|kV y 0 7 6 λz=>cond (!z) (nW h.1 λA=>chk (0≤(0:Int)∧(0:Int) < (h.2.1:Nat))<|kV A 0 7 6 λB=>cond B (hC 16 [lP a.2.2.2.1] lU λC=>cond C (hC 16 [lP c.2.2.2.1] lU λD=>hM [.bool (!D)]) (hM [.bool false])) (hM [.bool false])) (hM [.bool false])) (hM [.bool false])) (hM [.bool false])) (hM [.bool false])) (hM [.bool false])) (hM [.bool false])) λE=>oC (.bool E.1))
theorem KD:Ab eE f4 [] =MC:=nU
noncomputable def M3(small_0:Int×Int×Slc×Slc×Slc×Slc×Slc×Unit):T:=jO #[.int .u8 small_0.1,.int .u8 small_0.2.1,sv small_0.2.2.1,sv small_0.2.2.2.1,sv small_0.2.2.2.2.1,sv small_0.2.2.2.2.2.1,sv small_0.2.2.2.2.2.2.1] 25 λr1=>jO #[lO,lO,lO,lO,lO,lO] 32 λb=>jP r1 0 λt3=>jP r1 1 λt4=>jM r1 2 λt5=>jM r1 3 λt6=>jM r1 4 λt7=>jM r1 5 λt8=>jM r1 6 λt9=>hC 22 [.agg #[.int .u8 t3,.int .u8 t4,sv t5,sv t6,sv t7,sv t8,sv t9]] (.one (.agg [.slice,.slice,.slice,.slice,.slice,.slice])) λc=>jO #[lO,lO,lO,lO,lO,lO] 32 λa=>jQ a 0 c.1<|jQ a 1 c.2.1<|jQ a 2 c.2.2.1<|jQ a 3 c.2.2.2.1<|jQ a 4 c.2.2.2.2.1<|jQ a 5 c.2.2.2.2.2.1<|L6 a λE F G H I J=>hC 23 [aH E F G H I J] (.tuple lX) λK=>cond (K.2.1 !=(0:Int)) (L6 a λL M N O P Q=>jQ b 0 L<|jQ b 1 M<|jQ b 2 N<|jQ b 3 O<|jQ b 4 P<|jQ b 5 Q<|L6 b λe f g h i j=>oC (.tuple #[aH e f g h i j,lP none,lP none,lP none,.bool false])) (L6 a λR S U V W X=>hC 24 [aH R S U V W X,lN 300,lN 9000] (.tuple [aP,aI]) λd=>oF lV (cond (oZ d.1) (hM [.bool true]) (hC 8 [lP d.1] lT λY=>hM [.bool (Y==(0:Int))])) λZ=>cond Z.1 (L6 a λa0 a1 a2 a3 a4 a5=>jQ b 0 a0<|jQ b 1 a1<|jQ b 2 a2<|jQ b 3 a3<|jQ b 4 a4<|jQ b 5 a5<|L6 b λk l m n o p=>oC (.tuple #[aH k l m n o p,lP none,lP none,lP none,.bool false])) (L6 a λa6 a7 a8 a9 b0 b1=>hC 25 [aH a6 a7 a8 a9 b0 b1,lP d.1] lR λq=>cond (oZ q) (L6 a λb2 b3 b4 b5 b6 b7=>jQ b 0 b2<|jQ b 1 b3<|jQ b 2 b4<|jQ b 3 b5<|jQ b 4 b6<|jQ b 5 b7<|L6 b λr s t u v w=>oC (.tuple #[aH r s t u v w,lP none,lP none,lP none,.bool false])) (L6 a λb8 b9 c0 c1 c2 c3=>hC 26 [aH b8 b9 c0 c1 c2 c3,lP d.1,lP q] lR λD=>L6 a λc4 c5 c6 c7 c8 c9=>jQ b 0 c4<|jQ b 1 c5<|jQ b 2 c6<|jQ b 3 c7<|jQ b 4 c8<|jQ b 5 c9<|L6 b λx y z A B C=>oC (.tuple #[aH x y z A B C,lP d.1,lP q,lP D,.bool (!(oZ D))]))))
theorem Kx(a:Int×Int×Slc×Slc×Slc×Slc×Slc×Unit):Ab eE f6 [(.agg #[(.int .u8 a.1),(.int .u8 a.2.1),(sv a.2.2.1),(sv a.2.2.2.1),(sv a.2.2.2.2.1),(sv a.2.2.2.2.2.1),(sv a.2.2.2.2.2.2.1)])] =M3 a:=nU
noncomputable def Rj(p_0:Pl6)(term_1:Int)(shift_2:Int)(b:nG)(a d:Nat):T:=jO #[sv p_0.1,sv p_0.2.1,sv p_0.2.2.1,sv p_0.2.2.2.1,sv p_0.2.2.2.2.1,sv p_0.2.2.2.2.2.1] 32 λr1=>jO #[lN 0,lN 0] 50 λc=>jO #[lN 0,lN 0] 50 λr3=>jZ r3 0 1<|jZ r3 1 shift_2<|oF lV (cond (((a:Nat):Int)==(0:Int)) (hM [.bool (decide (shift_2< 0))]) (hM [.bool false])) λK=>cond K.1 (jZ c 0 0<|jZ c 1 0<|jY c 0 λo=>jY c 1 λp=>oC (.tuple #[.agg #[lN o,lN p],.bool false])) (cond (((a:Nat):Int)==(0:Int)) (jY r3 0 λt7=>jY r3 1 λt8=>jZ c 0 t7<|jZ c 1 t8<|jY c 0 λq=>jY c 1 λe=>oC (.tuple #[.agg #[lN q,lN e],.bool false])) (oF lV (cond (((a:Nat):Int)==(1:Int)) (hM [.bool (decide (shift_2< 0))]) (hM [.bool false])) λC=>cond C.1 (nW b λD=>chk (0≤(0:Int)∧(0:Int) < (a:Nat))<|jR D 0 1 λE=>hC 140 [lN E] mJ λr=>jZ c 0 r.1<|jZ c 1 r.2.1<|jY c 0 λf=>jY c 1 λg=>oC (.tuple #[.agg #[lN f,lN g],.bool false])) (cond (((a:Nat):Int)==(1:Int)) (L6 r1 λs t u v w x=>jY r3 0 λy=>jY r3 1 λz=>nW b λF=>chk (0≤(0:Int)∧(0:Int) < (a:Nat))<|jR F 0 1 λG=>hC 140 [lN G] mJ λA=>lD r3 0 y<|lD r3 1 z<|S6 r1 s t u v w x<|hC 141 [aH s t u v w x,lN term_1,.agg #[lN y,lN z],.agg #[lN A.1,lN A.2.1]] mK λh=>jZ c 0 h.1.1<|jZ c 1 h.1.2.1<|jY c 0 λi=>jY c 1 λj=>oC (.tuple #[.agg #[lN i,lN j],.bool h.2.1])) (lM (shift_2≥ 0) (jY r3 0 λH=>jY r3 1 λI=>jZ c 0 H<|jZ c 1 I<|jY c 0 λk=>jY c 1 λl=>oC (.tuple #[.agg #[lN k,lN l],.bool true])) (hC 142 [.slice b a d] lT λJ=>hC 140 [lN J] mJ λB=>jZ c 0 B.1<|jZ c 1 B.2.1<|jY c 0 λm=>jY c 1 λn=>oC (.tuple #[.agg #[lN m,lN n],.bool true]))))))
theorem Ps(p_0:Pl6)(term_1:Int)(d:Int)(a:nG)(b c:Nat):Ab eE f110 [(aG p_0),(.int .i64 term_1),(.int .i64 d),(.slice a b c)] =Rj p_0 term_1 d a b c:=nU
noncomputable def M4(p_0:Pl6)(term_1:Int)(shift_2:Int)(c:nG)(a i:Nat):T:=jO #[sv p_0.1,sv p_0.2.1,sv p_0.2.2.1,sv p_0.2.2.2.1,sv p_0.2.2.2.2.1,sv p_0.2.2.2.2.2.1] 32 λr1=>jO #[lN 0,lN 0] 50 λb=>oB 0 lX (oN lX [lN 0,lN 0] λg=>lL g.1 a (oF lV (cond (g.1==(0:Int)) (hM [.bool true]) (lK c a g.1 λa6=>jR a6 g.1 1 λt7=>hM [.bool (decide (t7<g.2.1))])) λz5=>oF lZ (cond z5.1 (lK c a g.1 λa9=>jR a9 g.1 1 λC=>hM [lN C]) (hM [lN g.2.1])) λz8=>hM [lN (wN g.1),lN z8.1]) (oP 0 [lN g.1,lN g.2.1])) λx=>jO #[lN 0,lN 0] 50 λd=>jZ d 0 1<|jZ d 1 shift_2<|jO #[lN 0,lN 0] 50 λe=>jZ e 0 2<|jZ e 1 x.2.1<|oF [] (cond (x.2.1==(0:Int)) (jZ e 0 3<|jZ e 1 0<|hM []) (hM [])) λa4=>oF lV (lM (shift_2< 0) (hM [.bool (((a:Nat):Int)==(0:Int))]) (hM [.bool false])) λD=>cond D.1 (jZ b 0 0<|jZ b 1 0<|jY b 0 λj=>jY b 1 λk=>oC (.tuple #[.agg #[lN j,lN k],.bool false])) (lM (shift_2< 0) (jY e 0 λE=>jY e 1 λF=>jZ b 0 E<|jZ b 1 F<|jY b 0 λl=>jY b 1 λm=>oC (.tuple #[.agg #[lN l,lN m],.bool (decide (((a:Nat):Int) >(1:Int)))])) (cond (((a:Nat):Int) !=(1:Int)) (jY d 0 λG=>jY d 1 λH=>jZ b 0 G<|jZ b 1 H<|jY b 0 λn=>jY b 1 λo=>oC (.tuple #[.agg #[lN n,lN o],.bool (decide (((a:Nat):Int) >(1:Int)))])) (oF lV (lM (term_1≥ 0) (jM r1 3 λI=>hM [.bool (decide (term_1< (I.2.1:Int)))]) (hM [.bool false])) λJ=>oF lZ (cond J.1 (jM r1 3 λy=>lK y.1 y.2.1 term_1 λK=>jR K term_1 1 λL=>hM [lN L]) (hM [lN 0])) λf=>oF lV (lM (x.2.1≥ 0) (jM r1 2 λM=>hM [.bool (decide (x.2.1< (M.2.1:Int)))]) (hM [.bool false])) λN=>oF lZ (cond N.1 (jM r1 2 λz=>lK z.1 z.2.1 x.2.1 λO=>jX O x.2.1 3 2 λP=>hM [lN P]) (hM [lN 0])) λh=>oF lV (lM (f.1< 1) (hM [.bool true]) (hM [.bool (decide (h.1< 1))])) λQ=>cond Q.1 (jY d 0 λR=>jY d 1 λS=>jZ b 0 R<|jZ b 1 S<|jY b 0 λp=>jY b 1 λq=>oC (.tuple #[.agg #[lN p,lN q],.bool true])) (oF lV (lM (h.1>f.1) (hM [.bool true]) (cond (h.1==f.1) (jM r1 4 λA=>lK A.1 A.2.1 f.1 λU=>jR U f.1 1 λV=>hM [.bool (V==(1:Int))]) (hM [.bool false]))) λW=>cond W.1 (jY e 0 λX=>jY e 1 λY=>jZ b 0 X<|jZ b 1 Y<|jY b 0 λr=>jY b 1 λs=>oC (.tuple #[.agg #[lN r,lN s],.bool false])) (oF lV (cond (h.1==f.1) (jM r1 4 λB=>lK B.1 B.2.1 f.1 λZ=>jR Z f.1 1 λa0=>hM [.bool (a0==(3:Int))]) (hM [.bool false])) λa1=>cond a1.1 (jZ b 0 0<|jZ b 1 0<|jY b 0 λt=>jY b 1 λu=>oC (.tuple #[.agg #[lN t,lN u],.bool false])) (jY d 0 λa2=>jY d 1 λa3=>jZ b 0 a2<|jZ b 1 a3<|jY b 0 λv=>jY b 1 λw=>oC (.tuple #[.agg #[lN v,lN w],.bool false])))))))
theorem Kz(p_0:Pl6)(term_1:Int)(d:Int)(a:nG)(b c:Nat):Ab eE f32 [(aG p_0),(.int .i64 term_1),(.int .i64 d),(.slice a b c)] =M4 p_0 term_1 d a b c:=nU
noncomputable def KE(g_0:nG):T:=nW g_0 λr=>jT r 8 λt2=>oB 0 lY (oN lY [lN 0,lO] λb=>lL b.1 t2.2.1 (lK t2.1 t2.2.1 b.1 λc=>jR c b.1 7 λt6=>jX c b.1 7 1 λt7=>jX c b.1 7 2 λt8=>jU c b.1 7 3 λs=>jX c b.1 7 4 λd=>jX c b.1 7 5 λe=>kV c b.1 7 6 λf=>jO #[lN 0,lN 0,lN 0,lO,lN 0,lN 0,.bool false] 62 λa=>jZ a 0 t6<|jZ a 1 t7<|jZ a 2 t8<|jQ a 3 s<|jZ a 4 d<|jZ a 5 e<|jV a 6 (.bool f)<|jM a 3 λg=>hC 35 [sv g] lS λh=>jQ a 3 h<|jY a 0 λi=>jY a 1 λj=>jY a 2 λk=>jM a 3 λl=>jY a 4 λm=>jY a 5 λn=>kW a 6 λo=>jO #[lN i,lN j,lN k,sv l,lN m,lN n,.bool o] 62 λp=>oV (oA #[54,54] 54 #[sv b.2.1,.slice (lF p) 1 1]) lS λq=>hM [lN (wN b.1),sv q]) (oP 0 [lN b.1,sv b.2.1])) λt=>oC (sv t.2.1)
theorem Ix(g_0:nG):Ab eE f14 [(.pointer g_0)] =KE g_0:=nU
noncomputable def O2(g_0:nG)(b:Int)(a:Int):T:=jO #[lN 0,lN 0] 50 λr1=>oF lV (hC 29 [lP g_0,lN b] lU λt3=>cond (!t3) (hM [.bool true]) (nW g_0 λp=>M6 p λt5 t6 t7 t8 q j=>hC 30 [aH t5 t6 t7 t8 q j,lN a] lU λk=>hM [.bool (!k)])) λr=>cond r.1 (jZ r1 0 0<|jZ r1 1 0<|jY r1 0 λc=>jY r1 1 λd=>oC (.agg #[lN c,lN d])) (nW g_0 λl=>jT l 6 λg=>lK g.1 g.2.1 b λm=>jN m b 1 λh=>lK h.1 h.2.1 a λi=>jR i a 2 λn=>jX i a 2 1 λo=>jZ r1 0 n<|jZ r1 1 o<|jY r1 0 λe=>jY r1 1 λf=>oC (.agg #[lN e,lN f]))
theorem M5(g_0:nG)(a:Int)(b:Int):Ab eE f9 [(.pointer g_0),(.int .i64 a),(.int .i64 b)] =O2 g_0 a b:=nU
noncomputable def O3(g_0:nG)(a:Int)(b:Int):T:=nW g_0 λf=>lA f λt2=>oF lV (hC 29 [lP g_0,lN a] lU λt4=>cond (!t4) (hM [.bool true]) (lM ((lQ (b - (t2.2.1:Int))) < 0) (hM [.bool true]) (nW g_0 λg=>jT g 1 λt6=>hM [.bool (decide ((lQ (b - (t2.2.1:Int))) ≥ (t6.2.1:Int)))]))) λh=>cond h.1 (oC (lN (-1:Int))) (nW g_0 λi=>jT i 7 λt8=>lK t8.1 t8.2.1 a λj=>jN j a 1 λc=>nW c.1 λd=>chk (0≤(lQ (b - (t2.2.1:Int)))∧(lQ (b - (t2.2.1:Int))) < (c.2.1:Nat))<|jR d (lQ (b - (t2.2.1:Int))) 1 λe=>oC (lN e))
theorem M7(g_0:nG)(a:Int)(b:Int):Ab eE f11 [(.pointer g_0),(.int .i64 a),(.int .i64 b)] =O3 g_0 a b:=nU
noncomputable def M8(g_0:nG):T:=nW g_0 λx=>jT x 6 λt2=>oB 0 lY (oN lY [lN 0,lO] λb=>lL b.1 t2.2.1 (lK t2.1 t2.2.1 b.1 λy=>jN y b.1 1 λt6=>oB 2 lY (oN lY [lN 0,lO] λd=>lL d.1 t6.2.1 (lK t6.1 t6.2.1 d.1 λw=>jR w d.1 2 λg=>jX w d.1 2 1 λh=>jO #[lN 0,lN 0] 50 λc=>jZ c 0 g<|jZ c 1 h<|jY c 0 λi=>jY c 1 λj=>hC 38 [.agg #[lN i,lN j]] lT λk=>jO #[lN k] 3 λl=>oV (oA #[30,30] 30 #[sv d.2.1,.slice (lF l) 1 1]) lS λm=>hM [lN (wN d.1),sv m]) (oP 2 [lN d.1,sv d.2.1])) λz=>nW g_0 λn=>jT n 7 λf=>lK f.1 f.2.1 b.1 λo=>jN o b.1 1 λe=>oB 4 lY (oN lY [lN 0,sv z.2.1] λa=>lL a.1 e.2.1 (lK e.1 e.2.1 a.1 λp=>jR p a.1 1 λq=>jO #[lN (wN q)] 3 λr=>oV (oA #[30,30] 30 #[sv a.2.1,.slice (lF r) 1 1]) lS λs=>hM [lN (wN a.1),sv s]) (oP 4 [lN a.1,sv a.2.1])) λt=>jO #[sv t.2.1] 30 λu=>oV (oA #[57,57] 57 #[sv b.2.1,.slice (lF u) 1 1]) lS λv=>hM [lN (wN b.1),sv v]) (oP 0 [lN b.1,sv b.2.1])) λA=>oC (sv A.2.1)
theorem K0(g_0:nG):Ab eE f19 [(.pointer g_0)] =M8 g_0:=nU
noncomputable def Rk(x_0:Int×Int×Unit):T:=jO #[lN x_0.1,lN x_0.2.1] 50 λr1=>jY r1 0 λt2=>cond (t2==(3:Int)) (oC (lN 1)) (oF lV (jY r1 1 λt4=>lM (t4< 0) (hM [.bool true]) (jY r1 1 λt5=>hM [.bool (decide (t5>(1099511627776:Int)))])) λa=>cond a.1 (oC (lN 0)) (jY r1 0 λt6=>cond (t6==(1:Int)) (jY r1 1 λt7=>oC (lN (lQ ((lQ (2 *t7))+(2:Int))))) (jY r1 0 λt8=>cond (t8==(2:Int)) (jY r1 1 λb=>oC (lN (lQ ((lQ (2 *b))+(3:Int))))) (oC (lN 0)))))
theorem Pu(a:Int×Int×Unit):Ab eE f38 [(.agg #[(.int .i64 a.1),(.int .i64 a.2.1)])] =Rk a:=nU
noncomputable def MD(g_0:nG):T:=nW g_0 λa=>jT a 8 λt2=>hC 36 [sv t2,.func (.func 37) #[] #[]] lU λt3=>oC (.bool (!t3))
theorem KF(g_0:nG):Ab eE f16 [(.pointer g_0)] =MD g_0:=nU
noncomputable def Pv(a:Int):T:=jO #[lN 0,lN 0] 50 λr1=>cond (a==(0:Int)) (jZ r1 0 3<|jZ r1 1 0<|jY r1 0 λb=>jY r1 1 λc=>oC (.agg #[lN b,lN c])) (jZ r1 0 2<|jZ r1 1 a<|jY r1 0 λd=>jY r1 1 λe=>oC (.agg #[lN d,lN e]))
theorem N5(a:Int):Ab eE f140 [(.int .i64 a)] =Pv a:=nU
noncomputable def UA(p_0:Pl6)(term_1:Int)(shift_2:Int×Int×Unit)(rule_3:Int×Int×Unit):T:=jO #[sv p_0.1,sv p_0.2.1,sv p_0.2.2.1,sv p_0.2.2.2.1,sv p_0.2.2.2.2.1,sv p_0.2.2.2.2.2.1] 32 λr1=>jO #[lN shift_2.1,lN shift_2.2.1] 50 λu=>jO #[lN rule_3.1,lN rule_3.2.1] 50 λr3=>jO #[lN 0,lN 0] 50 λb=>L6 r1 λt5 t6 t7 t8 K v=>L6 r1 λl m n o p q=>jY r3 1 λr=>hC 170 [aH t5 t6 t7 t8 K v,lN term_1] lT λa=>lD r3 1 r<|S6 r1 l m n o p q<|hC 171 [aH l m n o p q,lN r] lT λc=>oF lV (lM (a≤(0:Int)) (hM [.bool true]) (hM [.bool (decide (c≤(0:Int)))])) λw=>cond w.1 (jY u 0 λx=>jY u 1 λy=>jZ b 0 x<|jZ b 1 y<|jY b 0 λd=>jY b 1 λe=>oC (.tuple #[.agg #[lN d,lN e],.bool true])) (oB 0 lV (oB 3 lV (oB 2 lV (oB 1 [] (oF lV (cond (c==a) (jM r1 4 λs=>lK s.1 s.2.1 a λz=>jR z a 1 λA=>hM [.bool (A==(3:Int))]) (hM [.bool false])) λB=>cond B.1 (oP 1 []) (oF lV (cond (c==a) (jM r1 4 λt=>lK t.1 t.2.1 a λC=>jR C a 1 λD=>hM [.bool (D==(1:Int))]) (hM [.bool false])) λE=>cond E.1 (oP 2 [.bool false]) (lM (c>a) (oP 3 [.bool false]) (oP 0 [.bool false])))) λL=>jZ b 0 0<|jZ b 1 0<|jY b 0 λf=>jY b 1 λg=>oC (.tuple #[.agg #[lN f,lN g],.bool false])) λF=>hM [.bool F.1]) λM=>jY r3 0 λG=>jY r3 1 λH=>jZ b 0 G<|jZ b 1 H<|jY b 0 λh=>jY b 1 λi=>oC (.tuple #[.agg #[lN h,lN i],.bool false])) λN=>jY u 0 λI=>jY u 1 λJ=>jZ b 0 I<|jZ b 1 J<|jY b 0 λj=>jY b 1 λk=>oC (.tuple #[.agg #[lN j,lN k],.bool false]))
theorem Rm(p_0:Pl6)(term_1:Int)(a:Int×Int×Unit)(b:Int×Int×Unit):Ab eE f141 [(aG p_0),(.int .i64 term_1),(.agg #[(.int .i64 a.1),(.int .i64 a.2.1)]),(.agg #[(.int .i64 b.1),(.int .i64 b.2.1)])] =UA p_0 term_1 a b:=nU
noncomputable def G0(b:nG)(a d:Nat):T:=oF [] (cond (decide (((a:Nat):Int) < 1)) (T.pan (.iface 9 (.string {data:=#[115,108,105,99,101,115,46,77,105,110,58,32,101,109,112,116,121,32,108,105,115,116]}))) (hM [])) λh=>nW b λe=>chk (0≤(0:Int)∧(0:Int) < (a:Nat))<|jR e 0 1 λt3=>oB 0 lX (oN lX [lN 1,lN t3] λc=>cond (decide (c.1< ((a:Nat):Int))) (nW b λf=>chk (0≤c.1∧c.1< (a:Nat))<|jR f c.1 1 λt7=>hM [lN (wN c.1),lN (if t7<c.2.1 then t7 else c.2.1)]) (oP 0 [lN c.1,lN c.2.1])) λg=>oC (lN g.2.1)
theorem KG(a:nG)(b c:Nat):Ab eE f142 [(.slice a b c)] =G0 a b c:=nU
noncomputable def UB(p_0:Pl6)(a_1:nG)(k:nG):T:=jO #[sv p_0.1,sv p_0.2.1,sv p_0.2.2.1,sv p_0.2.2.2.1,sv p_0.2.2.2.2.1,sv p_0.2.2.2.2.2.1] 32 λr1=>L6 r1 λt2 t3 t4 t5 t6 t7=>jO #[sv t2,sv t3,sv t4,sv t5,sv t6,sv t7,lO,lO,lO] 80 λb=>hC 8 [lP a_1] lT λD=>oB 0 lZ (oN lZ [lN 0] λc=>lM (c.1<D) (jM r1 0 λl=>oB 2 lY (oN lY [lN 0,lO] λe=>lL e.1 l.2.1 (hC 61 [lP (lF b),lP a_1,lP k,lN c.1,lN e.1] mJ λh=>jO #[lN h.1,lN h.2.1] 50 λm=>oV (oA #[81,81] 81 #[sv e.2.1,.slice (lF m) 1 1]) lS λn=>hM [lN (wN e.1),sv n]) (oP 2 [lN e.1,sv e.2.1])) λi=>jM r1 1 λo=>oB 4 lY (oN lY [lN 0,lO] λf=>lL f.1 o.2.1 (jM r1 0 λp=>hC 40 [lP a_1,lN c.1,lN (lQ ((p.2.1:Int)+f.1))] lT λq=>jO #[lN q] 3 λr=>oV (oA #[30,30] 30 #[sv f.2.1,.slice (lF r) 1 1]) lS λs=>hM [lN (wN f.1),sv s]) (oP 4 [lN f.1,sv f.2.1])) λg=>jM b 6 λd=>jM b 7 λa=>qR (jO #[sv i.2.1] 81 λj=>kJ b 7 a<|kJ b 6 d<|qR (oV (oA #[78,78] 78 #[sv d,.slice (lF j) 1 1]) lS λt=>kJ b 7 a<|jO #[sv g.2.1] 30 λu=>kJ b 7 a<|oV (oA #[57,57] 57 #[sv a,.slice (lF u) 1 1]) lS λv=>jQ b 6 t<|jQ b 7 v<|hM [lN (wN c.1)]) (jO #[sv g.2.1] 30 λw=>kJ b 7 a<|kJ b 6 d<|oV (oA #[78,78] 78 #[sv d,.slice (lF j) 1 1]) lS λx=>kJ b 7 a<|oV (oA #[57,57] 57 #[sv a,.slice (lF w) 1 1]) lS λy=>jQ b 6 x<|jQ b 7 y<|hM [lN (wN c.1)])) (jO #[sv g.2.1] 30 λz=>kJ b 7 a<|kJ b 6 d<|jO #[sv i.2.1] 81 λA=>kJ b 7 a<|kJ b 6 d<|oV (oA #[78,78] 78 #[sv d,.slice (lF A) 1 1]) lS λB=>kJ b 7 a<|oV (oA #[57,57] 57 #[sv a,.slice (lF z) 1 1]) lS λC=>jQ b 6 B<|jQ b 7 C<|hM [lN (wN c.1)])) (oP 0 [lN c.1])) λE=>oC (lP (lF b))
theorem Rn(p_0:Pl6)(a_1:nG)(a:nG):Ab eE f26 [(aG p_0),(.pointer a_1),(.pointer a)] =UB p_0 a_1 a:=nU
noncomputable def O4(g_0:nG)(a:Int):T:=oF lV (lM (a≥ 0) (nW g_0 λb=>jT b 6 λt3=>hM [.bool (decide (a< (t3.2.1:Int)))]) (hM [.bool false])) λc=>oC (.bool c.1)
theorem M9(g_0:nG)(a:Int):Ab eE f29 [(.pointer g_0),(.int .i64 a)] =O4 g_0 a:=nU
noncomputable def Dt(a:nG)(b c:Nat):T:=hC 73 [.slice a b c,.func (.func 37) #[] #[]] lT λt1=>oC (.bool (decide (t1≥ 0)))
theorem Di(a:nG)(b c:Nat):Ab eE f36 [(.slice a b c),(.func (.func 37) #[] #[])] =Dt a b c:=nU
noncomputable def KH(c_0:Int×Int×Int×Slc×Int×Int×Bool×Unit):T:=jO #[lN c_0.1,lN c_0.2.1,lN c_0.2.2.1,sv c_0.2.2.2.1,lN c_0.2.2.2.2.1,lN c_0.2.2.2.2.2.1,.bool c_0.2.2.2.2.2.2.1] 62 λr1=>kW r1 6 λt2=>oC (.bool t2)
theorem Iy(a:Int×Int×Int×Slc×Int×Int×Bool×Unit):Ab eE f37 [(.agg #[(.int .i64 a.1),(.int .i64 a.2.1),(.int .i64 a.2.2.1),(sv a.2.2.2.1),(.int .i64 a.2.2.2.2.1),(.int .i64 a.2.2.2.2.2.1),(.bool a.2.2.2.2.2.2.1)])] =KH a:=nU
noncomputable def Qb(p_0:Pl6)(term_1:Int):T:=jO #[sv p_0.1,sv p_0.2.1,sv p_0.2.2.1,sv p_0.2.2.2.1,sv p_0.2.2.2.2.1,sv p_0.2.2.2.2.2.1] 32 λr1=>oF lV (lM (term_1< 0) (hM [.bool true]) (jM r1 3 λt3=>hM [.bool (decide (term_1≥ (t3.2.1:Int)))])) λa=>cond a.1 (oC (lN 0)) (jM r1 3 λt4=>lK t4.1 t4.2.1 term_1 λb=>jR b term_1 1 λt6=>oC (lN t6))
theorem O5(p_0:Pl6)(term_1:Int):Ab eE f170 [(aG p_0),(.int .i64 term_1)] =Qb p_0 term_1:=nU
noncomputable def Pw(p_0:Pl6)(a:Int):T:=jO #[sv p_0.1,sv p_0.2.1,sv p_0.2.2.1,sv p_0.2.2.2.1,sv p_0.2.2.2.2.1,sv p_0.2.2.2.2.2.1] 32 λr1=>oF lV (lM (a< 0) (hM [.bool true]) (jM r1 2 λt3=>hM [.bool (decide (a≥ (t3.2.1:Int)))])) λb=>cond b.1 (oC (lN 0)) (jM r1 2 λt4=>lK t4.1 t4.2.1 a λc=>jX c a 3 2 λt6=>oC (lN t6))
theorem N6(p_0:Pl6)(a:Int):Ab eE f171 [(aG p_0),(.int .i64 a)] =Pw p_0 a:=nU
noncomputable def NA(g_0:nG)(a_1:nG)(h:nG)(a:Int)(b:Int):T:=jO #[lN 0,lN 0] 50 λr1=>hC 40 [lP a_1,lN a,lN b] lT λt2=>hC 107 [lP h,lN a] lS λt3=>oB 0 lY (oN lY [lN 0,lO] λd=>lL d.1 t3.2.1 (lK t3.1 t3.2.1 d.1 λD=>jR D d.1 1 λt7=>hC 109 [lP h,lN a,lN t7] lS λt8=>hC 108 [sv t8,lN b] lU λE=>oF [aS] (cond E (jO #[lN t7] 3 λl=>oV (oA #[30,30] 30 #[sv d.2.1,.slice (lF l) 1 1]) lS λm=>hM [sv m]) (hM [sv d.2.1])) λn=>hM [lN (wN d.1),sv n.1]) (oP 0 [lN d.1,sv d.2.1])) λk=>nW g_0 λo=>M6 o λp q r s t u=>hC 110 [aH p q r s t u,lN b,lN t2,sv k.2.1] mK λe=>jO #[lN 0,lN 0] 50 λc=>jZ c 0 e.1.1<|jZ c 1 e.1.2.1<|oF lV (lM ((k.2.1.2.1:Int) >(1:Int)) (hM [.bool true]) (cond ((k.2.1.2.1:Int)==(1:Int)) (hM [.bool (decide (t2≥ 0))]) (hM [.bool false]))) λv=>oF [] (cond v.1 (nW g_0 λi=>jT i 8 λj=>jY c 0 λw=>jY c 1 λx=>jO #[lN a,lN b,lN t2,sv k.2.1,lN w,lN x,.bool e.2.1] 62 λy=>pG (i.add 8) (sv j)<|oV (oA #[54,54] 54 #[sv j,.slice (lF y) 1 1]) lS λz=>nW g_0 λA=>pN (A.add 8) (sv z)<|hM []) (hM [])) λF=>jY c 0 λB=>jY c 1 λC=>jZ r1 0 B<|jZ r1 1 C<|jY r1 0 λf=>jY r1 1 λg=>oC (.agg #[lN f,lN g])
theorem K5(g_0:nG)(a_1:nG)(c:nG)(a:Int)(b:Int):Ab eE f61 [(.pointer g_0),(.pointer a_1),(.pointer c),(.int .i64 a),(.int .i64 b)] =NA g_0 a_1 c a b:=nU
noncomputable def EJ(c:nG)(b e:Nat):T:=oB 0 lX (oN lX [lN 0,lN 0] λa=>lL a.1 b (lK c b a.1 λd=>jR d a.1 7 λt4=>jX d a.1 7 1 λt5=>jX d a.1 7 2 λt6=>jU d a.1 7 3 λt7=>jX d a.1 7 4 λt8=>jX d a.1 7 5 λh=>kV d a.1 7 6 λf=>hC 37 [.agg #[lN t4,lN t5,lN t6,sv t7,lN t8,lN h,.bool f]] lU λg=>cond g (oC (lN a.1)) (hM [lN (wN a.1),lN a.2.1])) (oP 0 [lN a.1,lN a.2.1])) λi=>oC (lN (-1:Int))
theorem Dw(a:nG)(b c:Nat):Ab eE f73 [(.slice a b c),(.func (.func 37) #[] #[])] =EJ a b c:=nU
noncomputable def NB(d:nG)(a f:Nat)(e:nG)(b g:Nat):T:=cond (((a:Nat):Int) !=((b:Nat):Int)) (oC (.bool false)) (oB 0 lW (oN lW [lN 0,.bool false] λc=>lL c.1 a (lK d a c.1 λh=>jR h c.1 1 λt4=>lK e b c.1 λi=>jR i c.1 1 λt6=>cond (t4 !=t6) (oC (.bool false)) (hM [lN (wN c.1),.bool c.2.1])) (oP 0 [lN c.1,.bool c.2.1])) λj=>oC (.bool true))
theorem K6(a:nG)(b c:Nat)(d:nG)(e f:Nat):Ab eE f34 [(.slice a b c),(.slice d e f)] =NB a b c d e f:=nU
noncomputable def ME(d:nG)(a f:Nat)(e:nG)(b g:Nat):T:=cond (((a:Nat):Int) !=((b:Nat):Int)) (oC (.bool false)) (oB 0 lW (oN lW [lN 0,.bool false] λc=>lL c.1 a (lK d a c.1 λh=>jN h c.1 1 λt4=>lK e b c.1 λi=>jN i c.1 1 λt6=>hC 34 [sv t4,sv t6] lU λt7=>cond (!t7) (oC (.bool false)) (hM [lN (wN c.1),.bool c.2.1])) (oP 0 [lN c.1,.bool c.2.1])) λj=>oC (.bool true))
theorem KI(a:nG)(b c:Nat)(d:nG)(e f:Nat):Ab eE f18 [(.slice a b c),(.slice d e f)] =ME a b c d e f:=nU
noncomputable def MF(p_0:Pl6):T:=jO #[sv p_0.1,sv p_0.2.1,sv p_0.2.2.1,sv p_0.2.2.2.1,sv p_0.2.2.2.2.1,sv p_0.2.2.2.2.2.1] 32 λr1=>L6 r1 λt2 t3 t4 t5 t6 t7=>hC 43 [aH t2 t3 t4 t5 t6 t7] lS λt8=>L6 r1 λD e f g h i=>hC 44 [aH D e f g h i] lS λc=>jM r1 0 λj=>oB 0 [aI,aI,aI] (oN [aI,aI,aI] [lN (j.2.1:Int),lN 0,lN 0] λa=>L6 r1 λk l m n o p=>hC 45 [aH k l m n o p] lT λq=>lM (a.1< (lQ (q - 1))) (lK t8.1 t8.2.1 a.1 λr=>kZ r a.1 1 λs=>cond (!s) (oC (.tuple #[lN a.1,lN 18])) (hM [lN (wN a.1),lN a.2.1,lN a.2.2.1])) (oP 0 [lN a.1,lN a.2.1,lN a.2.2.1])) λd=>jM r1 0 λt=>oB 2 [aI,aI,aI] (oN [aI,aI,aI] [lN (t.2.1:Int),lN d.2.1,lN d.2.2.1] λb=>L6 r1 λu v w x y z=>hC 45 [aH u v w x y z] lT λA=>lM (b.1< (lQ (A - 1))) (lK c.1 c.2.1 b.1 λB=>kZ B b.1 1 λC=>cond (!C) (oC (.tuple #[lN b.1,lN 17])) (hM [lN (wN b.1),lN b.2.1,lN b.2.2.1])) (oP 2 [lN b.1,lN b.2.1,lN b.2.2.1])) λE=>oC (.tuple #[lN 0,lN 0])
theorem KJ(p_0:Pl6):Ab eE f23 [(aG p_0)] =MF p_0:=nU
noncomputable def MG(p_0:Pl6):T:=jO #[sv p_0.1,sv p_0.2.1,sv p_0.2.2.1,sv p_0.2.2.2.1,sv p_0.2.2.2.2.1,sv p_0.2.2.2.2.2.1] 32 λr1=>L6 r1 λt2 t3 t4 t5 t6 t7=>hC 45 [aH t2 t3 t4 t5 t6 t7] lT λt8=>oV (oX 100 (lN t8) (lN t8)) lS λd=>oB 0 lZ (oN lZ [lN 0] λc=>jM r1 0 λn=>lL c.1 n.2.1 (lK d.1 d.2.1 c.1 λo=>pN (o.add (oJ c.1 *1)) (.bool true)<|hM [lN (wN c.1)]) (oP 0 [lN c.1])) λG=>oB 2 lV (oN lV [.bool true] λe=>cond e.1 (oB 4 lW (oN lW [lN 0,.bool false] λa=>jM r1 2 λp=>lL a.1 p.2.1 (oB 6 lW (oN lW [lN 0,.bool true] λb=>jM r1 2 λf=>lK f.1 f.2.1 a.1 λq=>jU q a.1 3 1 λr=>lL b.1 r.2.1 (oF lV (cond b.2.1 (jM r1 2 λg=>lK g.1 g.2.1 a.1 λs=>jU s a.1 3 1 λh=>lK h.1 h.2.1 b.1 λt=>jR t b.1 1 λi=>lK d.1 d.2.1 i λu=>kZ u i 1 λv=>hM [.bool v]) (hM [.bool false])) λw=>hM [lN (wN b.1),.bool w.1]) (oP 6 [lN b.1,.bool b.2.1])) λx=>oF lV (cond x.2.1 (jM r1 2 λj=>lK j.1 j.2.1 a.1 λy=>jR y a.1 3 λk=>lK d.1 d.2.1 k λz=>kZ z k 1 λA=>hM [.bool (!A)]) (hM [.bool false])) λB=>oF lV (cond B.1 (jM r1 2 λl=>lK l.1 l.2.1 a.1 λC=>jR C a.1 3 λm=>lK d.1 d.2.1 m λD=>pN (D.add (oJ m *1)) (.bool true)<|hM [.bool true]) (hM [.bool a.2.1])) λE=>hM [lN (wN a.1),.bool E.1]) (oP 4 [lN a.1,.bool a.2.1])) λF=>hM [.bool F.2.1]) (oP 2 [.bool e.1])) λH=>oC (sv d)
theorem KK(p_0:Pl6):Ab eE f43 [(aG p_0)] =MG p_0:=nU
noncomputable def NC(p_0:Pl6):T:=jO #[sv p_0.1,sv p_0.2.1,sv p_0.2.2.1,sv p_0.2.2.2.1,sv p_0.2.2.2.2.1,sv p_0.2.2.2.2.2.1] 32 λr1=>L6 r1 λt2 t3 t4 t5 t6 t7=>hC 45 [aH t2 t3 t4 t5 t6 t7] lT λt8=>oV (oX 100 (lN t8) (lN t8)) lS λc=>L6 r1 λo p q r s t=>hC 45 [aH o p q r s t] lT λd=>nW c.1 λu=>chk (0≤(lQ (d - 1))∧(lQ (d - 1)) < (c.2.1:Nat))<|pN (u.add (oJ (lQ (d - 1)) *1)) (.bool true)<|oB 0 lV (oN lV [.bool true] λe=>cond e.1 (oB 2 lW (oN lW [lN 0,.bool false] λa=>jM r1 2 λv=>lL a.1 v.2.1 (oB 4 lW (oN lW [lN 0,.bool a.2.1] λb=>jM r1 2 λf=>lK f.1 f.2.1 a.1 λw=>jU w a.1 3 1 λx=>lL b.1 x.2.1 (oF lV (jM r1 2 λg=>lK g.1 g.2.1 a.1 λy=>jR y a.1 3 λh=>lK c.1 c.2.1 h λz=>kZ z h 1 λA=>cond A (jM r1 2 λi=>lK i.1 i.2.1 a.1 λB=>jU B a.1 3 1 λj=>lK j.1 j.2.1 b.1 λC=>jR C b.1 1 λk=>lK c.1 c.2.1 k λD=>kZ D k 1 λE=>hM [.bool (!E)]) (hM [.bool false])) λF=>oF lV (cond F.1 (jM r1 2 λl=>lK l.1 l.2.1 a.1 λG=>jU G a.1 3 1 λm=>lK m.1 m.2.1 b.1 λH=>jR H b.1 1 λn=>lK c.1 c.2.1 n λI=>pN (I.add (oJ n *1)) (.bool true)<|hM [.bool true]) (hM [.bool b.2.1])) λJ=>hM [lN (wN b.1),.bool J.1]) (oP 4 [lN b.1,.bool b.2.1])) λK=>hM [lN (wN a.1),.bool K.2.1]) (oP 2 [lN a.1,.bool a.2.1])) λL=>hM [.bool L.2.1]) (oP 0 [.bool e.1])) λM=>oC (sv c)
theorem K7(p_0:Pl6):Ab eE f44 [(aG p_0)] =NC p_0:=nU
noncomputable def MH(p_0:Pl6):T:=jO #[sv p_0.1,sv p_0.2.1,sv p_0.2.2.1,sv p_0.2.2.2.1,sv p_0.2.2.2.2.1,sv p_0.2.2.2.2.2.1] 32 λr1=>jM r1 0 λt2=>jM r1 1 λt3=>oC (lN (lQ ((lQ ((t2.2.1:Int)+(t3.2.1:Int)))+(1:Int))))
theorem KL(p_0:Pl6):Ab eE f45 [(aG p_0)] =MH p_0:=nU
noncomputable def UC(r1 d:Nat)(a:Slc)(K:Int×Bool×Unit→T):T:=oB 2 lW (oN lW [lN 0,.bool false] λc=>jM r1 2 λl=>cond (decide (c.1< (l.2.1:Int))) (jM r1 2 λg=>nW g.1 λm=>chk (0≤c.1∧c.1< (g.2.1:Nat))<|jR m c.1 3 λb=>L6 r1 λn o p q r s=>jM r1 2 λh=>nW h.1 λt=>chk (0≤c.1∧c.1< (h.2.1:Nat))<|jU t c.1 3 1 λu=>hC 114 [lP (lF d),aH n o p q r s,sv u] (.tuple mC) λf=>jM d 1 λi=>nW i.1 λv=>chk (0≤(bO .i64 (b - (a.2.1:Int)))∧(bO .i64 (b - (a.2.1:Int))) < (i.2.1:Nat))<|jN v (bO .i64 (b - (a.2.1:Int))) 1 λw=>hC 115 [sv w,sv f.1] lU λx=>oF lV (cond c.2.1 (hM [.bool true]) (cond x (hM [.bool true]) (cond f.2.1 (jM d 0 λj=>nW j.1 λy=>chk (0≤(bO .i64 (b - (a.2.1:Int)))∧(bO .i64 (b - (a.2.1:Int))) < (j.2.1:Nat))<|kZ y (bO .i64 (b - (a.2.1:Int))) 1 λz=>hM [.bool (!z)]) (hM [.bool false])))) λA=>oF [] (jM d 0 λe=>jM d 0 λk=>nW k.1 λB=>chk (0≤(bO .i64 (b - (a.2.1:Int)))∧(bO .i64 (b - (a.2.1:Int))) < (k.2.1:Nat))<|kZ B (bO .i64 (b - (a.2.1:Int))) 1 λC=>cond C (nW e.1 λD=>chk (0≤(bO .i64 (b - (a.2.1:Int)))∧(bO .i64 (b - (a.2.1:Int))) < (e.2.1:Nat))<|pN (D.add (oJ (bO .i64 (b - (a.2.1:Int))) *1)) (.bool true)<|hM []) (nW e.1 λE=>chk (0≤(bO .i64 (b - (a.2.1:Int)))∧(bO .i64 (b - (a.2.1:Int))) < (e.2.1:Nat))<|pN (E.add (oJ (bO .i64 (b - (a.2.1:Int))) *1)) (.bool f.2.1)<|hM [])) λF=>hM [lN (wN c.1),.bool A.1]) (oP 2 [lN c.1,.bool c.2.1])) K
noncomputable def Rp(r1 e:Nat)(d:Slc)(K:Int×Bool×Unit→T):T:=oB 6 lW (oN lW [lN 0,.bool false] λc=>jM r1 2 λr=>cond (decide (c.1< (r.2.1:Int))) (jM r1 2 λi=>nW i.1 λs=>chk (0≤c.1∧c.1< (i.2.1:Nat))<|jU s c.1 3 1 λb=>oB 8 lW (oN lW [lN 0,.bool c.2.1] λa=>cond (decide (a.1< (b.2.1:Int))) (oB 9 lV (nW b.1 λt=>chk (0≤a.1∧a.1< (b.2.1:Nat))<|jR t a.1 1 λu=>cond (decide (u< (d.2.1:Int))) (oP 9 [.bool a.2.1]) (L6 r1 λv w y z A B=>chk (0≤(wN a.1)∧(wN a.1) ≤(b.2.1:Int)∧(b.2.1:Int) ≤(b.2.2:Nat))<|hC 114 [lP (lF e),aH v w y z A B,.slice (if b.2.2=oJ (wN a.1) then b.1 else sI (λx=>sQ x (oJ (wN a.1) *1)) b.1) (oJ (b.2.1:Int) - oJ (wN a.1)) (b.2.2 - oJ (wN a.1))] (.tuple mC) λj=>jM e 2 λk=>nW b.1 λC=>chk (0≤a.1∧a.1< (b.2.1:Nat))<|jR C a.1 1 λf=>nW k.1 λD=>chk (0≤(bO .i64 (f - (d.2.1:Int)))∧(bO .i64 (f - (d.2.1:Int))) < (k.2.1:Nat))<|jN D (bO .i64 (f - (d.2.1:Int))) 1 λE=>hC 115 [sv E,sv j.1] lU λl=>oF lV (cond a.2.1 (hM [.bool true]) (hM [.bool l])) λm=>oF [aB,aB] (cond j.2.1 (jM e 2 λn=>nW b.1 λF=>chk (0≤a.1∧a.1< (b.2.1:Nat))<|jR F a.1 1 λg=>nW n.1 λG=>chk (0≤(bO .i64 (g - (d.2.1:Int)))∧(bO .i64 (g - (d.2.1:Int))) < (n.2.1:Nat))<|jN G (bO .i64 (g - (d.2.1:Int))) 1 λH=>jM e 2 λo=>jM r1 2 λp=>nW p.1 λI=>chk (0≤c.1∧c.1< (p.2.1:Nat))<|jR I c.1 3 λh=>nW o.1 λJ=>chk (0≤(bO .i64 (h - (d.2.1:Int)))∧(bO .i64 (h - (d.2.1:Int))) < (o.2.1:Nat))<|jN J (bO .i64 (h - (d.2.1:Int))) 1 λL=>hC 115 [sv H,sv L] lU λq=>oF lV (cond m.1 (hM [.bool true]) (hM [.bool q])) λM=>hM [.bool M.1,.bool q]) (hM [.bool m.1,.bool l])) λN=>hM [.bool N.1])) λO=>hM [lN (wN a.1),.bool O.1]) (oP 8 [lN a.1,.bool a.2.1])) λP=>hM [lN (wN c.1),.bool P.2.1]) (oP 6 [lN c.1,.bool c.2.1])) K
noncomputable def Px(r1 a:Nat):T:=jM r1 0 λc=>oB 0 lV (oN lV [.bool true] λd=>cond d.1 (jY a 3 λh=>jZ a 3 (wN h)<|UC r1 a c λi=>hM [.bool i.2.1]) (oP 0 [.bool d.1])) λm=>jM a 2 λe=>jM r1 1 λb=>nW e.1 λj=>chk (0≤(b.2.1:Int)∧(b.2.1:Int) < (e.2.1:Nat))<|jN j (b.2.1:Int) 1 λf=>nW f.1 λk=>chk (0≤(0:Int)∧(0:Int) < (f.2.1:Nat))<|pN (k.add (oJ 0 *1)) (.bool true)<|oB 4 lV (oN lV [.bool true] λg=>cond g.1 (Rp r1 a c λl=>hM [.bool l.2.1]) (oP 4 [.bool g.1])) λn=>oC (lP (lF a))
noncomputable def Ic(p_0:Pl6):T:=jO #[sv p_0.1,sv p_0.2.1,sv p_0.2.2.1,sv p_0.2.2.2.1,sv p_0.2.2.2.2.1,sv p_0.2.2.2.2.2.1] 32 λr1=>jM r1 1 λt2=>L6 r1 λt3 t4 t5 t6 t7 t8=>L6 r1 λg a b c d e=>qR (oV (oX 100 (lN (bO .i64 ((t2.2.1:Int)+(1:Int)))) (lN (bO .i64 ((t2.2.1:Int)+(1:Int))))) lS λn=>S6 r1 g a b c d e<|S6 r1 t3 t4 t5 t6 t7 t8<|hC 113 [aH t3 t4 t5 t6 t7 t8] lS λo=>S6 r1 g a b c d e<|hC 113 [aH g a b c d e] lS λp=>jO #[sv n,sv o,sv p,lN 0] 207 λq=>Px r1 q) (hC 113 [aH t3 t4 t5 t6 t7 t8] lS λf=>S6 r1 g a b c d e<|kJ r1 1 t2<|qR (oV (oX 100 (lN (bO .i64 ((t2.2.1:Int)+(1:Int)))) (lN (bO .i64 ((t2.2.1:Int)+(1:Int))))) lS λh=>S6 r1 g a b c d e<|hC 113 [aH g a b c d e] lS λi=>jO #[sv h,sv f,sv i,lN 0] 207 λj=>Px r1 j) (hC 113 [aH g a b c d e] lS λk=>kJ r1 1 t2<|oV (oX 100 (lN (bO .i64 ((t2.2.1:Int)+(1:Int)))) (lN (bO .i64 ((t2.2.1:Int)+(1:Int))))) lS λl=>jO #[sv l,sv f,sv k,lN 0] 207 λm=>Px r1 m))
theorem ND(p_0:Pl6):Ab eE f66 [(aG p_0)] =Ic p_0:=nU
noncomputable def NE(c:nG)(a d:Nat):T:=oB 0 lY (oN lY [lN 0,lO] λb=>lL b.1 a (lK c a b.1 λe=>kZ e b.1 1 λt4=>oF [aS] (cond t4 (jO #[lN b.1] 3 λf=>oV (oA #[30,30] 30 #[sv b.2.1,.slice (lF f) 1 1]) lS λt7=>hM [sv t7]) (hM [sv b.2.1])) λg=>hM [lN (wN b.1),sv g.1]) (oP 0 [lN b.1,sv b.2.1])) λh=>oC (sv h.2.1)
theorem K8(a:nG)(b c:Nat):Ab eE f116 [(.slice a b c)] =NE a b c:=nU
noncomputable def G1(p_0:Pl6):T:=jO #[sv p_0.1,sv p_0.2.1,sv p_0.2.2.1,sv p_0.2.2.2.1,sv p_0.2.2.2.2.1,sv p_0.2.2.2.2.2.1] 32 λr1=>oB 0 lY (oN lY [lN 0,lO] λa=>jM r1 1 λt4=>cond (decide (a.1≤(t4.2.1:Int))) (jM r1 0 λt5=>oV (oX 100 (lN (t5.2.1:Int)) (lN (t5.2.1:Int))) lS λt6=>jO #[sv t6] 100 λb=>oV (oA #[154,154] 154 #[sv a.2.1,.slice (lF b) 1 1]) lS λt8=>hM [lN (wN a.1),sv t8]) (oP 0 [lN a.1,sv a.2.1])) λc=>oC (sv c.2.1)
theorem KM(p_0:Pl6):Ab eE f113 [(aG p_0)] =G1 p_0:=nU
noncomputable def Es(f_0:nG)(e:Pl6)(b:nG)(a g:Nat):T:=jO #[sv e.1,sv e.2.1,sv e.2.2.1,sv e.2.2.2.1,sv e.2.2.2.2.1,sv e.2.2.2.2.2.1] 32 λr1=>jM r1 0 λt2=>oV (oX 100 (lN (t2.2.1:Int)) (lN (t2.2.1:Int))) lS λt3=>oB 0 mA (oN mA [lN 0,.bool false,lO] λc=>cond (decide (c.1< ((a:Nat):Int))) (oB 1 [aB,aS] (oF lV (nW b λy=>chk (0≤c.1∧c.1< (a:Nat))<|jR y c.1 1 λz=>cond (decide (z≥ 0)) (nW b λj=>chk (0≤c.1∧c.1< (a:Nat))<|jR j c.1 1 λk=>hM [.bool (decide (k< (t2.2.1:Int)))]) (hM [.bool false])) λA=>cond A.1 (nW b λl=>chk (0≤c.1∧c.1< (a:Nat))<|jR l c.1 1 λf=>nW t3.1 λm=>chk (0≤f∧f< (t3.2.1:Nat))<|pN (m.add (oJ f *1)) (.bool true)<|oC (.tuple #[sv t3,.bool false])) (nW b λn=>chk (0≤c.1∧c.1< (a:Nat))<|jR n c.1 1 λd=>oF lV (cond (decide ((bO .i64 (d - (t2.2.1:Int))) < 0)) (hM [.bool true]) (nW f_0 λo=>lA o λp=>hM [.bool (decide ((bO .i64 (d - (t2.2.1:Int))) ≥ (p.2.1:Int)))])) λq=>cond q.1 (oP 1 [.bool c.2.1,sv c.2.2.1]) (nW f_0 λr=>jT r 1 λh=>nW h.1 λs=>chk (0≤(bO .i64 (d - (t2.2.1:Int)))∧(bO .i64 (d - (t2.2.1:Int))) < (h.2.1:Nat))<|jN s (bO .i64 (d - (t2.2.1:Int))) 1 λt=>hC 115 [sv t3,sv t] lU λB=>nW f_0 λu=>lA u λi=>nW i.1 λv=>chk (0≤(bO .i64 (d - (t2.2.1:Int)))∧(bO .i64 (d - (t2.2.1:Int))) < (i.2.1:Nat))<|kZ v (bO .i64 (d - (t2.2.1:Int))) 1 λw=>cond (!w) (oC (.tuple #[sv t3,.bool false])) (hM [.bool c.2.1,sv c.2.2.1])))) λx=>hM [lN (wN c.1),.bool x.1,sv x.2.1]) (oP 0 [lN c.1,.bool c.2.1,sv c.2.2.1])) λC=>oC (.tuple #[sv t3,.bool true])
theorem EK(d:nG)(e:Pl6)(a:nG)(b c:Nat):Ab eE f114 [(.pointer d),(aG e),(.slice a b c)] =Es d e a b c:=nU
noncomputable def H7(b:nG)(c f:Nat)(e:nG)(d g:Nat):T:=oB 0 lW (oN lW [lN 0,.bool false] λa=>cond (decide (a.1< ((d:Nat):Int))) (oF lV (nW e λh=>chk (0≤a.1∧a.1< (d:Nat))<|kZ h a.1 1 λt5=>cond t5 (nW b λi=>chk (0≤a.1∧a.1< (c:Nat))<|kZ i a.1 1 λt7=>hM [.bool (!t7)]) (hM [.bool false])) λj=>oF lV (cond j.1 (nW b λk=>chk (0≤a.1∧a.1< (c:Nat))<|pN (k.add (oJ a.1 *1)) (.bool true)<|hM [.bool true]) (hM [.bool a.2.1])) λl=>hM [lN (wN a.1),.bool l.1]) (oP 0 [lN a.1,.bool a.2.1])) λm=>oC (.bool m.2.1)
theorem Et(a:nG)(b c:Nat)(d:nG)(e f:Nat):Ab eE f115 [(.slice a b c),(.slice d e f)] =H7 a b c d e f:=nU
section
variable {p_0:Pl6}{d_p_0:As}{a_0 b_1:Slc}
section
variable {φ:AD}{h:AH}{F:List Chk}
theorem Py:Sc eE 100 4 (.bool false):=⟨rU,⟨t4,nU,rfl,⟨_,rfl,rfl⟩,nQ⟩⟩
noncomputable def Bh(p_0:As):Option Int:=some (bO .i64 ((bO .i64 ((p_0.1.length:Int)+(p_0.2.1.length:Int)))+1))
theorem CP(b:G8 φ p_0 d_p_0)(g:St φ F h){r:Int}(hd:Bh d_p_0=some r):
 nX eE 45 [aG p_0] h (An (mN φ r F)):=by refine AT mixed func45 (KL ..) ?_;have c:p_0.1.2.1=oL d_p_0.1:=b.k0.length;have d:p_0.2.1.2.1=oL d_p_0.2.1:=b.k1.length;refine D5 (t:=p_0) g λr1 f a=>AA a rfl<|AA a rfl ?_;obtain rfl:=iS hd;have e:=a.tail;exact AC ⟨φ,(bO .i64 ((bO .i64 ((p_0.1.2.1:Int)+(p_0.2.1.2.1:Int)))+(1:Int))),sb,rfl,(by rw[c,d]),e⟩
noncomputable def Da(p_0:As):Option (List Bool):=(Bh p_0).bind λt8=>(EC t8 false).bind λw=>(forS (σ:=List Bool) 0 (p_0.1.length:Int) w λd p=>(DQ p d true).bind λq=>some q).bind λr=>(loop (σ:=(Bool×List Bool)) (β:=List Bool) (true,r) λe=>cond e.1 ((forS (σ:=(Bool×List Bool)) 0 (p_0.2.2.1.length:Int) (false,e.2) λa b=>(loop (σ:=(Int×Bool)) (β:=Bool) (0,true) λc=>(idx p_0.2.2.1 a).bind λf=>cond (decide (c.1< (f.2.1.length:Int))) ((cond c.2 ((idx p_0.2.2.1 a).bind λg=>(idx g.2.1 c.1).bind λh=>(idx b.2 h).bind λi=>some i) (some false)).bind λs=>some (pC ((bO .i64 (c.1+1)),s))) (some (pL c.2))).bind λt=>(cond t ((idx p_0.2.2.1 a).bind λj=>(idx b.2 j.1).bind λk=>some (!k)) (some false)).bind λu=>(cond u ((idx p_0.2.2.1 a).bind λl=>(DQ b.2 l.1 true).bind λm=>some (true,m)) (some (b.1,b.2))).bind λn=>some (n.1,n.2)).bind λo=>some (pC (o.1,o.2))) (some (pL e.2))).bind λv=>some v
theorem KN(f:G8 φ p_0 d_p_0)(U:St φ F h){r:(List Bool)}(hd:Da d_p_0=some r):
 nX eE 43 [aG p_0] h (An (mO φ oH r F)):=by
 refine AT mixed func43 (KK ..) ?_;have D:p_0.1.2.1=oL d_p_0.1:=f.k0.length;have E:p_0.2.2.1.2.1=oL d_p_0.2.2.1:=f.k2.length;refine D5 (t:=p_0) U λr1 e0 G=>BS (t:=p_0) G ?_;have⟨e1,V,hd⟩:=bS hd;refine AK (CP f G V) ?_;rintro _ e2 ⟨H,t8,e3,rfl,rfl,W⟩;refine⟨t8,rfl,?_⟩;have⟨X,Y,hd⟩:=bS hd;refine FW (r:=oH) (x:=false) Py W rfl rfl Y ?_;intro A e4 Z;have⟨e5,ba,hd⟩:=bS hd;refine BD ba (λbb y v g=>∃ψ:AD,∃I:List Bool,Sub H ψ∧y.1=bb∧I=g∧St ψ (cR 4 oH A I::Wq2 r1 p_0::F) v) rfl ⟨H,X,sb,rfl,rfl,Z.at1.at1⟩ ?_ ?_ ?_
 ·rintro _ B e6 _ _ ⟨bd,e7,e8,rfl,rfl,o⟩ p e9 bf bg;refine AA o.at1 rfl<|Ad (dT D bf) ?_;have⟨bi,J,p⟩:=bS p;have⟨ea,K,bj⟩:=o.there J;refine AI _ K (Ai bj (FH o J rfl K ?_));intro ed bl;obtain rfl:=iS p;exact lH rfl rfl ⟨bd,bi,sb,bg,rfl,bl.at1.at1⟩
 ·rintro _ B ee ⟨bn,bp,ef,rfl,rfl,L⟩ bq;refine AA L.at1 rfl<|AW (dF D bq)<|AJ (lI rfl ⟨_,bn,bp,sb,rfl,rfl,L.at1.at1⟩)
 rintro a0 eg ⟨_,q,bs,el,_,rfl,bt⟩;have⟨bx,bz,hd⟩:=bS hd;refine Af (λy v g=>∃ψ:AD,∃M:List Bool,Sub q ψ∧M=g∧St ψ (cR 4 oH A M::Wq2 r1 p_0::F) v) (g:=bx) ?_ ?_
 ·refine Bx bz (λy v g=>∃ψ:AD,∃N:List Bool,Sub q ψ∧(y.1,N)=g∧St ψ (cR 4 oH A N::Wq2 r1 p_0::F) v) rfl ⟨q,bs,sb,rfl,bt.at1.at1⟩ ?_
  ·rintro g5 em _ _ ⟨s,al,en,rfl,ap⟩ i c0;refine mP i rfl (λi=>?_) (λi=>?_)
   ·have c1:=ap.at1;have⟨eo,c2,i⟩:=bS i;refine BD c2 (λc3 y v g=>∃ψ:AD,∃O:List Bool,Sub s ψ∧y.1=c3∧(y.2.1,O)=g∧St ψ (cR 4 oH A O::Wq2 r1 p_0::F) v) rfl ⟨s,al,sb,rfl,rfl,c1.at1⟩ ?_ ?_ ?_
    ·rintro _ C er _ _ ⟨u,k,es,rfl,rfl,P⟩ j ev c4 c5;refine AA P.at1 rfl<|Ad (dT E c4) ?_;have⟨c6,c7,j⟩:=bS j;refine Af (λy v g=>∃ψ:AD,Sub u ψ∧y.2.1=g∧St ψ (cR 4 oH A k::Wq2 r1 p_0::F) v) (g:=c6) ?_ ?_
     ·refine Bx c7 (λy v g=>∃ψ:AD,Sub u ψ∧(y.1,y.2.1)=g∧St ψ (cR 4 oH A k::Wq2 r1 p_0::F) v) rfl ⟨u,sb,rfl,P.at1.at1⟩ ?_
      ·rintro g6 ew _ _ ⟨n,ex,rfl,b⟩ c c8;refine AA b.at1 rfl<|ixR Gf f.k2 c b λez f0 c9 c=>?_;have ch:=c9.length;refine mP c (by rw[ch] <;>rfl) (λc=>?_) (λc=>?_)
       ·have⟨cl,a,c⟩:=bS c;refine AY (λy v g=>∃ψ:AD,Sub n ψ∧y.1=g∧St ψ (cR 4 oH A k::Wq2 r1 p_0::F) v) (g:=cl) ?_ ?_
        ·refine mP a rfl (λa=>?_) (λa=>?_)
         ·refine AA b.at1 rfl<|ixR Gf f.k2 a b λf1 f2 cm a=>gx cm a b λf3 a=>gxO b a λcp a=>?_;exact lG rfl ⟨n,sb,iS a,b.at1.at1⟩
         exact lG rfl ⟨n,sb,iS a,b.at1.at1⟩
        rintro g7 f4 ⟨cs,f5,rfl,cw⟩;obtain rfl:=iS c;exact lH rfl rfl ⟨cs,sb,rfl,cw.at1.at1⟩
       obtain rfl:=iS c;obtain rfl:=c8 _ rfl;exact AJ (lI rfl ⟨n,sb,rfl,b.at1.at1⟩)
     rintro g8 f6 ⟨w,f7,rfl,l⟩;have⟨cx,d,j⟩:=bS j;refine AY (λy v g=>∃ψ:AD,Sub w ψ∧y.1=g∧St ψ (cR 4 oH A k::Wq2 r1 p_0::F) v) (g:=cx) ?_ ?_
     ·refine mP d rfl (λd=>?_) (λd=>?_)
      ·refine AA l.at1 rfl<|Ik Jk f.k2 d l λf8 d=>gxO l d λd0 d=>?_;exact lG rfl ⟨w,sb,iS d,l.at1.at1⟩
      exact lG rfl ⟨w,sb,iS d,l.at1.at1⟩
     rintro g9 f9 ⟨z,fa,rfl,m⟩;have⟨d1,e,j⟩:=bS j;refine AY (λy v g=>∃ψ:AD,∃Q:List Bool,Sub z ψ∧(y.1,Q)=g∧St ψ (cR 4 oH A Q::Wq2 r1 p_0::F) v) (g:=d1) ?_ ?_
     ·refine mP e rfl (λe=>?_) (λe=>?_)
      ·refine AA m.at1 rfl<|Ik Jk f.k2 e m λfd e=>?_;have⟨d2,R,e⟩:=bS e;have⟨fl,S,d3⟩:=m.there R;refine AI _ S (Ai d3 (FH m R rfl S ?_));intro fn d4;exact lG rfl ⟨z,d2,sb,iS e,d4.at1.at1⟩
      exact lG rfl ⟨z,k,sb,iS e,m.at1.at1⟩
     rintro h0 fo ⟨d5,d6,fr,rfl,d7⟩;obtain rfl:=iS j;exact lH rfl rfl ⟨d5,d6,sb,c5,rfl,d7.at1.at1⟩
    ·rintro _ C fs ⟨d8,d9,fv,rfl,rfl,T⟩ dd;refine AA T.at1 rfl<|AW (dF E dd)<|AJ (lI rfl ⟨_,d8,d9,sb,rfl,rfl,T.at1.at1⟩)
    rintro h1 fz ⟨_,dk,dl,g0,_,rfl,dm⟩;obtain rfl:=iS i;exact lH rfl rfl ⟨dk,dl,sb,rfl,dm.at1.at1⟩
   obtain rfl:=iS i;obtain rfl:=c0 _ rfl;exact AJ (lI rfl ⟨s,al,sb,rfl,ap.at1.at1⟩)
 rintro h2 g1 ⟨g2,dn,g3,rfl,dp⟩;have⟨ds,g4,dx,dy⟩:=oS (t:=A) dp;exact AC ⟨ds,A,dn,sb,rfl,iS hd,dx,dy.tail⟩
noncomputable def Dl(p_0:As):Option (List Bool):=(Bh p_0).bind λt8=>(EC t8 false).bind λu=>(Bh p_0).bind λo=>(DQ u (bO .i64 (o - 1)) true).bind λp=>(loop (σ:=(Bool×List Bool)) (β:=List Bool) (true,p) λc=>cond c.1 ((forS (σ:=(Bool×List Bool)) 0 (p_0.2.2.1.length:Int) (false,c.2) λb d=>(loop (σ:=(Int×Bool×List Bool)) (β:=(Bool×List Bool)) (0,d.1,d.2) λa=>(idx p_0.2.2.1 b).bind λq=>cond (decide (a.1< (q.2.1.length:Int))) (((idx p_0.2.2.1 b).bind λr=>(idx a.2.2 r.1).bind λe=>cond e ((idx p_0.2.2.1 b).bind λf=>(idx f.2.1 a.1).bind λg=>(idx a.2.2 g).bind λh=>some (!h)) (some false)).bind λs=>(cond s ((idx p_0.2.2.1 b).bind λi=>(idx i.2.1 a.1).bind λj=>(DQ a.2.2 j true).bind λk=>some (true,k)) (some (a.2.1,a.2.2))).bind λl=>some (pC ((bO .i64 (a.1+1)),l.1,l.2))) (some (pL (a.2.1,a.2.2)))).bind λm=>some (m.1,m.2)).bind λn=>some (pC (n.1,n.2))) (some (pL c.2))).bind λt=>some t
theorem K9(e:G8 φ p_0 d_p_0)(O:St φ F h){r:(List Bool)}(hd:Dl d_p_0=some r):
 nX eE 44 [aG p_0] h (An (mO φ oH r F)):=by
 refine AT mixed func44 (K7 ..) ?_;have s:p_0.2.2.1.2.1=oL d_p_0.2.2.1:=e.k2.length;refine D5 (t:=p_0) O λr1 d4 u=>BS (t:=p_0) u ?_;have⟨d5,P,hd⟩:=bS hd;refine AK (CP e u P) ?_;rintro _ d6 ⟨d7,t8,d8,rfl,rfl,Q⟩;refine⟨t8,rfl,?_⟩;have⟨d9,R,hd⟩:=bS hd;refine FW (r:=oH) (x:=false) Py Q rfl rfl R ?_;intro v dd w;refine BS (t:=p_0) w.at1 ?_;have⟨dk,S,hd⟩:=bS hd;refine AK (CP e.up w S) ?_;rintro _ dl ⟨k,A,dm,rfl,rfl,z⟩;refine⟨A,rfl,?_⟩;have⟨T,a0,hd⟩:=bS hd;have⟨dn,C,U⟩:=z.there a0;refine AI _ C (Ai U (FH z a0 rfl C ?_));intro dp V;have⟨W,X,hd⟩:=bS hd;refine Af (λy q g=>∃ψ:AD,∃D:List Bool,Sub k ψ∧D=g∧St ψ (cR 4 oH v D::Wq2 r1 p_0::F) q) (g:=W) ?_ ?_
 ·refine Bx X (λy q g=>∃ψ:AD,∃E:List Bool,Sub k ψ∧(y.1,E)=g∧St ψ (cR 4 oH v E::Wq2 r1 p_0::F) q) rfl ⟨k,T,sb,rfl,V.at1.at1⟩ ?_
  ·rintro Y ds _ _ ⟨l,G,dx,rfl,H⟩ f Z;refine mP f rfl (λf=>?_) (λf=>?_)
   ·have ba:=H.at1;have⟨dy,bb,f⟩:=bS f;refine BD bb (λbd y q g=>∃ψ:AD,∃I:List Bool,Sub l ψ∧y.1=bd∧(y.2.1,I)=g∧St ψ (cR 4 oH v I::Wq2 r1 p_0::F) q) rfl ⟨l,G,sb,rfl,rfl,ba.at1⟩ ?_ ?_ ?_
    ·rintro _ B e0 _ _ ⟨m,bf,e1,rfl,rfl,J⟩ n e2 bg bi;refine AA J.at1 rfl<|Ad (dT s bg) ?_;have⟨bj,bl,n⟩:=bS n;refine Af (λy q g=>∃ψ:AD,∃K:List Bool,Sub m ψ∧(y.2.1,K)=g∧St ψ (cR 4 oH v K::Wq2 r1 p_0::F) q) (g:=bj) ?_ ?_
     ·refine Bx bl (λy q g=>∃ψ:AD,∃L:List Bool,Sub m ψ∧(y.1,y.2.1,L)=g∧St ψ (cR 4 oH v L::Wq2 r1 p_0::F) q) rfl ⟨m,bf,sb,rfl,J.at1.at1⟩ ?_
      ·rintro f6 e3 _ _ ⟨j,o,e4,rfl,b⟩ c bn;refine AA b.at1 rfl<|ixR Gf e.k2 c b λe5 e6 bp c=>?_;have bq:=bp.length;refine mP c (by rw[bq] <;>rfl) (λc=>?_) (λc=>?_)
       ·have⟨bs,a,c⟩:=bS c;refine AY (λy q g=>∃ψ:AD,Sub j ψ∧y.1=g∧St ψ (cR 4 oH v o::Wq2 r1 p_0::F) q) (g:=bs) ?_ ?_
        ·refine AA b.at1 rfl<|Ik Jk e.k2 a b λe7 a=>gxO b a λe8 a=>mP a rfl (λa=>?_) (λa=>?_)
         ·refine AA b.at1 rfl<|ixR Gf e.k2 a b λe9 ea bt a=>gx bt a b λed a=>gxO b a λbx a=>?_;exact lG rfl ⟨j,sb,iS a,b.at1.at1⟩
         exact lG rfl ⟨j,sb,iS a,b.at1.at1⟩
        rintro f7 ee ⟨p,ef,rfl,i⟩;have⟨bz,d,c⟩:=bS c;refine AY (λy q g=>∃ψ:AD,∃M:List Bool,Sub p ψ∧(y.1,M)=g∧St ψ (cR 4 oH v M::Wq2 r1 p_0::F) q) (g:=bz) ?_ ?_
        ·refine mP d rfl (λd=>?_) (λd=>?_)
         ·refine AA i.at1 rfl<|ixR Gf e.k2 d i λeg el c0 d=>gx c0 d i λem d=>?_;have⟨c1,al,d⟩:=bS d;have⟨en,ap,c2⟩:=i.there al;refine AI _ ap (Ai c2 (FH i al rfl ap ?_));intro eo c3;exact lG rfl ⟨p,c1,sb,iS d,c3.at1.at1⟩
         exact lG rfl ⟨p,o,sb,iS d,i.at1.at1⟩
        rintro f8 er ⟨c4,c5,es,rfl,c6⟩;obtain rfl:=iS c;exact lH rfl rfl ⟨c4,c5,sb,rfl,c6.at1.at1⟩
       obtain rfl:=iS c;obtain rfl:=bn _ rfl;exact AJ (lI rfl ⟨j,o,sb,rfl,b.at1.at1⟩)
     rintro f9 ev ⟨c7,c8,ew,rfl,c9⟩;obtain rfl:=iS n;exact lH rfl rfl ⟨c7,c8,sb,bi,rfl,c9.at1.at1⟩
    ·rintro _ B ex ⟨ch,cl,ez,rfl,rfl,N⟩ cm;refine AA N.at1 rfl<|AW (dF s cm)<|AJ (lI rfl ⟨_,ch,cl,sb,rfl,rfl,N.at1.at1⟩)
    rintro g0 f0 ⟨_,cp,cs,f1,_,rfl,cw⟩;obtain rfl:=iS f;exact lH rfl rfl ⟨cp,cs,sb,rfl,cw.at1.at1⟩
   obtain rfl:=iS f;obtain rfl:=Z _ rfl;exact AJ (lI rfl ⟨l,G,sb,rfl,H.at1.at1⟩)
 rintro g1 f2 ⟨f3,cx,f4,rfl,d0⟩;have⟨d1,f5,d2,d3⟩:=oS (t:=v) d0;exact AC ⟨d1,v,cx,sb,rfl,iS hd,d2,d3.tail⟩
noncomputable def Db(p_0:As):Option (Int×Int):=
 (Da p_0).bind λt8=>
 (Dl p_0).bind λe=>
 (loop (σ:=Int) (β:=AX Unit (Int×Int)) (p_0.1.length:Int) λa=>
  (Bh p_0).bind λf=>
  cond (decide (a< (bO .i64 (f - 1))))
  ((idx t8 a).bind λg=>
   cond (!g)
   (some (pL (pL (a,18))))
   (some (pC (bO .i64 (a+1)))))
  (some (pL (pC ())))).bind λc=>match c with
 |.next l=>
  (loop (σ:=Int) (β:=AX Unit (Int×Int)) (p_0.1.length:Int) λb=>
   (Bh p_0).bind λh=>
   cond (decide (b< (bO .i64 (h - 1))))
   ((idx e b).bind λi=>
    cond (!i)
    (some (pL (pL (b,17))))
    (some (pC (bO .i64 (b+1)))))
   (some (pL (pC ())))).bind λd=>match d with
  |.next m=>
   some (0,0)
  |.done j=>some j
 |.done k=>some k
theorem KO(c:G8 φ p_0 d_p_0)(H:St φ F h){r:(Int×Int)}(hd:Db d_p_0=some r):
 nX eE 23 [aG p_0] h (An λv I=>∃ψ:AD,∃y:Int×Int×Unit,Sub φ ψ∧v=((.tuple lX):Sh).val y∧(y.1,y.2.1)=r∧St ψ F I):=by
 refine AT mixed func23 (KJ ..) ?_;have l:p_0.1.2.1=oL d_p_0.1:=c.k0.length;refine D5 (t:=p_0) H λr1 U m=>BS (t:=p_0) m ?_;have⟨al,x,hd⟩:=bS hd;refine AK (KN c m x) ?_;rintro _ ap ⟨V,t8,W,X,rfl,rfl,z,n⟩;refine⟨t8,rfl,BS (t:=p_0) n ?_⟩;have⟨Y,a0,hd⟩:=bS hd;refine AK (K9 c.up n a0) ?_;rintro _ Z ⟨f,B,b4,b5,rfl,rfl,J,o⟩;refine⟨B,rfl,AA o rfl ?_⟩;have⟨K,L,hd⟩:=bS hd;refine Af (λy A g=>∃ψ:AD,Sub f ψ∧pC ()=g∧St ψ (Wq2 r1 p_0::F) A) (g:=K) ?_ ?_
 ·refine Bx L (λy A g=>∃ψ:AD,Sub f ψ∧y.1=g∧St ψ (Wq2 r1 p_0::F) A) rfl ⟨f,sb,(by rw[l]),o⟩ ?_
  ·rintro C b6 _ _ ⟨b7,b8,rfl,p⟩ a q;refine BS (t:=p_0) p ?_;have⟨b9,M,a⟩:=bS a;refine AK (CP c.up p M) ?_;rintro _ ba ⟨i,D,bb,rfl,rfl,d⟩;refine⟨D,rfl,mP a rfl (λa=>?_) (λa=>?_)⟩
   ·refine gx z a d λbd a=>mP a rfl (λa=>?_) (λa=>?_)
    ·obtain rfl:=iS a;obtain rfl:=q _ rfl;obtain rfl:=iS hd;exact Ak (Ah (AC ⟨i,(C.1,(18:Int),()),sb,rfl,rfl,d.tail⟩))
    obtain rfl:=iS a;exact lH rfl rfl ⟨i,sb,rfl,d⟩
   obtain rfl:=iS a;obtain rfl:=q _ rfl;exact AJ (lI rfl ⟨i,sb,rfl,d⟩)
 rintro N bf ⟨j,bg,rfl,s⟩;refine AA s rfl ?_;have⟨O,P,hd⟩:=bS hd;refine Af (λy A g=>∃ψ:AD,Sub j ψ∧pC ()=g∧St ψ (Wq2 r1 p_0::F) A) (g:=O) ?_ ?_
 ·refine Bx P (λy A g=>∃ψ:AD,Sub j ψ∧y.1=g∧St ψ (Wq2 r1 p_0::F) A) rfl ⟨j,sb,(by rw[l]),s⟩ ?_
  ·rintro E bi _ _ ⟨bj,bl,rfl,u⟩ b w;refine BS (t:=p_0) u ?_;have⟨bn,Q,b⟩:=bS b;refine AK (CP c.up u Q) ?_;rintro _ bp ⟨k,G,bq,rfl,rfl,e⟩;refine⟨G,rfl,mP b rfl (λb=>?_) (λb=>?_)⟩
   ·refine gx J b e λbs b=>mP b rfl (λb=>?_) (λb=>?_)
    ·obtain rfl:=iS b;obtain rfl:=w _ rfl;obtain rfl:=iS hd;exact Ak (Ah (AC ⟨k,(E.1,(17:Int),()),sb,rfl,rfl,e.tail⟩))
    obtain rfl:=iS b;exact lH rfl rfl ⟨k,sb,rfl,e⟩
   obtain rfl:=iS b;obtain rfl:=w _ rfl;exact AJ (lI rfl ⟨k,sb,rfl,e⟩)
 rintro R bt ⟨S,bx,rfl,T⟩;exact AC ⟨S,((0:Int),(0:Int),()),sb,rfl,iS hd,T.tail⟩
noncomputable def C3(a_0:nH)(b_1:nH):Option Bool:=
 cond ((a_0.length:Int) !=(b_1.length:Int))
 (some false)
 ((C6 (σ:=Unit) (β:=Bool) 0 (a_0.length:Int) () λa f=>
  (idx a_0 a).bind λc=>
  (idx b_1 a).bind λd=>
  cond (c !=d)
  (some (pL false))
  (some (pC ()))).bind λb=>match b with
  |.next g=>
   some true
  |.done e=>some e)
theorem GM{c:nH}{d:nH}(f:nY (oG .i64) φ a_0 c)(i:nY (oG .i64) φ b_1 d)(v:St φ F h){r:Bool}(hd:C3 c d=some r):
 nX eE 34 [sv a_0,sv b_1] h (An (mM φ r F)):=by
 refine AT mixed func34 (K6 ..) ?_;have e:a_0.2.1=oL c:=f.length;have k:b_1.2.1=oL d:=i.length;refine mP hd (by rw[e,k] <;>rfl) (λhd=>?_) (λhd=>?_)
 ·exact AC ⟨φ,false,sb,rfl,iS hd,v⟩
 have⟨z,l,hd⟩:=bS hd;refine BQ l (λm y A g=>∃ψ:AD,Sub φ ψ∧y.1=m∧()=g∧St ψ F A) rfl ⟨φ,sb,rfl,rfl,v⟩ ?_ ?_ ?_
 ·rintro _ B a0 _ _ ⟨j,C,rfl,rfl,b⟩ a D n o p;refine Ad (dT e n)<|gx f a b λE a=>gx i a b λG a=>mP a rfl (λa=>?_) (λa=>?_)
  ·obtain rfl:=iS a;obtain rfl:=p _ rfl;obtain rfl:=iS hd;exact Ak (Ah (AC ⟨j,false,sb,rfl,rfl,b⟩))
  obtain rfl:=iS a;exact lH rfl rfl ⟨j,sb,o,rfl,b⟩
 ·rintro _ B H _ ⟨q,I,rfl,rfl,s⟩ t u;subst u;refine AW (dF e t)<|AJ (lI rfl ⟨_,rfl,_,q,sb,rfl,rfl,s⟩)
 rintro J K ⟨_,rfl,_,w,L,_,rfl,x⟩;exact AC ⟨w,true,sb,rfl,iS hd,x⟩
noncomputable def Dc(a_0:List nH)(b_1:List nH):Option Bool:=
 cond ((a_0.length:Int) !=(b_1.length:Int))
 (some false)
 ((C6 (σ:=Unit) (β:=Bool) 0 (a_0.length:Int) () λa f=>
  (idx a_0 a).bind λc=>
  (idx b_1 a).bind λd=>
  (C3 c d).bind λt7=>
  cond (!t7)
  (some (pL false))
  (some (pC ()))).bind λb=>match b with
  |.next g=>
   some true
  |.done e=>some e)
theorem KP{b:List nH}{c:List nH}(f:nY (pP (oG .i64)) φ a_0 b)(i:nY (pP (oG .i64)) φ b_1 c)(v:St φ F h){r:Bool}(hd:Dc b c=some r):
 nX eE 18 [sv a_0,sv b_1] h (An (mM φ r F)):=by
 refine AT mixed func18 (KI ..) ?_;have d:a_0.2.1=oL b:=f.length;have l:b_1.2.1=oL c:=i.length;refine mP hd (by rw[d,l] <;>rfl) (λhd=>?_) (λhd=>?_)
 ·exact AC ⟨φ,false,sb,rfl,iS hd,v⟩
 have⟨E,m,hd⟩:=bS hd;refine BQ m (λn y A g=>∃ψ:AD,Sub φ ψ∧y.1=n∧()=g∧St ψ F A) rfl ⟨φ,sb,rfl,rfl,v⟩ ?_ ?_ ?_
 ·rintro _ B G _ _ ⟨H,I,rfl,rfl,e⟩ a J o p q;refine Ad (dT d o)<|gxS f a e λK L s a=>gxS i a e λM al t a=>?_;have⟨ap,u,a⟩:=bS a;refine AK (GM s.up t.up e u) ?_;rintro _ N ⟨j,t7,O,rfl,rfl,k⟩;refine⟨t7,rfl,mP a rfl (λa=>?_) (λa=>?_)⟩
  ·obtain rfl:=iS a;obtain rfl:=q _ rfl;obtain rfl:=iS hd;exact Ak (Ah (AC ⟨j,false,sb,rfl,rfl,k⟩))
  obtain rfl:=iS a;exact lH rfl rfl ⟨j,sb,p,rfl,k⟩
 ·rintro _ B P _ ⟨w,Q,rfl,rfl,x⟩ z a0;subst a0;refine AW (dF d z)<|AJ (lI rfl ⟨_,rfl,_,w,sb,rfl,rfl,x⟩)
 rintro R S ⟨_,rfl,_,C,T,_,rfl,D⟩;exact AC ⟨C,true,sb,rfl,iS hd,D⟩
noncomputable def Ax(a_0:List Bool)(b_1:List Bool):Option (Bool×List Bool):=(forS (σ:=(Bool×List Bool)) 0 (b_1.length:Int) (false,a_0) λa b=>((idx b_1 a).bind λc=>cond c ((idx b.2 a).bind λd=>some (!d)) (some false)).bind λh=>(cond h ((DQ b.2 a true).bind λe=>some (true,e)) (some (b.1,b.2))).bind λf=>some (f.1,f.2)).bind λg=>some (g.1,g.2)
theorem JX{e:List Bool}{f:List Bool}(l:nY oH φ b_1 f)(B:St φ (cR 4 oH a_0 e::F) h){r:(Bool×List Bool)}(hd:Ax e f=some r):
 nX eE 115 [sv a_0,sv b_1] h (An λv C=>∃ψ:AD,∃y:Bool,∃m:List Bool,Sub φ ψ∧v=lU.val y∧(y,m)=r∧St ψ (cR 4 oH a_0 m::F) C):=by
 refine AT mixed func115 (Et ..) ?_;have n:b_1.2.1=oL f:=l.length;have⟨S,u,hd⟩:=bS hd;refine BD u (λw y A g=>∃ψ:AD,∃o:List Bool,Sub φ ψ∧y.1=w∧(y.2.1,o)=g∧St ψ (cR 4 oH a_0 o::F) A) rfl ⟨φ,e,sb,rfl,rfl,B⟩ ?_ ?_ ?_
 ·rintro _ D T _ _ ⟨i,p,U,rfl,rfl,d⟩ c V x z;refine Ad (dT n x) ?_;have⟨a0,a,c⟩:=bS c;refine AY (λy A g=>∃ψ:AD,Sub i ψ∧y.1=g∧St ψ (cR 4 oH a_0 p::F) A) (g:=a0) ?_ ?_
  ·refine gx l a d λW a=>mP a rfl (λa=>?_) (λa=>?_)
   ·refine gxO d a λX a=>?_;exact lG rfl ⟨i,sb,iS a,d⟩
   exact lG rfl ⟨i,sb,iS a,d⟩
  rintro Y Z ⟨j,b8,rfl,k⟩;have⟨E,b,c⟩:=bS c;refine AY (λy A g=>∃ψ:AD,∃q:List Bool,Sub j ψ∧(y.1,q)=g∧St ψ (cR 4 oH a_0 q::F) A) (g:=E) ?_ ?_
  ·refine mP b rfl (λb=>?_) (λb=>?_)
   ·have⟨G,s,b⟩:=bS b;have⟨b9,t,H⟩:=k.there s;refine AI _ t (Ai H (FH k s rfl t ?_));intro ba I;exact lG rfl ⟨j,G,sb,iS b,I⟩
   exact lG rfl ⟨j,p,sb,iS b,k⟩
  rintro z8 bb ⟨J,K,bd,rfl,L⟩;obtain rfl:=iS c;exact lH rfl rfl ⟨J,K,sb,z,rfl,L⟩
 ·rintro _ D bf ⟨M,N,bg,rfl,rfl,al⟩ ap;refine AW (dF n ap)<|AJ (lI rfl ⟨_,M,N,sb,rfl,rfl,al⟩)
 rintro O bi ⟨_,P,Q,bj,_,rfl,R⟩;exact AC ⟨P,O.2.1,Q,sb,rfl,iS hd,R⟩
theorem Ci{f:List Bool}{b:List Bool}(B:St φ (cR 4 oH a_0 f::cR 4 oH b_1 b::F) h){r:(Bool×List Bool)}(hd:Ax f b=some r):
 nX eE 115 [sv a_0,sv b_1] h (An λv C=>∃ψ:AD,∃y:Bool,∃l:List Bool,Sub φ ψ∧v=lU.val y∧(y,l)=r∧St ψ (cR 4 oH b_1 b::cR 4 oH a_0 l::F) C):=by
 refine AT mixed func115 (Et ..) ?_;have m:b_1.2.1=oL b:=(B.at1).rowLen;have⟨S,t,hd⟩:=bS hd;refine BD t (λu y A g=>∃ψ:AD,∃n:List Bool,Sub φ ψ∧y.1=u∧(y.2.1,n)=g∧St ψ (cR 4 oH a_0 n::cR 4 oH b_1 b::F) A) rfl ⟨φ,f,sb,rfl,rfl,B.at1.at1⟩ ?_ ?_ ?_
 ·rintro _ D T _ _ ⟨i,o,U,rfl,rfl,e⟩ d V w x;refine Ad (dT m w) ?_;have⟨z,a,d⟩:=bS d;refine AY (λy A g=>∃ψ:AD,Sub i ψ∧y.1=g∧St ψ (cR 4 oH a_0 o::cR 4 oH b_1 b::F) A) (g:=z) ?_ ?_
  ·refine gxO e.at1 a λW a=>mP a rfl (λa=>?_) (λa=>?_)
   ·refine gxO e a λa0 a=>?_;exact lG rfl ⟨i,sb,iS a,e.at1.at1⟩
   exact lG rfl ⟨i,sb,iS a,e.at1.at1⟩
  rintro X Y ⟨j,Z,rfl,k⟩;have⟨E,c,d⟩:=bS d;refine AY (λy A g=>∃ψ:AD,∃p:List Bool,Sub j ψ∧(y.1,p)=g∧St ψ (cR 4 oH a_0 p::cR 4 oH b_1 b::F) A) (g:=E) ?_ ?_
  ·refine mP c rfl (λc=>?_) (λc=>?_)
   ·have⟨G,q,c⟩:=bS c;have⟨b8,s,H⟩:=k.there q;refine AI _ s (Ai H (FH k q rfl s ?_));intro b9 I;exact lG rfl ⟨j,G,sb,iS c,I.at1.at1⟩
   exact lG rfl ⟨j,o,sb,iS c,k.at1.at1⟩
  rintro z8 ba ⟨J,K,bb,rfl,L⟩;obtain rfl:=iS d;exact lH rfl rfl ⟨J,K,sb,x,rfl,L.at1.at1⟩
 ·rintro _ D bd ⟨M,N,bf,rfl,rfl,O⟩ al;refine AW (dF m al)<|AJ (lI rfl ⟨_,M,N,sb,rfl,rfl,O.at1.at1⟩)
 rintro P bg ⟨_,ap,Q,bi,_,rfl,R⟩;exact AC ⟨ap,P.2.1,Q,sb,rfl,iS hd,R.at1⟩
noncomputable def Cp(p_0:As):Option (List (List Bool)):=(loop (σ:=(Int×List (List Bool))) (β:=List (List Bool)) (0,([]:List (List Bool))) λa=>cond (decide (a.1≤(p_0.2.1.length:Int))) ((EC (p_0.1.length:Int) false).bind λt6=>(app a.2 ([t6]:List (List Bool))).bind λt8=>some (pC ((bO .i64 (a.1+1)),t8))) (some (pL a.2))).bind λb=>some b
noncomputable def Do(b:List Bool):Option nH:=(forS (σ:=nH) 0 (b.length:Int) ([]:nH) λa d=>(idx b a).bind λc=>(cond c ((app d ([a]:nH)).bind λt7=>some t7) (some d)).bind λe=>some e).bind λf=>some f
theorem LA{j:Slc}{d:List Bool}(i:nY oH φ j d)(C:St φ F h){r:nH}(hd:Do d=some r):
 nX eE 116 [sv j] h (An (mO φ (oG .i64) r F)):=by
 refine AT mixed func116 (K8 ..) ?_;have k:j.2.1=oL d:=i.length;have⟨O,o,hd⟩:=bS hd;refine BD o (λp y v g=>∃ψ:AD,∃l:nH,Sub φ ψ∧y.1=p∧l=g∧St ψ (cR 3 (oG .i64) y.2.1 l::F) v) rfl ⟨φ,[],sb,rfl,rfl,(C.nil 3 (oG .i64))⟩ ?_ ?_ ?_
 ·rintro _ A P _ _ ⟨e,q,Q,rfl,rfl,f⟩ c R s u;refine Ad (dT k s)<|gx i c f λS c=>?_;have⟨w,b,c⟩:=bS c;refine AY (λy v g=>∃ψ:AD,∃m:nH,Sub e ψ∧m=g∧St ψ (cR 3 (oG .i64) y.1 m::F) v) (g:=w) ?_ ?_
  ·refine mP b rfl (λb=>?_) (λb=>?_)
   ·refine AU (vs:=[.int .i64 A.1]) f λT U n=>?_;have⟨x,z,b⟩:=bS b;refine AV (ms:=([A.1]:nH)) BR n.tail rfl (pT n) (.cons (a:=[_]) rfl .nil) rfl z ?_;intro t7 V a0;exact lG rfl ⟨e,x,sb,iS b,a0⟩
   exact lG rfl ⟨e,q,sb,iS b,f⟩
  rintro W X ⟨D,E,Y,rfl,G⟩;obtain rfl:=iS c;exact lH rfl rfl ⟨D,E,sb,u,rfl,G⟩
 ·rintro _ A Z ⟨H,I,b9,rfl,rfl,J⟩ K;refine AW (dF k K)<|AJ (lI rfl ⟨_,H,I,sb,rfl,rfl,J⟩)
 rintro B ba ⟨_,bb,L,bd,_,rfl,M⟩;have⟨N,bf,al,ap⟩:=oS (t:=B.2.1) M;exact AC ⟨N,B.2.1,L,sb,rfl,iS hd,al,ap⟩
end
end
end Go.Proofs.YtfnppeejaimnbaaGreatDoor
