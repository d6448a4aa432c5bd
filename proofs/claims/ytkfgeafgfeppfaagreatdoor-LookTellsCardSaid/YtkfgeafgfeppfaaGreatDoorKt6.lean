/-
  T3, Cn2, Rt3, Rt4, Rt5, SimZ, Cn3, Cn4, Cn5, SimUe, M7, Cn6, RefB, RefC, SimUf, Cn7, Cn8, LawsJ, put together.
  Conditions: none; each part tells its own.
-/
import Derived.Test.YtkfgeafgfeppfaaGreatDoorKt4
import Derived.Test.YtkfgeafgfeppfaaGreatDoorKt2
import Derived.Test.YtkfgeafgfeppfaaGreatDoorKt5
import Derived.Test.YtkfgeafgfeppfaaGreatDoorKt3
import Derived.KernelRfl
set_option linter.unusedVariables false
set_option maxRecDepth 100000
set_option maxHeartbeats 4000000
open List renaming mem_of_getElem? → gO,getElem?_eq_some_iff → gP,getElem?_eq_getElem → gQ,getElem?_of_mem → gT,getElem?_set_self → gU,mem_singleton → gV,length_map → gW,eq_of_mem_replicate → gZ,getElem?_append_left → hQ,eq_nil_of_length_eq_zero → hZ,getElem?_set_ne → iA,mem_cons_of_mem → iC,mem_of_mem_drop → iD,length_append → iF,mem_or_eq_of_mem_set → iI,mem_append → iJ,length_set → iL,take_add_one → iP,length_cons → iR,append_nil → iT,dropLast_concat_getLast → iU,mem_filter → iV,mem_cons_self → iW,replicate → iY,getElem?_map → iZ,take_length → jC,pairwise_singleton → jE,take_of_length_le → jG,drop_eq_nil_of_le → jI,nil_append → jJ,length_nil → jK,getElem?_eq_none → jL,mem_range → jM,mem_append_left → jN,pairwise_append → jO,flatMap_append → jS,mem_cons → jT,range → jV,append_assoc → jX,mem_map → jY,append_inj' → kF,mem_flatMap → kG,length → kH
open Option renaming bind_some → gR,isNone → jU
open Nat renaming lt_succ_iff_lt_or_eq → gS,eq_zero_or_pos → iM,zero_le → iN,le_refl → jA,lt_or_ge → jF,add_sub_cancel → jW,le_trans → jZ
open Go.IntKind renaming wrap → gX
open Int renaming toNat_natCast → gY,toNat_of_nonneg → iE,eq_ofNat_of_zero_le → iO,le_refl → jB,lt_or_le → jH
open Go.Eng.Ro renaming list → hO,int → hU,str → jP,slc → kU
open Go.Eng.St renaming freezeRow → iB,unpair → iG,unro → jQ,cell → jR,ro → kN,cells → kQ,lit → kT,get → kW
open Go.Eng.AW renaming done → iH,next → iK
open Go.Eng.Ok renaming eq → iQ
open Prod renaming ext → iX
open Go.Proofs.Tryz renaming prog → jD,underlying86 → kD
open Iff renaming rfl → kJ
open Go.Eng.Ro.SliceIs renaming nil → kM
open Go.Proofs.YtkfgeafgfeppfaaGreatDoor.Pth renaming app → kO
open Go.Eng.Np renaming none → kV
namespace Go.Proofs.YtkfgeafgfeppfaaGreatDoor
open Go Go.Eng
def Bgn (nT:Int) (R:Rl) (l:gM) (t u:Int):Prop:=Fs nT R l u∨((∀s∈l,Nul R s)∧u=t)
inductive Can (nT:Int) (R:Rl):gM→Nat→Nat→Int→Prop
 |start:Can nT R [] 0 0 0
 |clos {l:gM} {k d j:Nat} {r r':Ax} {s t u:Int} :Can nT R l k d t→R[k]? =some r→r.2.1[d]? =some s→R[j]? =some r'→r'.1=s→Bgn nT R (r.2.1.drop (d+1)) t u→Can nT R l j 0 u
 |step {l:gM} {k d:Nat} {r:Ax} {s t:Int} :Can nT R l k d t→R[k]? =some r→r.2.1[d]? =some s→Can nT R (l++ [s]) k (d+1) t
section
variable {nT:Int}{R:Rl}{S:Nat→Prop}{K:Nat→List Item}{Tr:Nat→Int→Nat→Prop}
theorem Pth.snoc1 {l:gM}{n m:Nat}{s:Int}(h:Pth Tr n (l++ [s]) m):∃q,Pth Tr n l q∧Tr q s m:=by
 obtain⟨q,b,q',c,a⟩:=kO.1 h;have a:q'=m:=a;subst a;exact⟨q,b,c⟩
theorem Pu (G:Gr nT R) (A:Aut R S K Tr) {l:gM}{k d:Nat}{t:Int}(h:Can nT R l k d t):∀ {n:Nat},Pth Tr 0 l n→It R K n k d:=by
 induction h with
 |start=>intro n hn;have hn:0=n:=hn;subst hn;exact .base ((A.zero _).2 rfl)
 |clos _ a b e f _ ih=>intro n hn;exact Aut.clos (ih hn) a b e f
 |step _ a b ih=>
  intro n hn;obtain⟨q,c,g⟩:=hn.snoc1;have⟨m,i,j⟩:=A.step G (A.at0 A.s0 c) (ih c) a b;rw[A.fn g i];exact j
theorem bv (G:Gr nT R) (A:Aut R S K Tr) {l:gM}{u:Int}(h:Fs nT R l u):∀ {m k d:Nat}{r:Ax},S m→It R K m k d→R[k]? =some r→r.2.1.drop d=l→Rdd nT R K Tr m u:=by
 have hd:∀ {d:Nat} {r:Ax} {s:Int} {l:gM},r.2.1.drop d=s::l→r.2.1[d]? =some s∧r.2.1.drop (d+1)=l:=λ{d r s l} h=>by
  have a:(r.2.1.drop d)[0]? =some s:=by rw[h];rfl
  rw[List.getElem?_drop,Nat.add_zero]at a;refine⟨a,?_⟩
  have:=NF a
  rw[h]at this;exact(List.cons.inj this).2.symm
 induction h with
 |term hs=>
  intro m k d r hm hi hr hl;have⟨q,a,_⟩:=A.step G hm hi hr (hd hl).1;exact .term a hs
 | @var s t l r' hr' he _ ih=>
  intro m k d r hm hi hr hl;obtain⟨j,hj⟩:=gT hr';exact ih hm (Aut.clos hi hr (hd hl).1 hj he) hj (by simp)
 |skip hn _ ih=>
  intro m k d r hm hi hr hl;have⟨q,a,b⟩:=A.step G hm hi hr (hd hl).1;exact .next a (hn.var G) hn (ih (A.st a).2.1 b hr (hd hl).2)
theorem Rs (G:Gr nT R) (A:Aut R S K Tr) {l:gM}{k d:Nat}{t:Int}(h:Can nT R l k d t):(∃n,Pth Tr 0 l n)→(k=0→t=0)∧(0<k→ ∀(f:gM) (q:Nat) (r:Ax),R[k]? =some r→l=f++r.2.1.take d→Pth Tr 0 f q→Fol nT R K Tr q r.1 t):=by
 induction h with
 |start=>intro _;exact⟨λ_=>rfl,λh=>gI h (by omega)⟩
 | @clos l k d j r r' s t u hc b c x y i ih=>
  intro ⟨n,hn⟩;obtain⟨p,v⟩:=ih ⟨n,hn⟩;have hj:0<j:=by
   rcases iM j with rfl | g
   ·exact gI (y ▸ c) (Pd G x b)
   ·exact g
  refine⟨λe=>by omega,λ_ f q B a hl hq=> ?_⟩;rw[x]at a;cases a;rw[List.take_zero,iT]at hl;subst hl;have hit:=Pu G A hc hq;have hsq:=A.at0 A.s0 hq;have⟨m,o,C⟩:=A.step G hsq hit b c;rw[y];rcases i with i | ⟨i,rfl⟩
  ·exact .read o (bv G A i (A.st o).2.1 C b rfl)
  ·rcases iM k with rfl | hk
   ·obtain⟨z,st,E,F,P,Q,T⟩:=G.zero;rw[E]at b;cases b;have hd:d=0:=by
     rw[F]at c;cases d with
     |zero=>rfl
     |succ d=>simp at c
    subst hd;rw[p rfl];exact .read o (.fin C)
   ·have⟨H,I,r3,D,J,L,M,N,_⟩:=A.behind G hq hit;rw[b]at D;cases D;exact .incl o b (G2 c) i N M (v hk H I r b J L)
 | @step l k d r s t hc b c ih=>
  intro ⟨n,hn⟩;obtain⟨O,w,_⟩:=hn.snoc1;obtain⟨p,v⟩:=ih ⟨O,w⟩;refine⟨p,λhk f q B a hl hq=>v hk f q B a ?_ hq⟩;rw[b]at a;cases a;have e:r.2.1.take (d+1)=r.2.1.take d++ [s]:=by rw[iP,c];rfl
  rw[e,←jX]at hl;exact(kF hl rfl).1
theorem bw (G:Gr nT R) (A:Aut R S K Tr) {l:gM}{k s:Nat}{r:Ax}{t:Int}(hr:R[k]? =some r) (h:Can nT R l k r.2.1.length t) (hs:Pth Tr 0 l s):Lk nT R K Tr s k t:=by
 have hit:=Pu G A h hs;have⟨d,e⟩:=Rs G A h ⟨s,hs⟩;rcases iM k with rfl | hk
 ·obtain⟨z,st,f,g,_⟩:=G.zero;rw[f]at hr;cases hr;rw[g]at hit;exact .inl ⟨rfl,d rfl,hit⟩
 ·obtain⟨i,q,r',a,b,j,c,n,_⟩:=A.behind G hs hit;rw[hr]at a;cases a;rw[jC]at b c;have hf:=e hk i q r hr (by rw[jC];exact b) j;obtain⟨m,hm⟩:=hf.tr;exact .inr ⟨hk,q,m,r,hr,hm,c,hf⟩
theorem cC {x:Int}(h:Pro nT R x):¬Nul R x→ ∀l,∃u,Fs nT R (x::l) u:=by
 induction h with
 |term b a=>intro _ l;exact⟨_,.term a⟩
 | @rule r hr _ ih=>
  intro hn l;have key:∀m:gM,(∀s∈m,s∈r.2.1)→(¬ ∀s∈m,Nul R s)→ ∃u,Fs nT R m u:=by
   intro m
   induction m with
   |nil=>intro _ h;exact gI (λs hs=>by cases hs) h
   |cons y m ihm=>
    intro hm hx;by_cases g:Nul R y
    ·obtain⟨u,hu⟩:=ihm (λs hs=>hm s (iC _ hs)) λg'=>hx λs hs=>by
      rcases jT.1 hs with rfl | hs
      ·exact g
      ·exact g' s hs
     exact⟨u,.skip g hu⟩
    ·exact ih y (hm y (iW ..)) g m
  have⟨u,hu⟩:=key r.2.1 (λs h=>h) λg=>hn (.rule hr g);exact⟨u,.var hr rfl hu⟩
theorem Ya (G:Gr nT R) {r:Ax}(hr:r∈R) (d:Nat) (t:Int):∃u,Bgn nT R (r.2.1.drop d) t u:=by
 have key:∀m:gM,(∀s∈m,s∈r.2.1)→ ∃u,Bgn nT R m t u:=by
  intro m
  induction m with
  |nil=>intro _;exact⟨t,.inr ⟨by simp,rfl⟩⟩
  |cons y m ihm=>
   intro hm;by_cases g:Nul R y
   ·have⟨u,hu⟩:=ihm λs hs=>hm s (iC _ hs);rcases hu with hu | ⟨hu,e⟩
    ·exact⟨u,.inl (.skip g hu)⟩
    ·exact⟨u,.inr ⟨λs hs=>by
      rcases jT.1 hs with rfl | hs
      ·exact g
      ·exact hu s hs,e⟩⟩
   ·have⟨u,hu⟩:=cC (G.pro r hr y (hm y (iW ..))) g m;exact⟨u,.inl hu⟩
 exact key _ λs hs=>iD hs
theorem Rt (G:Gr nT R) (A:Aut R S K Tr):∀(N:Nat) (l:gM) (n:Nat),l.length=N→Pth Tr 0 l n→ ∀x,Cl R (K n) x→ ∃(k d:Nat) (t:Int),x=((k:Int),(d:Int))∧Can nT R l k d t:=by
 intro N
 induction N with
 |zero=>
  intro l n hl hp x hx
  have:l= []:=hZ hl
  subst this;have hp:0=n:=hp;subst hp
  induction hx with
  |base h=>rw[(A.zero _).1 h];exact⟨0,0,0,rfl,.start⟩
  | @step y j r' _ a b ih=>
   obtain⟨k,d,t,rfl,hc⟩:=ih;obtain⟨r,hr,hs⟩:=Fm G b.symm (by have:=G.left r' (gO a);have:=G.pos;omega);have⟨u,hu⟩:=Ya G (gO hr) (d+1) t;exact⟨j,0,u,rfl,.clos hc hr hs a rfl hu⟩
 |succ N ihN=>
  intro l n hl hp x hx;obtain⟨l',s,rfl⟩:∃l' s,l=l'++ [s]:=⟨l.dropLast,l.getLast (by intro e;subst e;simp at hl),(iU _).symm⟩;obtain⟨q,a,b⟩:=hp.snoc1;have c:=(A.st b).2.2.2
  induction hx with
  |base h=>
   obtain⟨y,g,i,rfl⟩:=(A.into b).1 h;obtain⟨k,d,t,rfl,hc⟩:=ihN l' q (by simpa using hl) a y g;have⟨r,hr,hs⟩:=Fm G i c;exact⟨k,d+1,t,by simp,.step hc hr hs⟩
  | @step y j r' _ f m ih=>
   obtain⟨k,d,t,rfl,hc⟩:=ih;obtain⟨r,hr,hs⟩:=Fm G m.symm (by have:=G.left r' (gO f);have:=G.pos;omega);have⟨u,hu⟩:=Ya G (gO hr) (d+1) t;exact⟨j,0,u,rfl,.clos hc hr hs f rfl hu⟩
theorem Zn (G:Gr nT R) (A:Aut R S K Tr) {m:Nat}(hm:S m) {x:Item}(h:Cl R (K m) x):∀ {k d:Nat}{r:Ax}{t:Int},x=((k:Int),(d:Int))→R[k]? =some r→Fs nT R (r.2.1.drop d) t→ ∃(k' d':Nat) (r':Ax),((k':Int),(d':Int))∈K m∧R[k']? =some r'∧Fs nT R (r'.2.1.drop d') t:=by
 induction h with
 |base h=>intro k d r t e hr hf;subst e;exact⟨k,d,r,h,hr,hf⟩
 | @step y j r' hy c f ih=>
  intro k d r t e hr hf;obtain⟨rfl,rfl⟩:j=k∧d=0:=by
   have g:=gH (·.1) e;have i:=gH (·.2) e;dsimp only at g i;omega
  rw[c]at hr;cases hr;obtain⟨l,d2,rfl,_,n,a,_⟩:=A.form hm hy;obtain⟨r3,b,hs⟩:=Fm G f.symm (by have:=G.left r' (gO c);have:=G.pos;omega);rw[a]at b;cases b;exact ih rfl a (by rw[NF hs];exact .var (gO c) rfl (by simpa using hf))
theorem Yb (G:Gr nT R) (A:Aut R S K Tr) {m:Nat}{t:Int}(h:Rdd nT R K Tr m t):∀ {n:Nat}{a:Int},Tr n a m→ ∃(k d:Nat) (r:Ax),It R K n k d∧R[k]? =some r∧r.2.1[d]? =some a∧(Fs nT R (r.2.1.drop (d+1)) t∨(k=0∧d=0∧t=0)):=by
 have up:∀ {m n:Nat} {a:Int} {k d:Nat} {r:Ax} {t:Int},Tr n a m→It R K m k d→R[k]? =some r→Fs nT R (r.2.1.drop d) t→ ∃(k d:Nat) (r:Ax),It R K n k d∧R[k]? =some r∧r.2.1[d]? =some a∧(Fs nT R (r.2.1.drop (d+1)) t∨(k=0∧d=0∧t=0)):=λ{m n a k d r t} hn hi hr hf=>by
  have⟨hSn,hSm,s,ha⟩:=A.st hn;obtain⟨k',d',r',e,f,i⟩:=Zn G A hSm hi rfl hr hf;obtain⟨y,u,v,o⟩:=(A.into hn).1 e;obtain⟨w,d2,rfl,hit,_⟩:=A.form hSn u;have⟨x,b,hs⟩:=Fm G v ha;have z:=gH (·.1) o;have B:=gH (·.2) o;dsimp only at z B;obtain rfl:k'=w:=by omega
  obtain rfl:d'=d2+1:=by omega
  rw[f]at b;cases b;exact⟨k',d2,r',hit,f,hs,.inl i⟩
 induction h with
 | @term m q t g p=>
  intro n a hn;have⟨hSm,_,_,j⟩:=A.st g;have⟨y,e,f⟩:=A.some_ g;obtain⟨k,d,rfl,hit,r,hr,_⟩:=A.form hSm e;have⟨x,b,hs⟩:=Fm G f j;rw[hr]at b;cases b;exact up hn hit hr (by rw[NF hs];exact .term p)
 | @fin m g=>
  intro n a hn;have⟨hb,r,hr,hs⟩:=A.back G hn g;exact⟨0,0,r,hb,hr,hs,.inr ⟨rfl,rfl,rfl⟩⟩
 | @next m q c t g p C _ ih=>
  intro n a hn;obtain⟨k,d,r,e,f,i,l⟩:=ih g;rcases l with l | ⟨rfl,rfl,_⟩
  ·exact up hn e f (by rw[NF i];exact .skip C l)
  ·exact gI e (VF G A (A.st hn).2.1 (A.st hn).2.2.1)
theorem Qr {l:gM}{k:Nat}{r:Ax}{t:Int}(hr:R[k]? =some r) (h:Can nT R l k 0 t):∀(b g:gM),r.2.1=b++g→Can nT R (l++b) k b.length t:=by
 have key:∀n,n≤r.2.1.length→Can nT R (l++r.2.1.take n) k n t:=by
  intro n
  induction n with
  |zero=>intro _;simpa using h
  |succ n ih=>
   intro hn;have hg:=gQ (show n<r.2.1.length by omega);rw[iP,hg,←jX];exact .step (ih (by omega)) hr hg
 intro b g e
 have:=key b.length (by rw[e,iF];omega)
 rwa [e,List.take_left]at this
theorem Zo (G:Gr nT R) (A:Aut R S K Tr) {n:Nat}{a t:Int}(h:Fol nT R K Tr n a t):∃(l:gM) (k d:Nat) (r:Ax) (u:Int),Pth Tr 0 l n∧Can nT R l k d u∧R[k]? =some r∧r.2.1[d]? =some a∧Bgn nT R (r.2.1.drop (d+1)) u t:=by
 induction h with
 | @read n m a t i c=>
  have⟨k,d,r,w,j,v,o⟩:=Yb G A c i;have⟨l,hl⟩:=A.reach (A.st i).1;obtain⟨k',d',u,e,hc⟩:=Rt G A _ l n rfl hl _ w;have f:=gH (·.1) e;have p:=gH (·.2) e;dsimp only at f p;obtain rfl:k'=k:=by omega
  obtain rfl:d'=d:=by omega
  rcases o with o | ⟨rfl,rfl,rfl⟩
  ·exact⟨l,k',d',r,u,hl,hc,j,v,.inl o⟩
  ·obtain⟨z,st,f,p,_⟩:=G.zero;rw[f]at j;cases j;refine⟨l,0,0,r,u,hl,hc,f,v,.inr ⟨?_,((Rs G A hc ⟨n,hl⟩).1 rfl).symm⟩⟩;rw[p];simp
 | @incl n m q k a t r b g i c s x H y _ ih=>
  obtain⟨l,k0,d0,I,u,B,C,D,E,F⟩:=ih;have hc:=Qr c (Can.clos C D E c rfl F) b (a::g) s;refine⟨l++b,k,b.length,r,t,kO.2 ⟨q,B,y⟩,hc,c,by rw[s];simp,.inr ⟨?_,rfl⟩⟩;rw[s];simpa using x
theorem Yc (G:Gr nT R) (A:Aut R S K Tr) {s k:Nat}{t:Int}(hs:S s) (h:Lk nT R K Tr s k t):∃(l:gM) (r:Ax),R[k]? =some r∧Pth Tr 0 l s∧Can nT R l k r.2.1.length t:=by
 rcases h with⟨rfl,rfl,h⟩|⟨hk,n,m,r,a,v,f,g⟩
 ·have⟨l,hl⟩:=A.reach hs;have⟨k,d,u,e,hc⟩:=Rt G A _ l s rfl hl _ h;have b:=gH (·.1) e;have c:=gH (·.2) e;dsimp only at b c;obtain rfl:k=0:=by omega
  obtain rfl:d=1:=by omega
  obtain⟨z,st,b,c,_⟩:=G.zero
  have:=(Rs G A hc ⟨s,hl⟩).1 rfl
  subst this;exact⟨l,z,b,hl,by rw[c];exact hc⟩
 ·have⟨l,k0,d0,w,u,i,j,o,p,q⟩:=Zo G A g;have hc:=Qr a (Can.clos j o p a rfl q) r.2.1 [] (by simp);exact⟨l++r.2.1,r,a,kO.2 ⟨n,i,f⟩,hc⟩
end
end Go.Proofs.YtkfgeafgfeppfaaGreatDoor
namespace Go.Proofs.YtkfgeafgfeppfaaGreatDoor
open Go Go.Eng Dg
inductive ClO (nT:Int) (R:Rl) (K:List One):One→Prop
 |base {x:One} :x∈K→ClO nT R K x
 |step {k d j:Nat} {r r':Ax} {s u t:Int} :ClO nT R K ((k:Int),(d:Int),u)→R[k]? =some r→r.2.1[d]? =some s→R[j]? =some r'→r'.1=s→Bgn nT R (r.2.1.drop (d+1)) u t→ClO nT R K ((j:Int),0,t)
def OkO (p:dtP) (x:One):Prop:=OkI p.2.2.1 (x.1,x.2.1)∧0≤x.2.2∧x.2.2<nT p
section
variable {p:dtP}
theorem Pv (S:Sy p) {l:gM}{t:Int}(h:Fs (nT p) p.2.2.1 l t):(∀s∈l,0≤s)→0≤t∧t<nT p:=by
 induction h with
 |term hs=>intro h;exact⟨h _ (by simp),hs⟩
 |var hr _ _ ih=>intro _;exact ih λs hs=>(S.right _ hr s hs).1
 |skip _ _ ih=>intro h;exact ih λs hs=>h s (iC _ hs)
theorem cD (S:Sy p) {u:Int}(hu:u<nT p) {t:Int}:∀ {l:gM},Fs (nT p) p.2.2.1 (l++ [u]) t↔Bgn (nT p) p.2.2.1 l u t:=by
 have hn:∀ {s:Int},Nul p.2.2.1 s→nT p≤s:=λh=>by cases h with
  |rule hr _=>exact(S.left _ hr).1
 intro l
 induction l with
 |nil=>
  constructor
  ·intro h;cases h with
   |term _=>exact .inr ⟨by simp,rfl⟩
   |var hr he _=>have:=(S.left _ hr).1;omega
   |skip h _=>have:=hn h;omega
  ·rintro(h | ⟨_,rfl⟩)
   ·cases h
   ·exact .term hu
 |cons a l ih=>
  constructor
  ·intro h;cases h with
   |term h=>exact .inl (.term h)
   |var hr he h=>exact .inl (.var hr he h)
   |skip b c=>
    rcases ih.1 c with h | ⟨h,e⟩
    ·exact .inl (.skip b h)
    ·exact .inr ⟨λs hs=>by
      rcases jT.1 hs with rfl | hs
      ·exact b
      ·exact h s hs,e⟩
  ·rintro(h | ⟨h,rfl⟩)
   ·exact YU h _
   ·exact .skip (h a (by simp)) (ih.2 (.inr ⟨λs hs=>h s (iC _ hs),rfl⟩))
theorem ClO.ok (S:Sy p) {K:List One}(hK:∀x∈K,OkO p x) {x:One}(h:ClO (nT p) p.2.2.1 K x):OkO p x:=by
 induction h with
 |base h=>exact hK _ h
 | @step k d j r r' s u t _ b e c f a ih=>
  refine⟨⟨by dsimp only;omega,by dsimp only;omega,r',by simpa using c,by simp⟩,?_⟩;rcases a with a | ⟨_,rfl⟩
  ·exact Pv S a λs hs=>(S.right _ (gO b) s (iD hs)).1
  ·exact ih.2
theorem IJ (V:VPp p) (S:Sy p) {l:List One}(h:∀x∈l,OkO p x) (hu:l.Pairwise LtO):l.length≤10100000:=by
 have hn:l.Nodup:=List.nodup_iff_pairwise_ne.2 (hu.imp λ{a b} h e=>by subst e;exact LtO.irr _ h)
 have:=List.Nodup.length_le_of_subset (l₂:=(jV 100).flatMap λa=>(jV 101).flatMap λb=>(jV 1000).map λc=>(((a:Nat):Int),((b:Nat):Int),((c:Nat):Int))) hn (λx hx=>by
  obtain⟨⟨f,g,r,d,i⟩,j,k⟩:=h x hx
  have:=V.short r (gO d)
  have:=(gP.1 d).1
  have:=V.few
  have ht:nT p≤1000:=by have:=S.t1.2;unfold nT;omega
  dsimp only at f g i this;refine kG.2 ⟨x.1.toNat,jM.2 (by omega),kG.2 ⟨x.2.1.toNat,jM.2 (by omega),jY.2 ⟨x.2.2.toNat,jM.2 (by omega),?_⟩⟩⟩;exact iX (by dsimp only;omega) (iX (by dsimp only;omega) (by dsimp only;omega)))
 refine jZ this ?_;simp only[List.length_flatMap,gW,List.length_range,List.map_const',List.sum_replicate_nat];omega
structure GwO (p:dtP) (K todo out:List One):Prop where
 up:out.Pairwise LtO
 eq:∀x,x∈out↔x∈todo
 len:todo.length=out.length
 has:∀x∈K,x∈todo
 cl:∀x∈todo,ClO (nT p) p.2.2.1 K x
def Ext {α:Type}(l m:List α):Prop:= ∀(j:Nat) y,l[j]? =some y→m[j]? =some y
theorem Ext.trans {α:Type}{l m n:List α}(h:Ext l m) (g:Ext m n):Ext l n:=λj y e=>g j y (h j y e)
theorem Ext.mem {α:Type}{l m:List α}(h:Ext l m) {x:α}(hx:x∈l):x∈m:=by
 obtain⟨j,e⟩:=gT hx;exact gO (h j x e)
theorem Ext.snoc {α:Type}(l m:List α):Ext l (l++m):=λj y e=>by
 rw[hQ (gP.1 e).1];exact e
variable {K:List One}
theorem GwO.few (V:VPp p) (S:Sy p) (hK:∀x∈K,OkO p x) {todo out:List One}(H:GwO p K todo out):out.length≤10100000:=IJ V S (λx hx=>(H.cl x ((H.eq x).1 hx)).ok S hK) H.up
theorem GwO.add (V:VPp p) (S:Sy p) (hK:∀x∈K,OkO p x) {todo out:List One}(H:GwO p K todo out) {y:One}(hy:ClO (nT p) p.2.2.1 K y):
 Ok ((CB out y).bind λt=>(cond t.2 ((app todo [y]).bind λt=>some t) (some todo)).bind λz=>some (z,t.1)) λr=>GwO p K r.1 r.2∧Ext todo r.1∧y∈r.1:=by
 have hf:=H.few V S hK;have hl:=H.len;refine AM (dI H.up (by omega) y) λt ht=> ?_;obtain⟨t1,t2,t3⟩:=ht;rcases t3 with⟨b,c,a⟩|⟨b,c,a⟩
 ·rw[a,c];exact AB ⟨H,λ_ _ h=>h,(H.eq y).1 b⟩
 ·rw[a];refine AM (Q:=λz=>z=todo++ [y]) (BI (by simp;omega) (AB rfl)) λz hz=>AB ?_;subst hz;refine⟨⟨t1,λx=> ?_,by simp;omega,λx hx=>jN _ (H.has x hx),λx hx=> ?_⟩,Ext.snoc _ _,by simp⟩
  ·rw[t2,H.eq,iJ,gV]
  ·rcases iJ.1 hx with h | h
   ·exact H.cl x h
   ·rw[gV.1 h];exact hy
theorem OK (V:VPp p) (S:Sy p) {f:Oo}(X:Rq p f.1 f.2.1) (hu:K.Pairwise LtO) (hK:∀x∈K,OkO p x):Ok (CQ p f K) λo=>o.Pairwise LtO∧ ∀x,x∈o↔ClO (nT p) p.2.2.1 K x:=by
 have hKf:=IJ V S hK hu;have hR:=V.few;have hT:=S.t1;have hV:=S.v1;have hnT:nT p=(p.1.length:Int):=rfl;unfold CQ;refine BI (by simp;omega) (BI (by simp;omega) ?_);rw[jJ];refine Bq (λ(z:Int×List One×List One)=>∃i:Nat,z.1=(i:Int)∧i≤z.2.1.length∧GwO p K z.2.1 z.2.2∧ ∀(k d j:Nat) r r' s u t,(∃i':Nat,i'<i∧z.2.1[i']? =some ((k:Int),(d:Int),u))→p.2.2.1[k]? =some r→r.2.1[d]? =some s→p.2.2.1[j]? =some r'→r'.1=s→Bgn (nT p) p.2.2.1 (r.2.1.drop (d+1)) u t→((j:Int),0,t)∈z.2.1)
  (λz=>10100001 - z.1.toNat) (λo=>o.Pairwise LtO∧ ∀x,x∈o↔ClO (nT p) p.2.2.1 K x) ⟨0,rfl,iN _,⟨hu,λ_=>kJ,rfl,λ_ h=>h,λ_ h=>.base h⟩,λk d j r r' s u t ⟨i',h,_⟩=>by omega⟩ (λz hz=> ?_) λo ho=>AB ho
 obtain⟨i_,todo,out⟩:=z;obtain⟨i,F,hi,H,hc⟩:=hz;dsimp only at F hi H hc ⊢;subst F;have hf:=H.few V S hK;have hl:=H.len;refine AR (λhm=> ?_) λhm=>As ⟨H.up,λx=>⟨λh=>H.cl x ((H.eq x).1 h),λh=>(H.eq x).2 ?_⟩⟩
 ·have hm:=gD hm;have hx:=gQ (show i<todo.length by omega);obtain⟨x,hxe⟩:∃x,todo[i]'(by omega)=x:=⟨_,rfl⟩;rw[hxe]at hx;have hxm:=gO hx;have hox:=(H.cl x hxm).ok S hK;obtain⟨⟨x0,x1,r,hr,hd⟩,O,G⟩:=hox;dsimp only at x0 x1 hr hd;obtain⟨k,hk⟩:∃k:Nat,x.1=(k:Int):=⟨_,(iE x0).symm⟩;obtain⟨d,hdd⟩:∃d:Nat,x.2.1=(d:Int):=⟨_,(iE x1).symm⟩;have hxx:x=((k:Int),(d:Int),x.2.2):=iX hk (iX hdd rfl);obtain⟨u,hu'⟩:∃u,x.2.2=u:=⟨_,rfl⟩;rw[hu']at hxx O G;rw[hk,gY]at hr;rw[hdd,gY]at hd;have hrs:=V.short r (gO hr);refine AM (Q:=λ(z:List One×List One)=>GwO p K z.1 z.2∧Ext todo z.1∧ ∀(j:Nat) r' s t,r.2.1[d]? =some s→p.2.2.1[j]? =some r'→r'.1=s→Bgn (nT p) p.2.2.1 (r.2.1.drop (d+1)) u t→((j:Int),0,t)∈z.1) ?_ λz hz=> ?_
  ·refine AS hx (AP (JE (p:=p) (x:=(x.1,x.2.1)) ⟨x0,x1,r,by rw[hk];exact hr,by dsimp only;rw[hdd];exact hd⟩) ?_);have hb:beh p.2.2.1 (x.1,x.2.1)=(r.2.1[d]?).getD (-1):=by rw[hk,hdd];exact NE _ k d hr
   refine AR (λhlt=>AB ⟨H,λ_ _ h=>h,λj r' s t v a c _=> ?_⟩) λhlt=> ?_
   ·have hlt:=gD hlt;rw[hb,v]at hlt
    have:=(S.left r' (gO a)).1
    simp at hlt;omega
   ·have hlt:=gE hlt;obtain⟨s,hs⟩:∃s,r.2.1[d]? =some s:=by
     cases g:r.2.1[d]? with
     |some s=>exact⟨s,rfl⟩
     |none=>rw[hb,g]at hlt;simp at hlt;omega
    have hdl:=(gP.1 hs).1;have hbs:beh p.2.2.1 (x.1,x.2.1)=s:=by rw[hb,hs];rfl
    rw[hbs,hk];refine AS hr ?_;rw[hdd,w64 (by omega) (by omega)];have hcut:cut r.2.1 (((d:Nat):Int)+1) (r.2.1.length:Int)=some (r.2.1.drop (d+1)):=by
     unfold cut;rw[gF ⟨by omega,by omega,by omega⟩,gY,jC,show(((d:Nat):Int)+1).toNat=d+1 by omega]
    refine AP hcut<|BI (by simp;omega) (BI (by simp;omega) ?_);rw[jJ,hu',YZ];refine AM (Ps X.sh (by omega) (by omega) (λs' hs'=> ?_) (by simp;omega)) λb hb'=> ?_
    ·rcases iJ.1 hs' with h | h
     ·have:=S.right r (gO hr) s' (iD h)
      rw[hnT]at this;omega
     ·rw[gV.1 h];omega
    obtain⟨Y,P,_⟩:=hb';have B:∀t,Hs b.1 t↔Bgn (nT p) p.2.2.1 (r.2.1.drop (d+1)) u t:=λt=>(P t).trans ((X.bg S).trans (cD S G));refine BV (λj' (z:List One×List One)=>GwO p K z.1 z.2∧Ext todo z.1∧ ∀(j:Nat) r' t,j<j'→p.2.2.1[j]? =some r'→r'.1=s→Bgn (nT p) p.2.2.1 (r.2.1.drop (d+1)) u t→((j:Int),0,t)∈z.1) (by omega) ⟨H,λ_ _ h=>h,λj r' t h=>by omega⟩ (λj z hj hz=> ?_) λz hz=>AB ⟨hz.1,hz.2.1,λj r' s' t v a c m=>hz.2.2 j r' t (gP.1 a).1 a (by rw[hs]at v;cases v;exact c) m⟩;obtain⟨H1,E1,I⟩:=hz;have hj':=gQ hj;obtain⟨r',hr'⟩:∃r',p.2.2.1[j] =r':=⟨_,rfl⟩;rw[hr']at hj';refine AM (Q:=λ(z:List One×List One)=>GwO p K z.1 z.2∧Ext todo z.1∧ ∀(i:Nat) r' t,i<j+1→p.2.2.1[i]? =some r'→r'.1=s→Bgn (nT p) p.2.2.1 (r.2.1.drop (d+1)) u t→((i:Int),0,t)∈z.1) (AS hj' ?_) λz hz=>AB hz;refine AR (λhne=>AB ⟨H1,E1,λi q t hi a c m=> ?_⟩) λheq=> ?_
    ·rcases gS.1 hi with g | rfl
     ·exact I i q t g a c m
     ·rw[hj']at a;cases a;rw[c]at hne;simp at hne
    ·have heq:r'.1=s:=by simpa using heq
     refine BV (λt' (w:List One×List One)=>GwO p K w.1 w.2∧Ext z.1 w.1∧ ∀t:Int,t< (t':Int)→Hs b.1 t→((j:Int),0,t)∈w.1) (by omega) ⟨H1,λ_ _ h=>h,λt h g=>by have:=g.1;omega⟩ (λt w ht l=> ?_) λw l=>AB ⟨l.1,E1.trans l.2.1,λi q t hi a c m=> ?_⟩
     ·obtain⟨H2,E2,D⟩:=l;have hg:=gQ ht;obtain⟨bt,hbt⟩:∃bt,b.1[t] =bt:=⟨_,rfl⟩;rw[hbt]at hg;refine AS hg (AM (Q:=λ(A:List One×List One)=>GwO p K A.1 A.2∧Ext w.1 A.1∧(bt=true→((j:Int),0,(t:Int))∈A.1)) (AR (λh=> ?_) λh=>AB ⟨H2,λ_ _ h=>h,λe=>by rw[h]at e;cases e⟩) λA n=>AB ⟨n.1,E2.trans n.2.1,λt' h' g'=> ?_⟩)
      ·refine(H2.add V S hK (y:=((j:Int),0,(t:Int))) (.step (by rw[←hxx];exact H.cl x hxm) hr hs hj' heq ((B _).1 ⟨by omega,by rw[gY,hg,h]⟩))).mono λA E=>⟨E.1,E.2.1,λ_=>E.2.2⟩
      ·by_cases e:t'=(t:Int)
       ·subst e
        have:=g'.2
        rw[gY,hg]at this;exact n.2.2 (by simpa using this)
       ·exact n.2.1.mem (D t' (by omega) g')
     ·rcases gS.1 hi with g | rfl
      ·exact l.2.1.mem (I i q t g a c m)
      ·have hh:=(B t).2 m;exact l.2.2 t (by have:=(gP.1 hh.2).1;have:=hh.1;omega) hh
  ·obtain⟨H2,E2,D⟩:=hz;have R:=H2.len;have T:=H2.few V S hK;have hil:=(gP.1 (E2 i x hx)).1;rw[w64 (by omega) (by omega)];refine BJ ⟨⟨i+1,by omega,hil,H2,λk' d' j r1 J s u' t ⟨i',v,a⟩ c m C L M=> ?_⟩,by dsimp only;omega⟩;rcases gS.1 v with g | rfl
   ·have hti:=gQ (show i'<todo.length by omega)
    have:=E2 _ _ hti
    dsimp only at a;rw[a]at this;refine E2.mem (hc k' d' j r1 J s u' t ⟨i',g,?_⟩ c m C L M);rw[hti];exact this.symm
   ·have:=E2 _ _ hx
    dsimp only at a;rw[a,hxx]at this;have U:=gH (λo:Option One=>(o.getD x).1) this;have W:=gH (λo:Option One=>(o.getD x).2.1) this;have N:=gH (λo:Option One=>(o.getD x).2.2) this;dsimp only[Option.getD_some]at U W N;obtain rfl:k'=k:=by omega
    obtain rfl:d'=d:=by omega
    subst N;rw[hr]at c;cases c;exact D j J s t m C L M
 ·have hm:=gE hm
  induction h with
  |base h=>exact H.has _ h
  | @step k d j r r' s u t _ v a c m C ih=>
   obtain⟨i',hi'⟩:=gT ih;exact hc k d j r r' s u t ⟨i',by have:=(gP.1 hi').1;omega,hi'⟩ v a c m C
end
end Go.Proofs.YtkfgeafgfeppfaaGreatDoor
namespace Go.Proofs.YtkfgeafgfeppfaaGreatDoor
open Go Go.Eng
def yOf (B:List dtK) (E:List (List Edge)):RS (List Edge):=(B.map (·.1),B.map (·.2.1),E,B.map (·.2.2.1),B.map (·.2.2.2),((tot B:Nat):Int))
theorem G3 {α:Type}{o:Option α}{P:α→Prop}(h:Ok (o.bind some) P):Ok o P:=by cases o<;>exact h
theorem TH {B:List dtK}(hB:B.length≤1099512000000) (hl:∀b∈B,b.1.length≤1000000) (k:List Item):Ok (PY (B.map (·.1)) k) λe=>(∃(i:Nat) (b:dtK),e= .done (i:Int)∧B[i]? =some b∧b.1=k)∨(∃u,e= .next u∧ ∀b∈B,b.1≠k):=by
 unfold PY;refine G3 (Bq (λz=>∃i:Nat,z=(i:Int)∧i≤B.length∧ ∀(j:Nat) b,j<i→B[j]? =some b→b.1≠k) (λz=>B.length - z.toNat) (λe=>(∃(i:Nat) (b:dtK),e= .done (i:Int)∧B[i]? =some b∧b.1=k)∨(∃u,e= .next u∧ ∀b∈B,b.1≠k)) ⟨0,rfl,iN _,λj b h=>by omega⟩ (λz hz=> ?_) λb hb=>AB hb);obtain⟨i,rfl,hi,hI⟩:=hz;rcases jF i B.length with hlt | hge
 ·have hb:=gQ hlt;obtain⟨b,hbe⟩:∃b,B[i] =b:=⟨_,rfl⟩;rw[hbe]at hb;have hbl:=hl b (gO hb);refine BK (gC (by rw[gW];omega)) (AS (x:=b.1) (by rw[iZ,hb];rfl) (AP (Ql _ _ (by omega)) (AR (λh=>As (.inl ⟨i,b,rfl,hb,gD h⟩)) λh=>BJ ?_)));rw[w64 (n:=(i:Int)+1) (by omega) (by omega)];refine⟨⟨i+1,by omega,hlt,λj b' hj e=> ?_⟩,by omega⟩;rcases gS.1 hj with g | rfl
  ·exact hI j b' g e
  ·rw[hb]at e;cases e;exact gE h
 ·refine Af (gB (by rw[gW];omega)) (As (.inr ⟨(),rfl,λb hb=> ?_⟩));obtain⟨j,hj⟩:=gT hb;exact hI j b (by have:=(gP.1 hj).1;omega) hj
section
variable {p:RP}
theorem Inv.kl (V:VPp p) {n:Nat}{syms:gM}{B:List dtK}{E:List (List Edge)}(H:Inv p n syms (B,E)):∀b∈B,b.1.length≤10100∧b.2.1.length≤10100:=λb hb=>by
 have⟨a,c⟩:=H.wf b hb;rw[c];exact⟨Fk V a.ok (Lt.nodup a.up),(Fl V a).2.2.2⟩
theorem WJ (V:VPp p) {n:Nat}{syms:gM}{B:List dtK}{E:List (List Edge)}(H:Inv p n syms (B,E)) (hB:B.length≤1099512000000) (hT:tot B≤1152921504606846976) {k:List Item}(hk:Je p.2.2.1 k) (fr wi:Int):
 placeG [] p (yOf B E) k fr wi=some ((((E8 p B k fr wi).1:Nat):Int),yOf (E8 p B k fr wi).2 (Dp E B.length (E8 p B k fr wi).2.length)):=by
 obtain⟨e,he,hq⟩:=TH hB (λb hb=>by have:=H.kl V b hb;omega) k;have hE:E.length=B.length:=H.len;unfold placeG;show(PY (B.map (·.1)) k).bind _=_;rw[he,gR];rcases HP p B k fr wi with⟨i,b,c,a,h⟩|⟨c,a⟩
 ·rw[c];rcases hq with⟨i',b',rfl,d,f⟩|⟨u,rfl,g⟩
  ·have:i'=i:=H.apart i' i b' b d a (by rw[f,h])
   subst this
   have:Dp E B.length B.length=E:=by unfold Dp;rw[gF rfl]
   dsimp only;rw[this]
  ·exact gI h (g b (gO a))
 ·rw[c];rcases hq with⟨i',b',rfl,d,f⟩|⟨u,rfl,g⟩
  ·exact gI f (a b' (gO d))
  ·have⟨_,_,_,hcl⟩:=Fl V hk;have hg:Dp E B.length (B++ [(k,clo p k,fr,wi)]).length=E++ [[]]:=by unfold Dp;rw[gG (by simp)]
   dsimp only;rw[hg];rw[OJ V hk,gR];unfold yOf;dsimp only;rw[Fi (by simp;omega),gR,Fi (by simp;omega),gR,Fi (by simp;omega),gR,Fi (by simp;omega),gR,Fi (by simp;omega),gR];rw[OY,w64 (by simp only[iF,gW,iR,jK];omega) (by simp only[iF,gW,iR,jK];omega),w64 (by omega) (by omega)];simp only[List.map_append,List.map_cons,List.map_nil,iF,gW,iR,jK];have ht:tot [(k,clo p k,fr,wi)] =(clo p k).length:=by unfold tot;simp
   rw[ht];congr 2;omega
theorem Zp (V:VPp p) {I:List Item}(hI:∀x∈I,OkI p.2.2.1 x) (hu:I.Pairwise Lt) (hl:I.length≤10100) (s:Int):ZP p I s=some (nx p.2.2.1 I s):=by
 unfold ZP;refine iQ (G3 (BV (λj (z:List Item)=>z=nx p.2.2.1 (I.take j) s) (by omega) (by simp[nx]) (λj z hj hz=> ?_) λz hz=>AB (by rw[hz,jG (jA _)])));subst hz;have hx:=gQ hj;obtain⟨x,hxe⟩:∃x,I[j] =x:=⟨_,rfl⟩;rw[hxe]at hx;have hxm:=gO hx;have hd:=OkI.dot V (hI x hxm);have b:=(hI x hxm).2.1;have a:nx p.2.2.1 (I.take (j+1)) s=nx p.2.2.1 (I.take j) s++nx p.2.2.1 [x] s:=by
  rw[iP,hx];unfold nx;rw[List.filter_append,List.map_append];rfl
 refine AS hx (AP (JE (hI x hxm)) (AR (λh=> ?_) λh=>AB ?_))
 ·have h:beh p.2.2.1 x=s:=by simpa using h
  have hut:=λm:Nat=>Sm (R:=p.2.2.1) (hu.sublist (List.take_sublist m I)) s;have hlt:(nx p.2.2.1 (I.take j) s).length≤1000000:=jZ (bP _ _ _) (by simp;omega);rw[w64 (n:=x.2+1) (by omega) (by omega)];refine(VD (hut j) hlt (x.1,x.2+1)).mono λm hm=>Pa Lt.irrefl (λc d=>Lt.trans c d) hm.1 (hut (j+1)) λy=> ?_;rw[hm.2.1,a,iJ]
  have:nx p.2.2.1 [x] s= [(x.1,x.2+1)]:=by unfold nx;simp[h]
  rw[this,gV]
 ·have h:beh p.2.2.1 x≠s:=by simpa using h
  rw[a]
  have:nx p.2.2.1 [x] s= []:=by unfold nx;simp[h]
  rw[this,iT]
theorem Zq (V:VPp p) {n:Nat}{syms:gM}{B:List dtK}{E:List (List Edge)}(H:Inv p n syms (B,E)) (hB:B.length≤1099512000000) (hT:tot B≤1152921504606846976) {b:dtK}(hb:B[n]? =some b) {e:List Edge}(he:E[n]? =some e) (hel:e.length≤1000000) {s:Int}(hs:0≤s):
 symR p (n:Int) s (yOf B E)=some (if s∈sy p.2.2.1 b.2.1 then yOf (EJ p b n (B,E) s).1 (EJ p b n (B,E) s).2 else yOf B E):=by
 have⟨a,c⟩:=H.wf b (gO hb);have⟨_,hC,hg,hcl⟩:=Fl V a;rw[←c]at hC hg hcl;have hE:E.length=B.length:=H.len;have hnx:=Qc V hg.ok hs;have hgk:Je p.2.2.1 (nx p.2.2.1 b.2.1 s):=⟨λx hx=>(hnx x hx).1,Sm hg.up s⟩;refine iQ ?_;unfold symR;refine AS (x:=b.2.1) (by show(B.map (·.2.1))[n]? =_;rw[iZ,hb];rfl) (AP (Zp V hg.ok hg.up hcl s) ?_);have hiff:s∈sy p.2.2.1 b.2.1↔0< (nx p.2.2.1 b.2.1 s).length:=by
  rw[Hg];constructor
  ·rintro⟨_,x,hx,hxs⟩;exact List.length_pos_of_mem (PL.2 ⟨x,hx,hxs,rfl⟩)
  ·intro h;have⟨y,hy⟩:=List.exists_mem_of_length_pos h;have⟨x,hx,hxs,_⟩:=PL.1 hy;exact⟨hs,x,hx,hxs⟩
 refine AR (λhc=> ?_) λhc=>AB ?_
 ·have hc:s∈sy p.2.2.1 b.2.1:=hiff.2 (by have:=gD hc;omega);rw[gF hc];refine AP (WJ V H hB hT hgk (n:Int) s) ?_;obtain⟨pl,hpl⟩:∃pl,E8 p B (nx p.2.2.1 b.2.1 s) (n:Int) s=pl:=⟨_,rfl⟩;have hgr:(Dp E B.length pl.2.length)[n]? =some e:=by
   unfold Dp;split
   ·exact he
   ·rw[hQ (gP.1 he).1];exact he
  have hgl:=(gP.1 hgr).1;rw[hpl];refine AS (x:=e) hgr (BI (by simp;omega) (ER (by omega) (by show(n:Int) < (((Dp E B.length pl.2.length).length:Nat):Int);omega) (AB ?_)));unfold EJ;rw[hpl,hgr];rfl
 ·have hc:s∉sy p.2.2.1 b.2.1:=λh=>by have:=gE hc;have:=hiff.1 h;omega
  rw[gG hc]
end
section
variable {p:RP}
theorem Yd (V:VPp p) {b:dtK}(hb:Je p.2.2.1 b.1∧b.2.1=clo p b.1) (n:Nat) {s:Int}(hs:0≤s) (y:BE):(EJ p b n y s).1.length≤y.1.length+1∧tot (EJ p b n y s).1≤tot y.1+10100:=by
 obtain⟨a,c⟩:=hb;have⟨_,hC,hg,hcl⟩:=Fl V a;rw[←c]at hC hg hcl;have hgk:Je p.2.2.1 (nx p.2.2.1 b.2.1 s):=⟨λx hx=>(Qc V hg.ok hs x hx).1,Sm hg.up s⟩;have e:=(Fl V hgk).2.2.2;unfold EJ;dsimp only;rcases HP p y.1 (nx p.2.2.1 b.2.1 s) (n:Int) s with⟨i,b',d,_⟩|⟨d,_⟩
 ·rw[d];exact⟨by dsimp only;omega,by dsimp only;omega⟩
 ·rw[d];refine⟨by simp,?_⟩;rw[OY]
  have:tot [(nx p.2.2.1 b.2.1 s,clo p (nx p.2.2.1 b.2.1 s),(n:Int),s)] =(clo p (nx p.2.2.1 b.2.1 s)).length:=by unfold tot;simp
  omega
theorem TI (V:VPp p) {b:dtK}(hb:Je p.2.2.1 b.1∧b.2.1=clo p b.1) (n:Nat):∀(l:gM) (y:BE),(∀s∈l,0≤s)→(D3 p b n l y).1.length≤y.1.length+l.length∧tot (D3 p b n l y).1≤tot y.1+l.length *10100
 | [],y,_=>⟨jA _,by simp[D3]⟩
 |s::l,y,h=>by
  have a:=Yd V hb n (h s (iW ..)) y;have c:=TI V hb n l (EJ p b n y s) λx hx=>h x (iC _ hx);have e:D3 p b n (s::l) y=D3 p b n l (EJ p b n y s):=rfl;rw[e,iR];omega
theorem WK (b:dtK) (n:Nat) (l:gM) (s:Int) (y:BE):D3 p b n (l++ [s]) y=EJ p b n (D3 p b n l y) s:=by
 unfold D3;rw[List.foldl_append];rfl
theorem WL {l:gM}(hl:l.Pairwise (· < ·)) (j:Int):l.filter (λs=>decide (s<j+1))=l.filter (λs=>decide (s<j)) ++(if j∈l then[j] else[]):=by
 refine Pa (R:=(· < ·)) (λx=>Int.lt_irrefl x) (λc d=>Int.lt_trans c d) (hl.filter _) ?_ λx=> ?_
 ·refine jO.2 ⟨hl.filter _,by split<;>simp,λa ha b hb=> ?_⟩
  have ha:=gD (iV.1 ha).2;split at hb
  ·obtain rfl:=gV.1 hb;exact ha
  ·cases hb
 ·rw[iJ,iV,iV,gJ,gJ];constructor
  ·rintro⟨c,d⟩;rcases Int.lt_or_eq_of_le (show x≤j by omega) with g | rfl
   ·exact .inl ⟨c,g⟩
   ·right;rw[gF c];exact gV.2 rfl
  ·rintro(⟨c,d⟩|h)
   ·exact⟨c,by omega⟩
   ·split at h
    ·obtain rfl:=gV.1 h;exact⟨by assumption,by omega⟩
    ·cases h
def SyB (p:RP):Prop:=p.1.length+p.2.1.length≤1000∧ ∀r∈p.2.2.1,∀s∈r.2.1,s< ((p.1.length+p.2.1.length:Nat):Int)
theorem cE (S:SyB p) (x:Item):beh p.2.2.1 x< ((p.1.length+p.2.1.length:Nat):Int):=by
 unfold beh;split
 ·rename_i r hr
  cases h:r.2.1[x.2.toNat]? with
  |none=>simp;omega
  |some s=>exact S.2 r (gO hr) s (gO h)
 ·omega
theorem WM (V:VPp p) (S:SyB p) (hp:1≤p.2.2.1.length) {n:Nat}{b:dtK}(hb:(stM p n).1[n]? =some b) (hB:(stM p n).1.length≤1099511900000) (hT:tot (stM p n).1≤1125899906842624):Rf p (n:Int) (yOf (stM p n).1 (stM p n).2)=some (yOf (stM p (n+1)).1 (stM p (n+1)).2):=by
 have H0:=No V hp n;have hw:=H0.wf b (gO hb);have⟨_,_,hg,hcl⟩:=Fl V hw.1;rw[←hw.2]at hg hcl;have hN:gX .i64 ((p.1.length:Int)+(p.2.1.length:Int))+1=((p.1.length+p.2.1.length+1:Nat):Int):=by
  have:=S.1
  rw[w64 (by omega) (by omega)];omega
 have hsl:=UI p.2.2.1 b.2.1;refine iQ ?_;unfold Rf;rw[hN];refine G3 (BV (λj (z:RS (List Edge))=>z=yOf (D3 p b n ((sy p.2.2.1 b.2.1).filter λs=>decide (s< (j:Int))) (stM p n)).1 (D3 p b n ((sy p.2.2.1 b.2.1).filter λs=>decide (s< (j:Int))) (stM p n)).2) (by have:=S.1;omega) ?_ (λj z hj hz=> ?_) λz hz=>AB ?_)
 ·have:(sy p.2.2.1 b.2.1).filter (λs=>decide (s< ((0:Nat):Int)))= []:=List.filter_eq_nil_iff.2 λs hs=>by
   have:=(Hg.1 hs).1
   simp;omega
  rw[this];rfl
 ·subst hz;obtain⟨l,hl⟩:∃l,(sy p.2.2.1 b.2.1).filter (λs=>decide (s< (j:Int)))=l:=⟨_,rfl⟩;have hls:∀s∈l,s∈sy p.2.2.1 b.2.1:=λs hs=>by rw[←hl]at hs;exact(iV.1 hs).1
  have hll:l.length≤10100:=by rw[←hl];exact jZ (List.length_filter_le _ _) (by omega)
  have hI:=Inv.fold V l (y:=stM p n) H0 hb hls;rw[jJ]at hI;have hf:=TI V hw n l (stM p n) λs hs=>(Hg.1 (hls s hs)).1;have⟨m,hm⟩:=IA (p:=p) (b:=b) (n:=n) l (stM p n);have a:(D3 p b n l (stM p n)).1[n]? =some b:=by rw[hm,hQ (gP.1 hb).1];exact hb
  have hEl:n< (D3 p b n l (stM p n)).2.length:=by rw[hI.len];exact(gP.1 a).1
  have he:=gQ hEl;have hel:((D3 p b n l (stM p n)).2[n]).length≤1000000:=by
   have:=gH kH (hI.cur b _ a he).1
   rw[gW]at this;omega
  rw[hl];have hsucc:=WL (aF p.2.2.1 b.2.1) (j:Int);rw[show((j+1:Nat):Int)=(j:Int)+1 by omega,hsucc,hl];refine Ok.of (Zq V (B:=(D3 p b n l (stM p n)).1) (E:=(D3 p b n l (stM p n)).2) hI (by omega) (by omega) a he hel (by omega)) ?_;by_cases hj:(j:Int)∈sy p.2.2.1 b.2.1
  ·rw[gF hj,gF hj,WK]
  ·rw[gG hj,gG hj,iT]
 ·have:(sy p.2.2.1 b.2.1).filter (λs=>decide (s< ((p.1.length+p.2.1.length+1:Nat):Int)))=sy p.2.2.1 b.2.1:=List.filter_eq_self.2 λs hs=>by
   have⟨_,x,_,hx⟩:=Hg.1 hs
   have:=cE S x
   simp;omega
  rw[this]at hz;have e:stM p (n+1)=D3 p b n (sy p.2.2.1 b.2.1) (stM p n):=by
   show(match (stM p n).1[n]? with
    |some b=>D3 p b n (sy p.2.2.1 b.2.1) (stM p n)
    |none=>stM p n)=_
   rw[hb]
  rw[hz,e]
theorem TJ (n:Int):Cr n=some (held n):=by
 unfold Cr held;by_cases a:n<0
 ·rw[gF a,gC a];rfl
 ·rw[gG a,gB a];by_cases b:n>1099511627776
  ·rw[gF b,gC b];rfl
  ·rw[gG b,gB b];rfl
theorem TK (st it:Int) (B:List dtK) (E:List (List Edge)):Ok (Qk st it (yOf B E)) λm=>(m=true∧ ¬Fit (held st) (held it) B)∨(m=false∧Fit (held st) (held it) B):=by
 unfold Qk;refine AP (TJ st) (AR (λh=>AB (.inl ⟨rfl,λg=> ?_⟩)) λh=>AP (TJ it) (AB ?_))
 ·have h:=gD h
  have:=g.1
  unfold yOf at h;dsimp only at h;rw[gW]at h;omega
 ·have h:=gE h;unfold yOf at h ⊢;dsimp only at h ⊢;rw[gW]at h;by_cases a:((tot B:Nat):Int) >held it
  ·exact .inl ⟨gC a,λg=>by have:=g.2;omega⟩
  ·exact .inr ⟨gB a,by unfold Fit;omega⟩
theorem WN (V:VPp p) (S:SyB p) (hp:1≤p.2.2.1.length) (st it:Int):Ok (PZ p st it) λr=>(∃n,(stM p n).1.length≤n∧Fit (held st) (held it) (stM p n).1∧r=some (mkW p (yOf (stM p n).1 (stM p n).2)))∨(r=none∧ ∃n,¬Fit (held st) (held it) (stM p n).1):=by
 have hs:=OZ st;have hi:=OZ it;have hg:Je p.2.2.1 k0∧clo p k0=clo p k0:=(No V hp 0).wf (k0,clo p k0, -1, -1) (gV.2 rfl);have hcl:=(Fl V hg.1).2.2.2;unfold PZ;have a:placeG [] p ([],[],[],[],[],(0:Int)) [((0:Int),(0:Int))] (-1:Int) (-1:Int)=some ((0:Int),yOf (stM p 0).1 (stM p 0).2):=by
  unfold placeG;have hf:PY [] [((0:Int),(0:Int))] =some (.next ()):=by
   obtain⟨e,he,hq⟩:=TH (B:=[]) (by simp) (by simp) [((0:Int),(0:Int))];have he:PY [] [((0:Int),(0:Int))] =some e:=he;rcases hq with⟨i,b,_,h,_⟩|⟨u,rfl,_⟩
   ·simp at h
   ·exact he
  dsimp only;rw[hf,gR];dsimp only;rw[OJ V hg.1,gR,Fi (by simp),gR,Fi (by simp),gR,Fi (by simp),gR,Fi (by simp),gR,gR];rw[w64 (by simp) (by simp),w64 (by omega) (by omega)];have ht:tot (stM p 0).1=(clo p k0).length:=by
   show tot [(k0,clo p k0, -1, -1)] =_;unfold tot;simp
  unfold yOf;rw[ht];simp;exact⟨rfl,rfl,rfl,rfl,rfl⟩
 refine AP a ?_;unfold Rg;refine Bq (λ(z:Int×RS (List Edge))=>∃i:Nat,z=((i:Int),yOf (stM p i).1 (stM p i).2)∧(i=0∨Fit (held st) (held it) (stM p (i - 1)).1∧i≤(stM p (i - 1)).1.length)) (λz=>1099511627777 - z.1.toNat) (λr=>(r=none∧ ∃n,¬Fit (held st) (held it) (stM p n).1)∨ ∃n,r=some (yOf (stM p n).1 (stM p n).2)∧(stM p n).1.length≤n) ⟨0,rfl,.inl rfl⟩ (λz hz=> ?_) λr hr=> ?_
 ·obtain⟨i,rfl,hI⟩:=hz;have hK:(yOf (stM p i).1 (stM p i).2).1.length=(stM p i).1.length:=by unfold yOf;rw[gW]
  dsimp only;rw[hK];refine AR (λh=> ?_) λh=>As (.inr ⟨i,rfl,by have:=gE h;omega⟩);have h:=gD h;refine AM (TK st it (stM p i).1 (stM p i).2) λm hm=> ?_;rcases hm with⟨rfl,hm⟩|⟨rfl,hm⟩
  ·exact BK rfl (As (.inl ⟨rfl,i,hm⟩))
  ·have hm':=hm;unfold Fit at hm';have hb:=gQ (show i< (stM p i).1.length by omega);refine Af rfl (AP (WM V S hp hb (by omega) (by omega)) (BJ ?_));rw[w64 (n:=(i:Int)+1) (by omega) (by omega)];refine⟨⟨i+1,rfl,.inr ⟨?_,?_⟩⟩,?_⟩
   ·rw[jW];exact hm
   ·rw[jW];omega
   ·dsimp only;omega
 ·rcases hr with⟨rfl,hr⟩|⟨n,rfl,hn⟩
  ·exact AB (.inr ⟨rfl,hr⟩)
  ·refine AM (TK st it (stM p n).1 (stM p n).2) λm hm=> ?_;rcases hm with⟨rfl,hm⟩|⟨rfl,hm⟩
   ·exact BK rfl (AB (.inr ⟨rfl,n,hm⟩))
   ·exact Af rfl (AB (.inl ⟨n,hn,hm,rfl⟩))
end
theorem Zr {p:RP}{L M:Int}{n:Nat}(b:(stM p n).1.length≤n) (a:Fit L M (stM p n).1) (m:Nat):Fit L M (stM p m).1:=by
 rcases Nat.le_total n m with q | q
 ·rw[UJ b q];exact a
 ·have⟨l,hl⟩:=Xk p q;rw[hl]at a;exact a.of_app
theorem cF {nt nl:Nat}{p:RP}(H:Pl nt nl p):SyB p:=by
 have hT:=H.terms.len;have hn:=H.nt5;have hv:=H.vars;obtain⟨st,b,c,a⟩:=H.first;refine⟨by omega,λr hm s hs=> ?_⟩;obtain⟨k,hk⟩:=gT hm;rcases iM k with rfl | h
 ·rw[a]at hk;cases hk
  have:s=st:=by simpa using hs
  omega
 ·have:=(H.rules k r h hk).right s hs
  omega
section
variable {p:RP}{B:List dtK}{E:List (List Edge)}{t:Int}
def Off (B:List dtK) (n:Int):Prop:=n<0∨(B.length:Int) ≤n
theorem Ua (H:Fin p B E) (n:Int):Ok (Bv (DA p B E t) n) λx=>(∃(j:Nat) (b:dtK) (e:List Edge),n=(j:Int)∧B[j]? =some b∧E[j]? =some e∧x=Lr b e)∨(Off B n∧x=([],[],[],0,0)):=by
 rcases jH n 0 with h | h
 ·unfold Bv;refine AM (Q:=λc=>c=true) (BK (gC h) (AB rfl)) λc hc=> ?_;subst hc;exact BK rfl (AB (.inr ⟨.inl h,rfl⟩))
 ·rcases jH n (B.length:Int) with g | g
  ·obtain⟨j,rfl⟩:=iO h;have hb:=gQ (show j<B.length by omega);have⟨e,he⟩:=H.edge hb;exact Ok.of (VE H hb he) (.inl ⟨j,_,e,rfl,hb,he,rfl⟩)
  ·unfold Bv;refine AM (Q:=λc=>c=true) (Af (gB (by omega)) (AB (gC (by rw[Do H.len];omega)))) λc hc=> ?_;subst hc;exact BK rfl (AB (.inr ⟨.inr g,rfl⟩))
def GoZ (p:RP) (B:List dtK) (E:List (List Edge)) (n s r:Int):Prop:=(∃(j:Nat) (b:dtK) (e:List Edge),n=(j:Int)∧B[j]? =some b∧E[j]? =some e∧JF p.2.2.1 B b e s r)∨(Off B n∧r= -1)
theorem GoZ.unique (H:Fin p B E) {n s r r':Int}(h:GoZ p B E n s r) (h':GoZ p B E n s r'):r=r':=by
 have no:∀ {j:Nat} {b:dtK},B[j]? =some b→ ¬Off B (j:Int):=λh g=>by
  have:=(gP.1 h).1
  unfold Off at g;omega
 rcases h with⟨j,b,e,rfl,c,f,i⟩|⟨c,f⟩ <;>rcases h' with⟨j',b',e',q,a,d,k⟩|⟨a,d⟩
 ·have:j'=j:=by omega
  subst this;rw[c]at a;rw[f]at d;cases a;cases d;exact JF.unique H i k
 ·exact gI a (no c)
 ·subst q;exact gI c (no a)
 ·rw[f,d]
theorem cG (V:VPp p) (H:Fin p B E) (n s:Int):Ok (BA (DA p B E t) n s) (GoZ p B E n s):=by
 rcases jH n 0 with h | h
 ·unfold BA;refine AM (Ua H n) λx hx=> ?_;rcases hx with⟨j,_,_,rfl,_⟩|⟨a,rfl⟩
  ·omega
  ·exact AB (.inr ⟨a,rfl⟩)
 ·rcases jH n (B.length:Int) with g | g
  ·obtain⟨j,rfl⟩:=iO h;have hb:=gQ (show j<B.length by omega);have⟨e,he⟩:=H.edge hb;exact(X6 V H hb he s).mono λr hr=>.inl ⟨j,_,e,rfl,hb,he,hr⟩
  ·unfold BA;refine AM (Ua H n) λx hx=> ?_;rcases hx with⟨j,_,_,rfl,a,_⟩|⟨a,rfl⟩
   ·have:=(gP.1 a).1;omega
   ·exact AB (.inr ⟨a,rfl⟩)
theorem Ub (V:VPp p) (H:Fin p B E) (n s:Int):Ok (BP (mkW p (yOf B E)) n s) (GoZ p B E n s):=by
 have hE:=H.len;unfold BP;refine AM (Q:=λc=>(c=true∧Off B n)∨(c=false∧0≤n∧n< (B.length:Int))) (AR (λh=>AB (.inl ⟨rfl,.inl (gD h)⟩)) λh=>AB ?_) λc hc=> ?_
 ·have h:=gE h;show(decide (n≥ (E.length:Int))=true∧_)∨_;by_cases g:n≥ (E.length:Int)
  ·exact .inl ⟨gC g,.inr (by omega)⟩
  ·exact .inr ⟨gB g,by omega,by omega⟩
 ·rcases hc with⟨rfl,hc⟩|⟨rfl,d,o⟩
  ·exact BK rfl (AB (.inr ⟨hc,rfl⟩))
  ·obtain⟨j,rfl⟩:=iO d;have hb:=gQ (show j<B.length by omega);obtain⟨b,hbe⟩:∃b,B[j] =b:=⟨_,rfl⟩;rw[hbe]at hb;have⟨e,he⟩:=H.edge hb;have hl:=H.edges_len V hb he;have hd:=H.done j b e hb he;refine Af rfl (Bq (λz=>∃i:Nat,z=(i:Int)∧i≤e.length∧ ∀(k:Nat) x,k<i→e[k]? =some x→x.1≠s) (λz=>e.length - z.toNat) (λr=>(∃u,r= .next u∧s∉sy p.2.2.1 b.2.1)∨ ∃(k:Nat) (x:Edge),r= .done x.2∧e[k]? =some x∧x.1=s) ⟨0,rfl,iN _,λk x h=>by omega⟩ (λz hz=> ?_) λr hr=> ?_)
   ·obtain⟨i,rfl,hi,hI⟩:=hz;refine AS (x:=e) he ?_;rcases jF i e.length with hlt | hge
    ·have hx:=gQ hlt;obtain⟨x,hxe⟩:∃x,e[i] =x:=⟨_,rfl⟩;rw[hxe]at hx;refine BK (gC (by omega)) (AS (x:=e) he (AS hx (AR (λh=>AS (x:=e) he (AS hx (As (.inr ⟨i,x,rfl,hx,eq_of_beq h⟩)))) λh=>BJ ?_)));rw[w64 (n:=(i:Int)+1) (by omega) (by omega)];refine⟨⟨i+1,by omega,hlt,λk y hk hy=> ?_⟩,by omega⟩;rcases gS.1 hk with g | rfl
     ·exact hI k y g hy
     ·rw[hx]at hy;cases hy;exact ne_of_beq_false h
    ·refine Af (gB (by omega)) (As (.inl ⟨(),rfl,λhs=> ?_⟩));rw[←hd.1]at hs;have⟨x,hx,hxs⟩:=jY.1 hs;obtain⟨k,hk⟩:=gT hx;exact hI k x (by have:=(gP.1 hk).1;omega) hk hxs
   ·rcases hr with⟨u,rfl,hs⟩|⟨k,x,rfl,hx,hxs⟩
    ·exact AB (.inl ⟨j,b,e,rfl,hb,he,.inr ⟨hs,rfl⟩⟩)
    ·have hm:=gO hx;have⟨q,bt,f,l,m,a⟩:=hd.2 x hm;rw[hxs]at a;refine AB (.inl ⟨j,b,e,rfl,hb,he,.inl ⟨by rw[←hd.1,←hxs];exact jY.2 ⟨x,hm,rfl⟩,q,bt,f,l,m,a,?_⟩⟩);rw[←hxs];exact hm
noncomputable def goF (p:RP) (B:List dtK) (E:List (List Edge)) (n s:Int):Int:=(BP (mkW p (yOf B E)) n s).getD (-1)
theorem aN (V:VPp p) (H:Fin p B E) (n s:Int):BP (mkW p (yOf B E)) n s=some (goF p B E n s):=by
 have⟨r,a,_⟩:=Ub V H n s;unfold goF;rw[a];rfl
theorem aO (V:VPp p) (H:Fin p B E) (n s:Int):BA (DA p B E t) n s=some (goF p B E n s):=by
 have⟨r,a,b⟩:=Ub V H n s;obtain⟨r',c,d⟩:=cG (t:=t) V H n s;unfold goF;rw[a,c,GoZ.unique H d b];rfl
noncomputable def G4 (p:RP) (B:List dtK) (E:List (List Edge)):Int→gM→Int | n,[] =>n | n,s::l=>if n<0 then n else G4 p B E (goF p B E n s) l
theorem Qs {n:Int}(h:n<0) (l:gM):G4 p B E n l=n:=by
 cases l with
 |nil=>rfl
 |cons s l=>unfold G4;rw[gF h]
theorem Pw {n:Int}(h:¬n<0) {l:gM}{k:Nat}(hk:k<l.length):G4 p B E n (l.drop k)=G4 p B E (goF p B E n l[k]) (l.drop (k+1)):=by
 rw[List.drop_eq_getElem_cons hk];unfold G4;rw[gG h];cases l.drop (k+1) <;>rfl
noncomputable def OL (p:RP) (B:List dtK) (E:List (List Edge)) (n:Int) (l:gM):Int:=if n<0∨(B.length:Int) ≤n then -1 else G4 p B E n l
theorem cH (V:VPp p) (H:Fin p B E) (n:Int) {l:gM}(hl:l.length≤9223372036854775807):Ok (Bt (DA p B E t) n l) λr=>r=OL p B E n l:=by
 unfold Bt OL;refine AM (Q:=λc=>c=decide (n<0∨(B.length:Int) ≤n)) (AR (λh=>AB ?_) λh=>AB ?_) λc hc=> ?_
 ·exact(gC (.inl (gD h))).symm
 ·have h:=gE h;rw[Do H.len,Bool.eq_iff_iff,gJ,gJ];constructor
  ·intro g;exact .inr g
  ·rintro(g | g)
   ·exact gI g h
   ·exact g
 ·subst hc;refine AR (λh=>AB ?_) λh=> ?_
  ·rw[gF (gD h)]
  ·have h:=gE h;rw[gG h];have key:Ok ((DE (σ:=Int) (β:=Int) (0:Int) (l.length:Int) n λa f=>
    (idx l a).bind λe=>
    (BA (DA p B E t) f e).bind λb=>
    cond (decide (b< (0:Int)))
    (some (iH b))
    (some (iK b))).bind some) (λr=>AW.get r=G4 p B E n l):=by
    refine F6 (λk (z:Int)=>¬z<0∧G4 p B E n l=G4 p B E z (l.drop k)) (λr=>r=G4 p B E n l) hl ⟨by omega,rfl⟩ (λk z hk hz=> ?_) (λz hz=>AB ?_) λr hr=>AB hr
    ·have hx:=gQ hk;refine AS hx (AP (aO V H z l[k]) ?_);have hw:=Pw (p:=p) (B:=B) (E:=E) hz.1 hk;refine AR (λg=>As ?_) λg=>BJ ⟨gE g,by rw[hz.2,hw]⟩;rw[hz.2,hw,Qs (gD g)]
    ·rw[hz.2,jI (jA _)];rfl
   obtain⟨r,d,i⟩:=key;rw[show ∀o:Option (AW Int Int),o.bind some=o from λo=>by cases o<;>rfl]at d
   refine AM (Q:=λr=>r=G4 p B E n l) ⟨AW.get r,?_,i⟩ λx hx=>AB hx;rw[d];rfl
theorem cI (V:VPp p) (H:Fin p B E) (n:Int) {l:gM}(hl:l.length≤1000000):Ok (Ca (mkW p (yOf B E)) n l) λr=>r=OL p B E n l:=by
 have hK:(mkW p (yOf B E)).2.2.2.2.2.2.1.length=B.length:=by show(B.map (·.1)).length=_;rw[gW]
 unfold Ca OL;rw[hK];refine AM (Q:=λc=>c=decide (n<0∨(B.length:Int) ≤n)) (AR (λh=>AB ?_) λh=>AB ?_) λc hc=> ?_
 ·exact(gC (.inl (gD h))).symm
 ·have h:=gE h;rw[Bool.eq_iff_iff,gJ,gJ];constructor
  ·intro g;exact .inr g
  ·rintro(g | g)
   ·exact gI g h
   ·exact g
 ·subst hc;refine AR (λh=>AB ?_) λh=> ?_
  ·rw[gF (gD h)]
  ·have h:=gE h;rw[gG h];refine Bq (λ(z:Int×Int)=>∃k:Nat,z.1=(k:Int)∧k≤l.length∧G4 p B E n l=G4 p B E z.2 (l.drop k)) (λz=>l.length - z.1.toNat) (λr=>r=G4 p B E n l) ⟨0,rfl,iN _,rfl⟩ (λz hz=> ?_) λr hr=>AB hr;obtain⟨k',st⟩:=z;obtain⟨k,b,d,a⟩:=hz;dsimp only at b a ⊢;subst b;refine AM (Q:=λc=>(c=true∧k<l.length∧ ¬st<0)∨(c=false∧(k=l.length∨st<0))) (AR (λg=>AB ?_) λg=>AB (.inr ⟨rfl,.inl (by have:=gE g;omega)⟩)) λc hc=> ?_
   ·have g:=gD g;by_cases q:st≥0
    ·exact .inl ⟨gC q,by omega,by omega⟩
    ·exact .inr ⟨gB q,.inr (by omega)⟩
   ·rcases hc with⟨rfl,hk,hst⟩|⟨rfl,hc⟩
    ·have hx:=gQ hk;refine BK rfl (AS hx (AP (aN V H st l[k]) (BJ ⟨⟨k+1,?_,hk,by rw[a,Pw hst hk]⟩,?_⟩)))
     ·dsimp only;rw[w64 (by omega) (by omega)];omega
     ·dsimp only;rw[w64 (by omega) (by omega)];omega
    ·refine Af rfl (As ?_);rw[a];rcases hc with rfl | hc
     ·rw[jI (jA _)];rfl
     ·rw[Qs hc]
inductive cJ (B:List dtK):Nat→gM→Prop
 |zero:cJ B 0 []
 |step {m f:Nat} {b:dtK} {l:gM} :1≤m→B[m]? =some b→b.2.2.1=(f:Int)→cJ B f l→cJ B m (l++ [b.2.2.2])
end
theorem Uc:Fv jD 86 86 82 1:=⟨kD,.inl kD,⟨Tryz.t82,by kernel_rfl,rfl,⟨_,rfl,rfl⟩,by decide,by decide⟩,by decide⟩
noncomputable def DQ (p_0:Au) (a_1:NU) (f:Int):Option (Option LC):=
 (Pq (p_0.1,p_0.2.1,p_0.2.2.1,p_0.2.2.2.1,p_0.2.2.2.2.1,p_0.2.2.2.2.2)).bind λF=>
 (CQ p_0 F ([(0,0,0)]:List BH)).bind λu=>
 (loop (σ:=(Int×gM×List (List BH))) (β:=AW (gM×List (List BH)) (Option LC)) (0,([(0:Int)]:gM),([u]:List (List BH))) λa=>
  cond (decide (a.1< (a.2.2.length:Int)))
  (cond (decide ((a.2.2.length:Int) >f))
   (some (iH (iH none)))
   ((forS (σ:=(gM×List (List BH))) 1 (gX .i64 ((p_0.1.length:Int)+(p_0.2.1.length:Int))) (a.2.1,a.2.2) λe b=>
    ((loop (σ:=(Int×List BH)) (β:=List BH) (0,([]:List BH)) λd=>
     (idx b.2 a.1).bind λi=>
     cond (decide (d.1< (i.length:Int)))
     ((idx b.2 a.1).bind λj=>
      (idx j d.1).bind λc=>
      (BS p_0 (c.1,c.2.1)).bind λv=>
      (cond (v==e)
      ((CB d.2 (c.1,(gX .i64 (c.2.1+1)),c.2.2)).bind λw=>
       some w.1)
      (some d.2)).bind λx=>
      some (iK ((gX .i64 (d.1+1)),x)))
     (some (iH d.2))).bind λk=>
    cond ((k.length:Int)==0)
    (some (b.1,b.2))
    ((CQ p_0 F k).bind λl=>
     (forS (σ:=Bool) 0 (b.2.length:Int) false λg y=>
      (cond y
      (some true)
      ((idx b.2 g).bind λm=>
       (Cs m l).bind λz=>
       some z)).bind λA=>
      some A).bind λB=>
     (cond (!B)
     ((app b.2 ([l]:List (List BH))).bind λC=>
      (idx b.1 a.1).bind λn=>
      (BP a_1 n e).bind λD=>
      (app b.1 ([D]:gM)).bind λE=>
      some (E,C))
     (some (b.1,b.2))).bind λo=>
     some (o.1,o.2))).bind λp=>
    some (p.1,p.2)).bind λq=>
    some (iK ((gX .i64 (a.1+1)),q.1,q.2))))
  (some (iH (iK (a.2.1,a.2.2))))).bind λh=>match h with
 |.next r=>
  (NN (p_0.1,p_0.2.1,p_0.2.2.1,p_0.2.2.2.1,p_0.2.2.2.2.1,p_0.2.2.2.2.2) a_1 r.1 r.2).bind λs=>
  some s
 |.done t=>some t
theorem Lj {φ:AD}{h:AE}{F:List Chk}{p_0:Pl6}{d_p_0:Au}{a_1:gL}{a8:NU}{C:Int}(e:JR φ p_0 d_p_0) (a9:Pt Oq φ a_1 a8) (s0:St φ (F) h) {r:(Option LC)}(hd:DQ d_p_0 a8 C=some r):
 CallsH jD 9 [(aG p_0),(.pointer a_1),(.int .i64 C)] h (Ap λv h'=>∃ψ:AD,∃y:gL,∃ad:Option LC,Sub φ ψ∧v=fO.val y∧ad=r∧Np SG ψ y ad∧St ψ (F) h'):=by
 refine AY mixed Tryz.func9 (Lh ..) ?_;have al:p_0.1.2.1=kH d_p_0.1:=e.k0.length;have ap:p_0.2.1.2.1=kH d_p_0.2.1:=e.k1.length;refine GK (t:=p_0) s0 λr1 fw ax=>Bk (t:=p_0) ax ?_;have⟨fx,c8,hd⟩:=bS hd;refine AK (WF (p_0:=(p_0.1,p_0.2.1,p_0.2.2.1,p_0.2.2.2.1,p_0.2.2.2.2.1,p_0.2.2.2.2.2.1,())) e.k0 e.k1 e.k2 e.k3 e.k4 e.k5 ax c8) ?_;rintro _ fy ⟨fz,t8,g0,g1,rfl,rfl,b0,b1⟩;refine⟨t8,rfl,?_⟩;refine Bk (t:=p_0) b1<|AV (vs:=[.int .i64 (0:Int),.int .i64 (0:Int),.int .i64 (0:Int)]) b1 λP g2 c9=> ?_;have ch:=kT (r:=Bc) (l:=([((0:Int),(0:Int),(0:Int))]:List BH)) (n:=1) c9 (.cons (a:=[_,_,_]) ⟨[_],_,rfl,rfl,⟨[_],_,rfl,rfl,rfl⟩⟩ .nil) rfl (by decide);have⟨g3,g4,cl,cm⟩:=iB (t:=((some ⟨P,0,none⟩,1,1):Slc)) ch;have⟨g5,cp,hd⟩:=bS hd;refine AK (El e.up b0.up cl cm cp) ?_;rintro _ g6 ⟨Q,G,b2,g7,rfl,rfl,cs,cw⟩;refine⟨G,rfl,?_⟩;refine AV (vs:=[sv G]) cw λR g8 cx=>AV (vs:=[.int .i64 (0:Int)]) cx λS g9 d0=> ?_;have d1:=kT (r:=(hU .i64)) (l:=([(0:Int)]:gM)) (n:=1) d0 (.cons (a:=[_]) rfl .nil) rfl (by decide);have d2:=kT (r:=(hO Bc)) (l:=([b2]:List (List BH))) (n:=1) d1.at1 (.cons (a:=[_]) ⟨G,rfl,cs⟩ .nil) rfl (by decide);have⟨d3,d4,hd⟩:=bS hd;refine Ag (λy w_ g=>∃ψ:AD,∃b3:gM,∃b4:List (List BH),Sub Q ψ∧iK (b3,b4)=g∧St ψ (cR 3 (hU .i64) y.2.1 b3::cR 82 (hO Bc) y.2.2.1 b4::Wq2 r1 p_0::F) w_) (g:=d3) ?_ ?_
 ·refine CA d4 (λy w_ g=>∃ψ:AD,∃b5:gM,∃b6:List (List BH),Sub Q ψ∧(y.1,b5,b6)=g∧St ψ (cR 3 (hU .i64) y.2.1 b5::cR 82 (hO Bc) y.2.2.1 b6::Wq2 r1 p_0::F) w_) ((0:Int),((some ⟨S,0,none⟩,1,1):Slc),((some ⟨R,0,none⟩,1,1):Slc),none,()) rfl ⟨Q,([(0:Int)]:gM),([b2]:List (List BH)),sb,rfl,d2.at2.at1.at2⟩ ?_
  ·rintro B ga _ _ ⟨u,b7,b8,gb,rfl,w⟩ f b9;have ba:=w.at1.rowLen;refine AH f (by rw[ba] <;>rfl) (λ_ f=> ?_) (λ_ f=> ?_)
   ·refine AH f (by rw[ba] <;>rfl) (λ_ f=> ?_) (λ_ f=> ?_)
    ·obtain rfl:=iS f;obtain rfl:=b9 _ rfl;obtain rfl:=iS hd;exact Aj (Al (AC ⟨u,none,none,sb,rfl,rfl,(kV _ _),w.tail.tail.tail⟩))
    have⟨gc,d5,f⟩:=bS f;refine BM d5 (λd6 y w_ g=>∃ψ:AD,∃bb:gM,∃bd:List (List BH),Sub u ψ∧y.1=d6∧(bb,bd)=g∧St ψ (cR 3 (hU .i64) y.2.1 bb::cR 82 (hO Bc) y.2.2.1 bd::Wq2 r1 p_0::F) w_) ((1:Int),B.2.1,B.2.2.1,()) rfl ⟨u,b7,b8,sb,rfl,rfl,w.at1.at2.at1.at2⟩ ?_ ?_ ?_
    ·rintro _ A gd _ _ ⟨p,k,m,ge,rfl,rfl,z⟩ T gf bf d7;have bg:=z.at1.rowLen;refine AA z.at2 rfl<|AA z.at2 rfl<|Ac (by rw[al,ap];exact gC bf) ?_;have⟨d8,c,T⟩:=bS T;refine Ag (λy w_ g=>∃ψ:AD,∃bi:gM,∃bj:List (List BH),Sub p ψ∧(bi,bj)=g∧St ψ (cR 3 (hU .i64) y.1 bi::cR 82 (hO Bc) y.2.1 bj::Wq2 r1 p_0::F) w_) (g:=d8) ?_ ?_
     ·have d9:=z.at2;have⟨da,db,c⟩:=bS c;refine Ag (λy w_ g=>∃ψ:AD,∃bl:List BH,Sub p ψ∧bl=g∧Ro.SliceIs Bc ψ y.2.1 bl∧St ψ (cR 3 (hU .i64) A.2.1 k::cR 82 (hO Bc) A.2.2.1 m::Wq2 r1 p_0::F) w_) (g:=da) ?_ ?_
      ·refine CA db (λy w_ g=>∃ψ:AD,∃bn:List BH,Sub p ψ∧(y.1,bn)=g∧Ro.SliceIs Bc ψ y.2.1 bn∧St ψ (cR 3 (hU .i64) A.2.1 k::cR 82 (hO Bc) A.2.2.1 m::Wq2 r1 p_0::F) w_) ((0:Int),((none,0,0):Slc),()) rfl ⟨p,[],sb,rfl,(kM Bc p),d9.at2.at2⟩ ?_
       ·rintro D gg _ _ ⟨dc,bp,gh,rfl,U,q⟩ b dd;have⟨gi,de,b⟩:=bS b;obtain⟨gj,gk,df,dg,dh,di⟩:=(q.at1).get de;refine AF _ df (Ah dg ?_);obtain⟨dj,rfl,dk⟩:=dh;have dl:=dk.length;refine AG (x:=dj) (di 0 _ rfl) rfl<|AH b (by rw[dl] <;>rfl) (λ_ b=> ?_) (λ_ b=> ?_)
        ·have⟨gl,dm,b⟩:=bS b;obtain⟨gm,gn,dn,dp,dq,dr⟩:=(q.at1).get dm;refine AF _ dn (Ah dp ?_);obtain⟨ds,rfl,dt⟩:=dq;refine AG (x:=ds) (dr 0 _ rfl) rfl<|Wn dt b q λj b=>AV (vs:=[.int .i64 (0:Int),.int .i64 (0:Int),.int .i64 (0:Int)]) q λV go du=>AQ du rfl rfl λgp dv=>AQ dv rfl rfl λgq dw=>AQ dw rfl rfl λgr a0=>Bk (t:=p_0) a0.at3<|AA a0 rfl<|AA a0 rfl ?_;have⟨gs,dx,b⟩:=bS b;refine AK (Ch (x_1:=(j.1,j.2.1,())) e.up a0 dx) ?_;rintro _ gt ⟨bq,W,gu,rfl,rfl,s⟩;refine⟨W,rfl,?_⟩;have⟨dy,o,b⟩:=bS b;refine Aa (λy w_ g=>∃ψ:AD,∃bs:List BH,Sub bq ψ∧bs=g∧Ro.SliceIs Bc ψ y.1 bs∧St ψ (cW 85 V [.int .i64 j.1,.int .i64 j.2.1,.int .i64 j.2.2]::cR 3 (hU .i64) A.2.1 k::cR 82 (hO Bc) A.2.2.1 m::Wq2 r1 p_0::F) w_) (g:=dy) ?_ ?_
         ·refine AH o rfl (λ_ o=> ?_) (λ_ o=> ?_)
          ·refine AA s rfl<|AA s rfl<|AA s rfl ?_;have⟨gv,dz,o⟩:=bS o;refine AK (DP (x_1:=(j.1,(wN j.2.1),j.2.2,())) U.up s dz) ?_;rintro _ gw ⟨e0,J,e1,gx,rfl,rfl,e2,e3⟩;refine⟨J,rfl,?_⟩;obtain rfl:=iS o;exact AO (J.1,()) rfl ⟨e0,e1,sb,rfl,e2,e3.at3.at3.at3.at3⟩
          obtain rfl:=iS o;exact AO (D.2.1,()) rfl ⟨bq,bp,sb,rfl,U.up,s.at3.at3.at3.at3⟩
         rintro X gy ⟨e4,e5,gz,rfl,e6,e7⟩;obtain rfl:=iS b;exact AZ ((wN D.1),X.1,()) _ rfl rfl ⟨e4,e5,sb,rfl,e6,e7.tail.at2.at2.at2⟩
        obtain rfl:=iS b;obtain rfl:=dd _ rfl;exact AI (AL (D.1,D.2.1,()) rfl ⟨dc,bp,sb,rfl,U,q.at2.at2.at2⟩)
      rintro j3 h0 ⟨e8,h1,h2,rfl,bt,Y⟩;have e9:=bt.length;refine AH c (by rw[e9] <;>rfl) (λ_ c=> ?_) (λ_ c=> ?_)
      ·have ea:=Y.at1;obtain rfl:=iS c;exact AL (A.2.1,A.2.2.1,()) rfl ⟨e8,k,m,sb,rfl,ea.at2.at1.at2⟩
      refine Bk (t:=p_0) Y.at2 ?_;have⟨h3,eb,c⟩:=bS c;refine AK (El e.up b0.up bt Y eb) ?_;rintro _ h4 ⟨bx,H,ec,h5,rfl,rfl,bz,ed⟩;refine⟨H,rfl,?_⟩;have⟨h6,ee,c⟩:=bS c;refine BM ee (λef y w_ g=>∃ψ:AD,Sub bx ψ∧y.1=ef∧y.2.1=g∧St ψ (cR 3 (hU .i64) A.2.1 k::cR 82 (hO Bc) A.2.2.1 m::Wq2 r1 p_0::F) w_) ((0:Int),false,()) rfl ⟨bx,sb,rfl,rfl,ed.at2.at2.at2⟩ ?_ ?_ ?_
      ·rintro _ E h7 _ _ ⟨c0,h8,rfl,rfl,Z⟩ a6 h9 eg eh;refine Ac (dT bg eg) ?_;have⟨ei,i,a6⟩:=bS a6;refine Aa (λy w_ g=>∃ψ:AD,Sub c0 ψ∧y.1=g∧St ψ (cR 3 (hU .i64) A.2.1 k::cR 82 (hO Bc) A.2.2.1 m::Wq2 r1 p_0::F) w_) (g:=ei) ?_ ?_
       ·refine AH i rfl (λ_ i=> ?_) (λ_ i=> ?_)
        ·have ej:=Z.at2;obtain rfl:=iS i;exact AO (true,()) rfl ⟨c0,sb,rfl,ej.at2.at2⟩
        have⟨hb,ek,i⟩:=bS i;obtain⟨hc,he,el,em,en,eo⟩:=(Z.at1).get ek;refine AF _ el (Ah em ?_);obtain⟨ep,rfl,er⟩:=en;refine AG (x:=ep) (eo 0 _ rfl) rfl ?_;have⟨hf,es,i⟩:=bS i;refine AK (Jp er bz.up Z es) ?_;rintro _ hg ⟨eu,K,hh,rfl,rfl,ev⟩;refine⟨K,rfl,?_⟩;obtain rfl:=iS i;exact AO (K,()) rfl ⟨eu,sb,rfl,ev.at2.at2.at2⟩
       rintro j0 hi ⟨ew,hj,rfl,ex⟩;obtain rfl:=iS a6;exact AZ ((wN E.1),j0.1,()) _ rfl rfl ⟨ew,sb,eh,rfl,ex.at2.at2.at2⟩
      ·rintro _ E hk ⟨ey,hl,rfl,rfl,ez⟩ f0;refine AU (dF bg f0)<|AI (AL (E.1,E.2.1,()) rfl ⟨_,ey,sb,rfl,rfl,ez.at2.at2.at2⟩)
      rintro j4 hm ⟨_,c1,hn,_,rfl,c2⟩;have⟨f1,d,c⟩:=bS c;refine Aa (λy w_ g=>∃ψ:AD,∃c3:gM,∃c4:List (List BH),Sub c1 ψ∧(c3,c4)=g∧St ψ (cR 3 (hU .i64) y.1 c3::cR 82 (hO Bc) y.2.1 c4::Wq2 r1 p_0::F) w_) (g:=f1) ?_ ?_
      ·refine AH d rfl (λ_ d=> ?_) (λ_ d=> ?_)
       ·refine AV (vs:=[sv H]) c2 λj5 bf c5=> ?_;have⟨f2,f3,d⟩:=bS d;refine AX (r:=(hO Bc)) (ms:=([ec]:List (List BH))) Uc c5.tail.at1 rfl (kQ c5) (.cons (a:=[_]) ⟨H,rfl,bz.up⟩ .nil) rfl f3 ?_;intro j1 ho c6;refine gxO c6.at1 d λhp d=> ?_;have⟨hq,f4,d⟩:=bS d;refine AK (DU a9.up c6 f4) ?_;rintro _ hr ⟨f5,I,hs,rfl,rfl,f6⟩;refine⟨I,rfl,?_⟩;refine AV (vs:=[.int .i64 I]) f6 λj6 ht c7=> ?_;have⟨f7,f8,d⟩:=bS d;refine AX (r:=(hU .i64)) (ms:=([I]:gM)) B0 c7.tail.at1 rfl (kQ c7) (.cons (a:=[_]) rfl .nil) rfl f8 ?_;intro j2 hu f9;obtain rfl:=iS d;exact AO (j2,j1,()) rfl ⟨f5,f7,f2,sb,rfl,f9.at1.at2.at1.at2⟩
       obtain rfl:=iS d;exact AO (A.2.1,A.2.2.1,()) rfl ⟨c1,k,m,sb,rfl,c2.at1.at2.at1.at2⟩
      rintro L hv ⟨fa,fb,fc,hw,rfl,fd⟩;obtain rfl:=iS c;exact FG (L.1,L.2.1,()) rfl ⟨fa,fb,fc,sb,rfl,fd.at1.at2.at1.at2⟩
     rintro M hx ⟨fe,ff,fg,hy,rfl,fh⟩;obtain rfl:=iS T;exact AZ ((wN A.1),M.1,M.2.1,()) _ rfl rfl ⟨fe,ff,fg,sb,d7,rfl,fh.at1.at2.at1.at2⟩
    ·rintro _ A hz ⟨fi,fj,fk,i0,rfl,rfl,a7⟩ fl;refine AA a7.at2 rfl<|AA a7.at2 rfl<|AU (by rw[al,ap];exact gB (Int.not_lt.2 fl))<|AI (AL (A.1,A.2.1,A.2.2.1,()) rfl ⟨_,fi,fj,fk,sb,rfl,rfl,a7.at1.at2.at1.at2⟩)
    rintro N i1 ⟨_,fm,fn,fo,i2,_,rfl,fp⟩;obtain rfl:=iS f;exact AZ ((wN B.1),N.2.1,N.2.2.1,B.2.2.2.1,()) _ rfl rfl ⟨fm,fn,fo,sb,rfl,fp.at1.at2.at1.at2⟩
   obtain rfl:=iS f;obtain rfl:=b9 _ rfl;exact AI (AL (B.1,B.2.1,B.2.2.1,B.2.2.2.1,()) rfl ⟨u,b7,b8,sb,rfl,w.at1.at2.at1.at2⟩)
 rintro O i3 ⟨i4,i5,i6,i7,rfl,fq⟩;have⟨i8,i9,fr,fs⟩:=iB (t:=O.2.1) fq;have⟨ia,ib,ft,fu⟩:=iB (t:=O.2.2.1) fs;have⟨ic,fv,hd⟩:=bS hd;obtain rfl:=iS hd;exact WI (t:=p_0) sb e.up a9.up fr.up ft fu fv
end Go.Proofs.YtkfgeafgfeppfaaGreatDoor
namespace Go.Proofs.YtkfgeafgfeppfaaGreatDoor
open Go Go.Eng Dg
def E0 (nT:Int) (R:Rl) (l:gM) (x:One):Prop:= ∃k d:Nat,x=((k:Int),(d:Int),x.2.2)∧Can nT R l k d x.2.2
theorem E0.mk {nT:Int}{R:Rl}{l:gM}{k d:Nat}{t:Int}(h:Can nT R l k d t):E0 nT R l ((k:Int),(d:Int),t):=⟨k,d,rfl,h⟩
theorem E0.of {nT:Int}{R:Rl}{l:gM}{k d:Nat}{t:Int}(h:E0 nT R l ((k:Int),(d:Int),t)):Can nT R l k d t:=by
 obtain⟨k',d',e,h⟩:=h;have a:=gH (·.1) e;have b:=gH (·.2.1) e;dsimp only at a b h;obtain rfl:k'=k:=by omega
 obtain rfl:d'=d:=by omega
 exact h
theorem Zs {nT:Int}{R:Rl}{x:One}:E0 nT R [] x↔ClO nT R [((0:Int),(0:Int),(0:Int))] x:=by
 constructor
 ·rintro⟨k,d,e,h⟩;rw[e]
  generalize x.2.2=t at h
  clear e
  generalize hl:([]:gM)=l at h
  induction h with
  |start=>exact .base (by simp)
  |clos _ a b c f g ih=>exact .step (ih hl) a b c f g
  |step=>simp at hl
 ·intro h
  induction h with
  |base h=>rw[gV.1 h];exact E0.mk (k:=0) (d:=0) .start
  |step _ a b c f g ih=>exact E0.mk (d:=0) (.clos ih.of a b c f g)
def Kn (nT:Int) (R:Rl) (l:gM) (s:Int) (x:One):Prop:= ∃y,E0 nT R l y∧beh R (y.1,y.2.1)=s∧x=(y.1,y.2.1+1,y.2.2)
theorem Ye {nT:Int}{R:Rl}(G:Gr nT R) {l:gM}{s:Int}(hs:0≤s) {K:List One}(hK:∀x,x∈K↔Kn nT R l s x) {x:One}:E0 nT R (l++ [s]) x↔ClO nT R K x:=by
 constructor
 ·rintro⟨k,d,e,h⟩;rw[e]
  generalize x.2.2=t at h
  clear e
  generalize hl:l++ [s] =m at h
  induction h with
  |start=>simp at hl
  |clos _ b a c f g ih=>exact .step (ih hl) b a c f g
  | @step l' k d r s' t hc b a=>
   obtain⟨rfl,e⟩:=kF hl rfl;obtain rfl:s=s':=by simpa using e
   exact .base ((hK _).2 ⟨_,E0.mk hc,by rw[NE R k d b,a];rfl,rfl⟩)
 ·intro h
  induction h with
  |base h=>
   obtain⟨y,⟨k,d,e,hc⟩,a,rfl⟩:=(hK _).1 h;rw[e]at a ⊢;have⟨r,hr,hd⟩:=Fm G a hs;exact E0.mk (d:=d+1) (.step hc hr hd)
  |step _ b a c f g ih=>exact E0.mk (d:=0) (.clos ih.of b a c f g)
section
variable {p:dtP}{B:List dtK}{E:List (List Edge)}
theorem Ud (V:VPp p) (H:Fin p B E) (G:Gr (nT p) p.2.2.1) {l l':gM}{q q':Nat}(h:Pth (TrB p B E) 0 l q) (h':Pth (TrB p B E) 0 l' q') (hs:∀x,E0 (nT p) p.2.2.1 l x↔E0 (nT p) p.2.2.1 l' x):q=q':=by
 have A:=GX V H;have one:∀ {l l':gM} {q q':Nat},Pth (TrB p B E) 0 l q→Pth (TrB p B E) 0 l' q'→(∀x,E0 (nT p) p.2.2.1 l x↔E0 (nT p) p.2.2.1 l' x)→ ∀x,Cl p.2.2.1 (KB B q) x→Cl p.2.2.1 (KB B q') x:=λ{l l' q q'} h h' hs x hx=>by
  obtain⟨k,d,t,rfl,hc⟩:=Rt G A _ l q rfl h x hx;exact Pu G A ((hs _).1 (E0.mk hc)).of h'
 have ker:∀ {l l':gM} {q q':Nat},Pth (TrB p B E) 0 l q→Pth (TrB p B E) 0 l' q'→(∀x,E0 (nT p) p.2.2.1 l x↔E0 (nT p) p.2.2.1 l' x)→q≠q'→ ∀x,x∈KB B q→x∈KB B q':=λ{l l' q q'} h h' hs hne x hx=>by
  have hS:=A.at0 A.s0 h;have hS':=A.at0 A.s0 h';have hx':=one h h' hs x (.base hx);rcases A.kern hS hx with⟨rfl,rfl⟩|a
  ·exact gI hx' (VF G A hS' (by omega))
  ·cases hx' with
   |base h=>exact h
   |step=>dsimp only at a;omega
 rcases Nat.decEq q q' with hne | e
 ·obtain⟨bq,hb⟩:∃b,B[q]? =some b:=⟨_,gQ (A.at0 A.s0 h)⟩;obtain⟨bq',hb'⟩:∃b,B[q']? =some b:=⟨_,gQ (A.at0 A.s0 h')⟩;refine H.apart q q' bq bq' hb hb' (Pa Lt.irrefl (λa c=>Lt.trans a c) (H.wf _ (gO hb)).1.up (H.wf _ (gO hb')).1.up λx=> ?_);rw[←Pe hb,←Pe hb'];exact⟨ker h h' hs hne x,ker h' h (λx=>(hs x).symm) (λe=>hne e.symm) x⟩
 ·exact e
def cK (p:dtP) (B:List dtK) (E:List (List Edge)) (c:List One) (q:Int) (l:gM):Prop:=c.Pairwise LtO∧(∃n:Nat,q=(n:Int)∧Pth (TrB p B E) 0 l n)∧ ∀x,x∈c↔E0 (nT p) p.2.2.1 l x
theorem cK.ok (V:VPp p) (H:Fin p B E) (S:Sy p) (G:Gr (nT p) p.2.2.1) {c:List One}{q:Int}{l:gM}(h:cK p B E c q l):∀x∈c,OkO p x:=by
 obtain⟨_,⟨n,rfl,hp⟩,hm⟩:=h;have A:=GX V H;have tt:∀ {l:gM} {k d:Nat} {t:Int},Can (nT p) p.2.2.1 l k d t→0≤t∧t<nT p:=λ{l k d t} hc=>by
  induction hc with
  |start=>have:=S.t1;unfold nT;omega
  | @clos l k d j r r' s t u _ b _ _ _ a ih=>
   rcases a with a | ⟨_,rfl⟩
   ·exact Pv S a λs hs=>(S.right _ (gO b) s (iD hs)).1
   ·exact ih
  |step _ _ _ ih=>exact ih
 intro x hx;obtain⟨k,d,e,hc⟩:=(hm x).1 hx;refine⟨?_,tt hc⟩
 have:=Cl.ok (λx hx=>A.ok (A.at0 A.s0 hp) hx) (Pu G A hc hp)
 rw[e];exact this
end
section
variable {p:dtP}{B:List dtK}{E:List (List Edge)}
theorem Yf (V:VPp p) {i:Int}{all:List (List One)}{c:List One}(hi:idx all i=some c) (hc:∀x∈c,OkO p x) (hl:c.length≤10100000) (s:Int):
 Ok (loop (σ:=Int×List One) (β:=List One) ((0:Int),([]:List One)) λz=>
  (idx all i).bind λe=>cond (decide (z.1< (e.length:Int)))
   ((idx all i).bind λe=>(idx e z.1).bind λx=>(BS (p.1,p.2.1,p.2.2.1,p.2.2.2.1,p.2.2.2.2.1,p.2.2.2.2.2) (x.1,x.2.1)).bind λt=>
    (cond (t==s) ((CB z.2 (x.1,gX .i64 (x.2.1+(1:Int)),x.2.2)).bind λt=>some t.1) (some z.2)).bind λz'=>some (iK (gX .i64 (z.1+(1:Int)),z')))
   (some (iH z.2))) λk=>k.Pairwise LtO∧ ∀x,x∈k↔∃y∈c,beh p.2.2.1 (y.1,y.2.1)=s∧x=(y.1,y.2.1+1,y.2.2):=by
 refine G3 (Bq (λ(z:Int×List One)=>∃n:Nat,z.1=(n:Int)∧n≤c.length∧z.2.length≤n∧z.2.Pairwise LtO∧ ∀x,x∈z.2↔∃y,(∃j:Nat,j<n∧c[j]? =some y)∧beh p.2.2.1 (y.1,y.2.1)=s∧x=(y.1,y.2.1+1,y.2.2)) (λz=>c.length - z.1.toNat) (λk=>k.Pairwise LtO∧ ∀x,x∈k↔∃y∈c,beh p.2.2.1 (y.1,y.2.1)=s∧x=(y.1,y.2.1+1,y.2.2)) ⟨0,rfl,iN _,jA _,.nil,λx=>⟨λh=>(by cases h),λ⟨y,⟨j,h,_⟩,_⟩=>by omega⟩⟩ (λz hz=> ?_) λb hb=>AB hb);obtain⟨n_,k⟩:=z;obtain⟨n,rfl,hn,hk,hu,hm⟩:=hz;dsimp only at hk hu hm ⊢;rw[hi,gR];refine AR (λh=> ?_) λh=>As ⟨hu,λx=>(hm x).trans ⟨λ⟨y,⟨j,_,g⟩,h⟩=>⟨y,gO g,h⟩,λ⟨y,g,h'⟩=> ?_⟩⟩
 ·have h:=gD h;have hx:=gQ (show n<c.length by omega);obtain⟨x,hxe⟩:∃x,c[n]'(by omega)=x:=⟨_,rfl⟩;rw[hxe]at hx;obtain⟨⟨d,f,r,hr,hd⟩,l⟩:=hc x (gO hx);dsimp only at d f hr hd
  have:=V.short r (gO hr)
  rw[gR];refine AS hx (AP (JE (p:=p) (x:=(x.1,x.2.1)) ⟨d,f,r,hr,hd⟩) ?_);rw[w64 (n:=x.2.1+1) (by omega) (by omega),w64 (n:=(n:Int)+1) (by omega) (by omega)];have step:∀k':List One,k'.length≤n+1→k'.Pairwise LtO→(∀y,y∈k'↔y∈k∨(beh p.2.2.1 (x.1,x.2.1)=s∧y=(x.1,x.2.1+1,x.2.2)))→Ok (some (iK ((n:Int)+1,k'):AW (Int×List One) (List One))) λe=>(∃s',e= .next s'∧(∃n:Nat,s'.1=(n:Int)∧n≤c.length∧s'.2.length≤n∧s'.2.Pairwise LtO∧ ∀x,x∈s'.2↔∃y,(∃j:Nat,j<n∧c[j]? =some y)∧beh p.2.2.1 (y.1,y.2.1)=s∧x=(y.1,y.2.1+1,y.2.2))∧c.length - s'.1.toNat<c.length - (n:Int).toNat)∨ ∃b,e= .done b∧(b.Pairwise LtO∧ ∀x,x∈b↔∃y∈c,beh p.2.2.1 (y.1,y.2.1)=s∧x=(y.1,y.2.1+1,y.2.2)):=λk' m o q=>
   ⟨_,rfl,.inl ⟨_,rfl,⟨n+1,rfl,by omega,m,o,λy=>by
    dsimp only;rw[q,hm];constructor
    ·rintro(⟨z,⟨j,a,b⟩,g⟩|g)
     ·exact⟨z,⟨j,by omega,b⟩,g⟩
     ·exact⟨x,⟨n,by omega,hx⟩,g⟩
    ·rintro⟨z,⟨j,a,b⟩,g⟩;rcases gS.1 a with a | rfl
     ·exact .inl ⟨z,⟨j,a,b⟩,g⟩
     ·rw[hx]at b;cases b;exact .inr g⟩,by dsimp only;omega⟩⟩
  refine AM (Q:=λk'=>k'.length≤n+1∧k'.Pairwise LtO∧ ∀y,y∈k'↔y∈k∨(beh p.2.2.1 (x.1,x.2.1)=s∧y=(x.1,x.2.1+1,x.2.2))) (AR (λhe=> ?_) λhe=>AB ⟨by omega,hu,λy=> ?_⟩) λk' h=>step k' h.1 h.2.1 h.2.2
  ·have he:beh p.2.2.1 (x.1,x.2.1)=s:=by simpa using he
   refine AM (dI hu (by omega) (x.1,x.2.1+1,x.2.2)) λt ht=>AB ⟨?_,ht.1,λy=>by rw[ht.2.1,he];simp⟩;rcases ht.2.2 with⟨_,e,_⟩|⟨_,e,_⟩
   ·rw[e];omega
   ·rw[e];omega
  ·have he:beh p.2.2.1 (x.1,x.2.1)≠s:=by simpa using he
   exact⟨.inl,λh=>h.elim id λh=>(he h.1).elim⟩
 ·have h:=gE h;obtain⟨j,hj⟩:=gT g;exact⟨y,⟨j,by have:=(gP.1 hj).1;omega,hj⟩,h'⟩
theorem WO {all:List (List One)}(ha:all.length≤1000000) (hl:∀c∈all,c.length≤10100000) (c:List One):
 Ok (forS (σ:=Bool) (0:Int) (all.length:Int) false λi z=>(cond z (some true) ((idx all i).bind λe=>(Cs e c).bind λt=>some t)).bind λz=>some z) λf=>f=true↔c∈all:=by
 refine G3 (BV (λn f=>f=true↔∃j:Nat,j<n∧all[j]? =some c) (by omega) ⟨λh=>(by cases h),λ⟨j,h,_⟩=>by omega⟩ (λn f hn hf=> ?_) λf hf=>AB (hf.trans ⟨λ⟨j,_,h⟩=>gO h,λh=> ?_⟩))
 ·have hx:=gQ hn;refine AM (Q:=λz=>z=true↔∃j:Nat,j<n+1∧all[j]? =some c) (AR (λh=>AB ⟨λ_=> ?_,λ_=>rfl⟩) λh=>AS hx ?_) λz hz=>AB hz
  ·have⟨j,b,a⟩:=hf.1 h;exact⟨j,by omega,a⟩
  ·refine AP (dH _ _ (by have:=hl _ (List.getElem_mem hn);omega)) (AB ?_);rw[decide_eq_true_iff];constructor
   ·intro e;exact⟨n,by omega,by rw[hx,e]⟩
   ·rintro⟨j,b,a⟩;rcases gS.1 b with g | rfl
    ·have:=hf.2 ⟨j,g,a⟩
     rw[h]at this;cases this
    ·rw[hx]at a;exact Option.some.inj a
 ·obtain⟨j,hj⟩:=gT h;exact⟨j,(gP.1 hj).1,hj⟩
theorem Yg {σ γ:Type}{P:γ→Prop}{f:Int→σ→Option σ}{n:Nat}{s:σ}{k:σ→Option γ}(I:Int→σ→Prop) (d:1≤n) (hn:n≤9223372036854775807) (b:I 1 s) (hs:∀(j:Int) s,1≤j→j< (n:Int)→I j s→Ok (f j s) (I (j+1))) (hk:∀s',I (n:Int) s'→Ok (k s') P):
 Ok ((forS 1 (n:Int) s f).bind k) P:=by
 unfold forS;rw[gF ⟨by omega,by omega⟩];obtain⟨s',c,a⟩:=Oz (f:=f) I ((n:Int) - 1).toNat 1 s b λj s hj hj' hI=>hs j s hj (by omega) hI;rw[c];rw[show(1:Int)+(((n:Int) - 1).toNat:Nat)=(n:Int) by omega]at a;exact hk s' a
structure CnI (p:dtP) (B:List dtK) (E:List (List Edge)) (pl:gM) (al:List (List One)):Prop where
 len:pl.length=al.length
 at_:∀(j:Nat) c,al[j]? =some c→ ∃q l,pl[j]? =some q∧cK p B E c q l
 zero:∃c∈al,∀x,x∈c↔E0 (nT p) p.2.2.1 [] x
def Nxt (p:dtP) (al:List (List One)) (c:List One) (s:Int):Prop:= ∀l,(∀x,x∈c↔E0 (nT p) p.2.2.1 l x)→(∃y,Kn (nT p) p.2.2.1 l s y)→ ∃c'∈al,∀x,x∈c'↔E0 (nT p) p.2.2.1 (l++ [s]) x
theorem CnI.few (V:VPp p) (H:Fin p B E) (S:Sy p) (G:Gr (nT p) p.2.2.1) {pl:gM}{al:List (List One)}(I:CnI p B E pl al):∀c∈al,c.length≤10100000:=λc hc=>by
 obtain⟨j,hj⟩:=gT hc;have⟨q,l,_,h⟩:=I.at_ j c hj;exact IJ V S (h.ok V H S G) h.1
theorem TL (V:VPp p) (H:Fin p B E) (S:Sy p) (G:Gr (nT p) p.2.2.1) {st:Int}(U:p.2.2.1[0]? =some (nT p+(p.2.1.length:Int),[st],0)) (most:Int) (hmost:most≤1000) {r:Option LC→Prop}
 (hnone:r none) (hsome:∀pl al,CnI p B E pl al→al.length≤3001→(∀c∈al,∀s:Int,1≤s→s< ((p.1.length+p.2.1.length:Nat):Int)→Nxt p al c s)→Ok (NN p (mkW p (yOf B E)) pl al) r):
 Ok (DQ p (mkW p (yOf B E)) most) r:=by
 have hT:=S.t1;have hV:=S.v1;have A:=GX V H;unfold DQ;refine AM (YX S U) λf hf=> ?_;have X:=hf.1;clear hf;refine AM (OK V S X (K:=[((0:Int),(0:Int),(0:Int))]) (jE _ _) λx hx=> ?_) λO C=> ?_
 ·rw[gV.1 hx];exact⟨⟨jB _,jB _,_,U,by simp⟩,jB _,by dsimp only;unfold nT;omega⟩
 have D:∀x,x∈O↔E0 (nT p) p.2.2.1 [] x:=λx=>(C.2 x).trans Zs.symm;have I0:CnI p B E [(0:Int)] [O]:=⟨rfl,λj c hj=>by
  cases j with
  |zero=>
   obtain rfl:O=c:=by simpa using hj
   exact⟨0,[],rfl,C.1,⟨0,rfl,rfl⟩,D⟩
  |succ j=>simp at hj,O,by simp,D⟩
 have hw:gX .i64 ((p.1.length:Int)+(p.2.1.length:Int))=((p.1.length+p.2.1.length:Nat):Int):=by rw[w64 (by omega) (by omega)];omega
 rw[hw];refine Bq (λ(z:Int×gM×List (List One))=>∃i:Nat,z.1=(i:Int)∧i≤z.2.2.length∧i≤1001∧z.2.2.length≤3001∧CnI p B E z.2.1 z.2.2∧ ∀(j:Nat) c,j<i→z.2.2[j]? =some c→ ∀s:Int,1≤s→s< ((p.1.length+p.2.1.length:Nat):Int)→Nxt p z.2.2 c s) (λz=>1001 - z.1.toNat)
  (λe=>e= .done none∨ ∃pl al,e= .next (pl,al)∧CnI p B E pl al∧al.length≤3001∧ ∀c∈al,∀s:Int,1≤s→s< ((p.1.length+p.2.1.length:Nat):Int)→Nxt p al c s) ⟨0,rfl,by simp,by omega,by simp,I0,λj c h=>by omega⟩ (λz hz=> ?_) λe he=> ?_
 ·obtain⟨i_,pl,al⟩:=z;obtain⟨i,rfl,hi,Y,hal,I,hd⟩:=hz;dsimp only at hi hal I hd ⊢;refine AR (λh=>AR (λ_=>As (.inl rfl)) λhle=> ?_) λh=>As (.inr ⟨pl,al,rfl,I,hal,λc hc s t u=> ?_⟩)
  ·have h:=gD h;have hle:=gE hle;have hci:=gQ (show i<al.length by omega);obtain⟨c,hce⟩:∃c,al[i]'(by omega)=c:=⟨_,rfl⟩;rw[hce]at hci;have⟨q,l,hq,hat⟩:=I.at_ i c hci;have hcok:=hat.ok V H S G;refine Yg (λs (z:gM×List (List One))=>CnI p B E z.1 z.2∧Ext al z.2∧Ext pl z.1∧(z.2.length:Int)+1≤(al.length:Int)+s∧ ∀s':Int,1≤s'→s'<s→Nxt p z.2 c s') (by omega) (by omega) ⟨I,λ_ _ h=>h,λ_ _ h=>h,by dsimp only;omega,λs' t u=>by omega⟩ (λs z Z a0 hz=> ?_) λz hz=> ?_
   ·obtain⟨F,o⟩:=z;obtain⟨I1,E1,E2,J,v⟩:=hz;dsimp only at I1 E1 E2 J v ⊢;have L:idx o (i:Int)=some c:=by rw[CK];exact E1 _ _ hci
    have hfew:=I1.few V H S G;refine AM (Q:=λ(z:gM×List (List One))=>CnI p B E z.1 z.2∧Ext o z.2∧Ext F z.1∧z.2.length≤o.length+1∧Nxt p z.2 c s) ?_ λz hz=>AB ⟨hz.1,E1.trans hz.2.1,E2.trans hz.2.2.1,by have:=hz.2.2.2.1;dsimp only;omega,λs' g1 g2=> ?_⟩
    ·refine AM (Yf V L hcok (IJ V S hcok hat.1) s) λk hk=> ?_;obtain⟨k1,P⟩:=hk;have hkn:∀l,(∀x,x∈c↔E0 (nT p) p.2.2.1 l x)→ ∀x,x∈k↔Kn (nT p) p.2.2.1 l s x:=λl hl x=>(P x).trans ⟨λ⟨y,a,b⟩=>⟨y,(hl y).1 a,b⟩,λ⟨y,a,b⟩=>⟨y,(hl y).2 a,b⟩⟩;refine AR (λhe=>AB ⟨I1,λ_ _ h=>h,λ_ _ h=>h,by dsimp only;omega,λl' hl' ⟨y,hy⟩=> ?_⟩) λhe=> ?_
     ·have a1:(k.length:Int)=0:=eq_of_beq he;have R:k= []:=hZ (by omega)
      have:=(hkn l' hl' y).2 hy
      rw[R]at this;cases this
     ·have hkok:∀x∈k,OkO p x:=λx hx=>by
       obtain⟨y,T,w,rfl⟩:=(P x).1 hx;obtain⟨⟨W,o1,r,hr,o2⟩,o3⟩:=hcok y T;dsimp only at W o1 hr o2;refine⟨⟨W,by dsimp only;omega,r,hr,?_⟩,o3⟩;dsimp only;unfold beh at w;rw[hr]at w;dsimp only at w;rcases jF y.2.1.toNat r.2.1.length with g | g
       ·omega
       ·rw[jL g]at w;simp at w;omega
      refine AM (OK V S X k1 hkok) λM N=> ?_;have hset:∀l,(∀x,x∈c↔E0 (nT p) p.2.2.1 l x)→ ∀x,x∈M↔E0 (nT p) p.2.2.1 (l++ [s]) x:=λl hl x=>(N.2 x).trans (Ye G (by omega) (hkn l hl)).symm;refine AM (WO (by omega) hfew M) λfd hfd=>AM (Q:=λ(z:gM×List (List One))=>CnI p B E z.1 z.2∧Ext o z.2∧Ext F z.1∧z.2.length≤o.length+1∧Nxt p z.2 c s) (AR (λhnf=> ?_) λhnf=>AB ⟨I1,λ_ _ h=>h,λ_ _ h=>h,by dsimp only;omega,λl' hl' _=>⟨M,hfd.1 (by simpa using hnf),hset l' hl'⟩⟩) λz hz=>AB hz;obtain⟨x,hx⟩:∃x,x∈k:=by
       cases k with
       |nil=>simp at he
       |cons x _=>exact⟨x,by simp⟩
      obtain⟨_,⟨n,rfl,hp⟩,hm⟩:=hat;obtain⟨y,T,w,_⟩:=(P x).1 hx;obtain⟨yk,yd,ye,yc⟩:=(hm y).1 T;have hit:Cl p.2.2.1 (KB B n) (y.1,y.2.1):=by rw[ye];exact Pu G A yc hp
      obtain⟨m,hm'⟩:=A.go (A.at0 A.s0 hp) hit (by rw[w];omega);rw[w]at hm';refine BI (by simp;omega)<|AP (x:=(n:Int)) (by rw[CK];exact E2 _ _ hq)<|AM (Ub V H (n:Int) s) λg hg=> ?_;obtain rfl:g=(m:Int):=GoZ.unique H hg (by obtain⟨b,e,t,u,h3⟩:=hm';exact .inl ⟨n,b,e,rfl,t,u,h3⟩);have hlen:=I1.len;refine BI (by simp;omega) (AB ⟨⟨by simp[hlen],λj c' hj=> ?_,?_⟩,Ext.snoc _ _,Ext.snoc _ _,by simp,λl' hl' _=>⟨M,by simp,hset l' hl'⟩⟩)
      ·rcases jF j o.length with g | g
       ·dsimp only at hj;rw[hQ g]at hj;obtain⟨q',l',e1,e2⟩:=I1.at_ j c' hj;exact⟨q',l',Ext.snoc _ _ _ _ e1,e2⟩
       ·dsimp only at hj;rw[List.getElem?_append_right g]at hj;obtain⟨d,hdd⟩:∃d,j - o.length=d:=⟨_,rfl⟩;rw[hdd]at hj;cases d with
        |zero=>
         obtain rfl:M=c':=by simpa using hj
         obtain rfl:j=o.length:=by omega
         exact⟨(m:Int),l++ [s],by dsimp only;rw[←hlen];simp,N.1,⟨m,rfl,kO.2 ⟨n,hp,m,hm',rfl⟩⟩,hset l hm⟩
        |succ d=>simp at hj
      ·obtain⟨c',t,u⟩:=I1.zero;exact⟨c',jN _ t,u⟩
    ·by_cases e:s'=s
     ·subst e;exact hz.2.2.2.2
     ·intro l' hl' hy;obtain⟨c',t,u⟩:=v s' g1 (by omega) l' hl' hy;exact⟨c',hz.2.1.mem t,u⟩
   ·obtain⟨I1,E1,E2,J,v⟩:=hz;rw[w64 (by omega) (by omega)]
    have:=(gP.1 (E1 _ _ hci)).1
    refine BJ ⟨⟨i+1,by omega,by dsimp only;omega,by omega,by dsimp only;omega,I1,λj c' hj hc' s t u=> ?_⟩,by dsimp only;omega⟩;dsimp only at hc' ⊢;rcases gS.1 hj with g | rfl
    ·have hcj:=gQ (show j<al.length by omega)
     have:=E1 _ _ hcj
     rw[hc']at this;cases this;intro l' hl' hy;obtain⟨c'',a,b⟩:=hd j _ g hcj s t u l' hl' hy;exact⟨c'',E1.mem a,b⟩
    ·have:=E1 _ _ hci
     rw[hc']at this;cases this;exact v s t u
  ·have h:=gE h;obtain⟨j,hj⟩:=gT hc;exact hd j c (by have:=(gP.1 hj).1;omega) hj s t u
 ·rcases he with rfl | ⟨pl,al,rfl,I,t,u⟩
  ·exact AB hnone
  ·exact AM (hsome pl al I t u) λx hx=>AB hx
end
def OT (L:L3) (s k t:Nat):Prop:= ∃l row,L[s]? =some l∧l[k]? =some row∧row[t]? =some true
structure Dm (nk nr nt:Nat) (L:L3):Prop where
 a:L.length=nk
 b:∀l∈L,l.length=nr
 c:∀l∈L,∀row∈l,row.length=nt
theorem TM {α γ:Type}{P:γ→Prop}{o:Option α}{x:α}{n:Nat}{k:List α→Option γ}(ho:o=some x) (hn:n≤1000000) (hk:Ok (k (iY n x)) P):Ok ((forS (0:Int) (n:Int) ([]:List α) λ_ l=>o.bind λr=>app l [r]).bind k) P:=by
 refine BV (λj l=>l=iY j x) (by omega) rfl (λj l hj hl=> ?_) λl hl=>by rw[hl];exact hk
 subst hl;exact AP ho (G3 (BI (by simp;omega) (AB List.replicate_succ'.symm)))
theorem Ue {nt nr nk:Nat}(d:nt≤1000) (f:nr≤1000) (g:nk≤1000):Ok (NL (nt:Int) (nr:Int) (nk:Int)) λL=>Dm nk nr nt L∧ ∀s k t,¬OT L s k t:=by
 have hr:Rr (nt:Int) (nr:Int)=some (iY nr (iY nt false)):=by
  refine iQ (G3 ?_);unfold Rr;exact TM (NK (by omega) (by omega)) (by omega) (AB rfl)
 refine G3 ?_;unfold NL;refine TM hr (by omega) (AB ⟨⟨by simp,λl hl=> ?_,λl hl row h=> ?_⟩,λs k t ⟨l,row,a,b,c⟩=> ?_⟩)
 ·rw[gZ hl];simp
 ·rw[gZ hl]at h;rw[gZ h];simp
 ·have e:=gZ (gO a);subst e;have e:=gZ (gO b);subst e;have e:=gZ (gO c);cases e
def WP (R:Rl) (q:Option Int) (x:One) (s k t:Nat):Prop:=q=some (s:Int)∧ ∃r,R[k]? =some r∧x=((k:Int),(r.2.1.length:Int),(t:Int))
theorem Yh {L:L3}{q a c:Nat}{l:List (List Bool)}{row:List Bool}(hL:L[q]? =some l) (hl:l[a]? =some row) (hc:c<row.length) {s k t:Nat}:OT (L.set q (l.set a (row.set c true))) s k t↔OT L s k t∨(s=q∧k=a∧t=c):=by
 have g:=(gP.1 hL).1;have h:=(gP.1 hl).1;constructor
 ·rintro⟨l',row',d,b,f⟩;by_cases e:q=s
  ·subst e;rw[gU g]at d;cases d;by_cases e:a=k
   ·subst e;rw[gU h]at b;cases b;by_cases e:c=t
    ·exact .inr ⟨rfl,rfl,e.symm⟩
    ·rw[iA e]at f;exact .inl ⟨l,row,hL,hl,f⟩
   ·rw[iA e]at b;exact .inl ⟨l,row',hL,b,f⟩
  ·rw[iA e]at d;exact .inl ⟨l',row',d,b,f⟩
 ·rintro(⟨l',row',d,b,f⟩|⟨rfl,rfl,rfl⟩)
  ·by_cases e:q=s
   ·subst e;rw[hL]at d;cases d;by_cases e:a=k
    ·subst e;rw[hl]at b;cases b;exact⟨_,_,gU g,gU h,by
      by_cases e:c=t
      ·subst e;rw[gU hc]
      ·rw[iA e];exact f⟩
    ·exact⟨_,row',gU g,by rw[iA e];exact b,f⟩
   ·exact⟨l',row',by rw[iA e];exact d,b,f⟩
  ·exact⟨_,_,gU g,gU h,gU hc⟩
section
variable {R:Rl}{pl:gM}{al:List (List One)}{nk nr nt:Nat}
theorem WQ {i:Nat}{q:Int}(hq:pl[i]? =some q) (e:0≤q) (v:q< (nk:Int)) (hR:R.length=nr) {x:One}(hx:OkI R (x.1,x.2.1)∧0≤x.2.2∧x.2.2< (nt:Int)) {L:L3}(D:Dm nk nr nt L):
 Ok (Oc R pl (i:Int) x L) λL'=>Dm nk nr nt L'∧ ∀s k t,OT L' s k t↔OT L s k t∨WP R pl[i]? x s k t:=by
 obtain⟨⟨x0,x1,r,hr,hd⟩,o,x3⟩:=hx;dsimp only at x0 x1 hr hd;unfold Oc;refine AS hq ?_;have hL:=gQ (show q.toNat<L.length by have:=D.a;omega);obtain⟨l,hle⟩:∃l,L[q.toNat]'(by have:=D.a;omega)=l:=⟨_,rfl⟩;rw[hle]at hL;have hlm:=gO hL;have hll:=D.b l hlm;have hxr:=(gP.1 hr).1;have hl:=gQ (show x.1.toNat<l.length by omega);obtain⟨row,hre⟩:∃row,l[x.1.toNat]'(by omega)=row:=⟨_,rfl⟩;rw[hre]at hl;have hrl:=D.c l hlm row (gO hl);have hit:∀s k t,WP R pl[i]? x s k t↔(x.2.1=(r.2.1.length:Int)∧s=q.toNat∧k=x.1.toNat∧t=x.2.2.toNat):=λs k t=>by
  unfold WP;rw[hq];constructor
  ·rintro⟨d,r',p,f⟩;have d:q=(s:Int):=Option.some.inj d;have j:=gH (·.1) f;have n:=gH (·.2.1) f;have u:=gH (·.2.2) f;dsimp only at j n u;rw[j,gY,p]at hr;cases hr;exact⟨n,by omega,by omega,by omega⟩
  ·rintro⟨d,rfl,rfl,rfl⟩;exact⟨by rw[iE e],r,hr,iX (by dsimp only;omega) (iX d (by dsimp only;omega))⟩
 refine AM (Q:=λb=>b=decide (x.2.1=(r.2.1.length:Int))) (BK (gC e) (Ck x0 hr (AB rfl))) λb hb=>AR (λh=> ?_) λh=>AB ⟨D,λs k t=> ?_⟩
 ·rw[hb,decide_eq_true_iff]at h;refine Ck e hL (Ck x0 hl (ER o (by omega) (AB ⟨⟨by rw[iL];exact D.a,λm hm=> ?_,λm hm w hw=> ?_⟩,λs k t=> ?_⟩)))
  ·rcases iI hm with g | rfl
   ·exact D.b m g
   ·rw[iL];exact hll
  ·rcases iI hm with g | rfl
   ·exact D.c m g w hw
   ·rcases iI hw with g | rfl
    ·exact D.c l hlm w g
    ·rw[iL];exact hrl
  ·rw[Yh hL hl (by omega),hit];exact or_congr kJ ⟨λg=>⟨h,g⟩,λg=>g.2⟩
 ·rw[hb,gK]at h;rw[hit];exact⟨.inl,λg=>g.elim id λg=>(h g.1).elim⟩
theorem Uf (hR:R.length=nr) (ha:al.length≤1000000) (hpl:∀(j:Nat) c,al[j]? =some c→c.length≤100000000∧(∃q,pl[j]? =some q∧0≤q∧q< (nk:Int))∧ ∀x∈c,OkI R (x.1,x.2.1)∧0≤x.2.2∧x.2.2< (nt:Int)) {L:L3}(D:Dm nk nr nt L):
 Ok (NM R pl al L) λL'=>Dm nk nr nt L'∧ ∀s k t,OT L' s k t↔OT L s k t∨ ∃(j:Nat) (c:List One) (x:One),al[j]? =some c∧x∈c∧WP R pl[j]? x s k t:=by
 refine G3 ?_;unfold NM;refine BV (λi L'=>Dm nk nr nt L'∧ ∀s k t,OT L' s k t↔OT L s k t∨ ∃(j:Nat) (c:List One) (x:One),j<i∧al[j]? =some c∧x∈c∧WP R pl[j]? x s k t) (by omega) ⟨D,λs k t=>⟨.inl,λh=>h.elim id λ⟨j,c,x,h,_⟩=>by omega⟩⟩ (λi L1 hi hz=> ?_) λL1 hz=>AB ⟨hz.1,λs k t=>(hz.2 s k t).trans (or_congr kJ ⟨λ⟨j,c,x,_,h⟩=>⟨j,c,x,h⟩,λ⟨j,c,x,h⟩=>⟨j,c,x,(gP.1 h.1).1,h⟩⟩)⟩;obtain⟨D1,g⟩:=hz;have hg:=gQ hi;obtain⟨c,hce⟩:∃c,al[i] =c:=⟨_,rfl⟩;rw[hce]at hg;obtain⟨r,⟨q,hq,l,o⟩,hx⟩:=hpl i c hg;refine AS hg (G3 (BV (λn L'=>Dm nk nr nt L'∧ ∀s k t,OT L' s k t↔OT L1 s k t∨ ∃(m:Nat) (x:One),m<n∧c[m]? =some x∧WP R pl[i]? x s k t) (by omega) ⟨D1,λs k t=>⟨.inl,λh=>h.elim id λ⟨m,x,h,_⟩=>by omega⟩⟩ (λn L2 hn hz=> ?_) λL2 hz=>AB ⟨hz.1,λs k t=> ?_⟩))
 ·obtain⟨D2,p⟩:=hz;have hgx:=gQ hn;refine AS hgx ((WQ hq l o hR (hx _ (gO hgx)) D2).mono λL3 f=>⟨f.1,λs k t=> ?_⟩);rw[f.2,p,or_assoc];refine or_congr kJ ⟨λh=> ?_,λ⟨m,x,a,b,d⟩=> ?_⟩
  ·rcases h with⟨m,x,a,b⟩|h
   ·exact⟨m,x,by omega,b⟩
   ·exact⟨n,_,by omega,hgx,h⟩
  ·rcases gS.1 a with a | rfl
   ·exact .inl ⟨m,x,a,b,d⟩
   ·rw[hgx]at b;cases b;exact .inr d
 ·rw[hz.2,g,or_assoc];refine or_congr kJ ⟨λh=> ?_,λ⟨j,c',x,a,b,d,e⟩=> ?_⟩
  ·rcases h with⟨j,c',x,a,b⟩|⟨m,x,_,a,b⟩
   ·exact⟨j,c',x,by omega,b⟩
   ·exact⟨i,c,x,by omega,hg,gO a,b⟩
  ·rcases gS.1 a with a | rfl
   ·exact .inl ⟨j,c',x,a,b,d,e⟩
   ·rw[hg]at b;cases b;obtain⟨m,hm⟩:=gT d;exact .inr ⟨m,x,(gP.1 hm).1,hm,e⟩
end
section
variable {p:dtP}{B:List dtK}{E:List (List Edge)}
structure dJ (p:dtP) (B:List dtK) (E:List (List Edge)) (L:L3):Prop where
 dm:Dm B.length p.2.2.1.length p.1.length L
 cell:∀s k t,s<B.length→(OT L s k t↔k<p.2.2.1.length∧Lk (nT p) p.2.2.1 (KB B) (TrB p B E) s k (t:Int))
theorem Zt (V:VPp p) (H:Fin p B E) (S:Sy p) (G:Gr (nT p) p.2.2.1) (hB:B.length≤1000) {st:Int}(o:p.2.2.1[0]? =some (nT p+(p.2.1.length:Int),[st],0)) (most:Int) (hmost:most≤1000):
 Ok (DQ p (mkW p (yOf B E)) most) λm=>m=none∨ ∃L,m=some (p.1,p.2.1,p.2.2.1,p.2.2.2.1,p.2.2.2.2.1,p.2.2.2.2.2,mkW p (yOf B E),L)∧dJ p B E L:=by
 have hT:=S.t1;have A:=GX V H;refine TL V H S G o most hmost (.inl rfl) λpl al I hal hn=> ?_;have all:∀l q,Pth (TrB p B E) 0 l q→ ∃(j:Nat) (c:List One),al[j]? =some c∧pl[j]? =some (q:Int)∧ ∀x,x∈c↔E0 (nT p) p.2.2.1 l x:=by
  have pre:∀(N:Nat) (l:gM) (q:Nat),l.length=N→Pth (TrB p B E) 0 l q→ ∃c∈al,∀x,x∈c↔E0 (nT p) p.2.2.1 l x:=by
   intro N
   induction N with
   |zero=>intro l q hl _;rw[hZ hl];exact I.zero
   |succ N ih=>
    intro l q hl hp;obtain⟨l',s,rfl⟩:∃l' s,l=l'++ [s]:=⟨l.dropLast,l.getLast (by intro e;subst e;simp at hl),(iU _).symm⟩;obtain⟨n,a,g⟩:=hp.snoc1;obtain⟨c,hc,hm⟩:=ih l' n (by simpa using hl) a;have⟨y,u,i⟩:=A.some_ g;obtain⟨k,d,t,rfl,hcn⟩:=Rt G A _ l' n rfl a y u;have⟨r,hr,hd⟩:=Fm G i (A.st g).2.2.2;have w:=G.right r (gO hr) s (gO hd);have v:=(S.right r (gO hr) s (gO hd)).2;unfold nT at v;exact hn c hc s (by omega) (by omega) l' hm ⟨_,_,E0.mk hcn,i,rfl⟩
  intro l q hp;have⟨c,hc,hm⟩:=pre _ l q rfl hp;obtain⟨j,hj⟩:=gT hc;obtain⟨q',l',b,_,⟨n,rfl,hp'⟩,hm'⟩:=I.at_ j c hj;obtain rfl:=Ud V H G hp hp' λx=>(hm x).symm.trans (hm' x);exact⟨j,c,hj,b,hm⟩
 have hl:=V.few;have hK:(mkW p (yOf B E)).2.2.2.2.2.2.1.length=B.length:=by simp[yOf]
 unfold NN;rw[hK];refine AM (Ue hT.2 (by omega) hB) λL0 f=>AM (Uf rfl (by omega) (λj c hj=> ?_) f.1) λL hL=>AB (.inr ⟨L,rfl,hL.1,λs k t hs=> ?_⟩)
 ·have⟨q,l,b,h⟩:=I.at_ j c hj;have hok:=h.ok V H S G;have hu:=h.1;obtain⟨_,⟨n,rfl,hp⟩,_⟩:=h;exact⟨by have:=IJ V S hok hu;omega,⟨n,b,by omega,by have:n<B.length:=A.at0 A.s0 hp;omega⟩,hok⟩
 ·rw[hL.2];constructor
  ·rintro(h | ⟨j,c,x,hj,hx,a,r,hr,rfl⟩)
   ·exact(f.2 s k t h).elim
   ·obtain⟨q,l,b,_,⟨n,rfl,hp⟩,hm⟩:=I.at_ j c hj;rw[b]at a;obtain rfl:n=s:=by have:=Option.some.inj a;omega
    exact⟨(gP.1 hr).1,bw G A hr ((hm _).1 hx).of hp⟩
  ·rintro⟨hk,h⟩;have⟨l,r,hr,hp,hc⟩:=Yc G A hs h;have⟨j,c,hj,hpj,hm⟩:=all l s hp;exact .inr ⟨j,c,_,hj,(hm _).2 (E0.mk hc),hpj,r,hr,rfl⟩
end
end Go.Proofs.YtkfgeafgfeppfaaGreatDoor

namespace Go.Proofs.YtkfgeafgfeppfaaGreatDoor
open Go Go.Eng Dg
section
variable {p:dtP}{B:List dtK}{E:List (List Edge)}{d:LkD}{tt:Int}
theorem Zu (M:MkI p B E d tt) {s k:Nat}(hk:k<p.2.2.1.length):Ok (NC (some d) (s:Int) (k:Int)) λt=>((∀j,j∈t↔Lk (nT p) p.2.2.1 (KB B) (TrB p B E) s k j)∧t.length≤64000)∧t.Pairwise (· < ·):=by
 have⟨t,a,b⟩:=Zl M (s:=s) hk;refine⟨t,a,b,?_⟩;unfold NC at a;rw[gR]at a;split at a
 ·next x hg=>
  have:=iS a
  cases this;exact List.Pairwise.nil
 ·next x hg=>
  have⟨c,_⟩:=M.lk.some_ _ _ hg;rw[H6 c]at a;cases iS a;exact SY _
end
section
variable {p:dtP}{B:List dtK}{E:List (List Edge)}{d:LkD}{tt:Int}{L:L3}
abbrev loO (p:dtP) (B:List dtK) (E:List (List Edge)) (L:L3):LC:=(p.1,p.2.1,p.2.2.1,p.2.2.2.1,p.2.2.2.2.1,p.2.2.2.2.2,mkW p (yOf B E),L)
def dn (p:dtP) (B:List dtK) (n:Int):gM:=if n<0 then[] else match B[n.toNat]? with
 |some b=>FA p.2.2.1 b.2.1
 |none=>[]
theorem TN {n:Nat}{b:dtK}(hb:B[n]? =some b):dn p B (n:Int)=FA p.2.2.1 b.2.1:=by
 unfold dn;rw[gG (by omega),gY,hb]
theorem Ny {n:Int}(h:Off B n):dn p B n= []:=by
 unfold dn;unfold Off at h;split
 ·rfl
 ·rw[jL (by omega)]
theorem Nz (B:List dtK) (n:Int):Off B n∨ ∃(j:Nat) (b:dtK),n=(j:Int)∧B[j]? =some b:=by
 by_cases h:Off B n
 ·exact .inl h
 ·unfold Off at h;exact .inr ⟨n.toNat,_,by omega,gQ (show n.toNat<B.length by omega)⟩
theorem Qt (H:Fin p B E) {n:Int}(h:Off B n):B4 (DA p B E tt) n=some []:=by
 have⟨x,a,c⟩:=Ua (t:=tt) H n;unfold B4;rw[a];rcases c with⟨j,b,e,rfl,hb,_⟩|⟨_,rfl⟩
 ·have:=(gP.1 hb).1
  unfold Off at h;omega
 ·rfl
theorem cN (M:MkI p B E d tt) (n:Int):Is (some d) n=some (dn p B n):=by
 rcases Nz B n with h | ⟨j,b,rfl,hb⟩
 ·rw[Ny h];obtain⟨p',A',fa,steps,L⟩:=d;obtain⟨H,a,c,hL⟩:=M;dsimp only at H a c hL;subst a;subst c;refine iQ ?_;unfold Is DL;rw[gR];exact AP (Qt H.fin h) (AB rfl)
 ·rw[TN hb];exact WD M hb
theorem Ug (V:VPp p) (H:Fin p B E) (n:Int):Bw (loO p B E L) n=some (dn p B n):=by
 have hI:(loO p B E L).2.2.2.2.2.2.1.2.2.2.2.2.2.2.1=B.map (·.2.1):=rfl;refine iQ ?_;unfold Bw;rw[hI,gW];refine AM (Q:=λc=>(c=true→Off B n)∧(c=false→ ∃(j:Nat) (b:dtK),n=(j:Int)∧B[j]? =some b)) (AR (λh=>AB ⟨λ_=>.inl (gD h),by simp⟩) λh=>AB ⟨λh'=>.inr (by simpa using h'),λh'=> ?_⟩) λc hc=>AR (λh=>AB (Ny (hc.1 h)).symm) λh=> ?_
 ·rcases Nz B n with g | g
  ·have h:=gE h;have h':=gE h';unfold Off at g;omega
  ·exact g
 ·obtain⟨j,b,rfl,hb⟩:=hc.2 h;rw[TN hb];have⟨e,a,f,i,m⟩:=H.good V hb;have hx:(B.map (·.2.1))[j]? =some b.2.1:=by rw[iZ,hb];rfl
  refine Bq (λ(z:Int×gM)=>∃k:Nat,z=((k:Int),FA p.2.2.1 (b.2.1.take k))∧k≤b.2.1.length) (λz=>b.2.1.length - z.1.toNat) (λl=>l=FA p.2.2.1 b.2.1) ⟨0,by simp[FA],iN _⟩ (λz hz=> ?_) λl hl=>AB hl;obtain⟨k,rfl,hk⟩:=hz;refine AS hx (AR (λh=> ?_) λh=>As ?_)
  ·have h:=gD h;dsimp only at h;have hg:=gQ (show k<b.2.1.length by omega);obtain⟨x,hxe⟩:∃x,b.2.1[k]'(by omega)=x:=⟨_,rfl⟩;rw[hxe]at hg;have⟨x0,x1,r,hr,d⟩:=a.ok x (gO hg);have hd:=LB p.2.2.1 (b.2.1.take k);rw[List.length_take]at hd;have hs:b.2.1.take (k+1)=b.2.1.take k++ [x]:=by rw[iP,hg];rfl
   refine AS hx (AS hg (Ck x0 hr (AM (Q:=λz=>z=FA p.2.2.1 (b.2.1.take (k+1))) (AR (λhc=> ?_) λhc=>AB ?_) λz hz=> ?_)))
   ·rw[hs,MU hr,gF (eq_of_beq hc)];exact BI (by dsimp only;simp;omega) (AB rfl)
   ·rw[hs,MU hr,gG (by simpa using hc)]
   ·rw[hz];exact BJ ⟨⟨k+1,iX (w64 (by dsimp only;omega) (by dsimp only;omega)) rfl,by omega⟩,by dsimp only;rw[w64 (by omega) (by omega)];omega⟩
  ·have h:=gE h;dsimp only at h ⊢;rw[jG (by omega)]
theorem Zv {row:List Bool}(h:row.length≤1000):Ok (DX row) λl=>l.Pairwise (· < ·)∧ ∀t,t∈l↔Hs row t:=by
 unfold DX;refine BV (λj (z:gM)=>z.length≤j∧z.Pairwise (· < ·)∧ ∀t,t∈z↔t< (j:Int)∧Hs row t) (by omega) ⟨by simp,.nil,λt=>⟨λh=>(by cases h),λh=>by have:=h.2.1;omega⟩⟩ (λj z hj hz=> ?_) λz hz=>AB ⟨hz.2.1,λt=>(hz.2.2 t).trans ⟨(·.2),λht=>⟨by have:=(gP.1 ht.2).1;have:=ht.1;omega,ht⟩⟩⟩;have hx:=gQ hj;obtain⟨f,c,d⟩:=hz;refine AS hx (AM (Q:=λ(l:gM)=>l.length≤j+1∧l.Pairwise (· < ·)∧ ∀t,t∈l↔t∈z∨(t=(j:Int)∧row[j] =true)) (AR (λh=>BI (by simp;omega) (AB ⟨by simp;omega,jO.2 ⟨c,jE _ _,λa ha b hb=> ?_⟩,λt=>by simp[h]⟩)) λh=>AB ⟨by omega,c,λt=>by simp[h]⟩) λl hl=>AB ⟨hl.1,hl.2.1,λt=> ?_⟩)
 ·rw[gV.1 hb];exact((d a).1 ha).1
 ·rw[hl.2.2,d];constructor
  ·rintro(⟨a,b⟩|⟨rfl,a⟩)
   ·exact⟨by omega,b⟩
   ·exact⟨by omega,by omega,by rw[gY,hx,a]⟩
  ·rintro⟨a,b⟩;by_cases e:t=(j:Int)
   ·subst e
    have:=b.2
    rw[gY,hx]at this;exact .inr ⟨rfl,Option.some.inj this⟩
   ·exact .inl ⟨by omega,b⟩
theorem Zw (M:MkI p B E d tt) (hL:dJ p B E L) (n k:Int):∃t,NC (some d) n k=some t∧CG (loO p B E L) n k=some t∧t.length≤64000:=by
 have hT:=M.all.sy.t1;have hLn:=hL.dm.a;by_cases hin:0≤n∧n< (B.length:Int)∧0≤k∧k< (p.2.2.1.length:Int)
 ·obtain⟨s,rfl⟩:∃s:Nat,n=(s:Int):=⟨n.toNat,by omega⟩;obtain⟨j,rfl⟩:∃j:Nat,k=(j:Int):=⟨k.toNat,by omega⟩;obtain⟨t,f,⟨g,i⟩,q⟩:=Zu M (s:=s) (k:=j) (by omega);refine⟨t,f,iQ ?_,i⟩;unfold CG;dsimp only;have hl:=gQ (show s<L.length by omega);obtain⟨l,hle⟩:∃l,L[s]'(by omega)=l:=⟨_,rfl⟩;rw[hle]at hl;have hll:=hL.dm.b l (gO hl);have hr:=gQ (show j<l.length by omega);obtain⟨row,hre⟩:∃row,l[j]'(by omega)=row:=⟨_,rfl⟩;rw[hre]at hr;have hrl:=hL.dm.c l (gO hl) row (gO hr);refine AM (Q:=λc=>c=false) (Af (gB (by omega)) (Af (gB (by omega)) (Af (gB (by omega)) (AB (gB (by omega)))))) λc hc=>Af hc (AS hl (AS hr (AM (Zv (by omega)) λw hw=>AB ?_)));refine Pa (λx=>Int.lt_irrefl x) (λf g=>Int.lt_trans f g) hw.1 q λx=> ?_;rw[hw.2,g];have hcl:=hL.cell s j x.toNat (by omega);constructor
  ·rintro⟨m,hx⟩
   have:=(hcl.1 ⟨l,row,hl,hr,hx⟩).2
   rwa [iE m]at this
  ·intro h;have m:0≤x:=by
    obtain⟨_,_,_,_,hc⟩:=Yc M.all.gr M.all.aut (by show s<B.length;omega) h;have tt:∀ {l:gM} {k d:Nat} {t:Int},Can (nT p) p.2.2.1 l k d t→0≤t:=λ{l k d t} hc=>by
     induction hc with
     |start=>exact jB _
     | @clos l k d j r r' s t u _ f _ _ _ o ih=>
      rcases o with o | ⟨_,rfl⟩
      ·exact(Pv M.all.sy o λs hs=>(M.all.sy.right _ (gO f) s (iD hs)).1).1
      ·exact ih
     |step _ _ _ ih=>exact ih
    exact tt hc
   obtain⟨l',row',a,b,c⟩:=hcl.2 ⟨by omega,by rw[iE m];exact h⟩;rw[hl]at a;cases a;rw[hr]at b;cases b;exact⟨m,c⟩
 ·refine⟨[],?_,?_,by simp⟩
  ·unfold NC;rw[gR];cases hg:BT (n,k) d.L with
   |none=>rfl
   |some x=>
    obtain⟨_,_,s,k',e,f,g,_⟩:=M.lk.some_ _ _ hg;have v:=(Prod.mk.inj e).1;have y:=(Prod.mk.inj e).2;exact(hin ⟨by omega,by omega,by omega,by omega⟩).elim
  ·refine iQ ?_;unfold CG;dsimp only;refine AM (Q:=λc=>c=true) (AR (λ_=>AB rfl) λf=>AR (λ_=>AB rfl) λg=>AR (λ_=>AB rfl) λi=>AB (gC ?_)) λc hc=>BK hc (AB rfl);have f:=gE f;have g:=gE g;have i:=gE i;omega
end
end Go.Proofs.YtkfgeafgfeppfaaGreatDoor
namespace Go.Proofs.YtkfgeafgfeppfaaGreatDoor
open Go Go.Eng
abbrev S6:Type:=Slc×Slc×Slc×Slc×Slc×Slc
abbrev S5:Type:=Slc×Slc×Slc×Slc×Slc
def PF (φ:AD) (p:RP) (t:S6):Prop:=Ro.SliceIs jP φ t.1 p.1∧Ro.SliceIs jP φ t.2.1 p.2.1∧Ro.SliceIs CI φ t.2.2.1 p.2.2.1∧Ro.SliceIs (hU .i64) φ t.2.2.2.1 p.2.2.2.1∧Ro.SliceIs (hU .i64) φ t.2.2.2.2.1 p.2.2.2.2.1∧Ro.SliceIs jP φ t.2.2.2.2.2 p.2.2.2.2.2
theorem PF.mono {φ ψ:AD}{p:RP}{t:S6}(H:PF φ p t) (h:Sub φ ψ):PF ψ p t:=⟨H.1.mono h,H.2.1.mono h,H.2.2.1.mono h,H.2.2.2.1.mono h,H.2.2.2.2.1.mono h,H.2.2.2.2.2.mono h⟩
abbrev opW (b:Nat) (t:S6) (u:S5) (y:RS Slc) (F:List Chk):List Chk:=
 cW 49 b [sv t.1,sv t.2.1,sv t.2.2.1,sv t.2.2.2.1,sv t.2.2.2.2.1,sv t.2.2.2.2.2,sv u.1,sv u.2.1,sv u.2.2.1,sv u.2.2.2.1,sv u.2.2.2.2,.int .i64 y.2.2.2.2.2]::
 cR 74 (hO BG) u.1 y.1::cR 74 (hO BG) u.2.1 y.2.1::cR 54 kU u.2.2.1 y.2.2.1::cR 3 (hU .i64) u.2.2.2.1 y.2.2.2.1::cR 3 (hU .i64) u.2.2.2.2 y.2.2.2.2.1::F
section
variable {φ:AD}{h:AE}{F:List Chk}
theorem aQ {q:gL}{p:RP}{y:RS Slc}(H:St φ (cO 49 rW q (mkW p y)::F) h):∃(b:Nat) (t:S6) (u:S5),q=some ⟨b,0,none⟩∧PF φ p t∧St φ (opW b t u y F) h:=by
 obtain⟨b,vs,e,_,H⟩:=H.open;have H:=H.at1;obtain⟨_,_,rfl,_,H⟩:=H.pair;obtain⟨⟨t0,rfl,k0⟩,H⟩:=kN H;obtain⟨_,_,rfl,_,H⟩:=H.pair;obtain⟨⟨t1,rfl,a⟩,H⟩:=kN H;obtain⟨_,_,rfl,_,H⟩:=H.pair;obtain⟨⟨t2,rfl,c⟩,H⟩:=kN H;obtain⟨_,_,rfl,_,H⟩:=H.pair;obtain⟨⟨t3,rfl,d⟩,H⟩:=kN H;obtain⟨_,_,rfl,_,H⟩:=H.pair;obtain⟨⟨t4,rfl,f⟩,H⟩:=kN H;obtain⟨_,_,rfl,_,H⟩:=H.pair;obtain⟨⟨t5,rfl,g⟩,H⟩:=kN H;obtain⟨_,_,rfl,_,H⟩:=H.pair;obtain⟨i,j⟩:=H.rowCs;subst j;have H:=H.at1;obtain⟨_,_,rfl,_,H⟩:=H.pair;obtain⟨k,l⟩:=H.rowCs;subst l;have H:=H.at1;obtain⟨_,_,rfl,_,H⟩:=H.pair;obtain⟨m,n⟩:=H.rowCs;subst n;have H:=H.at1;obtain⟨_,_,rfl,_,H⟩:=H.pair;obtain⟨o,r⟩:=H.rowCs;subst r;have H:=H.at1;obtain⟨_,_,rfl,_,H⟩:=H.pair;obtain⟨s,v⟩:=H.rowCs;subst v;have H:=H.at1;obtain⟨rfl,H⟩:=kN H;exact⟨b,(t0,t1,t2,t3,t4,t5),(i,k,m,o,s),by simpa using e,⟨k0,a,c,d,f,g⟩,H.at1.at2.at3.at4.at5⟩
theorem aR {b:Nat}{t:S6}{u:S5}{p:RP}{y:RS Slc}(hp:PF φ p t) (H:St φ (opW b t u y F) h):St φ (cO 49 rW (fH b) (mkW p y)::F) h:=by
 obtain⟨k0,a,c,d,e,f⟩:=hp;have H:=jQ (r:=hU .i64) (cs:=[.int .i64 y.2.2.2.2.2]) (x:=y.2.2.2.2.2) H rfl;have H:=iG H.at6;have H:=iG H.at5;have H:=iG H.at4;have H:=iG H.at3;have H:=iG H.at2;have H:=iG (jQ (r:=hO jP) H ⟨_,rfl,f⟩);have H:=iG (jQ (r:=hO (hU .i64)) H ⟨_,rfl,e⟩);have H:=iG (jQ (r:=hO (hU .i64)) H ⟨_,rfl,d⟩);have H:=iG (jQ (r:=hO CI) H ⟨_,rfl,c⟩);have H:=iG (jQ (r:=hO jP) H ⟨_,rfl,a⟩);have H:=iG (jQ (r:=hO jP) H ⟨_,rfl,k0⟩);exact St.shut H.at1
theorem Zx {α:Type}{r:Ro α}:∀ {S:List Slc}{E:List (List α)}{vs:List Value},S.length=E.length→(∀(j:Nat) s e,S[j]? =some s→E[j]? =some e→Ro.SliceIs r φ s e)→Ro.slc.All φ vs S→(hO r).All φ vs E:=by
 intro S
 induction S with
 |nil=>
  intro E vs hl _ H;cases E with
  |nil=>cases H;exact .nil
  |cons e E=>cases hl
 |cons s S ih=>
  intro E vs hl hq H;cases E with
  |nil=>cases hl
  |cons e E=>
   cases H with
   | @cons a v _ _ hx hr=>
    obtain rfl:=hx;exact Ro.All.cons (a:=[_]) ⟨s,rfl,hq 0 s e rfl rfl⟩ (ih (by simpa using hl) (λj s' e' b c=>hq (j+1) s' e' (by simpa using b) (by simpa using c)) hr)
theorem WR {α:Type}{r:Ro α}{t:Slc}{S:List Slc}{E:List (List α)}(hl:S.length=E.length) (hq:∀(j:Nat) s e,S[j]? =some s→E[j]? =some e→Ro.SliceIs r φ s e) (H:Ro.SliceIs kU φ t S):Ro.SliceIs (hO r) φ t E:=by
 obtain⟨a,b,c,d,vs,f,g⟩:=H;exact⟨hl.symm.trans a,b,c,λhp=>hZ (by rw[←hl,d hp];rfl),vs,Zx hl hq f,g⟩
end
def dK (φ:AD) (a r1:Nat) (t0:S6) (p:RP) (F:List Chk) (i:Nat) (y:RS (List Edge)) (w:AE):Prop:=
 ∃(ψ:AD) (S:List Slc) (t:S6) (u:S5),Sub φ ψ∧PF ψ p t∧S.length=y.1.length∧y.2.2.1.length=y.1.length∧y.2.1.length=y.1.length∧C2 ψ S y.2.2.1 i∧GB S y.2.2.1 i∧
  St ψ (opW a t u (y.1,y.2.1,S,y.2.2.2) (cW 32 r1 [sv t0.1,sv t0.2.1,sv t0.2.2.1,sv t0.2.2.2.1,sv t0.2.2.2.2.1,sv t0.2.2.2.2.2]::F)) w
def RIn (φ:AD) (a r1:Nat) (t0:S6) (p:RP) (F:List Chk) (i:Nat) (I:List Item) (y:RS (List Edge)) (w:AE):Prop:=
 ∃(ψ:AD) (S:List Slc) (t:S6) (u:S5) (s:Slc) (e:List Edge),Sub φ ψ∧PF ψ p t∧S.length=y.1.length∧y.2.2.1.length=y.1.length∧y.2.1.length=y.1.length∧C2 ψ S y.2.2.1 i∧GB S y.2.2.1 (i+1)∧S[i]? =some s∧y.2.2.1[i]? =some e∧y.2.1[i]? =some I∧
  St ψ (opW a t u (y.1,y.2.1,S,y.2.2.2) (cR 79 DR s e::cW 32 r1 [sv t0.1,sv t0.2.1,sv t0.2.2.1,sv t0.2.2.2.1,sv t0.2.2.2.2.1,sv t0.2.2.2.2.2]::F)) w
theorem TO {p:RP}{y y':RS Slc}{k:List Item}{fr wi n:Int}(h:placeG Cv p y k fr wi=some (n,y')):CT (mkW p y) k fr wi=some (n,mkW p y'):=by rw[X4,h];rfl
theorem TP {φ:AD}{S S':List Slc}{E E':List (List Edge)}{K K' I I':List (List Item)}{c i:Nat}(hS:S.length=K.length) (hE:E.length=K.length) (hI:I.length=K.length) (H:C2 φ S E c) (hf:GB S E i) (h:(K'=K∧I'=I∧E'=E∧S'=S)∨ ∃k x,S'=S++ [Cv] ∧E'=E++ [[]] ∧K'=K++ [k] ∧I'=I++ [x]):
 S'.length=K'.length∧E'.length=K'.length∧I'.length=K'.length∧C2 φ S' E' c∧GB S' E' i∧(∀(j:Nat) s,S[j]? =some s→S'[j]? =some s)∧(∀(j:Nat) e,E[j]? =some e→E'[j]? =some e)∧ ∀(j:Nat) b,I[j]? =some b→I'[j]? =some b:=by
 have ap:∀ {α:Type} {l:List α} {x y:α} {j:Nat},l[j]? =some y→(l++ [x])[j]? =some y:=λ{α l x y j} h=>by
  rw[hQ (gP.1 h).1];exact h
 rcases h with⟨rfl,rfl,rfl,rfl⟩|⟨k,x,rfl,rfl,rfl,rfl⟩
 ·exact⟨hS,hE,hI,H,hf,λ_ _ h=>h,λ_ _ h=>h,λ_ _ h=>h⟩
 ·exact⟨by simp[hS],by simp[hE],by simp[hI],H.snoc (by omega),hf.snoc,λ_ _ h=>ap h,λ_ _ h=>ap h,λ_ _ h=>ap h⟩
theorem Qu {p:RP}{K I:List (List Item)}{E:List (List Edge)}{S:List Slc}{F W:gM}{tot:Int}{k:List Item}{fr wi:Int}{n:Int}{y:RS (List Edge)}(hl:S.length=E.length) (h:placeG [] p (K,I,E,F,W,tot) k fr wi=some (n,y)):
 ∃S',placeG Cv p (K,I,S,F,W,tot) k fr wi=some (n,(y.1,y.2.1,S',y.2.2.2))∧((y.1=K∧y.2.1=I∧y.2.2.1=E∧S'=S)∨ ∃k' x,S'=S++ [Cv] ∧y.2.2.1=E++ [[]] ∧y.1=K++ [k'] ∧y.2.1=I++ [x]):=by
 obtain⟨S',a,b⟩:=US hl h;refine⟨S',a,?_⟩;rcases b with⟨rfl,rfl⟩|⟨d,e,c,f,g⟩
 ·exact .inl ⟨rfl,rfl,rfl,rfl⟩
 ·exact .inr ⟨k,c,d,e,f,g⟩
theorem Ru {φ:AD}{h:AE}{F:List Chk}{p_0:Slc×Slc×Slc×Slc×Slc×Slc×Unit}{d0:List gN}{d1:List gN}{d2:List Ax}{d3:gM}{d4:gM}{d5:List gN}{st it:Int}
 (k0:Ro.SliceIs jP φ p_0.1 d0) (k1:Ro.SliceIs jP φ p_0.2.1 d1) (k2:Ro.SliceIs CI φ p_0.2.2.1 d2) (k3:Ro.SliceIs (hU .i64) φ p_0.2.2.2.1 d3) (k4:Ro.SliceIs (hU .i64) φ p_0.2.2.2.2.1 d4) (k5:Ro.SliceIs jP φ p_0.2.2.2.2.2.1 d5) (s0:St φ F h) {r:Option NU} (hd:PZ (d0,d1,d2,d3,d4,d5) st it=some r):
 CallsH jD 8 [(.agg #[.slice p_0.1.1 p_0.1.2.1 p_0.1.2.2,.slice p_0.2.1.1 p_0.2.1.2.1 p_0.2.1.2.2,.slice p_0.2.2.1.1 p_0.2.2.1.2.1 p_0.2.2.1.2.2,.slice p_0.2.2.2.1.1 p_0.2.2.2.1.2.1 p_0.2.2.2.1.2.2,.slice p_0.2.2.2.2.1.1 p_0.2.2.2.2.1.2.1 p_0.2.2.2.2.1.2.2,.slice p_0.2.2.2.2.2.1.1 p_0.2.2.2.2.2.1.2.1 p_0.2.2.2.2.2.1.2.2]),.int .i64 st,.int .i64 it] h (Ap λv h'=>∃ψ:AD,∃y:gL,∃l1:Option NU,Sub φ ψ∧v=fO.val y∧l1=r∧Np Oq ψ y l1∧St ψ F h'):=by
 refine Av mixed Tryz.func8 ?_;rw[I9];unfold GF;unfold PZ at hd;obtain⟨⟨n0,y0⟩,hra,hd⟩:=bS hd;have b4:=k0.length;have b5:=k1.length;refine AV (vs:=[sv p_0.1,sv p_0.2.1,sv p_0.2.2.1,sv p_0.2.2.2.1,sv p_0.2.2.2.2.1,sv p_0.2.2.2.2.2.1]) s0 λr1 h1 L=>AA (x:=p_0.1) L rfl<|AA (x:=p_0.2.1) L rfl<|AA (x:=p_0.2.2.1) L rfl<|AA (x:=p_0.2.2.2.1) L rfl<|AA (x:=p_0.2.2.2.2.1) L rfl<|AA (x:=p_0.2.2.2.2.2.1) L rfl<|AV (vs:=[sv p_0.1,sv p_0.2.1,sv p_0.2.2.1,sv p_0.2.2.2.1,sv p_0.2.2.2.2.1,sv p_0.2.2.2.2.2.1,.slice none 0 0,.slice none 0 0,.slice none 0 0,.slice none 0 0,.slice none 0 0,.int .i64 (0:Int)]) L λa h2 s2=>AV (vs:=[.int .i64 (0:Int),.int .i64 (0:Int)]) s2 λr9 h3 s3=> ?_;have s4:=kT (r:=BG) (l:=[((0:Int),(0:Int))]) (n:=1) s3 (.cons (a:=[_,_]) ⟨[_],_,rfl,rfl,rfl⟩ .nil) rfl (by decide);have⟨ψ1,b6,kk,s5⟩:=iB (t:=(some ⟨r9,0,none⟩,1,1)) s4;have hP:PF φ (d0,d1,d2,d3,d4,d5) (p_0.1,p_0.2.1,p_0.2.2.1,p_0.2.2.2.1,p_0.2.2.2.2.1,p_0.2.2.2.2.2.1):=⟨k0,k1,k2,k3,k4,k5⟩;have s6:St ψ1 (opW a (p_0.1,p_0.2.1,p_0.2.2.1,p_0.2.2.2.1,p_0.2.2.2.2.1,p_0.2.2.2.2.2.1) (Cv,Cv,Cv,Cv,Cv) ([],[],[],[],[],0) (cW 32 r1 [sv p_0.1,sv p_0.2.1,sv p_0.2.2.1,sv p_0.2.2.2.1,sv p_0.2.2.2.2.1,sv p_0.2.2.2.2.2.1]::F)) h3:=
  (((((s5.nil 3 (hU .i64)).nil 3 (hU .i64)).nil 54 kU).nil 74 (hO BG)).nil 74 (hO BG)).at5
 have⟨S0,e0,c6⟩:=Qu (S:=[]) rfl hra;refine AK (D6 kk (aR (hP.mono b6) s6) (TO e0)) ?_;rintro _ h5 ⟨ψ2,h0,h4,c7,rfl,c8,s7⟩;cases c8;refine⟨n0,rfl,?_⟩;have⟨_,t7,u7,c9,d6,s8⟩:=aQ s7;cases c9;have b7:=b6.trans c7;obtain⟨g1,g2,g3,g4,g5,_⟩:=TP (φ:=ψ2) (S:=[]) (E:=[]) (K:=[]) (I:=[]) (c:=0) (i:=0) rfl rfl rfl (λj s e _ h _=>by simp at h) (λj _=>⟨λs h=>by simp at h,λe h=>by simp at h⟩) c6;have⟨g,hg,hd⟩:=bS hd;refine Ag (λ(z:Int×gL×Unit) w (g:Option (RS (List Edge)))=>∃y i,g=some y∧y.1.length≤i∧dK φ a r1 (p_0.1,p_0.2.1,p_0.2.2.1,p_0.2.2.2.1,p_0.2.2.2.2.1,p_0.2.2.2.2.2.1) (d0,d1,d2,d3,d4,d5) F i y w) (g:=g) ?_ ?_
 ·unfold Rg at hg;refine CA hg (λ(z:Int×gL×Unit) w (x:Int×RS (List Edge))=>z.1=x.1∧0≤x.1∧dK φ a r1 (p_0.1,p_0.2.1,p_0.2.2.1,p_0.2.2.2.1,p_0.2.2.2.2.1,p_0.2.2.2.2.2.1) (d0,d1,d2,d3,d4,d5) F x.1.toNat x.2 w) ((0:Int),none,()) rfl ⟨rfl,jB _,ψ2,S0,t7,u7,b7,d6,g1,g2,g3,g4,g5,s8⟩ ?_;rintro⟨i,z2,_⟩ w ⟨_,K,I,E,Fr,W,tot⟩ eo ⟨rfl,X,ψ,S,t,u,le,hPt,hS,hE,hI,hok,hfr,s⟩ hd' hbo;dsimp only at X hS hE hI hok hfr s hd' ⊢;have nK:=St.rowLen s.at1;have nM:=St.rowMax s.at1;refine AA (x:=u.1) s rfl<|AH hd' (by rw[nK]) (λhlt hd'=> ?_) (λhge hd'=> ?_)
  ·have hlt:=gD hlt;obtain⟨m,hm,hd'⟩:=bS hd';refine Aa (λ(z:Bool×Unit) w g=>∃ψ',Sub ψ ψ'∧z.1=g∧St ψ' (opW a t u (K,I,S,Fr,W,tot) (cW 32 r1 [sv p_0.1,sv p_0.2.1,sv p_0.2.2.1,sv p_0.2.2.2.1,sv p_0.2.2.2.2.1,sv p_0.2.2.2.2.2.1]::F)) w) (g:=m) ?_ ?_
   ·unfold Qk at hm;have⟨hh,a5,hm⟩:=bS hm;refine AA (x:=u.1) s rfl<|AK (C4 s a5) ?_;rintro _ w1 ⟨Y,a6,f,rfl,rfl,L⟩;refine⟨a6,rfl,?_⟩;refine AN (jR L rfl)<|AH hm (by rw[nK]) (λ_ hm=> ?_) (λ_ hm=> ?_)
    ·obtain rfl:=iS hm;exact AO (true,()) rfl ⟨Y,f,rfl,L⟩
    ·have⟨h2,a7,hm⟩:=bS hm;refine AA (x:=tot) L rfl<|AK (C4 L a7) ?_;rintro _ w2 ⟨Z,a8,B,rfl,rfl,s2⟩;refine⟨a8,rfl,?_⟩;refine AN (jR s2 rfl) ?_;obtain rfl:=iS hm;exact AO (_,()) rfl ⟨Z,f.trans B,rfl,s2⟩
   rintro⟨m',_⟩ w1 ⟨Y,f,rfl,s9⟩;refine AH hd' rfl (λ_ hd'=> ?_) (λ_ hd'=> ?_)
   ·obtain rfl:=iS hd';obtain rfl:=hbo _ rfl;obtain rfl:=iS hd;exact Aj (Al (AC ⟨Y,none,none,le.trans f,rfl,rfl,kV _ _,s9.tail.tail.tail.tail.tail.tail.tail⟩))
   obtain⟨y2,b8,hd'⟩:=bS hd';obtain rfl:=iS hd';obtain⟨f1,f2⟩:=Sx hfr (by omega) (by omega);have hIi:=gQ (show i.toNat<I.length by omega);obtain⟨Ii,hIe⟩:∃x,I[i.toNat] =x:=⟨_,rfl⟩;rw[hIe]at hIi;have hIx:idx I i=some Ii:=by unfold idx;rw[gF X];exact hIi
   have a9:=(s9.nil 79 DR).at6.at6.at6.at6.at6.at6;refine Ag (λ(z:Int×Unit) w g=>RIn Y a r1 (p_0.1,p_0.2.1,p_0.2.2.1,p_0.2.2.2.1,p_0.2.2.2.2.1,p_0.2.2.2.2.2.1) (d0,d1,d2,d3,d4,d5) F i.toNat Ii g w) (g:=y2) ?_ ?_
   ·unfold Rf at b8;refine By b8 (λj (z:Int×Unit) w y=>z.1=j∧RIn Y a r1 (p_0.1,p_0.2.1,p_0.2.2.1,p_0.2.2.2.1,p_0.2.2.2.2.1,p_0.2.2.2.2.2.1) (d0,d1,d2,d3,d4,d5) F i.toNat Ii y w) ((0:Int),()) rfl ⟨rfl,Y,S,t,u,Cv,[],Sub.refl _,hPt.mono f,hS,hE,hI,hok.mono f,hfr.mono (by omega),f1,f2,hIi,a9⟩ ?_ ?_
    ·rintro _ ⟨j,_⟩ w3 ⟨K3,I3,E3,Fr3,W3,a0⟩ e3 ⟨rfl,Z,S3,t3,u3,s_,el,B,T,M,N,O,C,D,U,P,Q,A⟩ G d7 b9 hw;dsimp only at M N O C D P Q A G d7 b9 hw ⊢;refine AA (x:=p_0.1) A.at7 rfl<|AA (x:=p_0.2.1) A.at7 rfl<|Ac (by rw[b4,b5];exact gC (Int.le_of_lt_add_one b9)) ?_;unfold symR at G;have⟨Ij,hIj,p⟩:=bS G;clear G;have a1:idx I3 i=some Ii:=by unfold idx;rw[gF X];exact Q
     dsimp only at hIj;rw[a1]at hIj;obtain rfl:=Option.some.inj hIj;have⟨k,hk,G⟩:=bS p;clear p;have lef:=(le.trans f).trans B;refine Ag (λ(z:Int×Slc×Unit) w g=>∃ψ',Sub Z ψ'∧Ro.SliceIs BG ψ' z.2.1 g∧St ψ' (opW a t3 u3 (K3,I3,S3,Fr3,W3,a0) (cR 79 DR s_ el::cW 32 r1 [sv p_0.1,sv p_0.2.1,sv p_0.2.2.1,sv p_0.2.2.2.1,sv p_0.2.2.2.2.1,sv p_0.2.2.2.2.2.1]::F)) w) (g:=k) ?_ ?_
     ·unfold ZP at hk;refine By hk (λjj (z:Int×Slc×Unit) w g=>z.1=jj∧ ∃ψ',Sub Z ψ'∧Ro.SliceIs BG ψ' z.2.1 g∧St ψ' (opW a t3 u3 (K3,I3,S3,Fr3,W3,a0) (cR 79 DR s_ el::cW 32 r1 [sv p_0.1,sv p_0.2.1,sv p_0.2.2.1,sv p_0.2.2.2.1,sv p_0.2.2.2.2.1,sv p_0.2.2.2.2.2.1]::F)) w) ((0:Int),Cv,()) rfl ⟨rfl,Z,Sub.refl _,kM _ _,A⟩ ?_ ?_
      ·rintro _ ⟨jj,zk,_⟩ w4 h6 e4 ⟨rfl,ψ5,q,kS,d⟩ p b1 b2 c0;dsimp only at kS p b1 b2 c0 ⊢;have⟨aI,csI,eaI,hiI,qI,clI⟩:=kW d.at2 a1;refine AA (x:=u3.2.1) d rfl<|AF _ eaI (Ah hiI ?_);obtain⟨tI,rfl,kI⟩:=qI;refine AG (x:=tI) (clI 0 _ rfl) rfl<|Ac (by rw[kI.length];exact gC b2)<|AA (x:=u3.2.1) d rfl<|AF _ eaI (Ah hiI ?_);refine AG (x:=tI) (clI 0 _ rfl) rfl ?_;have⟨x,hx,a2⟩:=bS p;clear p;have⟨ax,csx,eax,hix,qx,clx⟩:=kI.get hx;refine AF _ eax (Ah hix ?_);obtain⟨_,_,rfl,rfl,rfl⟩:=qx;refine AG (x:=x.1) (AJ d.sub (clx 0 _ rfl)) rfl<|AG (x:=x.2) (by rw[An];exact AJ d.sub (clx 1 _ rfl)) rfl<|AV (vs:=[.int .i64 (0:Int),.int .i64 (0:Int)]) d λh7 d8 a3=>AQ a3 rfl rfl λh8 H=>AQ H rfl rfl λd9 o=>AA (x:=p_0.1) o.at8 rfl<|AA (x:=p_0.2.1) o.at8 rfl<|AA (x:=p_0.2.2.1) o.at8 rfl<|AA (x:=p_0.2.2.2.1) o.at8 rfl<|AA (x:=p_0.2.2.2.2.1) o.at8 rfl<|AA (x:=p_0.2.2.2.2.2.1) o.at8 rfl<|AA (x:=x.1) o rfl<|AA (x:=x.2) o rfl ?_;have⟨b,hb,p⟩:=bS a2;clear a2;have leg:=lef.trans q;refine AK (Ch (p_0:=p_0) (d_p_0:=(d0,d1,d2,d3,d4,d5)) (x_1:=(x.1,x.2,())) ⟨k0.mono leg,k1.mono leg,k2.mono leg,k3.mono leg,k4.mono leg,k5.mono leg⟩ o hb) ?_;rintro _ e1 ⟨ψ6,e2,R,rfl,rfl,J⟩;refine⟨e2,rfl,?_⟩;refine Aa (λ(z:Slc×Unit) w g=>∃ψ',Sub ψ5 ψ'∧Ro.SliceIs BG ψ' z.1 g∧St ψ' (opW a t3 u3 (K3,I3,S3,Fr3,W3,a0) (cR 79 DR s_ el::cW 32 r1 [sv p_0.1,sv p_0.2.1,sv p_0.2.2.1,sv p_0.2.2.2.1,sv p_0.2.2.2.2.1,sv p_0.2.2.2.2.2.1]::F)) w) (g:=e4) ?_ ?_
       ·refine AH p rfl (λ_ p=> ?_) (λ_ p=> ?_)
        ·refine AA (x:=x.1) J rfl<|AA (x:=x.2) J rfl<|AK (GG (x_1:=(x.1,gX .i64 (x.2+(1:Int)),())) (kS.mono R) J p) ?_;rintro _ e6 ⟨ψ7,c1,_,e7,rfl,rfl,e8,b0⟩;refine⟨c1,rfl,?_⟩;exact AO (c1,()) rfl ⟨ψ7,R.trans e7,e8,b0.tail⟩
        ·obtain rfl:=iS p;exact AO (zk,()) rfl ⟨ψ6,R,kS.mono R,J.tail⟩
       rintro⟨e9,_⟩ h9 ⟨ψ8,f0,f3,f4⟩;exact AZ ((gX .i64 (jj+(1:Int))),e9,()) _ rfl rfl ⟨c0,ψ8,q.trans f0,f3,f4⟩
      ·rintro _ ⟨jj,zk,_⟩ w4 ⟨rfl,ψ5,q,kS,d⟩ c2;have⟨aI,csI,eaI,hiI,qI,clI⟩:=kW d.at2 a1;refine AA (x:=u3.2.1) d rfl<|AF _ eaI (Ah hiI ?_);obtain⟨tI,rfl,kI⟩:=qI;refine AG (x:=tI) (clI 0 _ rfl) rfl<|AU (by rw[kI.length];exact gB (Int.not_lt.2 c2))<|AI (AL (jj,zk,()) rfl ⟨ψ5,q,kS,d⟩)
     rintro⟨i0,kz,_⟩ w4 ⟨ψ5,q,kS,d⟩;refine Aa (λ(z:Unit) w g=>RIn Y a r1 (p_0.1,p_0.2.1,p_0.2.2.1,p_0.2.2.2.1,p_0.2.2.2.2.1,p_0.2.2.2.2.2.1) (d0,d1,d2,d3,d4,d5) F i.toNat Ii g w) (g:=e3) ?_ ?_
     ·refine AH G (by rw[kS.length]) (λ_ G=> ?_) (λ_ G=> ?_)
      ·obtain⟨⟨n3,y3⟩,f5,p⟩:=bS G;clear G;have⟨S4,e5,hG⟩:=Qu (M.trans N.symm) f5;refine AK (D6 kS (aR (T.mono q) d) (TO e5)) ?_;rintro _ d8 ⟨ψ6,i1,i2,R,rfl,f6,a3⟩;cases f6;refine⟨n3,rfl,?_⟩;have⟨_,t4,u4,f7,f8,H⟩:=aQ a3;cases f7;have⟨g1,g2,g3,g4,g5,g6,g7,g8⟩:=TP M N O ((C.mono q).mono R) D hG;have⟨i3,hel,a2⟩:=bS p;clear p;obtain⟨el',hel',c3⟩:=bS a2;clear a2;obtain⟨E',hE',f9⟩:=bS c3;clear c3;obtain rfl:=iS f9;dsimp only at hel hel' hE' g1 g2 g3 g4 g5 g6 g7 g8 H ⊢;have g0:=g6 _ _ U;have g9:=g7 _ _ P;have⟨_,hlE,helx⟩:=CC hel;rw[g9]at helx;obtain rfl:=Option.some.inj helx;have hSx:idx S4 i=some s_:=by unfold idx;rw[gF X];exact g0
       refine AA (x:=u4.2.2.1) H rfl<|AA (x:=u4.2.2.1) H rfl ?_;have⟨aE,csE,eaE,hiE,qE,clE⟩:=kW H.at3 hSx;refine AF _ eaE (Ah hiE ?_);obtain rfl:=qE;refine AG (x:=s_) (clE 0 _ rfl) rfl<|GJ (vs:=[.int .i64 j,.int .i64 n3]) H λi4 d9 keep o=>AN (keep _ _ (clE 0 _ rfl))<|AN (jR o.at1 rfl)<|AN (jR o.at1 rfl)<|AX (r:=DR) (ms:=[(j,n3)]) bK o.tail.at6 rfl (kQ o) (.cons (a:=[_,_]) ⟨[_],_,rfl,rfl,rfl⟩ .nil) rfl hel' λa4 e1 J=>AN (jR J.at1 rfl)<|AF _ eaE (Ah hiE ?_);have hset:DB S4 i a4=some (S4.set i.toNat a4):=by unfold DB;rw[gF ⟨X,by omega⟩]
       refine Ef (r:=kU) J.at4 hset rfl eaE λe6 b0=> ?_;obtain⟨_,_,rfl⟩:=Dr hE';have⟨q1,q2⟩:=X2 (s:=a4) (e:=el') g4 g5;exact AO () rfl ⟨ψ6,S4.set i.toNat a4,t4,u4,a4,el',(B.trans q).trans R,f8,by rw[iL];exact g1,by rw[iL];exact g2,g3,q1,q2,by rw[gU (by omega)],by rw[gU (by omega)],g8 _ _ Q,b0.at6.at6.at2.at6.at6.at6⟩
      ·obtain rfl:=iS G;exact AO () rfl ⟨ψ5,S3,t3,u3,s_,el,B.trans q,T.mono q,M,N,O,C.mono q,D,U,P,Q,d⟩
     rintro _ w5 hR;exact AZ ((gX .i64 (j+(1:Int))),()) _ rfl rfl ⟨hw,hR⟩
    ·rintro _ ⟨j,_⟩ w3 ⟨rfl,Z,S3,t3,u3,s_,el,B,T,M,N,O,C,D,U,P,Q,A⟩ c4;refine AA (x:=p_0.1) A.at7 rfl<|AA (x:=p_0.2.1) A.at7 rfl<|AU (by rw[b4,b5];exact gB (Int.not_le.2 (Int.lt_of_add_one_le c4)))<|AI (AL (j,()) rfl ⟨Z,S3,t3,u3,s_,el,B,T,M,N,O,C,D,U,P,Q,A⟩)
   rintro⟨z1,_⟩ w3 ⟨Z,S3,t3,u3,s_,el,B,T,M,N,O,C,D,U,P,Q,A⟩;have⟨ψ5,q,kE,d⟩:=iB A.at6;dsimp only at nM hlt;have hw:gX .i64 (i+1)=i+1:=w64 (by omega) (by unfold maxLen at nM;omega);have c5:(i+1).toNat=i.toNat+1:=by omega
   refine AZ ((gX .i64 (i+(1:Int))),z2,()) _ rfl rfl ⟨rfl,by rw[hw];omega,ψ5,S3,t3,u3,((le.trans f).trans B).trans q,T.mono q,M,N,O,?_,?_,d⟩
   ·rw[hw,c5];exact X3 (C.mono q) U P kE
   ·rw[hw,c5];exact D
  ·have hge:=gE hge;obtain rfl:=iS hd';obtain rfl:=hbo _ rfl;exact AI (AL (i,z2,()) rfl ⟨_,i.toNat,rfl,by dsimp only;omega,ψ,S,t,u,le,hPt,hS,hE,hI,hok,hfr,s⟩)
 rintro⟨z1,z2,_⟩ w ⟨⟨K,I,E,Fr,W,tot⟩,i,rfl,hi,ψ,S,t,u,le,hPt,hS,hE,hI,hok,hfr,s⟩;dsimp only at hd hi hS hE hI hok hfr s;have nK:=St.rowLen s.at1;have⟨m,hm,hd⟩:=bS hd;refine Aa (λ(z:Bool×Unit) w g=>∃ψ',Sub ψ ψ'∧z.1=g∧St ψ' (opW a t u (K,I,S,Fr,W,tot) (cW 32 r1 [sv p_0.1,sv p_0.2.1,sv p_0.2.2.1,sv p_0.2.2.2.1,sv p_0.2.2.2.2.1,sv p_0.2.2.2.2.2.1]::F)) w) (g:=m) ?_ ?_
 ·unfold Qk at hm;have⟨hh,a5,hm⟩:=bS hm;refine AA (x:=u.1) s rfl<|AK (C4 s a5) ?_;rintro _ w1 ⟨Y,a6,f,rfl,rfl,L⟩;refine⟨a6,rfl,?_⟩;refine AN (jR L rfl)<|AH hm (by rw[nK]) (λ_ hm=> ?_) (λ_ hm=> ?_)
  ·obtain rfl:=iS hm;exact AO (true,()) rfl ⟨Y,f,rfl,L⟩
  ·have⟨h2,a7,hm⟩:=bS hm;refine AA (x:=tot) L rfl<|AK (C4 L a7) ?_;rintro _ w2 ⟨Z,a8,B,rfl,rfl,s2⟩;refine⟨a8,rfl,?_⟩;refine AN (jR s2 rfl) ?_;obtain rfl:=iS hm;exact AO (_,()) rfl ⟨Z,f.trans B,rfl,s2⟩
 rintro⟨m',_⟩ w1 ⟨Y,f,rfl,s9⟩;refine AH hd rfl (λ_ hd=> ?_) (λ_ hd=> ?_)
 ·obtain rfl:=iS hd;exact AC ⟨Y,none,none,le.trans f,rfl,rfl,kV _ _,s9.tail.tail.tail.tail.tail.tail.tail⟩
 obtain rfl:=iS hd;have⟨Z,l4,qK,a9⟩:=iB s9.at1;have⟨ψ5,l5,qI,A⟩:=iB a9.at1;have⟨ψ6,l6,qE,d⟩:=iB A.at1;have⟨ψ7,l7,qF,a3⟩:=iB d.at1;have⟨ψ8,l8,qW,H⟩:=iB a3.at1;have b3:=((l5.trans l6).trans l7).trans l8;have kE:=WR (hS.trans hE.symm) (λj s e h1 h2=>(hok j s e (by have:=(gP.1 h1).1;omega) h1 h2).mono (((f.trans l4).trans l5).trans l6)) qE;have V:=hPt.mono ((f.trans l4).trans b3);have o:=St.shutR (r:=Oq) (x:=(d0,d1,d2,d3,d4,d5,K,I,E,Fr,W,tot)) H ⟨[_],_,rfl,⟨_,rfl,V.1⟩,[_],_,rfl,⟨_,rfl,V.2.1⟩,[_],_,rfl,⟨_,rfl,V.2.2.1⟩,[_],_,rfl,⟨_,rfl,V.2.2.2.1⟩,[_],_,rfl,⟨_,rfl,V.2.2.2.2.1⟩,[_],_,rfl,⟨_,rfl,V.2.2.2.2.2⟩,[_],_,rfl,⟨_,rfl,qK.mono b3⟩,[_],_,rfl,⟨_,rfl,qI.mono ((l6.trans l7).trans l8)⟩,[_],_,rfl,⟨_,rfl,kE.mono (l7.trans l8)⟩,[_],_,rfl,⟨_,rfl,qF.mono l8⟩,[_],_,rfl,⟨_,rfl,qW⟩,rfl⟩;have⟨ψ9,l9,kP,J⟩:=St.freezeR (Wl _) o;exact AC ⟨ψ9,some ⟨a,0,none⟩,some _,(((le.trans f).trans l4).trans b3).trans l9,rfl,rfl,kP,J.tail⟩
noncomputable def DV (small_0:NT):Option Bool:=
 (EO).bind λt2=>
 (CY (small_0.1,small_0.2.1,small_0.2.2.1,small_0.2.2.2.1,small_0.2.2.2.2.1,small_0.2.2.2.2.2.1,small_0.2.2.2.2.2.2) 9 4).bind λm=>
 cond (!m)
 (some t2)
 ((Bb (small_0.1,small_0.2.1,small_0.2.2.1,small_0.2.2.2.1,small_0.2.2.2.2.1,small_0.2.2.2.2.2.1,small_0.2.2.2.2.2.2)).bind λa=>
  (CF (a.1,a.2.1,a.2.2.1,a.2.2.2.1,a.2.2.2.2.1,a.2.2.2.2.2)).bind λn=>
  (PZ (a.1,a.2.1,a.2.2.1,a.2.2.2.1,a.2.2.2.2.1,a.2.2.2.2.2) 300 9000).bind λi=>
  (cond (n.2 !=0)
  (some true)
  (some (jU i))).bind λo=>
  cond o
  (some t2)
  (i.bind λf=>
   (DQ (a.1,a.2.1,a.2.2.1,a.2.2.2.1,a.2.2.2.2.1,a.2.2.2.2.2) f 60).bind λt41=>
   (Cq (small_0.1,small_0.2.1,small_0.2.2.1,small_0.2.2.2.1,small_0.2.2.2.2.1,small_0.2.2.2.2.2.1,small_0.2.2.2.2.2.2)).bind λc=>
   (cond (!c.2.2.2.2.2.2.2.2)
   (some true)
   (cond (jU t41)
    (some true)
    (c.2.2.2.2.2.2.1.bind λj=>
     (B5 j).bind λp=>
     some (p !=(f.2.2.2.2.2.2.1.length:Int))))).bind λq=>
   cond q
   ((cond t2
    (some c.2.2.2.2.2.2.2.2)
    (some false)).bind λr=>
    some r)
   ((loop (σ:=Int) (β:=AW Unit Bool) (-1:Int) λb=>
    cond (decide (b≤(f.2.2.2.2.2.2.1.length:Int)))
    ((Is c.2.2.2.2.2.2.2.1 b).bind λs=>
     t41.bind λe=>
     (Bw e b).bind λt=>
     (Be s t).bind λu=>
     cond (!u)
     (some (iH (iH false)))
     ((loop (σ:=Int) (β:=AW Unit Bool) (-1:Int) λd=>
      cond (decide (d≤(a.2.2.1.length:Int)))
      (((NC c.2.2.2.2.2.2.2.1 b d).bind λv=>
       (CG e b d).bind λw=>
       (Be v w).bind λx=>
       cond (!x)
       (some true)
       ((K7 c.2.2.2.2.2.2.2.1 b d).bind λy=>
        (Bx e b d).bind λz=>
        (DO y z).bind λA=>
        some (!A))).bind λB=>
       cond B
       (some (iH (iH false)))
       (some (iK (gX .i64 (d+1)))))
      (some (iH (iK ())))).bind λg=>match g with
      |.next C=>
       some (iK (gX .i64 (b+1)))
      |.done k=>some (iH (iH k))))
    (some (iH (iK ())))).bind λh=>match h with
    |.next D=>
     some t2
    |.done l=>some l)))
theorem G5 {φ:AD}{h:AE}{F:List Chk}{small_0:Int×Int×Slc×Slc×Slc×Slc×Slc×Unit}{b1:gM}{b2:List gM}{b3:gM}{b4:gM}{b5:gM}(gk:OF φ) (s:Ro.SliceIs (hU .u8) φ small_0.2.2.1 b1) (u:Ro.SliceIs (hO (hU .u8)) φ small_0.2.2.2.1 b2) (w:Ro.SliceIs (hU .u8) φ small_0.2.2.2.2.1 b3) (z:Ro.SliceIs (hU .u8) φ small_0.2.2.2.2.2.1 b4) (a0:Ro.SliceIs (hU .u8) φ small_0.2.2.2.2.2.2.1 b5) (s0:St φ (F) h) {r:Bool}(hd:DV (small_0.1,small_0.2.1,b1,b2,b3,b4,b5)=some r):
 CallsH jD 3 [(.agg #[(.int .u8 small_0.1),(.int .u8 small_0.2.1),(sv small_0.2.2.1),(sv small_0.2.2.2.1),(sv small_0.2.2.2.2.1),(sv small_0.2.2.2.2.2.1),(sv small_0.2.2.2.2.2.2.1)])] h (Ap λv h'=>∃ψ:AD,∃y:Bool,Sub φ ψ∧v=fR.val y∧y=r∧St ψ (F) h'):=by
 refine AY mixed Tryz.func3 (G0 ..)<|AV (vs:=[.int .u8 small_0.1,.int .u8 small_0.2.1,sv small_0.2.2.1,sv small_0.2.2.2.1,sv small_0.2.2.2.2.1,sv small_0.2.2.2.2.2.1,sv small_0.2.2.2.2.2.2.1]) s0 λr1 f1 c2=> ?_;have⟨f2,c3,hd⟩:=bS hd;refine AK (JI gk c2 c3) ?_;rintro _ f3 ⟨f4,t2,f5,rfl,rfl,i⟩;refine⟨t2,rfl,?_⟩;refine AA i rfl<|AA i rfl<|AA i rfl<|AA i rfl<|AA i rfl<|AA i rfl<|AA i rfl ?_;have⟨f6,c4,hd⟩:=bS hd;refine AK (Gk (s_0:=(small_0.1,small_0.2.1,small_0.2.2.1,small_0.2.2.2.1,small_0.2.2.2.2.1,small_0.2.2.2.2.2.1,small_0.2.2.2.2.2.2.1,())) s.up u.up w.up z.up a0.up i c4) ?_;rintro _ f7 ⟨c5,K,f8,rfl,rfl,f⟩;refine⟨K,rfl,?_⟩;refine AH hd rfl (λ_ hd=> ?_) (λ_ hd=> ?_)
 ·obtain rfl:=iS hd;exact AC ⟨c5,t2,sb,rfl,rfl,f.tail⟩
 refine AA f rfl<|AA f rfl<|AA f rfl<|AA f rfl<|AA f rfl<|AA f rfl<|AA f rfl ?_;have⟨f9,c6,hd⟩:=bS hd;refine AK (Dx (s_0:=(small_0.1,small_0.2.1,small_0.2.2.1,small_0.2.2.2.1,small_0.2.2.2.2.1,small_0.2.2.2.2.2.1,small_0.2.2.2.2.2.2.1,())) s.up u.up w.up z.up a0.up f c6) ?_;rintro _ fa ⟨fb,A,b6,b7,b8,b9,ba,bb,fc,rfl,rfl,L,M,o,N,O,P,c7⟩;refine⟨A,rfl,?_⟩;have c8:=o.length;refine AV (vs:=[.slice none 0 0,.slice none 0 0,.slice none 0 0,.slice none 0 0,.slice none 0 0,.slice none 0 0]) c7 λC fd c9=>AQ c9 rfl rfl λfe ch=>AQ ch rfl rfl λff cl=>AQ cl rfl rfl λfg cm=>AQ cm rfl rfl λfh cp=>AQ cp rfl rfl λfi cs=>AQ cs rfl rfl λfj bd=>Bk (t:=A) bd ?_;have⟨fk,cw,hd⟩:=bS hd;refine AK (FS (p_0:=(A.1,A.2.1,A.2.2.1,A.2.2.2.1,A.2.2.2.2.1,A.2.2.2.2.2.1,())) (d_p_0:=(b6,b7,b8,b9,ba,bb)) ⟨L,M,o,N,O,P⟩ bd cw) ?_;rintro _ fl ⟨fm,Q,fn,rfl,rfl,bf⟩;refine⟨Q,rfl,?_⟩;refine Bk (t:=A) bf ?_;have⟨fo,cx,hd⟩:=bS hd;refine AK (Ru (p_0:=(A.1,A.2.1,A.2.2.1,A.2.2.2.1,A.2.2.2.2.1,A.2.2.2.2.2.1,())) L.up M.up o.up N.up O.up P.up bf cx) ?_;rintro _ fp ⟨R,H,fq,fr,rfl,rfl,bg,bi⟩;refine⟨H,rfl,?_⟩;have d0:=bg.nil;have⟨d1,m,hd⟩:=bS hd;refine Aa (λy w_ g=>∃ψ:AD,Sub R ψ∧y.1=g∧St ψ (cW 32 C [sv A.1,sv A.2.1,sv A.2.2.1,sv A.2.2.2.1,sv A.2.2.2.2.1,sv A.2.2.2.2.2.1]::Wq0 r1 small_0::F) w_) (g:=d1) ?_ ?_
 ·refine AH m rfl (λ_ m=> ?_) (λ_ m=> ?_)
  ·have d2:=bi.at1;obtain rfl:=iS m;exact AO (true,()) rfl ⟨R,sb,rfl,d2.at1⟩
  have d3:=bi.at1.at1;obtain rfl:=iS m;exact AO ((jU H),()) rfl ⟨R,sb,(by rw[d0]),d3⟩
 rintro j8 fs ⟨bj,ft,rfl,S⟩;refine AH hd rfl (λ_ hd=> ?_) (λ_ hd=> ?_)
 ·obtain rfl:=iS hd;exact AC ⟨bj,t2,sb,rfl,rfl,S.tail.tail⟩
 refine Bk (t:=A) S ?_;have⟨fu,d4,hd⟩:=bS hd;have T:=((bg.up (ψ:=bj))).get d4;have⟨fv,d5,hd⟩:=bS hd;refine AK (Lj (p_0:=(A.1,A.2.1,A.2.2.1,A.2.2.2.1,A.2.2.2.2.1,A.2.2.2.2.2.1,())) (d_p_0:=(b6,b7,b8,b9,ba,bb)) ⟨L.up,M.up,o.up,N.up,O.up,P.up⟩ T S d5) ?_;rintro _ fw ⟨fx,U,fy,fz,rfl,rfl,bl,j⟩;refine⟨U,rfl,?_⟩;have d6:=bl.nil;refine AA j.at1 rfl<|AA j.at1 rfl<|AA j.at1 rfl<|AA j.at1 rfl<|AA j.at1 rfl<|AA j.at1 rfl<|AA j.at1 rfl ?_;have⟨g0,d7,hd⟩:=bS hd;refine AK (Fb (small_0:=(small_0.1,small_0.2.1,small_0.2.2.1,small_0.2.2.2.1,small_0.2.2.2.2.1,small_0.2.2.2.2.2.1,small_0.2.2.2.2.2.2.1,())) (gk.mono sb) s.up u.up w.up z.up a0.up j d7) ?_;rintro _ g1 ⟨V,B,g2,g3,g4,g5,g6,g7,g8,k,g9,rfl,rfl,ga,gb,gc,gd,ge,gf,d8,d9⟩;refine⟨B,rfl,?_⟩;refine AV (vs:=[.slice none 0 0,.slice none 0 0,.slice none 0 0,.slice none 0 0,.slice none 0 0,.slice none 0 0]) d9 λD gg da=>AQ da rfl rfl λgh db=>AQ db rfl rfl λgi dc=>AQ dc rfl rfl λgj dd=>AQ dd rfl rfl λgl de=>AQ de rfl rfl λgm df=>AQ df rfl rfl λgn p=> ?_;have⟨dg,d,hd⟩:=bS hd;refine Aa (λy w_ g=>∃ψ:AD,Sub V ψ∧y.1=g∧St ψ (cW 32 D [sv B.1.1,sv B.1.2.1,sv B.1.2.2.1,sv B.1.2.2.2.1,sv B.1.2.2.2.2.1,sv B.1.2.2.2.2.2.1]::⟨E9,[.pointer B.2.2.1],k⟩::cW 32 C [sv A.1,sv A.2.1,sv A.2.2.1,sv A.2.2.2.1,sv A.2.2.2.2.1,sv A.2.2.2.2.2.1]::Wq0 r1 small_0::F) w_) (g:=dg) ?_ ?_
 ·refine AH d rfl (λ_ d=> ?_) (λ_ d=> ?_)
  ·have dh:=p.at3;obtain rfl:=iS d;exact AO (true,()) rfl ⟨V,sb,rfl,dh.at3.at3.at3⟩
  refine AH d (by rw[d6] <;>rfl) (λ_ d=> ?_) (λ_ d=> ?_)
  ·have di:=p.at3;obtain rfl:=iS d;exact AO (true,()) rfl ⟨V,sb,rfl,di.at3.at3.at3⟩
  obtain⟨go,gp,dj,⟨_,_,rfl,⟨gq,rfl,gr⟩,_,_,rfl,⟨gs,rfl,gt⟩,_,_,rfl,⟨gu,rfl,gv⟩,_,_,rfl,⟨gw,rfl,gx⟩,_,_,rfl,⟨gy,rfl,gz⟩,_,_,rfl,⟨h0,rfl,h1⟩,_,_,rfl,⟨bn,rfl,dk⟩,_,_,rfl,⟨h2,rfl,h3⟩,_,_,rfl,⟨h4,rfl,h5⟩,_,_,rfl,⟨h6,rfl,h7⟩,_,_,rfl,⟨h8,rfl,h9⟩,rfl⟩,bp⟩:=id T;have dl:=dk.length;refine AF _ dj<|AG (x:=bn) (AJ (Sub.trans sb p.sub) (bp.at 6 rfl)) rfl ?_;have⟨hb,dm,d⟩:=bS d;have⟨hc,dn,d⟩:=bS d;refine AK (Co ((d8).get dm) p dn) ?_;rintro _ he ⟨dp,I,hf,rfl,rfl,bq⟩;refine⟨I,rfl,?_⟩;refine AN (AJ (Sub.trans sb bq.sub) (bp.at 6 rfl)) ?_;have dq:=bq.at3.at3.at3.at3;obtain rfl:=iS d;exact AO ((I !=(bn.2.1:Int)),()) rfl ⟨dp,sb,(by rw[dl]),dq⟩
 rintro j9 hg ⟨l,hh,rfl,ad⟩;refine AH hd rfl (λ_ hd=> ?_) (λ_ hd=> ?_)
 ·have⟨dr,n,hd⟩:=bS hd;refine Aa (λy w_ g=>∃ψ:AD,Sub l ψ∧y.1=g∧St ψ (cW 32 D [sv B.1.1,sv B.1.2.1,sv B.1.2.2.1,sv B.1.2.2.2.1,sv B.1.2.2.2.2.1,sv B.1.2.2.2.2.2.1]::⟨E9,[.pointer B.2.2.1],k⟩::cW 32 C [sv A.1,sv A.2.1,sv A.2.2.1,sv A.2.2.2.1,sv A.2.2.2.2.1,sv A.2.2.2.2.2.1]::Wq0 r1 small_0::F) w_) (g:=dr) ?_ ?_
  ·refine AH n rfl (λ_ n=> ?_) (λ_ n=> ?_)
   ·have ds:=ad.at3;obtain rfl:=iS n;exact AO (B.2.2.2.1,()) rfl ⟨l,sb,rfl,ds.at3.at3.at3⟩
   obtain rfl:=iS n;exact AO (false,()) rfl ⟨l,sb,rfl,ad.at3.at3.at3.at3⟩
  rintro W hi ⟨dt,hj,rfl,du⟩;obtain rfl:=iS hd;exact AC ⟨dt,W.1,sb,rfl,rfl,du.tail.tail.tail.tail⟩
 have⟨dv,dw,hd⟩:=bS hd;refine Ag (λy w_ g=>∃ψ:AD,Sub l ψ∧iK ()=g∧St ψ (cW 32 D [sv B.1.1,sv B.1.2.1,sv B.1.2.2.1,sv B.1.2.2.2.1,sv B.1.2.2.2.2.1,sv B.1.2.2.2.2.2.1]::⟨E9,[.pointer B.2.2.1],k⟩::cW 32 C [sv A.1,sv A.2.1,sv A.2.2.1,sv A.2.2.2.1,sv A.2.2.2.2.1,sv A.2.2.2.2.2.1]::Wq0 r1 small_0::F) w_) (g:=dv) ?_ ?_
 ·refine CA dw (λy w_ g=>∃ψ:AD,Sub l ψ∧y.1=g∧St ψ (cW 32 D [sv B.1.1,sv B.1.2.1,sv B.1.2.2.1,sv B.1.2.2.2.1,sv B.1.2.2.2.2.1,sv B.1.2.2.2.2.2.1]::⟨E9,[.pointer B.2.2.1],k⟩::cW 32 C [sv A.1,sv A.2.1,sv A.2.2.1,sv A.2.2.2.1,sv A.2.2.2.2.1,sv A.2.2.2.2.2.1]::Wq0 r1 small_0::F) w_) ((-1:Int),false,()) rfl ⟨l,sb,rfl,ad.at3.at3.at3.at3⟩ ?_
  ·rintro E hk _ _ ⟨dx,hl,rfl,al⟩ a ap;refine pfR To T al λhm dy=> ?_;have dz:=dy.length;refine AH a (by rw[dz] <;>rfl) (λ_ a=> ?_) (λ_ a=> ?_)
   ·have e0:=al.at1;have⟨hn,e1,a⟩:=bS a;refine AK (PT e0 e1) ?_;rintro _ ho ⟨e2,X,hp,hq,rfl,rfl,e3,e4⟩;refine⟨X,rfl,?_⟩;have⟨hr,e5,a⟩:=bS a;have ax:=((bl.up (ψ:=e2))).get e5;have⟨hs,e6,a⟩:=bS a;refine AK (D8 ax e4 e6) ?_;rintro _ ht ⟨hu,Y,hv,hw,rfl,rfl,e7,e8⟩;refine⟨Y,rfl,?_⟩;have⟨hx,e9,a⟩:=bS a;refine AK (C3 e3.up e7 e8 e9) ?_;rintro _ hy ⟨q,Z,hz,rfl,rfl,bs⟩;refine⟨Z,rfl,?_⟩;refine AH a rfl (λ_ a=> ?_) (λ_ a=> ?_)
    ·obtain rfl:=iS a;obtain rfl:=ap _ rfl;obtain rfl:=iS hd;exact Aj (Al (AC ⟨q,false,sb,rfl,rfl,bs.tail.tail.tail.tail⟩))
    have⟨ea,eb,a⟩:=bS a;refine Ag (λy w_ g=>∃ψ:AD,Sub q ψ∧iK ()=g∧St ψ (⟨E9,[.pointer B.2.2.1],k⟩::cW 32 D [sv B.1.1,sv B.1.2.1,sv B.1.2.2.1,sv B.1.2.2.2.1,sv B.1.2.2.2.2.1,sv B.1.2.2.2.2.2.1]::cW 32 C [sv A.1,sv A.2.1,sv A.2.2.1,sv A.2.2.2.1,sv A.2.2.2.2.1,sv A.2.2.2.2.2.1]::Wq0 r1 small_0::F) w_) (g:=ea) ?_ ?_
    ·refine CA eb (λy w_ g=>∃ψ:AD,Sub q ψ∧y.1=g∧St ψ (⟨E9,[.pointer B.2.2.1],k⟩::cW 32 D [sv B.1.1,sv B.1.2.1,sv B.1.2.2.1,sv B.1.2.2.2.1,sv B.1.2.2.2.2.1,sv B.1.2.2.2.2.2.1]::cW 32 C [sv A.1,sv A.2.1,sv A.2.2.1,sv A.2.2.2.1,sv A.2.2.2.2.1,sv A.2.2.2.2.2.1]::Wq0 r1 small_0::F) w_) ((-1:Int),E.2.1,()) rfl ⟨q,sb,rfl,bs.at3.at3.at3.at3⟩ ?_
     ·rintro G i0 _ _ ⟨bt,i1,rfl,b0⟩ e bx;refine AA b0.at2 rfl<|AH e (by rw[c8] <;>rfl) (λ_ e=> ?_) (λ_ e=> ?_)
      ·have⟨ec,c,e⟩:=bS e;refine Aa (λy w_ g=>∃ψ:AD,Sub bt ψ∧y.1=g∧St ψ (⟨E9,[.pointer B.2.2.1],k⟩::cW 32 D [sv B.1.1,sv B.1.2.1,sv B.1.2.2.1,sv B.1.2.2.2.1,sv B.1.2.2.2.2.1,sv B.1.2.2.2.2.2.1]::cW 32 C [sv A.1,sv A.2.1,sv A.2.2.1,sv A.2.2.2.1,sv A.2.2.2.2.1,sv A.2.2.2.2.2.1]::Wq0 r1 small_0::F) w_) (g:=ec) ?_ ?_
       ·have⟨i2,ed,c⟩:=bS c;refine AK (Sw (gk.b.mono sb) b0 ed) ?_;rintro _ i3 ⟨i4,j2,i5,i6,rfl,rfl,ee,ef⟩;refine⟨j2,rfl,?_⟩;have⟨i7,eg,c⟩:=bS c;refine AK (HC ax.up ef eg) ?_;rintro _ i8 ⟨i9,j3,ia,ib,rfl,rfl,eh,ei⟩;refine⟨j3,rfl,?_⟩;have⟨ic,ej,c⟩:=bS c;refine AK (C3 ee.up eh ei ej) ?_;rintro _ ie ⟨ek,j4,ig,rfl,rfl,bz⟩;refine⟨j4,rfl,?_⟩;refine AH c rfl (λ_ c=> ?_) (λ_ c=> ?_)
        ·have el:=bz.at3;obtain rfl:=iS c;exact AO (true,()) rfl ⟨ek,sb,rfl,el.at3.at3.at3⟩
        have⟨ih,em,c⟩:=bS c;refine AK (PU bz em) ?_;rintro _ ii ⟨ij,j5,ik,il,rfl,rfl,en,eo⟩;refine⟨j5,rfl,?_⟩;have⟨im,ep,c⟩:=bS c;refine AK (GY ax.up eo ep) ?_;rintro _ io ⟨ip,j6,iq,ir,rfl,rfl,er,es⟩;refine⟨j6,rfl,?_⟩;have⟨it,eu,c⟩:=bS c;refine AK (JD en.up er es eu) ?_;rintro _ iu ⟨ev,J,iv,rfl,rfl,ew⟩;refine⟨J,rfl,?_⟩;obtain rfl:=iS c;exact AO ((!J),()) rfl ⟨ev,sb,rfl,ew.at3.at3.at3.at3⟩
       rintro k0 iw ⟨c0,ix,rfl,c1⟩;refine AH e rfl (λ_ e=> ?_) (λ_ e=> ?_)
       ·obtain rfl:=iS e;obtain rfl:=bx _ rfl;obtain rfl:=iS a;obtain rfl:=ap _ rfl;obtain rfl:=iS hd;exact Aj (Al (Aj (Al (AC ⟨c0,false,sb,rfl,rfl,c1.tail.tail.tail.tail⟩))))
       obtain rfl:=iS e;exact AZ ((wN G.1),G.2.1,()) _ rfl rfl ⟨c0,sb,rfl,c1.at3.at3.at3.at3⟩
      obtain rfl:=iS e;obtain rfl:=bx _ rfl;exact AI (AL (G.1,G.2.1,()) rfl ⟨bt,sb,rfl,b0.at3.at3.at3.at3⟩)
    rintro j7 iy ⟨ex,iz,rfl,ey⟩;obtain rfl:=iS a;exact AZ ((wN E.1),j7.2.1,()) _ rfl rfl ⟨ex,sb,rfl,ey.at3.at3.at2.at3⟩
   obtain rfl:=iS a;obtain rfl:=ap _ rfl;exact AI (AL (E.1,E.2.1,()) rfl ⟨dx,sb,rfl,al.at3.at3.at3.at3⟩)
 rintro k1 j0 ⟨ez,j1,rfl,f0⟩;obtain rfl:=iS hd;exact AC ⟨ez,t2,sb,rfl,rfl,f0.tail.tail.tail.tail⟩
end Go.Proofs.YtkfgeafgfeppfaaGreatDoor
namespace Go.Proofs.YtkfgeafgfeppfaaGreatDoor
open Go Go.Eng Dg
section
variable {p:dtP}{B:List dtK}{E:List (List Edge)}{d:LkD}{tt:Int}{L:L3}
noncomputable def way (p:dtP) (B:List dtK) (E:List (List Edge)) (r:Ax) (n:Int) (i:Nat):List Edge:=if goF p B E (i:Int) r.1≥0∧OL p B E (i:Int) r.2.1=n then[(r.1,goF p B E (i:Int) r.1)] else[]
noncomputable def Ll (p:dtP) (B:List dtK) (E:List (List Edge)) (r:Ax) (n:Int) (m:Nat):List Edge:=(jV m).flatMap (way p B E r n)
theorem TQ (r:Ax) (n:Int) (m:Nat):(Ll p B E r n m).length≤m:=by
 induction m with
 |zero=>simp[Ll]
 |succ m ih=>
  unfold Ll at ih ⊢;rw[List.range_succ,jS,iF]
  have:((way p B E r n m)).length≤1:=by unfold way;split<;>simp
  simp only[List.flatMap_cons,List.flatMap_nil,iT];omega
theorem Yi {γ:Type}{P:γ→Prop}{k:List Edge→Option γ}{r:Ax}{n:Int}{m:Nat}(hm:m≤1000) {g:Option Int}{w:Option Int}(hg:g=some (goF p B E (m:Int) r.1)) (hw:w=some (OL p B E (m:Int) r.2.1)) (hk:Ok (k (Ll p B E r n (m+1))) P):
 Ok (g.bind λt=>(cond (decide (t≥ (0:Int))) (w.bind λx=>some (x==n)) (some false)).bind λz=>(cond z ((app (Ll p B E r n m) [(r.1,t)]).bind λt=>some t) (some (Ll p B E r n m))).bind k) P:=by
 have hl:=TQ (p:=p) (B:=B) (E:=E) r n m;have hs:Ll p B E r n (m+1)=Ll p B E r n m++way p B E r n m:=by
  unfold Ll;rw[List.range_succ,jS];simp
 rw[hs]at hk;rw[hg,hw];unfold way at hk;rw[gR];refine AM (Q:=λc=>c=true↔goF p B E (m:Int) r.1≥0∧OL p B E (m:Int) r.2.1=n) (AR (λh=> ?_) λh=>AB ⟨by simp,λh'=>by have h:=gE h;exact gI h'.1 h⟩) λc hc=> ?_
 ·rw[gR];refine AB ⟨λg=>⟨gD h,eq_of_beq g⟩,λg=>by rw[g.2];simp⟩
 ·refine AM (Q:=λz=>z=Ll p B E r n m++if goF p B E (m:Int) r.1≥0∧OL p B E (m:Int) r.2.1=n then[(r.1,goF p B E (m:Int) r.1)] else[]) (AR (λh=> ?_) λh=>AB ?_) λz hz=>by rw[hz];exact hk
  ·rw[gF (hc.1 h)];exact BI (by simp;omega) (AB rfl)
  ·rw[gG λg=>by rw[hc.2 g]at h;cases h];simp
theorem cP (M:MkI p B E d tt) {n k:Int}:k∈dn p B n↔∃(j k':Nat) (b:dtK) (r:Ax),n=(j:Int)∧B[j]? =some b∧k=(k':Int)∧p.2.2.1[k']? =some r∧It p.2.2.1 (KB B) j k' r.2.1.length:=by
 rcases Nz B n with h | ⟨j,b,rfl,hb⟩
 ·rw[Ny h];refine⟨λh=>(by cases h),λ⟨j,k',b,r,e,hb,_⟩=> ?_⟩
  have:=(gP.1 hb).1
  unfold Off at h;omega
 ·rw[TN hb,YP M hb];refine⟨λ⟨k',r,h⟩=>⟨j,k',b,r,rfl,hb,h⟩,λ⟨j',k',b',r,e,hb',h⟩=> ?_⟩;obtain rfl:j=j':=by omega
  exact⟨k',r,h⟩
theorem WS (M:MkI p B E d tt) (n k:Int):∃w,K7 (some d) n k=some w∧Bx (loO p B E L) n k=some w∧w.length≤1000:=by
 have V:=M.all.vp;have H:=M.all.fin;have hB:=M.all.few;have hmem:=cP M (n:=n) (k:=k);have hdl:(dn p B n).length≤10100:=by
  rcases Nz B n with h | ⟨j,b,rfl,hb⟩
  ·rw[Ny h];simp
  ·rw[TN hb]
   have:=LB p.2.2.1 b.2.1
   have:=(H.good V hb).2.2.2.2
   omega
 have hS:Ok (BN (lkT d.p d.A d.fa d.steps none none) n k) λc=>c=true↔k∈dn p B n:=by
  obtain⟨p',A',fa,steps,L⟩:=d;obtain⟨H',a,f,hL⟩:=M;dsimp only at H' a f hL;subst a;subst f;by_cases hk:0≤k∧k< (p'.2.2.1.length:Int)
  ·obtain⟨k',rfl⟩:∃k':Nat,k=(k':Int):=⟨k.toNat,by omega⟩;have hr:=gQ (show k'<p'.2.2.1.length by omega);rcases Nz B n with h | ⟨j,b,rfl,hb⟩
   ·unfold BN;rw[Ny h];refine AM (Q:=λc=>c=false) (Af (gB (by omega)) (AB (gB (by dsimp only;omega)))) λc hc=>Af hc (AS hr (AP (Qt H h) (AP (KS (by simp)) (AB ?_))));simp
   ·refine(Rk H' (gP.1 hb).1 hr).mono λc hc=>hc.trans ⟨λh=>hmem.2 ⟨j,k',b,_,rfl,hb,rfl,hr,h⟩,λh=> ?_⟩;obtain⟨j',o,b',r,a,hb',f,hr',h⟩:=hmem.1 h;obtain rfl:j=j':=by omega
    obtain rfl:k'=o:=by omega
    rw[hr]at hr';cases hr';exact h
  ·unfold BN;refine AM (Q:=λc=>c=true) (AR (λ_=>AB rfl) λh=>AB (gC ?_)) λc hc=>BK hc (AB ⟨(λh=>by cases h),λh=> ?_⟩)
   ·have h:=gE h;dsimp only;omega
   ·obtain⟨j',o,b',r,a,hb',f,hr',h⟩:=hmem.1 h
    have:=(gP.1 hr').1
    exact(hk ⟨by omega,by omega⟩).elim
 have hR:Ok (forS (σ:=Bool) (0:Int) (((dn p B n).length:Nat):Int) false λi z=>(cond z (some true) ((idx (dn p B n) i).bind λe=>some (e==k))).bind λz=>some z) λc=>c=true↔k∈dn p B n:=by
  refine G3 (BV (λm c=>c=true↔∃j:Nat,j<m∧(dn p B n)[j]? =some k) (by omega) ⟨λh=>(by cases h),λ⟨j,h,_⟩=>by omega⟩ (λm c hm hc=> ?_) λc hc=>AB (hc.trans ⟨λ⟨j,_,h⟩=>gO h,λh=> ?_⟩))
  ·have hx:=gQ hm;refine AM (Q:=λz=>z=true↔∃j:Nat,j<m+1∧(dn p B n)[j]? =some k) (AR (λh=>AB ⟨λ_=> ?_,λ_=>rfl⟩) λh=>AS hx (AB ?_)) λz hz=>AB hz
   ·have⟨j,q,l⟩:=hc.1 h;exact⟨j,by omega,l⟩
   ·constructor
    ·intro e;exact⟨m,by omega,by rw[hx,eq_of_beq e]⟩
    ·rintro⟨j,q,l⟩;rcases gS.1 q with g | rfl
     ·have:=hc.2 ⟨j,g,l⟩
      rw[h]at this;cases this
     ·rw[hx]at l;rw[Option.some.inj l];simp
  ·obtain⟨j,hj⟩:=gT h;exact⟨j,(gP.1 hj).1,hj⟩
 by_cases hin:k∈dn p B n
 ·obtain⟨j,k',b,r,rfl,hb,rfl,hr,_⟩:=hmem.1 hin;have hsh:=M.all.sy.short r (gO hr);refine⟨Ll p B E r (j:Int) B.length,iQ ?_,iQ ?_,by have:=TQ (p:=p) (B:=B) (E:=E) r (j:Int) B.length;omega⟩
  ·unfold K7 DM;rw[gR];refine AM hS λc hc=>Af (by rw[hc.2 hin];rfl) ?_;obtain⟨p',A',fa,steps,L⟩:=d;obtain⟨H',a,f,hL⟩:=M;dsimp only at H' a f hL;subst a;subst f;refine AS hr (AP (Pc H) ?_);refine BV (λi w=>w=Ll p' B E r (j:Int) i) (by omega) (by simp[Ll]) (λi w hi hw=> ?_) λw hw=>AB hw;subst hw;exact Yi (by omega) (aO V H _ _) (iQ (cH V H _ (by omega))) (AB rfl)
  ·unfold Bx;have hK:(loO p B E L).2.2.2.2.2.2.1.2.2.2.2.2.2.1.length=B.length:=by simp[yOf]
   rw[Ug V H];refine AP rfl (AM hR λc hc=>Af (by rw[hc.2 hin];rfl) (AS hr ?_));rw[hK];refine Bq (λ(z:Int×List Edge)=>∃i:Nat,z=((i:Int),Ll p B E r (j:Int) i)∧i≤B.length) (λz=>B.length - z.1.toNat) (λw=>w=Ll p B E r (j:Int) B.length) ⟨0,by simp[Ll],iN _⟩ (λz hz=> ?_) λw hw=>AB hw;obtain⟨i,rfl,hi⟩:=hz;refine AR (λh=> ?_) λh=>As ?_
   ·have h:=gD h;dsimp only at h;refine Yi (p:=p) (B:=B) (E:=E) (r:=r) (n:=(j:Int)) (m:=i) (by omega) (aN V H _ _) (iQ (cI V H _ (by omega))) (BJ ⟨⟨i+1,iX (w64 (by dsimp only;omega) (by dsimp only;omega)) rfl,by omega⟩,by dsimp only;rw[w64 (by omega) (by omega)];omega⟩)
   ·have h:=gE h;dsimp only at h;obtain rfl:i=B.length:=by omega
    rfl
 ·refine⟨[],iQ ?_,iQ ?_,by simp⟩
  ·unfold K7 DM;rw[gR];refine AM hS λc hc=>BK ?_ (AB rfl);cases c
   ·rfl
   ·exact gI (hc.1 rfl) hin
  ·unfold Bx;rw[Ug V H];refine AP rfl (AM hR λc hc=>BK ?_ (AB rfl));cases c
   ·rfl
   ·exact gI (hc.1 rfl) hin
end
theorem aT (l:gM) (h:l.length≤9223372036854775807):Be l l=some true:=by
 have:Be l l=some (decide (l=l)):=by
  unfold Be;refine Pb (α:=Int) (e:=λx y=>x==y) ?_ ?_ ?_ l l h
  ·exact λx y=>by simp
  ·rfl
  ·exact λ_=>rfl
 rw[this];simp
theorem cQ (l:List Edge) (h:l.length≤9223372036854775807):DO l l=some true:=by rw[V8 l l h];simp
theorem TR {f:Int→Option (AW Int (AW Unit Bool))}{n:Nat}{γ:Type}{P:γ→Prop}{k:AW Unit Bool→Option γ}(hn:n≤1000000) (hf:∀z:Int, -1≤z→z≤(n:Int)→f z=some (.next (z+1))) (he:f ((n:Int)+1)=some (.done (.next ()))) (hk:Ok (k (.next ())) P):Ok ((loop (-1:Int) f).bind k) P:=by
 refine Bq (λz=> -1≤z∧z≤(n:Int)+1) (λz=>(n+1 - z).toNat) (λe=>e= .next ()) ⟨by omega,by omega⟩ (λz hz=> ?_) λe he=>by rw[he];exact hk
 by_cases h:z≤(n:Int)
 ·rw[hf z hz.1 h];exact BJ ⟨⟨by omega,by omega⟩,by omega⟩
 ·obtain rfl:z=(n:Int)+1:=by omega
  rw[he];exact As rfl
theorem QB {s:NT}(G:SmG s):DV s=some true:=by
 refine iQ ?_;unfold DV;refine AP UV (AM (ar G 9 4) λb hb=>AR (λ_=>AB rfl) λhb'=> ?_);have F:=hb (by simpa using hb');have F':SmF 12 5 s:=⟨by have:=F.lefts;omega,F.assocs,λl hl=>by have:=F.rights l hl;omega⟩;have⟨R,g,p,nt,nl,i,hp,hmd⟩:=Zk G F';refine AP i ?_;have S:=YN hp;have V:=hp.vp;have⟨e,a,he⟩:=TD S;refine AP a (AM (WN V (cF hp) hp.pos 300 9000) λro hro=> ?_);refine AM (Q:=λc=>c=false→e.2=0∧ro.isNone=false) (AR (λh=>AB (by simp)) λh=>AB λh'=>⟨by simpa using h,h'⟩) λc hc=>AR (λ_=>AB rfl) λh=> ?_;have⟨f,hsome⟩:=hc h;rcases hro with⟨n,k,r,rfl⟩|⟨rfl,_⟩
 rotate_left
 ·cases hsome
 have H:=X5 V hp.pos k;have hB:(stM p n).1.length≤300:=by
  have:=r.1
  have e:held 300=300:=by decide
  omega
 refine AP rfl ?_;have Gr:=aK hp (he f);obtain⟨st,v⟩:∃st,p.2.2.1[0]? =some (nT p+(p.2.1.length:Int),[st],0):=by
  obtain⟨st,T,U,x⟩:=hp.first;refine⟨st,?_⟩;rw[x]
  have:=hp.terms.len
  unfold nT;congr 2;omega
 refine AM (Zt V H S Gr (by omega) v 60 (by omega)) λm hm=>AP g ?_;rcases hmd with⟨hf,hbad⟩|⟨hf,n',d,tt,A,W,o,C,M⟩
 ·exfalso;rcases hbad with⟨e',u,D⟩|⟨n',q⟩
  ·rw[a]at u;cases u;exact D f
  ·exact q (Zr k r n')
 have e:stM p n'=stM p n:=by
  rcases Nat.le_total n n' with q | q
  ·exact UJ k q
  ·exact(UJ A q).symm
 rw[e]at M o;obtain⟨B,hBe⟩:∃B,(stM p n).1=B:=⟨_,rfl⟩;obtain⟨E,hEe⟩:∃E,(stM p n).2=E:=⟨_,rfl⟩;rw[hBe,hEe]at M o H hm;rw[hBe]at hB;rw[hBe,hEe];have hK:(mkW p (yOf B E)).2.2.2.2.2.2.1.length=B.length:=by simp[yOf]
 rw[hf,o,C];rcases hm with rfl | ⟨L,rfl,hL⟩
 ·refine AM (Q:=λc=>c=true) (Af rfl (BK rfl (AB rfl))) λc hc=>BK hc (AM (Q:=λz=>z=true) (BK rfl (AB rfl)) λz hz=>AB hz)
 refine AM (Q:=λc=>c=false) (Af rfl (Af rfl (AP rfl (AP (Pc M.all.fin) (AB ?_))))) λc hc=>Af hc ?_
 ·rw[hK];simp
 rw[hK];refine TR (n:=B.length) (by omega) (λz X I=> ?_) ?_ (AB rfl)
 ·refine iQ (BK (gC I) (AP (cN M z) (AP rfl (AP (Ug V H z) (AP (aT _ ?_) (Af rfl ?_))))))
  ·rcases Nz B z with h | ⟨j,b,rfl,hb⟩
   ·rw[Ny h];simp
   ·rw[TN hb]
    have:=LB p.2.2.1 b.2.1
    have:=(H.good V hb).2.2.2.2
    omega
  ·have hR:=V.few;refine TR (n:=p.2.2.1.length) (by omega) (λy Y J=> ?_) ?_ (AB (by rw[w64 (by omega) (by omega)]))
   ·have⟨t,K,N,Z⟩:=Zw M hL z y;have⟨w,O,P,b3⟩:=WS (L:=L) M z y;refine iQ (BK (gC J) (AM (Q:=λc=>c=false) (AP K (AP N (AP (aT _ (by omega)) (Af rfl (AP O (AP P (AP (cQ _ (by omega)) (AB rfl)))))))) λc hc=>Af hc (AB (by rw[w64 (by omega) (by omega)]))))
   ·exact iQ (Af (gB (by omega)) (AB rfl))
 ·exact iQ (Af (gB (by omega)) (AB rfl))
end Go.Proofs.YtkfgeafgfeppfaaGreatDoor
namespace Go.Proofs.YtkfgeafgfeppfaaGreatDoor
open Go Go.Eng
section
variable {h:AE}
theorem lookTells {n:Nat}{cs:List Value}(gk:OF (Bj h)) (hr:GO jD h n 25 cs):CallsH jD 3 [.agg cs.toArray] h (Ap (XE h)):=by
 obtain⟨s,d2,d3,d4,d5,f,rfl,a,b,c,d,e,G⟩:=XX hr;exact XF (G5 (small_0:=s) gk a b c d e (St.start h) (QB G))
end
end Go.Proofs.YtkfgeafgfeppfaaGreatDoor
