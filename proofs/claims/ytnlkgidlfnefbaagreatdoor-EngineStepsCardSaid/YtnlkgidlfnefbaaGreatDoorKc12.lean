/- The parts DgTarjanB to FirstT, put together. Conditions: each tells its own. -/
import Derived.Test.YtnlkgidlfnefbaaGreatDoorKc11
import Derived.Test.YtnlkgidlfnefbaaGreatDoorKc9
import Derived.Test.YtnlkgidlfnefbaaGreatDoorKc5
import Derived.Test.YtnlkgidlfnefbaaGreatDoorKc3
import Derived.Test.YtnlkgidlfnefbaaGreatDoorProg
import Derived.KernelRfl
set_option linter.unusedVariables false
set_option maxRecDepth 100000
set_option maxHeartbeats 4000000
open Go.Eng.T renaming call → bD,out → hC,block → kK,ret → kQ,loop → kV,sem → kW,join → kX,brk → kZ,still → lA,both → lV,load → mA,store → mC,new → mD
open List renaming getElem?_eq_getElem → bO,getElem_mem → kF,mem_cons_of_mem → kG,take_succ_eq_append_getElem → kL,perm_middle → kO,countP_cons → kU,contains_iff_mem → kY,getElem?_append_left → lC,getElem?_eq_some_iff → lD,mem_append → lF,mem_singleton → lG,getElem?_set → lH,take_length → lJ,getElem?_of_mem → lK,replicate → lO,getElem?_append_right → lP,mem_cons → lS,getElem?_replicate → lT,mem_of_mem_take → lX,mem_of_mem_drop → lZ,mem_cons_self → mF,set_cons_succ → mG,range → mJ
open Option renaming bind_some → eE,isNone → mE
open Go.IntKind renaming wrap → hA
open Go.Proofs.Tryz renaming prog → hM
open Go.Builtin renaming append_ → kH
open Int renaming toNat_of_nonneg → kI,toNat → kJ,toNat_natCast → lI,not_lt → mH
open Bool renaming or_eq_true → kT,and_eq_true → lU,and_eq_false_iff → lW,or_eq_false_iff → lY,not_eq_true → mI
open Go.Instr renaming lookup → lB,makeSlice → lL,mapUpdate → lM
open Nat renaming le_trans → lN,le_refl → lR
open Go.Eng.Ro renaming SliceIs → lQ,bool → mN,int → mO
open List.Perm renaming cons → mB,swap → mM
open Go.Sem renaming bind → mK
open Go.Eng.Sub renaming refl → mL
open Go.Eng.Rep renaming raw → mP
open Go renaming Addr → mQ
open Go.Proofs.Tryz
namespace Go.Proofs.YtnlkgidlfnefbaaGreatDoor.Dg
open Go Go.Eng
section
variable {ll:List (List Int)}{n:Int}{A:Type}{ledA:A→Int→Int→Option A}{partA:A→List Int→Option A}(S:fW ll n ledA partA)
theorem YW (G:0≤n) (J:n≤100000) (C:∀l∈ll,l.length≤1073741824) {a:A}(K:S.I (λ_=>False) a) {fuel:Nat}(R:n.toNat≤fuel):∃o,SF ll n ledA partA fuel a=some o∧S.I (λv=>0≤v∧v<n) o.2.2:=by
 unfold SF;rw[Fl ⟨G,by omega⟩];have c:∀v,lv (lO n.toNat (0:Int)) v=0:=λv=>by
  unfold lv idx;split
  ·rw[lT]
   split<;>rfl
  ·rfl
 have D:n=(n.toNat:Int):=by omega
 have d:=CF (f:=λi (st:Dx A)=>(idx st.1 i).bind λe=>cond (e==0) (LE ll n ledA partA fuel st i) (some st)) (n:=n.toNat)
  (λk st=>∃low E,st=(low,[],E)∧Inv ll n low [] ∧(∀v:Int,0≤v→v<k→lv low v≠0)∧S.I (Dn low) E) (by omega) (s:=(lO n.toNat (0:Int),[],a))
  ⟨_,_,rfl,⟨by simp;omega,λi v j=>by simp at j,λv _ _ _=>.inl (c v),.nil,λi v j=>by simp at j,λv w j=>by rw[c]at j;simp[Eg]at j⟩,λv p z=>by omega,by
   have:Dn (lO n.toNat (0:Int))=λ_=>False:=by
    funext v;apply propext;show lv _ v=Eg↔False;rw[c];exact⟨λh=>(by simp[Eg]at h),λh=>h.elim⟩
   rw[this];exact K⟩ (λk st T ⟨low,F,e,H,b,m⟩=>by
    subst e;have t:=H.len;dsimp only;rw[PJ (by omega) (by omega),eE];by_cases B:lv low (k:Int)=0
    ·rw[show(lv low (k:Int)==0)=true by simp[B],cond_true];have L:low.count 0≤low.length:=List.count_le_length;obtain⟨x,ext,M,z,q⟩:=WN S J C fuel low [] F k H (by omega) (by omega) B (λu N=>by cases N) m (by omega);have y:ext= []:=by
      cases ext with
      |nil=>rfl
      |cons v r=>
       have O:=(q.strict 0 v rfl).2;have U:=(q.inv.on 0 v rfl).2.2.1;simp at O;omega
     subst y;refine⟨_,z,x,M,rfl,q.inv,λv p P=> ?_,q.ok⟩;by_cases j:v=(k:Int)
     ·subst j;exact q.seen
     ·have:=b v p (by omega)
      rw[q.keep v this];exact this
    ·rw[show(lv low (k:Int)==0)=false by simp[B],cond_false];refine⟨_,rfl,low,F,rfl,H,λv p P=> ?_,m⟩;by_cases j:v=(k:Int)
     ·subst j;exact B
     ·exact b v p (by omega))
 rw[←D]at d;obtain⟨o,Q,low,E,rfl,H,b,m⟩:=d;refine⟨_,Q,?_⟩;have t:=H.len
 have:Dn low=λv=>0≤v∧v<n:=by
  funext v;apply propext;show lv low v=Eg↔_;constructor
  ·intro h;rcases Int.lt_or_le v 0 with g | g
   ·rw[aC (.inl g)]at h;cases h
   ·refine⟨g,?_⟩;rcases Int.lt_or_le v n with g' | g'
    ·exact g'
    ·rw[aC (.inr (by omega))]at h;cases h
  ·rintro⟨p,z⟩;rcases H.off v p z (by simp) with h | h
   ·exact absurd h (b v p (by omega))
   ·exact h
 rw[←this];exact m
end
def gv (a:List Aa) (v:Int):Aa:=(idx a v).getD (0,[])
theorem Ta {a:List Aa}{v:Int}(b:0≤v) (c:v< (a.length:Int)):idx a v=some (gv a v):=by
 have:idx a v=some a[v.toNat]:=JM b (by omega)
 unfold gv;rw[this];rfl
theorem aD {a:List Aa}{x:Int}{s:Aa}(c:0≤x) (d:x< (a.length:Int)) (v:Int):gv (a.set x.toNat s) v=if v=x then s else gv a v:=by
 by_cases b:v=x
 ·subst b;rw[if_pos rfl];unfold gv idx;rw[if_pos c,lH,if_pos rfl,if_pos (by omega)];rfl
 ·rw[if_neg b];unfold gv idx;split
  ·rw[lH,if_neg (by omega)]
  ·rfl
section
variable (ll:List (List Int)) (n wide:Int) (B:List Aa)
def M9 (v j:Int):Prop:= ∃z,Reach ll n v z∧mem (gv B z) j=true
structure LM (a:List Aa):Prop where
 len:(a.length:Int)=n
 ok:∀v,0≤v→v<n→OkS (gv a v)∧(gv a v).1=wide
 base:∀v j,0≤v→v<n→mem (gv B v) j=true→mem (gv a v) j=true
 sound:∀v j,0≤v→v<n→mem (gv a v) j=true→M9 ll n B v j
variable {ll n wide B}
theorem M9.back {v w j:Int}(h:Reach ll n v w) (k:M9 ll n B w j):M9 ll n B v j:=by obtain⟨z,a,b⟩:=k;exact⟨z,h.trans a,b⟩
theorem ct {a:List Aa}(H:LM ll n wide B a) {v j:Int}(b:0≤v) (c:v<n) (h:mem (gv a v) j=true):j<wide:=by
 have⟨d,e⟩:=H.ok v b c
 have:=(O8 d h).2
 omega
theorem LM.led {a:List Aa}(H:LM ll n wide B a) {x to:Int}(g:0≤x) (o:x<n) (t0:0≤to) (t1:to<n) (p:Reach ll n x to):∃i,Qv a x to=some i∧LM ll n wide B i∧(∀v,v≠x→gv i v=gv a v)∧(∀j,mem (gv i x) j=(mem (gv a x) j || mem (gv a to) j)):=by
 have d:=H.len;have⟨l,q⟩:=H.ok x g o;have⟨m,y⟩:=H.ok to t0 t1;have⟨r,t,u⟩:=OH l m;have f:=λv=>aD (a:=a) (x:=x) (s:=BN (gv a x) (gv a to)) g (by omega) v;have k:∀j,mem (BN (gv a x) (gv a to)) j=(mem (gv a x) j || mem (gv a to) j):=λj=>by
  rw[u];by_cases h:mem (gv a to) j=true
  ·have:=ct H t0 t1 h
   rw[decide_eq_true (by omega),Bool.and_true]
  ·rw[mI]at h;rw[h];rfl
 refine⟨a.set x.toNat (BN (gv a x) (gv a to)),?_,⟨by rw[List.length_set];exact d,?_,?_,?_⟩,λv w=>by rw[f,if_neg w],λj=>by rw[f,if_pos rfl,k]⟩
 ·unfold Qv;rw[Ta g (by omega),eE,Ta t0 (by omega),eE,Fl ⟨l,m⟩,IA g (by omega)]
 ·intro v b c;rw[f];split
  ·exact⟨r,by rw[t,q]⟩
  ·exact H.ok v b c
 ·intro v j b c h;rw[f];split
  ·rename_i e
   subst e;rw[k,H.base v j b c h];rfl
  ·exact H.base v j b c h
 ·intro v j b c h;rw[f]at h;split at h
  ·rename_i e
   subst e;rw[k,kT]at h;rcases h with h | h
   ·exact H.sound v j b c h
   ·exact(H.sound to j t0 t1 h).back p
  ·exact H.sound v j b c h
theorem cv {s:Aa}(H:OkS s):DN s=some s:=by unfold DN cloneD;have a:=H.len;have b:=H.hi;rw[if_pos (by omega)];rfl
theorem LM.part {a:List Aa}(H:LM ll n wide B a) {c:Int}{l:List Int}(p:∀v∈c::l,0≤v∧v<n) (J:(c::l).Nodup) (hb:l.length≤100000) (P:∀v∈c::l,∀w∈c::l,Reach ll n v w):
 ∃F,Pq a (c::l)=some F∧LM ll n wide B F∧(∀v,v∉c::l→gv F v=gv a v)∧ ∀v∈c::l,∀w∈c::l,∀j,mem (gv a w) j=true→mem (gv F v) j=true:=by
 have q:=p c (by simp);have r:c∉l:=(List.nodup_cons.1 J).1;have⟨t,V,G,o1,W,K⟩:=CF (f:=λi (a:List Aa)=>(idx l i).bind λy=>Qv a c y) (n:=l.length)
  (λk b=>LM ll n wide B b∧(∀v,v≠c→gv b v=gv a v)∧(∀j,mem (gv a c) j=true→mem (gv b c) j=true)∧ ∀w∈l.take k,∀j,mem (gv a w) j=true→mem (gv b c) j=true) (by omega) (s:=a)
  ⟨H,λ_ _=>rfl,λ_ h=>h,λw g=>by simp at g⟩ (λk b m ⟨z,C,L,X⟩=>by
   have u:l[k]∈l:=kF m;have⟨I,Q⟩:=p _ (kG _ u);obtain⟨Y,o,Z,g3,R⟩:=z.led q.1 q.2 I Q (P _ (by simp) _ (kG _ u));refine⟨Y,by rw[GI m];exact o,Z,λv d=>(g3 v d).trans (C v d),λj h=>by rw[R,L j h];rfl,λw g j h=> ?_⟩;rw[kL m]at g;rw[R];rcases lF.1 g with g | g
   ·rw[X w g j h];rfl
   ·have g:=lG.1 g;rw[g]at h;have D:=C l[k] (λe=>r (by rw[←e];exact u));rw[D,h,Bool.or_true])
 rw[lJ]at K;have a0:=G.len;have S:=G.ok c q.1 q.2;have⟨T,e2,H2,o2,U⟩:=CF (f:=λi (a:List Aa)=>(idx l i).bind λy=>(idx a c).bind λs=>(DN s).bind λs=>Ea a y s) (n:=l.length)
  (λk b=>LM ll n wide B b∧(∀v,v∉l.take k→gv b v=gv t v)∧ ∀v∈l.take k,gv b v=gv t c) (by omega) (s:=t)
  ⟨G,λ_ _=>rfl,λw g=>by simp at g⟩ (λk b m ⟨z,C,L⟩=>by
   have u:l[k]∈l:=kF m;have M:=z.len;have⟨I,Q⟩:=p _ (kG _ u);have N:gv b c=gv t c:=C c λh=>r (lX h);have E:=λv=>aD (a:=b) (x:=l[k]) (s:=gv t c) I (by omega) v;refine⟨b.set (l[k]).toNat (gv t c),?_,⟨by rw[List.length_set];exact M,?_,?_,?_⟩,?_,?_⟩
   ·rw[GI m,eE,Ta q.1 (by omega),eE,N,cv S.1,eE,IA I (by omega)]
   ·intro v A o;rw[E];split
    ·exact S
    ·exact z.ok v A o
   ·intro v j A o h;rw[E];split
    ·rename_i e
     subst e;exact K _ u j (H.base _ j A o h)
    ·exact z.base v j A o h
   ·intro v j A o h;rw[E]at h;split at h
    ·rename_i e
     subst e;exact(G.sound c j q.1 q.2 h).back (P _ (kG _ u) _ (by simp))
    ·exact z.sound v j A o h
   ·intro v d;rw[kL m]at d;have h1:v∉l.take k:=λh=>d (List.mem_append_left _ h);have D:v≠l[k]:=λh=>d (List.mem_append_right _ (lG.2 h));rw[E,if_neg D];exact C v h1
   ·intro v d;rw[kL m]at d;rw[E];split
    ·rfl
    ·rename_i D
     rcases lF.1 d with h | h
     ·exact L v h
     ·exact absurd (lG.1 h) D)
 rw[lJ]at o2 U;refine⟨T,?_,H2,λv d=> ?_,λv d w g j h=> ?_⟩
 ·unfold Pq;rw[show idx (c::l) 0=some c from rfl,eE,show(c::l).drop 1=l from rfl,V,eE,e2]
 ·rw[lS,not_or]at d;rw[o2 v d.2,o1 v d.1]
 ·have O:gv T v=gv t c:=by
   rcases lS.1 d with e | e
   ·rw[e];exact o2 c r
   ·exact U v e
  rw[O];rcases lS.1 g with e | e
  ·subst e;exact W j h
  ·exact K w e j h
def YX (P:n≤100000):fW ll n Qv Pq where
 I D a:=LM ll n wide B a∧ ∀v,D v→0≤v→v<n→ ∀j,M9 ll n B v j→mem (gv a v) j=true
 Q a y z:= ¬Reach ll n z y→ ∀j,M9 ll n B z j→mem (gv a y) j=true
 led:=by
  rintro D a x to ⟨H,t⟩ L M hto q hx;have⟨t0,t1⟩:=JV hto;obtain⟨r,e,u,o,m⟩:=H.led L M t0 t1 (.one hto);have grow:∀v j,mem (gv a v) j=true→mem (gv r v) j=true:=λv j h=>by
   by_cases b:v=x
   ·subst b;rw[m,h];rfl
   ·rw[o v b];exact h
  refine⟨r,e,⟨u,λv b A C j c=>grow v j (t v b A C j c)⟩,λd j c=> ?_,λy z h d j c=>grow y j (h d j c)⟩;rcases q with g | g
  ·rw[m,t to g t0 t1 j c,Bool.or_true]
  ·exact absurd g d
 part:=by
  rintro D a l ⟨H,t⟩ hne hnd hin hq hscc;obtain⟨f,l',rfl⟩:∃f l',l=f::l':=by
   cases l with
   |nil=>exact absurd rfl hne
   |cons a l=>exact⟨a,l,rfl⟩
  have s:(f::l').length≤100000:=by
   have h:=List.Nodup.length_le_of_subset (l₂:=(mJ n.toNat).map λk:Nat=>(k:Int)) hnd (λv b=>by
    have:=hin v b
    exact List.mem_map.2 ⟨v.toNat,List.mem_range.2 (by omega),by omega⟩)
   simp at h ⊢;omega
  obtain⟨r,e,u,o,m⟩:=H.part (λv b=>⟨(hin v b).1,(hin v b).2.1⟩) hnd (by simp at s;omega) (λv b w p=>((hscc v b w).1 p).1);have grow:∀v j,mem (gv a v) j=true→mem (gv r v) j=true:=λv j h=>by
   by_cases b:v∈f::l'
   ·exact m v b v b j h
   ·rw[o v b];exact h
  have E:∀ {y z:Int},Reach ll n y z→ ∀j,mem (gv B z) j=true→y∈f::l'→ ∃w∈f::l',mem (gv a w) j=true:=λ{y z} q j c=>by
   induction q with
   |refl y=>
    intro i;exact⟨y,i,H.base y j (hin y i).1 (hin y i).2.1 c⟩
   | @step y w z K q N=>
    intro i;by_cases p:w∈f::l'
    ·exact N c p
    ·refine⟨y,i,(hq y i w K).1 (λF=>p ((hscc y i w).2 ⟨.one K,F⟩)) j ⟨z,q,c⟩⟩
  refine⟨r,e,⟨u,λv b A C j c=> ?_⟩,λy z h d j c=>grow y j (h d j c)⟩;rcases b with b | b
  ·exact grow v j (t v b A C j c)
  ·obtain⟨z,G,J⟩:=c;have⟨w,p,O⟩:=E G j J b;exact m v b w p j O
end
theorem Lz {α:Type}{f:Int→List α→Option (List α)}{n:Nat}(d:n≤9223372036854775807) (P:Nat→α→Prop) (e:∀(k:Nat) (a:List α),k<n→a.length=k→ ∃x,f (k:Int) a=some (a++ [x])∧P k x):
 ∃r,forS 0 (n:Int) ([]:List α) f=some r∧r.length=n∧ ∀(k:Nat) (x:α),r[k]? =some x→P k x:=by
 obtain⟨r,i,l,m⟩:=CF (f:=f) (n:=n) (λk a=>a.length=k∧ ∀(j:Nat) (x:α),a[j]? =some x→P j x) d (s:=[]) ⟨rfl,λj x h=>by simp at h⟩ (λk a o ⟨c,p⟩=>by
  have⟨x,q,t⟩:=e k a o c;refine⟨_,q,by simp[c],λj y b=> ?_⟩;rcases Nat.lt_trichotomy j a.length with g | g | g
  ·rw[lC g]at b;exact p j y b
  ·subst g;rw[lP (lR _),Nat.sub_self]at b;cases b;rw[c];exact t
  ·rw[List.getElem?_eq_none (by simp;omega)]at b;cases b)
 exact⟨r,i,l,m⟩
theorem cy {α:Type}{l:List α}(h:l.length<1073741824) (x:α):app l [x] =some (l++ [x]):=Vy (by simp;omega)
theorem contains_ok {l:List Int}(h:l.length≤9223372036854775807) (x:Int):Au l x=some (decide (x∈l)):=by
 unfold Au CG;rcases K9 (f:=λa (m:Unit)=>(idx l a).bind λd=>cond (x==d) (some (AY.done a)) (some (AY.next ()))) (λk _=>x∉l.take k) (λ(b:Int)=>0≤b∧x∈l) h (s:=()) (by simp) (λk s i c=>by
  rw[GI i,eE];by_cases e:x=l[k]
  ·rw[show(x==l[k])=true by simp[e]];exact .inr ⟨(k:Int),rfl,by omega,by rw[e];exact kF i⟩
  ·rw[show(x==l[k])=false by simp[e]];refine .inl ⟨(),rfl,?_⟩;rw[kL i];intro j;rcases lF.1 j with g | g
   ·exact c g
   ·exact e (lG.1 g)) with⟨s,e,c⟩|⟨b,e,hb,hx⟩
 ·rw[lJ]at c;rw[e,decide_eq_false c];rfl
 ·rw[e,decide_eq_true hx];show some (decide (b≥0))=_;rw[decide_eq_true (show b≥0 from hb)]
structure Few (ll base:List (List Int)):Prop where
 e:ll.length≤25
 b:base.length≤25
 el:∀l∈ll,l.length≤10
 bl:∀l∈base,l.length≤10
theorem PL (s:Aa):(EB s).length≤64 *s.2.length:=SG _ _
theorem Pv {s:Aa}(H:OkS s):(EB s).length≤1073741824:=by have a:=PL s;have b:=H.len;have c:=H.hi;omega
theorem Tb {n:Int}(a:0≤n) (b:n≤1000):MR n=n:=by unfold MR;rw[if_neg (by omega),if_neg (by omega)]
def bz (a:List (List Int)) (z:Int):List Int:=(idx a z).getD []
theorem XP {a:List Aa}{k:Nat}{s:Aa}(h:a[k]? =some s):gv a (k:Int)=s:=by unfold gv;rw[Bu,h];rfl
theorem U3 {ll:List (List Int)}{B:List Aa}{wide:Int}(G:0≤wide) (H:wide≤1000) (V:B.length≤100000) (D:∀l∈ll,l.length≤1073741824) (J:∀(k:Nat) (s:Aa),B[k]? =some s→OkS s∧s.1=wide):
 ∃r,IT ll B=some r∧r.length=B.length∧ ∀(k:Nat) (s:Aa),r[k]? =some s→OkS s∧s.1=wide∧ ∀j,mem s j=true↔M9 ll (B.length:Int) B k j:=by
 unfold IT;have g:∀k (o:k<B.length),OkS B[k] ∧B[k].1=wide:=λk o=>J k _ (bO o);have K:∀v:Int,0≤v→v< (B.length:Int)→OkS (gv B v)∧(gv B v).1=wide:=λv d b=>by
  have:=g v.toNat (by omega)
  rw[←XP (bO (show v.toNat<B.length by omega)),kI d]at this;exact this
 obtain⟨w,L,M⟩:=CF (f:=λi (w:Int)=>(idx B i).bind λs=>some (if s.1>w then s.1 else w)) (n:=B.length) (λk (w:Int)=>0≤w∧w≤wide∧(0<k→w=wide)) (by omega) (s:=0) ⟨by omega,by omega,by omega⟩ (λk w o ⟨d,b,q⟩=>by
  rw[GI o,eE,(g k o).2];refine⟨_,rfl,?_⟩;split
  ·exact⟨by omega,by omega,λ_=>rfl⟩
  ·exact⟨by omega,by omega,by omega⟩)
 rw[L,eE];obtain⟨all,N,W,O⟩:=Lz (f:=λi (p:List Aa)=>(idx B i).bind λs=>(Ju s).bind λl=>(DM w l).bind λs'=>app p [s']) (n:=B.length) (by omega) (λk s=>OkS s∧s.1=wide∧ ∀j,mem s j=mem (gv B k) j) (λk p o P=>by
  have c:=g k o;have E:w=wide:=M.2.2 (by omega);rw[GI o,eE,LG c.1,eE];obtain⟨s,e,b,q,u⟩:=of_ok w (EB B[k]) (by have:=Pv c.1;omega);rw[E,Tb G H]at q u;refine⟨s,by rw[e,eE,cy (by omega)],b,q,λj=> ?_⟩;rw[u,XP (bO o)];by_cases t:mem B[k] j=true
  ·have x:=O8 c.1 t;rw[c.2]at x;rw[decide_eq_true x,t,Bool.true_and];exact kY.2 ((FQ c.1 j).2 t)
  ·have Q:(EB B[k]).contains j=false:=by
    rw[Bool.eq_false_iff];intro R;exact t ((FQ c.1 j).1 (kY.1 R))
   rw[Q,Bool.and_false];rw[mI]at t;exact t.symm)
 rw[N,eE];have m:∀v:Int,0≤v→v< (B.length:Int)→OkS (gv all v)∧(gv all v).1=wide∧ ∀j,mem (gv all v) j=mem (gv B v) j:=λv d b=>by
  have y:v.toNat<all.length:=by omega
  have:=O v.toNat _ (bO y)
  rw[←XP (bO y),kI d]at this;exact this
 have S:LM ll (B.length:Int) wide B all:=⟨by omega,λv d b=>⟨(m v d b).1,(m v d b).2.1⟩,λv j d b h=>by rw[(m v d b).2.2];exact h,λv j d b h=>⟨v,.refl _,by rw[← (m v d b).2.2];exact h⟩⟩;obtain⟨⟨low,stk,fin⟩,F,C,I⟩:=YW (YX (ll:=ll) (n:=(B.length:Int)) (wide:=wide) (B:=B) (by omega)) (by omega) (by omega) D (a:=all) ⟨S,λv T=>T.elim⟩ (fuel:=B.length) (by omega);dsimp only at C I;have z:∀v:Int,0≤v→v< (B.length:Int)→ ∀j,mem (gv fin v) j=true↔M9 ll (B.length:Int) B v j:=λv d b j=>⟨C.sound v j d b,I v ⟨d,b⟩ d b j⟩;rw[F,eE];have X:=C.len;refine Lz (by omega) (λk s=>OkS s∧s.1=wide∧ ∀j,mem s j=true↔M9 ll (B.length:Int) B k j) λk p o P=> ?_;have c:=g k o;obtain⟨A,U⟩:=C.ok (k:Int) (by omega) (by omega);dsimp only;rw[GI o,eE,Ta (by omega) (by omega),eE,LG A,eE,c.2];obtain⟨s,e,b,q,u⟩:=of_ok wide (EB (gv fin (k:Int))) (by have:=Pv A;omega);rw[Tb G H]at q u;refine⟨s,by rw[e,eE,cy (by omega)],b,q,λj=> ?_⟩;rw[u,←z (k:Int) (by omega) (by omega)];constructor
 ·intro h;rw[lU]at h;exact(FQ A j).1 (kY.1 h.2)
 ·intro h;have x:=O8 A h;rw[U]at x;rw[decide_eq_true x,Bool.true_and];exact kY.2 ((FQ A j).2 h)
def Rr (ll a:List (List Int)) (wide i j:Int):Prop:=0≤j∧j<wide∧ ∃z,Reach ll (a.length:Int) i z∧j∈bz a z
end Go.Proofs.YtnlkgidlfnefbaaGreatDoor.Dg
namespace Go.Proofs.YtnlkgidlfnefbaaGreatDoor
open Go Go.Eng Dg
structure Sy (p:dtP):Prop where
 t1:1≤p.1.length∧p.1.length≤1000
 v1:p.2.1.length≤1000
 few:p.2.2.1.length≤1000
 left:∀r∈p.2.2.1,nT p≤r.1∧r.1≤nT p+(p.2.1.length:Int)
 right:∀r∈p.2.2.1,∀s∈r.2.1,0≤s∧s<nT p+(p.2.1.length:Int)
 short:∀r∈p.2.2.1,r.2.1.length≤1000
theorem SQ {α:Type}{p q:α→Bool}:∀ {l:List α},(∀x∈l,p x=true→q x=true)→l.countP p≤l.countP q:=by
 intro l
 induction l with
 |nil=>intro _;simp
 |cons a l b=>
  intro h;have e:=b λx c=>h x (kG _ c);have d:=h a mF;rw[kU,kU];cases hp:p a with
  |false=>simp;omega
  |true=>rw[d hp];simp;omega
theorem YY {α:Type}{p q:α→Bool}:∀ {l:List α},(∀x∈l,p x=true→q x=true)→(∃x∈l,q x=true∧p x=false)→l.countP p<l.countP q:=by
 intro l
 induction l with
 |nil=>rintro _ ⟨x,b,_⟩;cases b
 |cons a l e=>
  rintro h ⟨x,b,c,d⟩;have g:=SQ (l:=l) λx b=>h x (kG _ b);have f:=h a mF;rw[kU,kU];rcases lS.1 b with rfl | b
  ·rw[c,d];simp;omega
  ·have i:=e (λx b=>h x (kG _ b)) ⟨x,b,c,d⟩;cases hp:p a with
   |false=>simp;omega
   |true=>rw[f hp];simp;omega
def card (s:Aa):Nat:=(mJ 1000).countP λk:Nat=>mem s (k:Int)
theorem cz (s:Aa):card s≤1000:=by
 unfold card
 have:=List.countP_le_length (p:=λk:Nat=>mem s (k:Int)) (l:=mJ 1000)
 rwa [List.length_range]at this
theorem dB:∀(l:List Int) {s:Aa}{g:Bool},OkS s→(∀i∈l,0≤i)→(l.foldl Dg.stepG (s,false,g)).2.2=true→g=true∨ ∃i∈l,i<s.1∧mem s i=false:=by
 intro l
 induction l with
 |nil=>intro s g _ _ h;exact .inl h
 |cons i l f=>
  intro s g H c h;rw[List.foldl_cons]at h;by_cases b:s.1≤i
  ·have e:Dg.stepG (s,false,g) i=(s,true,g):=by unfold Dg.stepG;rw[if_neg (by simp),if_pos b]
   rw[e,Zf l rfl]at h;exact .inl h
  ·obtain⟨s',hd,k,m,n⟩:=Dg.add_ok H i;have e:Dg.stepG (s,false,g) i=(s',false,(decide (0≤i∧i<s.1) && !mem s i) || g):=by unfold Dg.stepG;rw[if_neg (by simp),if_neg b,hd];rfl
   rw[e]at h;have o:=c i (by simp);rcases f k (λi b=>c i (kG _ b)) h with a | ⟨j,p,q,d⟩
   ·rw[kT,lU]at a;rcases a with⟨_,a⟩|a
    ·exact .inr ⟨i,by simp,by omega,by simpa using a⟩
    ·exact .inl a
   ·refine .inr ⟨j,kG _ p,by rw[←m];exact q,?_⟩;rw[n,lY]at d;exact d.1
theorem U4 {s o:Aa}(H:OkS s) (K:OkS o):OkS (BN s o)∧(BN s o).1=s.1∧card s≤card (BN s o)∧(Fo s o=true→card s<card (BN s o)):=by
 have⟨f,g,a⟩:=OH H K;refine⟨f,g,SQ λk _ b=>by rw[a,b];rfl,λj=> ?_⟩;rcases dB (EB o) H (λi l=>(LH K l).1) j with h | ⟨i,c,m,d⟩
 ·cases h
 ·have⟨e,n⟩:=LH K c;have p:=H.hi;refine YY (λk _ b=>by rw[a,b];rfl) ⟨i.toNat,List.mem_range.2 (by omega),?_,?_⟩
  ·rw[kI e,a,d,(FQ K i).1 c,decide_eq_true m];rfl
  ·rw[kI e];exact d
def Ss (w:Int) (ss:List Aa):Prop:= ∀s∈ss,OkS s∧s.1=w
def room (ss:List Aa):Nat:=(ss.map λs=>1000 - card s).sum
theorem XQ:∀ {ss:List Aa}{k:Nat}{s s':Aa},ss[k]? =some s→card s≤card s'→room (ss.set k s') ≤room ss∧(card s<card s'→room (ss.set k s') <room ss):=by
 intro ss
 induction ss with
 |nil=>intro k s s' h;simp at h
 |cons a ss c=>
  intro k s s' h d;have e:=cz s';cases k with
  |zero=>
   obtain rfl:a=s:=by simpa using h
   simp only[List.set_cons_zero,room,List.map_cons,List.sum_cons];exact⟨by omega,λh=>by omega⟩
  |succ k=>
   obtain⟨f,b⟩:=c (k:=k) (s:=s) (s':=s') (by simpa using h) d;simp only[room]at f b;simp only[mG,room,List.map_cons,List.sum_cons];exact⟨by omega,λh=>by have:=b h;omega⟩
theorem Ss.set {w:Int}{ss:List Aa}(H:Ss w ss) {k:Nat}{s:Aa}(a:OkS s∧s.1=w):Ss w (ss.set k s):=λx b=>by
 rcases List.mem_or_eq_of_mem_set b with h | rfl
 ·exact H x h
 ·exact a
theorem dC {w:Int}{ss:List Aa}{x:Int}{o:Aa}(H:Ss w ss) (e:0≤x) (m:x< (ss.length:Int)) (b:OkS o):
 Ok (co ss x o) λr=>Ss w r.2∧r.2.length=ss.length∧room r.2≤room ss∧(r.1=true→room r.2<room ss):=by
 have a:x.toNat<ss.length:=by omega
 have c:=bO a;have⟨d,f⟩:=H _ (kF a);have⟨h,i,j,k⟩:=U4 d b;have⟨s1,l⟩:=XQ c j;unfold co;exact Ep e c (Bn ⟨d,b⟩ (AC ⟨H.set ⟨h,i.trans f⟩,by simp,s1,λg=>l (k g)⟩))
theorem XR {w:Int}{ss:List Aa}{x y:Int}(H:Ss w ss) (f:0≤x) (p:x< (ss.length:Int)) (h:0≤y) (q:y< (ss.length:Int)):
 Ok (YV ss x y) λr=>Ss w r.2∧r.2.length=ss.length∧room r.2≤room ss∧(r.1=true→room r.2<room ss):=by
 have b:x.toNat<ss.length:=by omega
 have a:y.toNat<ss.length:=by omega
 have c:=bO b;have i:=bO a;have⟨d,j⟩:=H _ (kF b);have e:=(H _ (kF a)).1;have⟨k,l,m,n⟩:=U4 d e;have⟨s1,o⟩:=XQ c m;unfold YV;exact Ep f c (Ep h i (Bn ⟨d,e⟩ (AC ⟨H.set ⟨k,l.trans j⟩,by simp,s1,λg=>o (n g)⟩)))
def Nl (p:dtP) (null:List Bool) (s:Int):Prop:=nT p≤s∧null[(s - nT p).toNat]? =some true
def mu (null:List Bool) (ss:List Aa):Nat:=room ss+null.countP (λb=> !b)
theorem Iu:∀ {l:List Bool}{k:Nat},l[k]? =some false→(l.set k true).countP (λb=> !b)+1=l.countP (λb=> !b):=by
 intro l
 induction l with
 |nil=>intro k h;simp at h
 |cons a l c=>
  intro k h;cases k with
  |zero=>
   obtain rfl:a=false:=by simpa using h
   simp
  |succ k=>
   have:=c (k:=k) (by simpa using h)
   rw[mG,kU,kU];omega
theorem aE {α:Type}{l:List α}{k:Nat}{x:α}(h:l[k]? =some x):l.set k x=l:=by
 refine List.ext_getElem? λi=> ?_;rw[lH];split
 ·rename_i e
  subst e;rw[h,if_pos (lD.1 h).1]
 ·rfl
theorem fZ (p:dtP) {s:Int}(h:s<nT p) (null:List Bool):¬Nl p null s:=λg=>by have:=g.1;omega
section
variable {p:dtP}{w:Int}
theorem SR (S:Sy p) {null:List Bool}{ss:List Aa}{x:Nat}{seq:List Int}{m:Nat}(P:m=p.2.1.length+1) (Q:null.length=m) (H:Ss w ss) (R:ss.length=m+m) (T:x<m+m) (L:∀s∈seq,0≤s∧s<nT p+(p.2.1.length:Int)) (U:seq.length≤1000):
 Ok (Ly p (m:Int) null (x:Int) ss seq) λr=>Ss w r.2.2∧r.2.2.length=ss.length∧room r.2.2≤room ss∧(r.1=true→room r.2.2<room ss)∧(r.2.1=true↔∀s∈seq,Nl p null s):=by
 have V:=S.t1;have W:=S.v1;have M:nT p=(p.1.length:Int):=rfl;unfold Ly;refine Il (λk (z:Bool×List Aa)=>Ss w z.2∧z.2.length=ss.length∧room z.2≤room ss∧(z.1=true→room z.2<room ss)∧ ∀s∈seq.take k,Nl p null s)
  (λb=>Ss w b.2.2∧b.2.2.length=ss.length∧room b.2.2≤room ss∧(b.1=true→room b.2.2<room ss)∧b.2.1=false∧ ¬ ∀s∈seq,Nl p null s) (by omega) ⟨H,rfl,lR _,(λh=>by cases h),by simp⟩ (λk z K F=> ?_) (λz F=>AC ?_) λb v=>AC ?_
 ·obtain⟨g,s1⟩:=z;obtain⟨j,d,f,n,q⟩:=F;dsimp only at j d f n q ⊢;have y:=bO K;have a:=kF K;have⟨X,b1⟩:=L _ a;refine AX y (AJ (HJ p seq[k]) ?_);refine Af (λG=> ?_) λG=> ?_
  ·rw[lU,decide_eq_true_eq,decide_eq_true_eq]at G;obtain⟨o,e,o1,o2,_⟩:=Dg.of_ok (nT p) [seq[k]] (by simp);refine AJ e (AP (dC j (x:=(x:Int)) (by omega) (by omega) o1) λu I=> ?_);obtain⟨C,D,E,J⟩:=I;refine B9 ⟨C,D.trans d,lN E f,λh=> ?_,rfl,λc=>fZ p (by omega) null (c _ a)⟩;dsimp only at h ⊢;rw[kT]at h;rcases h with h | h
   ·have:=J h;omega
   ·have:=n h;omega
  ·rw[lW,decide_eq_false_iff_not,decide_eq_false_iff_not]at G;have e:hA .i64 (seq[k] - nT p)=(((seq[k] - nT p).toNat:Nat):Int):=by rw[w64 (by omega) (by omega)];omega
   have N:(seq[k] - nT p).toNat<m:=by omega
   rw[e];refine Bn (by omega) (AP (XR j (x:=(x:Int)) (by omega) (by omega) (by omega) (by omega)) λu I=> ?_);obtain⟨C,D,E,J⟩:=I;have v:=bO (l:=null) (i:=(seq[k] - nT p).toNat) (by omega);refine AX v ?_;have A:(u.1 || g)=true→room u.2<room ss:=λh=>by
    rw[kT]at h;rcases h with h | h
    ·have:=J h;omega
    ·have:=n h;omega
   refine Af (λt=>Ck ⟨C,D.trans d,lN E f,A,λs B=> ?_⟩) λt=>B9 ⟨C,D.trans d,lN E f,A,rfl,λc=> ?_⟩
   ·rw[List.take_add_one,y]at B;rcases lF.1 B with h | h
    ·exact q s h
    ·have:s=seq[k]:=by simpa using h
     subst this;exact⟨by omega,by rw[v,t]⟩
   ·have:=(c _ a).2
    rw[v,t]at this;cases this
 ·obtain⟨j,d,f,n,q⟩:=F;rw[List.take_of_length_le (lR _)]at q;exact⟨j,d,f,n,λ_=>q,λ_=>rfl⟩
 ·obtain⟨j,d,f,n,q,O⟩:=v;exact⟨j,d,f,n,λh=>(by rw[q]at h;cases h),λh=>absurd h O⟩
structure aF (p:dtP) (w:Int) (null:List Bool) (ss:List Aa) (k:Nat) (z:Bool×List Bool×List Aa):Prop where
 len:z.2.1.length=null.length
 sets:Ss w z.2.2
 lens:z.2.2.length=ss.length
 le:mu z.2.1 z.2.2≤mu null ss
 lt:z.1=true→mu z.2.1 z.2.2<mu null ss
 stay:z.1=false→z.2.1=null∧ ∀(j:Nat) r,j<k→p.2.2.1[j]? =some r→(∀s∈r.2.1,Nl p null s)→Nl p null r.1
 sound:(∀s,Nl p null s→Nul p.2.2.1 s)→ ∀s,Nl p z.2.1 s→Nul p.2.2.1 s
theorem aJ (S:Sy p) {null:List Bool}{ss:List Aa}{m:Nat}(R:m=p.2.1.length+1) (hn:null.length=m) (H:Ss w ss) (hl:ss.length=m+m):
 Ok (RA p (m:Int) null ss) (aF p w null ss p.2.2.1.length):=by
 have hT:=S.t1;have hV:=S.v1;have hF:=S.few;have T:nT p=(p.1.length:Int):=rfl;refine CF (n:=p.2.2.1.length) (λk=>aF p w null ss k) (by omega) (s:=(false,null,ss)) ⟨rfl,H,rfl,lR _,(λh=>by cases h),λ_=>⟨rfl,λj r E=>by omega⟩,λh=>h⟩ λk z L t=> ?_;obtain⟨c,C,s1⟩:=z;have F:=bO L;have a:=kF L;obtain⟨r,G⟩:∃r,p.2.2.1[k] =r:=⟨_,rfl⟩;rw[G]at F a;have⟨U,l1⟩:=S.left r a;have e:hA .i64 (r.1 - nT p)=(((r.1 - nT p).toNat:Nat):Int):=by rw[w64 (by omega) (by omega)];omega
 have V:(r.1 - nT p).toNat<m:=by omega
 have o:=t.len;have v:=t.lens;dsimp only at o v ⊢;refine AX F ?_;rw[e];refine Bn (by omega) ?_;have W:=S.right r a;refine AP (SR S (null:=C) (ss:=s1) (x:=(r.1 - nT p).toNat) R (by omega) t.sets (by omega) (by omega) W (S.short r a)) λg X=> ?_;obtain⟨M,N,g3,Y,O⟩:=X;have D:=bO (l:=C) (i:=(r.1 - nT p).toNat) (by omega);refine AX D (JN (by omega) (by omega) (AC ?_));rw[lI];obtain⟨b,I⟩:∃b,C[(r.1 - nT p).toNat] =b:=⟨_,rfl⟩;rw[I]at D ⊢;by_cases d:b=false∧g.2.1=true
 ·obtain⟨rfl,u⟩:=d;have hc:=Iu D;have f:=t.le;rw[u];refine⟨by simp[o],M,N.trans v,?_,λ_=> ?_,λh=> ?_,λP s h=> ?_⟩
  ·show mu (C.set _ true) g.2.2≤mu null ss;unfold mu at f ⊢;dsimp only at f;omega
  ·show mu (C.set _ true) g.2.2<mu null ss;unfold mu at f ⊢;dsimp only at f;omega
  ·exfalso;dsimp only at h;simp at h
  ·obtain⟨Z,y⟩:=h;change (C.set _ true)[_]? =some true at y;rw[lH]at y;split at y
   ·rename_i he
    have:s=r.1:=by omega
    subst this;exact .rule a λs J=>t.sound P s (O.1 u s J)
   ·exact t.sound P s ⟨Z,y⟩
 ·have K:(b || g.2.1)=b:=by
   cases b with
   |true=>rfl
   |false=>cases hgg:g.2.1 with
    |false=>rfl
    |true=>exact absurd ⟨rfl,hgg⟩ d
  have A:(g.2.1 && !b)=false:=by
   cases b with
   |true=>simp
   |false=>cases hgg:g.2.1 with
    |false=>rfl
    |true=>exact absurd ⟨rfl,hgg⟩ d
  rw[K,A,aE D,Bool.or_false];have f:=t.le;have q:=t.lt;unfold mu at f q;dsimp only at f q;refine⟨o,M,N.trans v,?_,λh=> ?_,λh=> ?_,t.sound⟩
  ·unfold mu;dsimp only;omega
  ·unfold mu;dsimp only at h ⊢;rw[kT]at h;rcases h with h | h
   ·have:=q h;omega
   ·have:=Y h;omega
  ·dsimp only at h ⊢;rw[lY]at h;have⟨y,h2⟩:=t.stay h.1;dsimp only at y;subst y;refine⟨rfl,λj r' E B Q=> ?_⟩;rcases Nat.lt_succ_iff_lt_or_eq.1 E with E | rfl
   ·exact h2 j r' E B Q
   ·rw[F]at B;cases B;refine⟨U,?_⟩;rw[D];rw[O.2 Q]at A;simpa using A
end
section
variable {p:dtP}{w:Int}
theorem WO (S:Sy p) {null:List Bool}{ss:List Aa}{m:Nat}(L:m=p.2.1.length+1) (M:null.length=m) (H:Ss w ss) (W:ss.length=m+m):
 Ok (OR p (m:Int) null ss) λr=>Ss w r.2∧r.2.length=ss.length∧room r.2≤room ss∧(r.1=true→room r.2<room ss):=by
 have X:=S.t1;have Y:=S.v1;have Z:=S.few;have N:nT p=(p.1.length:Int):=rfl;refine CF (n:=p.2.2.1.length) (λ_ (z:Bool×List Aa)=>Ss w z.2∧z.2.length=ss.length∧room z.2≤room ss∧(z.1=true→room z.2<room ss)) (by omega) (s:=(false,ss)) ⟨H,rfl,lR _,(λh=>by cases h)⟩ λk z B c=> ?_;have C:=bO B;have a:=kF B;obtain⟨r,d⟩:∃r,p.2.2.1[k] =r:=⟨_,rfl⟩;rw[d]at C a;have⟨l0,l1⟩:=S.left r a;have D:=S.right r a;have nS:=S.short r a;refine AX C (CF (λ_ (z:Bool×List Aa)=>Ss w z.2∧z.2.length=ss.length∧room z.2≤room ss∧(z.1=true→room z.2<room ss)) (by omega) c λj z E c=> ?_);obtain⟨g,s1⟩:=z;obtain⟨f,b,i,l⟩:=c;dsimp only at f b i l ⊢;have⟨b0,b1⟩:=D _ (kF E);refine AX (bO E) (AJ (HJ p _) ?_);refine Af (λF=>AC ⟨f,b,i,l⟩) λF=> ?_;rw[lW,decide_eq_false_iff_not,decide_eq_false_iff_not]at F;have e:hA .i64 (r.2.1[j] - nT p)=(((r.2.1[j] - nT p).toNat:Nat):Int):=by rw[w64 (by omega) (by omega)];omega
 have O:(m:Int)+(((r.2.1[j] - nT p).toNat:Nat):Int)=((m+(r.2.1[j] - nT p).toNat:Nat):Int):=by omega
 have P:(r.2.1[j] - nT p).toNat<m:=by omega
 rw[e,O];refine Bn (by omega) (AP (SR S (null:=null) (ss:=s1) (x:=m+(r.2.1[j] - nT p).toNat) (seq:=r.2.1.drop ((j:Int)+1).toNat) L M f (by omega) (by omega) (λs R=>D s (lZ R)) (by simp;omega)) λq T=> ?_);obtain⟨G,I,J,K,_⟩:=T;refine AP (Q:=λ(u:Bool×List Aa)=>Ss w u.2∧u.2.length=ss.length∧room u.2≤room s1∧(u.1=true→room u.2<room s1)) ?_ λu o=> ?_
 ·refine Af (λU=> ?_) λU=>AC ⟨G,I.trans b,J,K⟩;have V:hA .i64 (r.1 - nT p)=(((r.1 - nT p).toNat:Nat):Int):=by rw[w64 (by omega) (by omega)];omega
  rw[V];refine Bn (by omega) (AP (XR G (by omega) (by omega) (by omega) (by omega)) λu o=>AC ?_);obtain⟨t,v,y,A⟩:=o;refine⟨t,v.trans (I.trans b),lN y J,λh=> ?_⟩;dsimp only at h ⊢;rw[kT]at h;rcases h with h | h
  ·have:=A h;omega
  ·have:=K h;omega
 ·obtain⟨t,v,y,A⟩:=o;refine AC ⟨t,v,lN y i,λh=> ?_⟩;dsimp only at h ⊢;rw[kT]at h;rcases h with h | h
  ·have:=l h;omega
  ·have:=A h;omega
theorem OS (S:Sy p):MR (nT p)=nT p:=by have b:=S.t1;have a:nT p=(p.1.length:Int):=rfl;exact Tb (by omega) (by omega)
theorem U5 (S:Sy p):Ok (PI p) λf=>f.length=p.2.1.length+1∧Ss (nT p) f:=by
 have m:=S.v1;unfold PI;have e:hA .i64 ((p.2.1.length:Int)+1)=((p.2.1.length+1:Nat):Int):=by rw[w64 (by omega) (by omega)];omega
 rw[e];obtain⟨l,c,d,g⟩:=Lz (f:=λ_ a=>(CH (nT p)).bind λs=>app a [s]) (n:=p.2.1.length+1) (by omega) (λ_ (s:Aa)=>OkS s∧s.1=nT p) λk a b o=>by
  have⟨s,e,h,i,_⟩:=Dg.new_ok (nT p);rw[e,eE,cy (by omega)];exact⟨s,rfl,h,i.trans (OS S)⟩
 refine⟨l,c,d,λs j=> ?_⟩;obtain⟨k,b⟩:=lK j;exact g k s b
theorem U6 {ss:List Aa}(H:Ss w ss) (j:ss.length≤100000):Ok (LL ss) λl=>l.length=ss.length∧ ∀x∈l,x.length≤64000:=by
 unfold LL;obtain⟨l,d,e,g⟩:=Lz (f:=λi (a:List (List Int))=>(idx ss i).bind λs=>(Ju s).bind λl=>app a [l]) (n:=ss.length) (by omega) (λ_ (x:List Int)=>x.length≤64000) λk a b m=>by
  have c:=(H _ (kF b)).1;rw[GI b,eE,LG c,eE,cy (by omega)];refine⟨_,rfl,?_⟩;have d:=PL ss[k];have e:=c.len;have g:=c.hi;omega
 refine⟨l,d,e,λx h=> ?_⟩;obtain⟨k,b⟩:=lK h;exact g k x b
structure aK (p:dtP) (fa:dtF):Prop where
 len:fa.1.length=p.2.1.length+1
 nul:∀s,nT p≤s→(fa.1[(s - nT p).toNat]? =some true↔Nul p.2.2.1 s)
 flen:fa.2.1.length=p.2.1.length+1
 few:∀l∈fa.2.1,l.length≤64000
theorem dD (S:Sy p) {null:List Bool}(e:null.length=p.2.1.length+1) (a:∀(j:Nat) r,p.2.2.1[j]? =some r→(∀s∈r.2.1,Nl p null s)→Nl p null r.1) {s:Int}(h:Nul p.2.2.1 s):Nl p null s:=by
 induction h with
 |rule b _ c=>
  obtain⟨j,d⟩:=lK b;exact a j _ d c
theorem aL (S:Sy p):Ok (RB p) (aK p):=by
 have V:=S.t1;have W:=S.v1;have X:=S.few;have G:nT p=(p.1.length:Int):=rfl;unfold RB;have e:hA .i64 ((p.2.1.length:Int)+1)=((p.2.1.length+1:Nat):Int):=by rw[w64 (by omega) (by omega)];omega
 rw[e];refine AJ (x:=lO (p.2.1.length+1) false) (by unfold GW;rw[if_pos ⟨by omega,by omega⟩,lI])<|AP (U5 S) λf H=>AP (U5 S) λg I=> ?_;obtain⟨y,J⟩:=H;obtain⟨K,L⟩:=I;have A:Ss (nT p) (f++g):=λs k=>(lF.1 k).elim (J s) (L s);refine E8 (λ(z:Int×List Bool×List Aa)=>z.2.1.length=p.2.1.length+1∧Ss (nT p) z.2.2∧z.2.2.length=f.length+f.length∧ ∀s,Nl p z.2.1 s→Nul p.2.2.1 s) (λz=>mu z.2.1 z.2.2)
  (λz=>z.2.1.length=p.2.1.length+1∧Ss (nT p) z.2.2∧z.2.2.length=f.length+f.length∧(∀s,Nl p z.2.1 s→Nul p.2.2.1 s)∧ ∀(j:Nat) r,p.2.2.1[j]? =some r→(∀s∈r.2.1,Nl p z.2.1 s)→Nl p z.2.1 r.1) ⟨by simp,A,by simp[y,K],λs h=> ?_⟩ (λz B=> ?_) λz B=> ?_
 ·have:=h.2
  dsimp only at this;rw[lT]at this;split at this<;>simp at this
 ·obtain⟨c,C,s1⟩:=z;obtain⟨l,n,o,q⟩:=B;dsimp only at l n o q ⊢;refine AP (aJ S (null:=C) (ss:=s1) (m:=f.length) y (by omega) n (by omega)) λr d=>Af (λt=>Ck ⟨⟨d.len.trans l,d.sets,d.lens.trans o,d.sound q⟩,d.lt t⟩) λt=>B9 ⟨d.len.trans l,d.sets,d.lens.trans o,d.sound q,?_⟩;have⟨M,N⟩:=d.stay t;dsimp only;rw[M];exact λj O D=>N j O (Bm D) D
 ·obtain⟨c,C,s1⟩:=z;obtain⟨l,n,o,q,E⟩:=B;dsimp only at l n o q E ⊢;have u:f.length+p.2.1.length<s1.length:=by omega
  have v:=bO u;have⟨P,Q⟩:=n _ (kF u);refine AX (x:=s1[f.length+p.2.1.length]) (by rw[List.getElem?_drop];exact v) ?_;obtain⟨s',R,T,U,_⟩:=Dg.add_ok P 0;refine AJ R<|E8 (λ(ss:List Aa)=>Ss (nT p) ss∧ss.length=f.length+f.length) room (λ(ss:List Aa)=>Ss (nT p) ss∧ss.length=f.length+f.length) ⟨n.set ⟨T,U.trans Q⟩,by simp[o]⟩ (λss i=> ?_) λss i=> ?_
  ·refine AP (WO S (null:=C) (ss:=ss) (m:=f.length) y (by omega) i.1 i.2) λr d=>Af (λt=>Ck ⟨⟨d.1,d.2.1.trans i.2⟩,d.2.2.2 t⟩) λt=>B9 ⟨d.1,d.2.1.trans i.2⟩
  ·refine AP (U6 (w:=nT p) (λs k=>i.1 s (lX k)) (by simp;omega)) λa F=>AP (U6 (w:=nT p) (λs k=>i.1 s (lZ k)) (by simp;omega)) λb Y=>AC ?_;refine⟨l,λs k=>⟨λh=>q s ⟨k,h⟩,λh=>(dD S l E h).2⟩,?_,F.2⟩;dsimp only;rw[F.1,List.length_take];omega
end
end Go.Proofs.YtnlkgidlfnefbaaGreatDoor
namespace Go.Proofs.YtnlkgidlfnefbaaGreatDoor
open Go Go.Eng
noncomputable def PM (t b a:Nat):T:=kK 0 [aI] (kV [aI] [(.int .i64 1)] λi=>bD 105 [(.pointer (jX a))] (.one aB) λl=>cond l (hC [(.int .i64 (wN i.1))]) (kZ 0 [(.int .i64 i.1)])) λm=>iN a 8 λj=>iN t 1 λc=>deref j.1 λn=>chk (0≤(c.2.1:Int)∧(c.2.1:Int) < (j.2.1:Nat))<|jP n (c.2.1:Int) 1 λo=>bD 106 [(.pointer o),(.int .i64 0)] (.one aB) λu=>kK 2 [] (kV [] [] λv=>bD 107 [(.pointer (jX a))] (.one aB) λp=>cond p (hC []) (kZ 2 [])) λw=>iN a 6 λd=>iN a 7 λq=>iN a 8 λk=>bD 108 [(sv q)] (.one aS) λr=>jG a 8 k<|jG a 6 d<|bD 108 [(sv k)] (.one aS) λs=>jG a 6 d<|iR b 0 d<|iR b 1 r<|iR b 2 s<|jB b 3 m.1<|iN b 0 λe=>iN b 1 λf=>iN b 2 λg=>jA b 3 λh=>kQ (.agg #[(sv e),(sv f),(sv g),(.int .i64 h)])
noncomputable def RC (p_0:Pl6):T:=iP #[(sv p_0.1),(sv p_0.2.1),(sv p_0.2.2.1),(sv p_0.2.2.2.1),(sv p_0.2.2.2.2.1),(sv p_0.2.2.2.2.2.1)] 32 λa=>iP #[(.slice none 0 0),(.slice none 0 0),(.slice none 0 0),(.int .i64 0)] 131 λp=>L6 a λt3 t4 t5 t6 t7 t8=>iN a 1 λh=>L6 a λi j k l m n=>L6 a λb c d e f g=>lV (kW (lL 107 (.int .i64 (hA .i64 ((h.2.1:Int)+(1:Int)))) (.int .i64 (hA .i64 ((h.2.1:Int)+(1:Int))))) (.one aS) λq=>S6 a b c d e f g<|S6 a i j k l m n<|S6 a t3 t4 t5 t6 t7 t8<|bD 104 [(aH i j k l m n)] (.one aS) λr=>S6 a b c d e f g<|S6 a t3 t4 t5 t6 t7 t8<|bD 104 [(aH b c d e f g)] (.one aS) λs=>S6 a t3 t4 t5 t6 t7 t8<|iP #[(sv t3),(sv t4),(sv t5),(sv t6),(sv t7),(sv t8),(sv q),(sv r),(sv s)] 188 λt=>PM a p t) (bD 104 [(aH i j k l m n)] (.one aS) λo=>S6 a b c d e f g<|jG a 1 h<|S6 a t3 t4 t5 t6 t7 t8<|lV (kW (lL 107 (.int .i64 (hA .i64 ((h.2.1:Int)+(1:Int)))) (.int .i64 (hA .i64 ((h.2.1:Int)+(1:Int))))) (.one aS) λu=>S6 a b c d e f g<|S6 a t3 t4 t5 t6 t7 t8<|bD 104 [(aH b c d e f g)] (.one aS) λv=>S6 a t3 t4 t5 t6 t7 t8<|iP #[(sv t3),(sv t4),(sv t5),(sv t6),(sv t7),(sv t8),(sv u),(sv o),(sv v)] 188 λw=>PM a p w) (bD 104 [(aH b c d e f g)] (.one aS) λx=>jG a 1 h<|S6 a t3 t4 t5 t6 t7 t8<|kW (lL 107 (.int .i64 (hA .i64 ((h.2.1:Int)+(1:Int)))) (.int .i64 (hA .i64 ((h.2.1:Int)+(1:Int))))) (.one aS) λy=>S6 a t3 t4 t5 t6 t7 t8<|iP #[(sv t3),(sv t4),(sv t5),(sv t6),(sv t7),(sv t8),(sv y),(sv o),(sv x)] 188 λz=>PM a p z))
theorem Tc (a:Pl6):AT hM f65 [(aG a)] =RC a:=by kernel_rfl
noncomputable def My (p_0:Pl6):T:=iP #[(sv p_0.1),(sv p_0.2.1),(sv p_0.2.2.1),(sv p_0.2.2.2.1),(sv p_0.2.2.2.2.1),(sv p_0.2.2.2.2.2.1)] 32 λb=>iN b 1 λt2=>kK 0 [aI,aS] (kV [aI,aS] [(.int .i64 0),(.slice none 0 0)] λa=>cond (decide (a.1< (hA .i64 ((t2.2.1:Int)+(1:Int))))) (iN b 0 λt5=>bD 111 [(.int .i64 (t5.2.1:Int))] (.one aP) λt6=>iP #[(.pointer t6)] 189 λc=>kW (kH #[140,140] 140 #[(sv a.2.1),(.slice (jX c) 1 1)]) (.one aS) λt8=>hC [(.int .i64 (wN a.1)),(sv t8)]) (kZ 0 [(.int .i64 a.1),(sv a.2.1)])) λd=>kQ (sv d.2.1)
theorem P1 (a:Pl6):AT hM f104 [(aG a)] =My a:=by kernel_rfl
noncomputable def Hh (s_0:Option mQ):T:=deref s_0 λy=>iU y 2 λt2=>kK 0 [aI,aB] (kV [aI,aB] [(.int .i64 0),(.bool false)] λb=>cond (decide (b.1< (t2.2.1:Int))) (deref t2.1 λi=>chk (0≤b.1∧b.1< (t2.2.1:Nat))<|iW i b.1 3 λt6=>iV i b.1 3 1 λt7=>iZ i b.1 3 2 λt8=>iP #[(.int .i64 0),(.slice none 0 0),(.int .i64 0)] 57 λe=>jB e 0 t6<|iR e 1 t7<|jB e 2 t8<|jA e 0 λj=>bD 142 [(.pointer s_0),(.int .i64 j)] (.one aI) λa=>iN e 1 λk=>deref s_0 λl=>iU l 7 λf=>deref f.1 λm=>chk (0≤a∧a< (f.2.1:Nat))<|jP m a 1 λn=>bD 143 [(.pointer s_0),(sv k),(.func (.func 114) #[(.pointer n)] #[])] (.tuple [aB,aB]) λd=>kX [aB] (cond b.2.1 (hC [(.bool true)]) (cond d.1 (hC [(.bool true)]) (cond d.2.1 (deref s_0 λo=>iU o 6 λg=>deref g.1 λp=>chk (0≤a∧a< (g.2.1:Nat))<|jR p a 1 λq=>hC [(.bool (!q))]) (hC [(.bool false)])))) λr=>kX [] (deref s_0 λs=>iU s 6 λc=>deref s_0 λt=>iU t 6 λh=>deref h.1 λu=>chk (0≤a∧a< (h.2.1:Nat))<|jR u a 1 λv=>cond v (deref c.1 λw=>chk (0≤a∧a< (c.2.1:Nat))<|mC (w.add (kJ a *1)) (.bool true)<|hC []) (deref c.1 λx=>chk (0≤a∧a< (c.2.1:Nat))<|mC (x.add (kJ a *1)) (.bool d.2.1)<|hC [])) λz=>hC [(.int .i64 (wN b.1)),(.bool r.1)]) (kZ 0 [(.int .i64 b.1),(.bool b.2.1)])) λA=>kQ (.bool A.2.1)
theorem LN (a:Option mQ):AT hM f105 [(.pointer a)] =Hh a:=by kernel_rfl
noncomputable def G7 (s_0:Option mQ):T:=deref s_0 λJ=>iU J 2 λt2=>kK 0 [aI,aB] (kV [aI,aB] [(.int .i64 0),(.bool false)] λc=>cond (decide (c.1< (t2.2.1:Int))) (deref t2.1 λo=>chk (0≤c.1∧c.1< (t2.2.1:Nat))<|iW o c.1 3 λt6=>iV o c.1 3 1 λt7=>iZ o c.1 3 2 λt8=>iP #[(.int .i64 0),(.slice none 0 0),(.int .i64 0)] 57 λj=>jB j 0 t6<|iR j 1 t7<|jB j 2 t8<|iN j 1 λd=>kK 2 [aI,aB] (kV [aI,aB] [(.int .i64 0),(.bool c.2.1)] λa=>cond (decide (a.1< (d.2.1:Int))) (kK 3 [aB] (deref d.1 λp=>chk (0≤a.1∧a.1< (d.2.1:Nat))<|iW p a.1 1 λk=>deref s_0 λq=>M6 q λr s t u v w=>bD 85 [(aH r s t u v w),(.int .i64 k)] (.one aB) λy=>cond y (kZ 3 [(.bool a.2.1)]) (deref s_0 λl=>iU l 8 λe=>bD 142 [(.pointer s_0),(.int .i64 k)] (.one aI) λf=>lA (l.add 8) (sv e)<|deref e.1 λz=>chk (0≤f∧f< (e.2.1:Nat))<|jP z f 1 λm=>iN j 1 λb=>chk (0≤(wN a.1)∧(wN a.1) ≤(b.2.1:Int)∧(b.2.1:Int) ≤(b.2.2:Nat))<|bD 143 [(.pointer s_0),(.slice (if b.2.2=kJ (wN a.1) then b.1 else Option.map (λx=>Addr.add x (kJ (wN a.1) *1)) b.1) (kJ (b.2.1:Int) - kJ (wN a.1)) (b.2.2 - kJ (wN a.1))),(.func (.func 114) #[(.pointer m)] #[])] (.tuple [aB,aB]) λg=>kX [aB] (cond g.2.1 (kX [aB] (deref s_0 λn=>iU n 8 λh=>jA j 0 λA=>bD 142 [(.pointer s_0),(.int .i64 A)] (.one aI) λi=>lA (n.add 8) (sv h)<|deref h.1 λB=>chk (0≤i∧i< (h.2.1:Nat))<|jP B i 1 λC=>bD 114 [(.pointer m),(.pointer C)] (.one aB) λD=>cond D (hC [(.bool true)]) (hC [(.bool g.1)])) λE=>hC [(.bool E.1)]) (hC [(.bool g.1)])) λF=>kX [aB] (cond a.2.1 (hC [(.bool true)]) (hC [(.bool F.1)])) λG=>hC [(.bool G.1)])) λH=>hC [(.int .i64 (wN a.1)),(.bool H.1)]) (kZ 2 [(.int .i64 a.1),(.bool a.2.1)])) λI=>hC [(.int .i64 (wN c.1)),(.bool I.2.1)]) (kZ 0 [(.int .i64 c.1),(.bool c.2.1)])) λK=>kQ (.bool K.2.1)
theorem KF (a:Option mQ):AT hM f107 [(.pointer a)] =G7 a:=by kernel_rfl
noncomputable def Mz (c:Option mQ) (a d:Nat):T:=kK 0 [aI,aS] (kV [aI,aS] [(.int .i64 0),(.slice none 0 0)] λb=>cond (decide (b.1< ((a:Nat):Int))) (deref c λe=>chk (0≤b.1∧b.1< (a:Nat))<|jP e b.1 1 λt4=>bD 117 [(.pointer t4)] (.one aS) λt5=>iP #[(sv t5)] 30 λf=>kW (kH #[129,129] 129 #[(sv b.2.1),(.slice (jX f) 1 1)]) (.one aS) λt7=>hC [(.int .i64 (wN b.1)),(sv t7)]) (kZ 0 [(.int .i64 b.1),(sv b.2.1)])) λg=>kQ (sv g.2.1)
theorem P2 (a:Option mQ) (b c:Nat):AT hM f108 [(.slice a b c)] =Mz a b c:=by kernel_rfl
noncomputable def OT (f_0:Slc×Slc×Slc×Int×Unit) (p_1:Pl6) (d:Option mQ) (a f:Nat):T:=iP #[(sv f_0.1),(sv f_0.2.1),(sv f_0.2.2.1),(.int .i64 f_0.2.2.2.1)] 131 λj=>iP #[(sv p_1.1),(sv p_1.2.1),(sv p_1.2.2.1),(sv p_1.2.2.2.1),(sv p_1.2.2.2.2.1),(sv p_1.2.2.2.2.2.1)] 32 λi=>iN i 0 λt3=>bD 111 [(.int .i64 (t3.2.1:Int))] (.one aP) λt4=>kK 0 [aI,aB,aS] (kV [aI,aB,aS] [(.int .i64 0),(.bool false),(.slice none 0 0)] λc=>cond (decide (c.1< ((a:Nat):Int))) (kK 1 [aB,aS] (deref d λD=>chk (0≤c.1∧c.1< (a:Nat))<|iW D c.1 1 λe=>L6 i λk l m n o p=>bD 85 [(aH k l m n o p),(.int .i64 e)] (.one aB) λq=>cond q (bD 106 [(.pointer t4),(.int .i64 e)] (.one aB) λE=>bD 117 [(.pointer t4)] (.one aS) λr=>kQ (.tuple #[(sv r),(.bool false)])) (iN i 0 λb=>kX [aB] (cond (decide ((hA .i64 (e - (b.2.1:Int))) < 0)) (hC [(.bool true)]) (iN j 1 λs=>hC [(.bool (decide ((hA .i64 (e - (b.2.1:Int))) ≥ (s.2.1:Int))))])) λt=>cond t.1 (kZ 1 [(.bool c.2.1),(sv c.2.2.1)]) (iN i 0 λu=>iN j 1 λg=>deref g.1 λv=>chk (0≤(hA .i64 (e - (b.2.1:Int)))∧(hA .i64 (e - (b.2.1:Int))) < (g.2.1:Nat))<|iO v (hA .i64 (e - (b.2.1:Int))) 1 λw=>bD 115 [(.int .i64 (u.2.1:Int)),(sv w)] (.one aP) λx=>bD 114 [(.pointer t4),(.pointer x)] (.one aB) λF=>iN j 0 λh=>deref h.1 λy=>chk (0≤(hA .i64 (e - (b.2.1:Int)))∧(hA .i64 (e - (b.2.1:Int))) < (h.2.1:Nat))<|jR y (hA .i64 (e - (b.2.1:Int))) 1 λz=>cond (!z) (bD 117 [(.pointer t4)] (.one aS) λA=>kQ (.tuple #[(sv A),(.bool false)])) (hC [(.bool c.2.1),(sv c.2.2.1)])))) λC=>hC [(.int .i64 (wN c.1)),(.bool C.1),(sv C.2.1)]) (kZ 0 [(.int .i64 c.1),(.bool c.2.1),(sv c.2.2.1)])) λG=>bD 117 [(.pointer t4)] (.one aS) λB=>kQ (.tuple #[(sv B),(.bool true)])
theorem MT (d:Slc×Slc×Slc×Int×Unit) (e:Pl6) (a:Option mQ) (b c:Nat):AT hM f122 [(.agg #[(sv d.1),(sv d.2.1),(sv d.2.2.1),(.int .i64 d.2.2.2.1)]),(aG e),(.slice a b c)] =OT d e a b c:=by kernel_rfl
noncomputable def Jw (s_0:Option mQ) (a:Int):T:=deref s_0 λb=>jS b λt2=>kQ (.int .i64 (hA .i64 (a - (t2.2.1:Int))))
theorem OU (b:Option mQ) (a:Int):AT hM f142 [(.pointer b),(.int .i64 a)] =Jw b a:=by kernel_rfl
noncomputable def F8 (s_0:Option mQ) (b:Option mQ) (a h:Nat) (i:Option mQ):T:=kK 0 [aI,aB,aB] (kV [aI,aB,aB] [(.int .i64 0),(.bool false),(.bool false)] λc=>cond (decide (c.1< ((a:Nat):Int))) (deref b λA=>chk (0≤c.1∧c.1< (a:Nat))<|iW A c.1 1 λt4=>deref s_0 λB=>M6 B λt6 t7 t8 C n o=>bD 85 [(aH t6 t7 t8 C n o),(.int .i64 t4)] (.one aB) λp=>cond p (kX [aB,aB] (deref s_0 λq=>jS q λr=>iP #[(.int .i64 t4)] 3 λs=>bD 115 [(.int .i64 (r.2.1:Int)),(.slice (jX s) 1 1)] (.one aP) λt=>bD 114 [(.pointer i),(.pointer t)] (.one aB) λu=>cond u (hC [(.bool true),(.bool false)]) (hC [(.bool c.2.2.1),(.bool false)])) λj=>kQ (.tuple #[(.bool j.1),(.bool j.2.1)])) (kX [aB] (deref s_0 λk=>iU k 7 λd=>bD 142 [(.pointer s_0),(.int .i64 t4)] (.one aI) λe=>lA (k.add 7) (sv d)<|deref d.1 λv=>chk (0≤e∧e< (d.2.1:Nat))<|jP v e 1 λw=>bD 114 [(.pointer i),(.pointer w)] (.one aB) λx=>cond x (hC [(.bool true)]) (hC [(.bool c.2.2.1)])) λl=>deref s_0 λm=>iU m 6 λf=>bD 142 [(.pointer s_0),(.int .i64 t4)] (.one aI) λg=>lA (m.add 6) (sv f)<|deref f.1 λy=>chk (0≤g∧g< (f.2.1:Nat))<|jR y g 1 λz=>cond (!z) (kQ (.tuple #[(.bool l.1),(.bool false)])) (hC [(.int .i64 (wN c.1)),(.bool c.2.1),(.bool l.1)]))) (kZ 0 [(.int .i64 c.1),(.bool c.2.1),(.bool c.2.2.1)])) λD=>kQ (.tuple #[(.bool D.2.2.1),(.bool true)])
theorem Iv (d:Option mQ) (a:Option mQ) (b c:Nat) (e:Option mQ):AT hM f143 [(.pointer d),(.slice a b c),(.func (.func 114) #[(.pointer e)] #[])] =F8 d a b c e:=by kernel_rfl
noncomputable def SS (p_0:Pl6) (g:Option mQ):T:=iP #[(sv p_0.1),(sv p_0.2.1),(sv p_0.2.2.1),(sv p_0.2.2.2.1),(sv p_0.2.2.2.2.1),(sv p_0.2.2.2.2.2.1)] 32 λa=>L6 a λt2 t3 t4 t5 t6 t7=>L6 a λt8 n b c d e=>lV (bD 65 [(aH t8 n b c d e)] (.one (.agg [.slice,.slice,.slice,(.int .i64)])) λf=>S6 a t2 t3 t4 t5 t6 t7<|lV (mD (.map #[] 0) λA=>S6 a t2 t3 t4 t5 t6 t7<|mD (.map #[] 0) λB=>S6 a t2 t3 t4 t5 t6 t7<|iP #[(sv t2),(sv t3),(sv t4),(sv t5),(sv t6),(sv t7),(.pointer g),(sv f.1),(sv f.2.1),(sv f.2.2.1),(.int .i64 f.2.2.2.1),(.slice none 0 0),(.map (some A)),(.map (some B))] 137 λh=>bD 66 [(.pointer (jX h)),(.func (.func 67) #[(.pointer (jX h))] #[])] (.tuple []) λa1=>bD 68 [(.pointer (jX h))] (.tuple [aS,aS]) λs=>bD 71 [(.pointer (jX h))] (.one aS) λC=>bD 70 [(sv s.2.1),(sv s.1)] (.one aS) λD=>bD 70 [(sv C),(sv D)] (.one aS) λE=>bD 69 [(.pointer (jX h)),(sv E)] (.tuple []) λa2=>kQ (.pointer (jX h))) (mD (.map #[] 0) λF=>S6 a t2 t3 t4 t5 t6 t7<|mD (.map #[] 0) λG=>S6 a t2 t3 t4 t5 t6 t7<|iP #[(sv t2),(sv t3),(sv t4),(sv t5),(sv t6),(sv t7),(.pointer g),(sv f.1),(sv f.2.1),(sv f.2.2.1),(.int .i64 f.2.2.2.1),(.slice none 0 0),(.map (some G)),(.map (some F))] 137 λi=>bD 66 [(.pointer (jX i)),(.func (.func 67) #[(.pointer (jX i))] #[])] (.tuple []) λa3=>bD 68 [(.pointer (jX i))] (.tuple [aS,aS]) λt=>bD 71 [(.pointer (jX i))] (.one aS) λH=>bD 70 [(sv t.2.1),(sv t.1)] (.one aS) λI=>bD 70 [(sv H),(sv I)] (.one aS) λJ=>bD 69 [(.pointer (jX i)),(sv J)] (.tuple []) λa4=>kQ (.pointer (jX i)))) (lV (mD (.map #[] 0) λu=>S6 a t8 n b c d e<|S6 a t2 t3 t4 t5 t6 t7<|lV (bD 65 [(aH t8 n b c d e)] (.one (.agg [.slice,.slice,.slice,(.int .i64)])) λo=>S6 a t2 t3 t4 t5 t6 t7<|mD (.map #[] 0) λK=>S6 a t2 t3 t4 t5 t6 t7<|iP #[(sv t2),(sv t3),(sv t4),(sv t5),(sv t6),(sv t7),(.pointer g),(sv o.1),(sv o.2.1),(sv o.2.2.1),(.int .i64 o.2.2.2.1),(.slice none 0 0),(.map (some u)),(.map (some K))] 137 λj=>bD 66 [(.pointer (jX j)),(.func (.func 67) #[(.pointer (jX j))] #[])] (.tuple []) λa5=>bD 68 [(.pointer (jX j))] (.tuple [aS,aS]) λv=>bD 71 [(.pointer (jX j))] (.one aS) λL=>bD 70 [(sv v.2.1),(sv v.1)] (.one aS) λM=>bD 70 [(sv L),(sv M)] (.one aS) λN=>bD 69 [(.pointer (jX j)),(sv N)] (.tuple []) λa6=>kQ (.pointer (jX j))) (mD (.map #[] 0) λO=>S6 a t8 n b c d e<|S6 a t2 t3 t4 t5 t6 t7<|bD 65 [(aH t8 n b c d e)] (.one (.agg [.slice,.slice,.slice,(.int .i64)])) λp=>S6 a t2 t3 t4 t5 t6 t7<|iP #[(sv t2),(sv t3),(sv t4),(sv t5),(sv t6),(sv t7),(.pointer g),(sv p.1),(sv p.2.1),(sv p.2.2.1),(.int .i64 p.2.2.2.1),(.slice none 0 0),(.map (some u)),(.map (some O))] 137 λk=>bD 66 [(.pointer (jX k)),(.func (.func 67) #[(.pointer (jX k))] #[])] (.tuple []) λa7=>bD 68 [(.pointer (jX k))] (.tuple [aS,aS]) λw=>bD 71 [(.pointer (jX k))] (.one aS) λP=>bD 70 [(sv w.2.1),(sv w.1)] (.one aS) λQ=>bD 70 [(sv P),(sv Q)] (.one aS) λR=>bD 69 [(.pointer (jX k)),(sv R)] (.tuple []) λa8=>kQ (.pointer (jX k)))) (mD (.map #[] 0) λx=>S6 a t8 n b c d e<|S6 a t2 t3 t4 t5 t6 t7<|lV (bD 65 [(aH t8 n b c d e)] (.one (.agg [.slice,.slice,.slice,(.int .i64)])) λq=>S6 a t2 t3 t4 t5 t6 t7<|mD (.map #[] 0) λS=>S6 a t2 t3 t4 t5 t6 t7<|iP #[(sv t2),(sv t3),(sv t4),(sv t5),(sv t6),(sv t7),(.pointer g),(sv q.1),(sv q.2.1),(sv q.2.2.1),(.int .i64 q.2.2.2.1),(.slice none 0 0),(.map (some S)),(.map (some x))] 137 λl=>bD 66 [(.pointer (jX l)),(.func (.func 67) #[(.pointer (jX l))] #[])] (.tuple []) λa9=>bD 68 [(.pointer (jX l))] (.tuple [aS,aS]) λy=>bD 71 [(.pointer (jX l))] (.one aS) λU=>bD 70 [(sv y.2.1),(sv y.1)] (.one aS) λV=>bD 70 [(sv U),(sv V)] (.one aS) λW=>bD 69 [(.pointer (jX l)),(sv W)] (.tuple []) λb0=>kQ (.pointer (jX l))) (mD (.map #[] 0) λX=>S6 a t8 n b c d e<|S6 a t2 t3 t4 t5 t6 t7<|bD 65 [(aH t8 n b c d e)] (.one (.agg [.slice,.slice,.slice,(.int .i64)])) λr=>S6 a t2 t3 t4 t5 t6 t7<|iP #[(sv t2),(sv t3),(sv t4),(sv t5),(sv t6),(sv t7),(.pointer g),(sv r.1),(sv r.2.1),(sv r.2.2.1),(.int .i64 r.2.2.2.1),(.slice none 0 0),(.map (some X)),(.map (some x))] 137 λm=>bD 66 [(.pointer (jX m)),(.func (.func 67) #[(.pointer (jX m))] #[])] (.tuple []) λb1=>bD 68 [(.pointer (jX m))] (.tuple [aS,aS]) λz=>bD 71 [(.pointer (jX m))] (.one aS) λY=>bD 70 [(sv z.2.1),(sv z.1)] (.one aS) λZ=>bD 70 [(sv Y),(sv Z)] (.one aS) λa0=>bD 69 [(.pointer (jX m)),(sv a0)] (.tuple []) λb2=>kQ (.pointer (jX m)))))
theorem U7 (a:Pl6) (b:Option mQ):AT hM f33 [(aG a),(.pointer b)] =SS a b:=by kernel_rfl
noncomputable def Hi (c:Option mQ) (f:Option mQ):T:=deref c λt=>jT t 6 λt2=>bD 32 [(.pointer t2)] (.one aI) λt3=>kK 0 [aI] (kV [aI] [(.int .i64 0)] λd=>cond (decide (d.1<t3)) (deref c λu=>jT u 6 λt7=>bD 109 [(.pointer t7),(.int .i64 d.1)] (.one aS) λt8=>kK 2 [aI] (kV [aI] [(.int .i64 0)] λa=>cond (decide (a.1< (t8.2.1:Int))) (deref t8.1 λe=>chk (0≤a.1∧a.1< (t8.2.1:Nat))<|iW e a.1 2 λg=>iZ e a.1 2 1 λh=>iP #[(.int .i64 0),(.int .i64 0)] 128 λb=>jB b 0 g<|jB b 1 h<|deref c λi=>M6 i λj k l m n o=>jA b 0 λp=>bD 85 [(aH j k l m n o),(.int .i64 p)] (.one aB) λq=>kX [] (cond (!q) (jA b 0 λr=>jA b 1 λs=>bD 67 [(.pointer f),(.agg #[(.int .i64 d.1),(.int .i64 r)]),(.int .i64 s)] (.tuple []) λv=>hC []) (hC [])) λw=>hC [(.int .i64 (wN a.1))]) (kZ 2 [(.int .i64 a.1)])) λx=>hC [(.int .i64 (wN d.1))]) (kZ 0 [(.int .i64 d.1)])) λy=>kQ (.tuple #[])
theorem LO (a:Option mQ) (b:Option mQ):AT hM f66 [(.pointer a),(.func (.func 67) #[(.pointer b)] #[])] =Hi a b:=by kernel_rfl
noncomputable def Hk (c:Option mQ) (d:Nat) (e:Nat) (f:Nat):T:=deref c λv=>jT v 6 λt2=>bD 32 [(.pointer t2)] (.one aI) λt3=>kK 0 [aI] (kV [aI] [(.int .i64 0)] λg=>cond (decide (g.1<t3)) (deref c λw=>jT w 6 λt7=>bD 109 [(.pointer t7),(.int .i64 g.1)] (.one aS) λt8=>kK 2 [aI] (kV [aI] [(.int .i64 0)] λa=>cond (decide (a.1< (t8.2.1:Int))) (deref t8.1 λh=>chk (0≤a.1∧a.1< (t8.2.1:Nat))<|iW h a.1 2 λi=>iZ h a.1 2 1 λj=>iP #[(.int .i64 0),(.int .i64 0)] 128 λb=>jB b 0 i<|jB b 1 j<|deref c λk=>M6 k λl m n o p q=>jA b 0 λr=>bD 85 [(aH l m n o p q),(.int .i64 r)] (.one aB) λs=>kX [] (cond (!s) (jA b 0 λt=>jA b 1 λu=>bD 110 [(.agg #[(.int .i64 g.1),(.int .i64 t)]),(.int .i64 u),(.pointer (jX d)),(.pointer (jX e)),(.pointer (jX f))] (.tuple []) λx=>hC []) (hC [])) λy=>hC [(.int .i64 (wN a.1))]) (kZ 2 [(.int .i64 a.1)])) λz=>hC [(.int .i64 (wN g.1))]) (kZ 0 [(.int .i64 g.1)])) λA=>kQ (.tuple #[])
theorem LP (d:Option mQ) (a:Nat) (b:Nat) (c:Nat):AT hM f66 [(.pointer d),(.func (.func 110) #[] #[(.pointer (jX a)),(.pointer (jX b)),(.pointer (jX c))])] =Hk d a b c:=by kernel_rfl
noncomputable def FM (a:Option mQ) (b:Int×Int×Unit) (j:Int):T:=iP #[(.int .i64 b.1),(.int .i64 b.2.1)] 193 λd=>deref a λl=>jU l 12 λt3=>jA d 0 λt4=>jA d 1 λt5=>deref a λm=>iU m 11 λt7=>kW (mK (lM 133 (.map t3) (.agg #[(.int .i64 t4),(.int .i64 t5)]) (.int .i64 (t7.2.1:Int))) λ_=>.pure undef) (.tuple []) λn=>deref a λk=>iU k 11 λc=>jA d 0 λe=>jA d 1 λf=>iP #[(.int .i64 e),(.int .i64 f)] 193 λg=>lA (k.add 11) (sv c)<|kW (kH #[135,135] 135 #[(sv c),(.slice (jX g) 1 1)]) (.one aS) λh=>deref a λi=>mC (i.add 11) (sv h)<|kQ (.tuple #[])
theorem LQ (c:Option mQ) (b:Int×Int×Unit) (a:Int):AT hM f67 [(.pointer c),(.agg #[(.int .i64 b.1),(.int .i64 b.2.1)]),(.int .i64 a)] =FM c b a:=by kernel_rfl
noncomputable def Hl (a:Option mQ):T:=iP #[(.pointer a)] 69 λb=>iP #[(.slice none 0 0)] 140 λc=>iP #[(.slice none 0 0)] 129 λd=>iT b 0 λt4=>bD 66 [(.pointer t4),(.func (.func 110) #[] #[(.pointer (jX b)),(.pointer (jX c)),(.pointer (jX d))])] (.tuple []) λt5=>iN c 0 λt6=>iN d 0 λt7=>kQ (.tuple #[(sv t6),(sv t7)])
theorem LR (a:Option mQ):AT hM f68 [(.pointer a)] =Hl a:=by kernel_rfl
noncomputable def EX (s_0:Int×Int×Unit) (h:Int) (e:Nat) (d:Nat) (a:Nat):T:=iP #[(.int .i64 s_0.1),(.int .i64 s_0.2.1)] 193 λr1=>iT e 0 λt2=>deref t2 λa3=>jS a3 λt4=>bD 111 [(.int .i64 (t4.2.1:Int))] (.one aP) λt5=>iT e 0 λt6=>bD 112 [(.pointer t6),(.int .i64 h),(.int .i64 0)] (.one aB) λt7=>kX [] (cond t7 (bD 106 [(.pointer t5),(.int .i64 0)] (.one aB) λt9=>hC []) (hC [])) λz8=>iT e 0 λp=>deref p λq=>jT q 6 λr=>bD 109 [(.pointer r),(.int .i64 h)] (.one aS) λi=>kK 0 [aI,aS] (kV [aI,aS] [(.int .i64 0),(.slice none 0 0)] λb=>cond (decide (b.1< (i.2.1:Int))) (deref i.1 λm=>chk (0≤b.1∧b.1< (i.2.1:Nat))<|iW m b.1 2 λs=>iZ m b.1 2 1 λt=>iP #[(.int .i64 0),(.int .i64 0)] 128 λg=>jB g 0 s<|jB g 1 t<|iT e 0 λu=>deref u λv=>M6 v λw x y z A B=>jA g 0 λC=>bD 85 [(aH w x y z A B),(.int .i64 C)] (.one aB) λD=>kX [aS] (cond D (jA g 0 λE=>bD 106 [(.pointer t5),(.int .i64 E)] (.one aB) λa6=>hC [(sv b.2.1)]) (iT e 0 λF=>deref F λG=>iU G 7 λn=>jA g 0 λj=>iT e 0 λH=>deref H λI=>jS I λk=>deref n.1 λJ=>chk (0≤(hA .i64 (j - (k.2.1:Int)))∧(hA .i64 (j - (k.2.1:Int))) < (n.2.1:Nat))<|jR J (hA .i64 (j - (k.2.1:Int))) 1 λK=>kX [aS] (cond K (iT e 0 λL=>deref L λM=>jU M 12 λN=>jA g 0 λO=>kW (lB 133 (.map N) (.agg #[(.int .i64 h),(.int .i64 O)]) false) (.one aI) λP=>iP #[(.int .i64 P)] 3 λQ=>kW (kH #[30,30] 30 #[(sv b.2.1),(.slice (jX Q) 1 1)]) (.one aS) λR=>hC [(sv R)]) (hC [(sv b.2.1)])) λS=>hC [(sv S.1)])) λU=>hC [(.int .i64 (wN b.1)),(sv U.1)]) (kZ 0 [(.int .i64 b.1),(sv b.2.1)])) λl=>iN d 0 λf=>iN a 0 λc=>lV (iP #[(.pointer t5)] 189 λo=>jG a 0 c<|jG d 0 f<|lV (kW (kH #[140,140] 140 #[(sv f),(.slice (jX o) 1 1)]) (.one aS) λV=>jG a 0 c<|iP #[(sv l.2.1)] 30 λW=>jG a 0 c<|kW (kH #[129,129] 129 #[(sv c),(.slice (jX W) 1 1)]) (.one aS) λX=>iR d 0 V<|iR a 0 X<|kQ (.tuple #[])) (iP #[(sv l.2.1)] 30 λY=>jG a 0 c<|jG d 0 f<|kW (kH #[140,140] 140 #[(sv f),(.slice (jX o) 1 1)]) (.one aS) λZ=>jG a 0 c<|kW (kH #[129,129] 129 #[(sv c),(.slice (jX Y) 1 1)]) (.one aS) λa0=>iR d 0 Z<|iR a 0 a0<|kQ (.tuple #[]))) (iP #[(sv l.2.1)] 30 λa1=>jG a 0 c<|jG d 0 f<|iP #[(.pointer t5)] 189 λa2=>jG a 0 c<|jG d 0 f<|kW (kH #[140,140] 140 #[(sv f),(.slice (jX a2) 1 1)]) (.one aS) λa4=>jG a 0 c<|kW (kH #[129,129] 129 #[(sv c),(.slice (jX a1) 1 1)]) (.one aS) λa5=>iR d 0 a4<|iR a 0 a5<|kQ (.tuple #[]))
theorem JW (b:Int×Int×Unit) (a:Int) (c:Nat) (d:Nat) (e:Nat):AT hM f110 [(.agg #[(.int .i64 b.1),(.int .i64 b.2.1)]),(.int .i64 a),(.pointer (jX c)),(.pointer (jX d)),(.pointer (jX e))] =EX b a c d e:=by kernel_rfl
noncomputable def F9 (b:Option mQ):T:=deref b λa1=>iU a1 11 λt2=>kW (lL 129 (.int .i64 (t2.2.1:Int)) (.int .i64 (t2.2.1:Int))) (.one aS) λt3=>deref b λa4=>iU a4 11 λt5=>kK 0 [aI] (kV [aI] [(.int .i64 0)] λi=>cond (decide (i.1< (t5.2.1:Int))) (deref t5.1 λa8=>chk (0≤i.1∧i.1< (t5.2.1:Nat))<|iW a8 i.1 2 λt9=>iZ a8 i.1 2 1 λn=>iP #[(.int .i64 0),(.int .i64 0)] 193 λg=>jB g 0 t9<|jB g 1 n<|deref b λo=>iU o 2 λj=>kK 2 [aI] (kV [aI] [(.int .i64 0)] λc=>cond (decide (c.1< (j.2.1:Int))) (kK 3 [] (deref j.1 λk=>chk (0≤c.1∧c.1< (j.2.1:Nat))<|iW k c.1 3 λp=>iV k c.1 3 1 λq=>iZ k c.1 3 2 λr=>iP #[(.int .i64 0),(.slice none 0 0),(.int .i64 0)] 57 λe=>jB e 0 p<|iR e 1 q<|jB e 2 r<|jA e 0 λs=>jA g 1 λt=>cond (s !=t) (kZ 3 []) (jA g 0 λu=>iN e 1 λl=>kK 4 [aI,aI] (kV [aI,aI] [(.int .i64 0),(.int .i64 u)] λa=>cond (decide (a.1< (l.2.1:Int))) (deref l.1 λv=>chk (0≤a.1∧a.1< (l.2.1:Nat))<|iW v a.1 1 λm=>deref b λh=>iU h 7 λw=>jS ((h.add 7).add 1) λy=>jS ((h.add 7).add 2) λz=>jK ((h.add 7).add 3) λA=>deref b λB=>M6 B λC D E F G H=>iN e 1 λd=>chk (0≤(wN a.1)∧(wN a.1) ≤(d.2.1:Int)∧(d.2.1:Int) ≤(d.2.2:Nat))<|bD 122 [(.agg #[(sv w),(sv y),(sv z),(.int .i64 A)]),(aH C D E F G H),(.slice (if d.2.2=kJ (wN a.1) then d.1 else Option.map (λx=>Addr.add x (kJ (wN a.1) *1)) d.1) (kJ (d.2.1:Int) - kJ (wN a.1)) (d.2.2 - kJ (wN a.1)))] (.tuple [aS,aB]) λI=>kX [aB] (cond I.2.1 (deref b λJ=>M6 J λK L M N O P=>bD 85 [(aH K L M N O P),(.int .i64 m)] (.one aB) λQ=>hC [(.bool (!Q))]) (hC [(.bool false)])) λR=>kX [] (cond R.1 (deref b λS=>jU S 12 λU=>kW (lB 133 (.map U) (.agg #[(.int .i64 a.2.1),(.int .i64 m)]) false) (.one aI) λf=>deref t3.1 λV=>chk (0≤f∧f< (t3.2.1:Nat))<|iO V f 1 λW=>iP #[(.int .i64 i.1)] 3 λX=>kW (kH #[30,30] 30 #[(sv W),(.slice (jX X) 1 1)]) (.one aS) λY=>deref t3.1 λZ=>chk (0≤f∧f< (t3.2.1:Nat))<|mC (Z.add (kJ f *1)) (sv Y)<|hC []) (hC [])) λa5=>deref b λa0=>jT a0 6 λa2=>bD 73 [(.pointer a2),(.int .i64 a.2.1),(.int .i64 m)] (.one aI) λa3=>hC [(.int .i64 (wN a.1)),(.int .i64 a3)]) (kZ 4 [(.int .i64 a.1),(.int .i64 a.2.1)])) λa6=>hC [])) λa7=>hC [(.int .i64 (wN c.1))]) (kZ 2 [(.int .i64 c.1)])) λa9=>hC [(.int .i64 (wN i.1))]) (kZ 0 [(.int .i64 i.1)])) λz6=>kQ (sv t3)
theorem Iw (a:Option mQ):AT hM f71 [(.pointer a)] =F9 a:=by kernel_rfl
noncomputable def IF (a:Option mQ) (b:Option mQ) (c j:Nat):T:=deref a λa1=>iU a1 11 λt2=>kK 0 [aI] (kV [aI] [(.int .i64 0)] λg=>cond (decide (g.1< (t2.2.1:Int))) (deref t2.1 λa5=>chk (0≤g.1∧g.1< (t2.2.1:Nat))<|iW a5 g.1 2 λt6=>iZ a5 g.1 2 1 λt7=>iP #[(.int .i64 0),(.int .i64 0)] 193 λr=>jB r 0 t6<|jB r 1 t7<|deref a λa9=>iU a9 2 λk=>kK 2 [aI] (kV [aI] [(.int .i64 0)] λd=>cond (decide (d.1< (k.2.1:Int))) (kK 3 [] (deref k.1 λl=>chk (0≤d.1∧d.1< (k.2.1:Nat))<|iW l d.1 3 λH=>iV l d.1 3 1 λI=>iZ l d.1 3 2 λJ=>iP #[(.int .i64 0),(.slice none 0 0),(.int .i64 0)] 57 λh=>jB h 0 H<|iR h 1 I<|jB h 2 J<|jA h 0 λK=>jA r 1 λL=>cond (K !=L) (kZ 3 []) (deref a λs=>jT s 6 λm=>jA r 0 λn=>iN h 1 λo=>lV (bD 113 [(.pointer m),(.int .i64 n),(sv o)] (.one aI) λM=>iP #[(.int .i64 0),(.int .i64 0)] 197 λe=>jB e 0 M<|jB e 1 d.1<|deref a λN=>jU N 13 λO=>jA e 0 λP=>jA e 1 λQ=>kW (lB 134 (.map O) (.agg #[(.int .i64 P),(.int .i64 Q)]) false) (.one aP) λR=>kX [] (cond (mE R) (deref a λt=>jU t 13 λu=>jA e 0 λv=>jA e 1 λw=>deref a λS=>jS S λU=>bD 111 [(.int .i64 (U.2.1:Int))] (.one aP) λV=>jV e 0 v<|jV e 1 w<|lA (t.add 13) (.map u)<|kW (mK (lM 134 (.map u) (.agg #[(.int .i64 v),(.int .i64 w)]) (.pointer V)) λ_=>.pure undef) (.tuple []) λc4=>hC []) (hC [])) λc5=>deref a λW=>jU W 13 λX=>jA e 0 λY=>jA e 1 λZ=>deref b λx=>chk (0≤g.1∧g.1< (c:Nat))<|jP x g.1 1 λy=>kW (lB 134 (.map X) (.agg #[(.int .i64 Y),(.int .i64 Z)]) false) (.one aP) λa0=>lA (x.add (kJ g.1 *1)) (.pointer y)<|bD 114 [(.pointer a0),(.pointer y)] (.one aB) λc6=>hC []) (iP #[(.int .i64 0),(.int .i64 0)] 197 λf=>jG h 1 o<|jV r 0 n<|lA (s.add 6) (.pointer m)<|bD 113 [(.pointer m),(.int .i64 n),(sv o)] (.one aI) λa2=>jB f 0 a2<|jB f 1 d.1<|deref a λa3=>jU a3 13 λa4=>jA f 0 λa6=>jA f 1 λa7=>kW (lB 134 (.map a4) (.agg #[(.int .i64 a6),(.int .i64 a7)]) false) (.one aP) λa8=>kX [] (cond (mE a8) (deref a λz=>jU z 13 λA=>jA f 0 λB=>jA f 1 λC=>deref a λb0=>jS b0 λb1=>bD 111 [(.int .i64 (b1.2.1:Int))] (.one aP) λb2=>jV f 0 B<|jV f 1 C<|lA (z.add 13) (.map A)<|kW (mK (lM 134 (.map A) (.agg #[(.int .i64 B),(.int .i64 C)]) (.pointer b2)) λ_=>.pure undef) (.tuple []) λc7=>hC []) (hC [])) λc8=>deref a λb3=>jU b3 13 λb4=>jA f 0 λb5=>jA f 1 λb6=>deref b λD=>chk (0≤g.1∧g.1< (c:Nat))<|jP D g.1 1 λE=>kW (lB 134 (.map b4) (.agg #[(.int .i64 b5),(.int .i64 b6)]) false) (.one aP) λb7=>lA (D.add (kJ g.1 *1)) (.pointer E)<|bD 114 [(.pointer b7),(.pointer E)] (.one aB) λc9=>hC []))) λd0=>hC [(.int .i64 (wN d.1))]) (kZ 2 [(.int .i64 d.1)])) λd1=>hC [(.int .i64 (wN g.1))]) (kZ 0 [(.int .i64 g.1)])) λz3=>deref a λb8=>jT b8 6 λb9=>bD 32 [(.pointer b9)] (.one aI) λc0=>kK 4 [aI] (kV [aI] [(.int .i64 0)] λi=>cond (decide (i.1<c0)) (bD 112 [(.pointer a),(.int .i64 i.1),(.int .i64 0)] (.one aB) λc1=>kX [] (cond c1 (deref a λp=>jU p 13 λq=>deref a λF=>jS F λG=>iP #[(.int .i64 0)] 3 λc2=>lA F (sv G)<|lA (p.add 13) (.map q)<|bD 115 [(.int .i64 (G.2.1:Int)),(.slice (jX c2) 1 1)] (.one aP) λc3=>lA (p.add 13) (.map q)<|kW (mK (lM 134 (.map q) (.agg #[(.int .i64 i.1),(.int .i64 0)]) (.pointer c3)) λ_=>.pure undef) (.tuple []) λd2=>hC []) (hC [])) λd3=>hC [(.int .i64 (wN i.1))]) (kZ 4 [(.int .i64 i.1)])) λd4=>kQ (.tuple #[])
theorem MU (d:Option mQ) (a:Option mQ) (b c:Nat):AT hM f69 [(.pointer d),(.slice a b c)] =IF d a b c:=by kernel_rfl
noncomputable def OV (c:Option mQ) (b:Int) (a:Int):T:=kX [aB] (cond (decide (a< 0)) (hC [(.bool true)]) (deref c λi=>iU i 2 λt3=>hC [(.bool (decide (a≥ (t3.2.1:Int))))])) λj=>cond j.1 (kQ (.bool false)) (deref c λk=>jT k 6 λt5=>deref c λf=>iU f 2 λt7=>deref t7.1 λg=>chk (0≤a∧a< (t7.2.1:Nat))<|iV g a 3 1 λh=>bD 147 [(.pointer t5),(.int .i64 b)] (.one aS) λd=>lA ((g.add (kJ a *3)).add 1) (sv h)<|lA (f.add 2) (sv t7)<|bD 98 [(sv d),(.agg #[(.int .i64 a),(.int .i64 (h.2.1:Int))])] (.one aB) λe=>kQ (.bool e))
theorem MV (c:Option mQ) (a:Int) (b:Int):AT hM f112 [(.pointer c),(.int .i64 a),(.int .i64 b)] =OV c a b:=by kernel_rfl
noncomputable def OW (d:Option mQ) (a:Int):T:=deref d λp=>jT p 6 λt2=>bD 147 [(.pointer t2),(.int .i64 a)] (.one aS) λt3=>kK 0 [aI,aS] (kV [aI,aS] [(.int .i64 0),(.slice none 0 0)] λb=>cond (decide (b.1< (t3.2.1:Int))) (deref t3.1 λo=>chk (0≤b.1∧b.1< (t3.2.1:Nat))<|iW o b.1 2 λt7=>iZ o b.1 2 1 λt8=>iP #[(.int .i64 0),(.int .i64 0)] 124 λe=>jB e 0 t7<|jB e 1 t8<|jA e 1 λg=>deref d λh=>iU h 2 λf=>jA e 0 λc=>deref f.1 λi=>chk (0≤c∧c< (f.2.1:Nat))<|iV i c 3 1 λj=>kX [aS] (cond (g==(j.2.1:Int)) (jA e 0 λk=>iP #[(.int .i64 k)] 3 λl=>kW (kH #[30,30] 30 #[(sv b.2.1),(.slice (jX l) 1 1)]) (.one aS) λm=>hC [(sv m)]) (hC [(sv b.2.1)])) λn=>hC [(.int .i64 (wN b.1)),(sv n.1)]) (kZ 0 [(.int .i64 b.1),(sv b.2.1)])) λq=>kQ (sv q.2.1)
theorem MW (b:Option mQ) (a:Int):AT hM f123 [(.pointer b),(.int .i64 a)] =OW b a:=by kernel_rfl
noncomputable def Jy (c:Option mQ) (a:Int) (b:Int):T:=deref c λd=>jU d 13 λt2=>kW (lB 134 (.map t2) (.agg #[(.int .i64 a),(.int .i64 b)]) false) (.one aP) λt3=>cond (mE t3) (kQ (.slice none 0 0)) (bD 117 [(.pointer t3)] (.one aS) λt4=>kQ (sv t4))
theorem OX (c:Option mQ) (a:Int) (b:Int):AT hM f125 [(.pointer c),(.int .i64 a),(.int .i64 b)] =Jy c a b:=by kernel_rfl
end Go.Proofs.YtnlkgidlfnefbaaGreatDoor
namespace Go.Proofs.YtnlkgidlfnefbaaGreatDoor
open Go Go.Eng Dg
abbrev PlK (φ:AD) (t:Slc×Slc×Slc×Slc×Slc×Slc×Unit) (p:dtP):Prop:=Gw φ t p
abbrev plV (t:Slc×Slc×Slc×Slc×Slc×Slc×Unit):List Value:=[sv t.1,sv t.2.1,sv t.2.2.1,sv t.2.2.2.1,sv t.2.2.2.2.1,sv t.2.2.2.2.2.1]
structure FsK (φ:AD) (a:mQ) (t:Slc×Slc×Slc×Slc×Slc×Slc×Unit) (n f g:Slc) (p:dtP) (ps qs:List (Option mQ)):Prop where
 cells:DC φ (some a) (plV t++ [sv n,sv f,sv g])
 pl:PlK φ t p
 kf:lQ Ro.pt φ f ps
 kg:lQ Ro.pt φ g qs
section
variable {φ ψ:AD}{h:AH}{F:List Chk}{a:mQ}{t:Slc×Slc×Slc×Slc×Slc×Slc×Unit}{n f g:Slc}{p:dtP}{ps qs:List (Option mQ)}
theorem FsK.mono (H:FsK φ a t n f g p ps qs) (b:Sub φ ψ):FsK ψ a t n f g p ps qs:=⟨H.cells.mono b,H.pl.mono b,H.kf.mono b,H.kg.mono b⟩
theorem FsK.at (H:FsK φ a t n f g p ps qs) (st:St φ F h) {j:Nat}{v:Value}(b:(plV t++ [sv n,sv f,sv g])[j]? =some v):BJ h (a.add j)=some v:=AM st.sub (H.cells.at j b)
theorem Td {K:Bool→T}{P:Bs→AH→Prop}(cells:∀j v,(plV t)[j]? =some v→BJ h (a.add j)=some v) (k:PlK φ t p) (st:St φ F h) {s:Int}{r:Bool}(hd:BU p s=some r)
 (d:∀ψ h',Sub φ ψ→St ψ F h'→(K r).wp hM P h'):
 (mA .slice a λ(t6:Slc)=>mA .slice (a.add 1) λ(t7:Slc)=>mA .slice (a.add 2) λ(t8:Slc)=>mA .slice (a.add 3) λ(e:Slc)=>mA .slice (a.add 4) λ(b:Slc)=>mA .slice (a.add 5) λ(c:Slc)=>
  bD 85 [(.agg #[(sv t6),(sv t7),(sv t8),(sv e),(sv b),(sv c)]),(.int .i64 s)] (.one aB) K).wp hM P h:=by
 have f:a.add 0=a:=by cases a;rfl
 refine AL (x:=t.1) (by have:=cells 0 _ rfl;rwa [f]at this) rfl<|AL (x:=t.2.1) (cells 1 _ rfl) rfl<|AL (x:=t.2.2.1) (cells 2 _ rfl) rfl<|AL (x:=t.2.2.2.1) (cells 3 _ rfl) rfl<|AL (x:=t.2.2.2.2.1) (cells 4 _ rfl) rfl<|AL (x:=t.2.2.2.2.2.1) (cells 5 _ rfl) rfl<|AE (Dc k st hd) ?_;rintro _ g ⟨ψ,y,le,rfl,rfl,s1⟩;exact⟨y,rfl,d ψ g le s1⟩
theorem FsK.pv (H:FsK φ a t n f g p ps qs) (st:St φ F h):∀j v,(plV t)[j]? =some v→BJ h (a.add j)=some v:=λj v b=>H.at st (by
 rw[lC (lD.1 b).1];exact b)
theorem add_zero (a:mQ):a.add 0=a:=by cases a;rfl
theorem RD (H:FsK φ a t n f g p ps qs) (st:St φ F h) (s:Int):
 CallsH hM 142 [.pointer (some a),.int .i64 s] h (Ae λv b=>v=((.one aI):Sh).val (hA .i64 (s - nT p))∧St φ F b):=by refine BF mixed func142 ?_;rw[OU];unfold Jw;refine AF _ rfl (AL (x:=t.1) (by have:=H.at st (j:=0) rfl;rwa [add_zero]at this) rfl ?_);have e:t.1.2.1=p.1.length:=H.pl.k0.length;rw[e];exact AB ⟨rfl,st⟩
theorem aM {α:Type}{l:List α}{k:Nat}{x:α}(h:idx l (k:Int)=some x):l[k]? =some x:=by rw[Bu]at h;exact h
theorem WP {ps qs:List (Option mQ)}{k:Nat}{q:Option mQ}(h:ps[k]? =some q):(ps++qs)[k]? =some q:=by rw[lC (lD.1 h).1];exact h
abbrev fsC (n:Slc) (null:List Bool) (ps:List (Option mQ)) (ss:List Aa) (F:List Chk):List Chk:=cR 4 mN n null::(AV ps ss++F)
theorem RE (gk:Dg.Glob φ) (K:FsK φ a t n f g p ps qs) {sq:Slc}{seq:List Int}(ks:lQ (mO .i64) φ sq seq) {null:List Bool}{ss:List Aa}{x:Nat}{q:Option mQ}(hq:(ps++qs)[x]? =some q) (hl:(ps++qs).length=ss.length) {r:Bool×Bool×List Aa}
 (hd:Ly p (ps.length:Int) null (x:Int) ss seq=some r) (s0:St φ (fsC n null (ps++qs) ss F) h):
 CallsH hM 143 [.pointer (some a),sv sq,.func (.func 114) #[.pointer q] #[]] h (Ae λv h'=>∃ψ:AD,Sub φ ψ∧v=((.tuple [aB,aB]):Sh).val (r.1,r.2.1,())∧r.2.2.length=ss.length∧St ψ (fsC n null (ps++qs) r.2.2 F) h'):=by
 refine BF mixed func143 ?_;rw[Iv];unfold F8;unfold Ly at hd;have nk:=ks.length;have⟨g3,Z,hd⟩:=bS hd;refine Av (λ(y:Int×Bool×Bool×Unit) w g=>∃(ψ:AD) (H:List Aa),Sub φ ψ∧g=AY.next (y.2.2.1,H)∧H.length=ss.length∧St ψ (fsC n null (ps++qs) H F) w) (g:=g3) ?_ ?_
 ·refine Kh Z (λi (y:Int×Bool×Bool×Unit) w g=>∃(ψ:AD),Sub φ ψ∧y.1=i∧y.2.2.1=g.1∧g.2.length=ss.length∧St ψ (fsC n null (ps++qs) g.2 F) w) ((0:Int),false,false,()) rfl ⟨φ,mL _,rfl,rfl,rfl,s0⟩ ?_ ?_
  ·rintro i z w ⟨gr,s1⟩ e ⟨ψ,le,rfl,T,m,st⟩ d h0 hlt hw hb;dsimp only at T m st d;subst T;refine Ai (by rw[nk];exact decide_eq_true hlt) ?_;have⟨sym,a0,d⟩:=bS d;have⟨tm,a1,d⟩:=bS d;obtain⟨A1,b2,a2,a3,r1,a4⟩:=(ks.mono le).get a0;refine AF _ a2 (Am a3 ?_);obtain rfl:=r1;refine AL (x:=sym) (AM st.sub (a4 0 _ rfl)) rfl<|AF _ rfl (Td ((K.mono le).pv st) (K.mono le).pl st a1 ?_);intro ψ1 h1 a5 I;have c:=le.trans a5;refine kD d rfl (λd=>?_) (λd=>?_)
   ·have⟨o,U,d⟩:=bS d;have⟨u,A,d⟩:=bS d;obtain rfl:=iS d;obtain rfl:=hb _ rfl;obtain rfl:=iS hd;unfold co at A;have⟨s,hs,A⟩:=bS A;have⟨ok,A⟩:=CQ A;obtain rfl:=iS A;refine Ad (λ(y:Bool×Bool×Unit) w (_:Unit)=>y=(Fo s o || z.2.2.1,false,())∧ ∃ψ,Sub φ ψ∧St ψ (fsC n null (ps++qs) (s1.set x (BN s o)) F) w) (g:=()) ?_ ?_
    ·refine AF _ rfl<|AL (x:=t.1) (by have:=(K.mono c).at I (j:=0) rfl;rwa [add_zero]at this) rfl<|AU (vs:=[.int .i64 sym]) I ?_;intro a6 h2 D;have L:=St.lit (r:=mO .i64) (l:=[sym]) (n:=1) D (.cons (a:=[_]) rfl .nil) rfl (by decide);have⟨ψ2,M,k2,N⟩:=St.freezeRow (t:=(some ⟨a6,0,none⟩,1,1)) L;have e:t.1.2.1=p.1.length:=K.pl.k0.length;rw[e];refine AE (Ez k2 N U) ?_;rintro _ h3 ⟨ψ3,p',X,O,rfl,rfl,a7⟩;refine⟨p',rfl,?_⟩;have a8:St ψ3 (Bc p' X::(AV (ps++qs) s1++(cR 4 mN n null::F))) h3:=a7.perm (mB _ (kO (l₁:=AV (ps++qs) s1)).symm);refine AE (Up (gk.mono ((c.trans M).trans O)) (aM hs) hq ok a8) ?_;rintro _ h4 ⟨P,E,rfl,a9⟩;refine⟨_,rfl,?_⟩;have G:St P (fsC n null (ps++qs) (s1.set x (BN s X)) F) h4:=a9.tail.perm (kO (l₁:=AV (ps++qs) (s1.set x (BN s X))));cases hgr:Fo s X
     ·exact AW rfl (jY rfl ⟨by simp,P,((c.trans M).trans O).trans E,G⟩)
     ·exact Ai rfl (jY rfl ⟨by simp,P,((c.trans M).trans O).trans E,G⟩)
    ·rintro y h5 ⟨rfl,Y,B,J⟩;exact Ak (Al (AB ⟨Y,B,rfl,by simp[m],J⟩))
   ·have⟨hm,d⟩:=CQ d;have⟨u,A,d⟩:=bS d;have⟨b,V,d⟩:=bS d;unfold YV at A;have⟨s,hs,A⟩:=bS A;have⟨o,U,A⟩:=bS A;have⟨ok,A⟩:=CQ A;obtain rfl:=iS A;have⟨y0,y1,y2⟩:=CU U;obtain⟨k,hk⟩:∃k:Nat,hA .i64 (sym - nT p)=(k:Int):=⟨_,(kI y0).symm⟩;have b0:k<ps.length:=by omega
    have W:ps[k]? =some ps[k]:=bO b0;rw[hk]at U V;refine Ad (λ(y:Bool×Unit) w (_:Unit)=>y=(Fo s o || z.2.2.1,())∧ ∃ψ,Sub φ ψ∧St ψ (fsC n null (ps++qs) (s1.set x (BN s o)) F) w) (g:=()) ?_ ?_
    ·refine AF _ rfl<|AL (x:=f) ((K.mono c).at I (j:=7) rfl) rfl<|AE (RD (K.mono c) I sym) ?_;rintro _ h2 ⟨rfl,D⟩;refine⟨_,rfl,?_⟩;refine AI ((K.mono c).at D (j:=7) rfl) ?_;rw[hk];obtain⟨A2,b1,Q,R,r2,S⟩:=((K.mono c).kf).get (i:=(k:Int)) (by rw[Bu];exact W);refine AF _ Q (Am R ?_);obtain rfl:=r2;refine AL (x:=ps[k]) (AM D.sub (S 0 _ rfl)) rfl ?_;have L:St ψ1 (AV (ps++qs) s1++(cR 4 mN n null::F)) h2:=D.perm (kO (l₁:=AV (ps++qs) s1)).symm;refine AE (XC (gk.mono c) (aM hs) (aM U) hq (WP W) ok L) ?_;rintro _ h3 ⟨P,E,rfl,N⟩;refine⟨_,rfl,?_⟩;have G:St P (fsC n null (ps++qs) (s1.set x (BN s o)) F) h3:=N.perm (kO (l₁:=AV (ps++qs) (s1.set x (BN s o))));cases hgr:Fo s o
     ·exact AW rfl (jY rfl ⟨by simp,P,c.trans E,G⟩)
     ·exact Ai rfl (jY rfl ⟨by simp,P,c.trans E,G⟩)
    ·rintro y h5 ⟨rfl,Y,B,J⟩;refine AF _ rfl<|AL (x:=n) ((K.mono B).at J (j:=6) rfl) rfl<|AE (RD (K.mono B) J sym) ?_;rintro _ h6 ⟨rfl,C⟩;refine⟨_,rfl,?_⟩;refine AI ((K.mono B).at C (j:=6) rfl) ?_;rw[hk];have⟨A2,b1,Q,R,r2,S⟩:=C.get V;refine AF _ Q (Am R ?_);obtain rfl:=r2;refine AL (x:=b) (S 0 _ rfl) rfl ?_;cases b
     ·obtain rfl:=iS d;obtain rfl:=hb _ rfl;obtain rfl:=iS hd;refine Ai rfl<|Ak (Al (AB ⟨Y,B,rfl,by simp[m],C⟩))
     ·obtain rfl:=iS d;refine AW rfl<|jZ rfl rfl ⟨Y,B,hw,rfl,by simp[m],C⟩
  ·rintro i z w ⟨gr,s1⟩ ⟨ψ,le,rfl,T,m,st⟩ hge hr;subst hr;dsimp only at T m st;refine AW (by rw[nk];exact decide_eq_false (mH.2 hge))<|AO (kB rfl ⟨ψ,s1,le,by rw[T],m,st⟩)
 ·rintro z h1 ⟨ψ,H,le,rfl,m,st⟩;obtain rfl:=iS hd;exact AB ⟨ψ,le,rfl,m,st⟩
end
section
variable {φ ψ:AD}{h:AH}{F:List Chk}{a:mQ}{t:Slc×Slc×Slc×Slc×Slc×Slc×Unit}{n f g:Slc}{p:dtP}{ps qs:List (Option mQ)}
theorem QI {R:Slc}{rs:List BM}{i:Int}{r:BM}{K:Nat→T}{P:Bs→AH→Prop}(k:lQ CB φ R rs) (g:idx rs i=some r) (st:St φ F h)
 (l:∀(a:Nat) (u:Slc) (h':AH),lQ (mO .i64) φ u r.2.1→St φ (⟨mP 57,[.pointer (jX a)],[.int .i64 r.1,sv u,.int .i64 r.2.2]⟩::F) h'→(K a).wp hM P h'):
 (deref R.1 λd=>chk (0≤i∧i< (R.2.1:Nat))<|mA (.int .i64) (d.add (kJ i *3)) λ(t6:Int)=>mA .slice ((d.add (kJ i *3)).add 1) λ(t7:Slc)=>mA (.int .i64) ((d.add (kJ i *3)).add 2) λ(t8:Int)=>
  mD (.cells #[(.int .i64 (0:Int)),(.slice none 0 0),(.int .i64 (0:Int))] 57 (0,0)) λa=>mC ⟨a,0,none⟩ (.int .i64 t6)<|mC ⟨a,1,none⟩ (sv t7)<|mC ⟨a,2,none⟩ (.int .i64 t8)<|K a).wp hM P h:=by have⟨w,m,e,f,n,c⟩:=k.get g;refine AF _ e (Am f ?_);obtain⟨_,_,rfl,rfl,⟨_,_,rfl,⟨u,rfl,o⟩,rfl⟩⟩:=n;refine AL (x:=r.1) (AM st.sub (c 0 _ rfl)) rfl<|AL (x:=u) (by rw[Ac];exact AM st.sub (c 1 _ rfl)) rfl<|AL (x:=r.2.2) (by rw[Ac];exact AM st.sub (c 2 _ rfl)) rfl<|AU (vs:=[.int .i64 0,.slice none 0 0,.int .i64 0]) st ?_;intro a y s1;refine Cj (b:=a) (j:=0) (v:=.int .i64 r.1) s1 rfl (by simp) ?_;intro z p;refine Cj (b:=a) (j:=1) (v:=sv u) p rfl (by simp) ?_;intro A q;refine Cj (b:=a) (j:=2) (v:=.int .i64 r.2.2) q rfl (by simp) ?_;intro s t;exact l a u s o t
theorem YZ (gk:Dg.Glob φ) (K:FsK φ a t n f g p ps qs) {null:List Bool}{ss:List Aa}(hl:(ps++qs).length=ss.length) {r:Bool×List Bool×List Aa}
 (hd:RA p (ps.length:Int) null ss=some r) (s0:St φ (fsC n null (ps++qs) ss F) h):
 CallsH hM 105 [.pointer (some a)] h (Ae λv h'=>∃ψ:AD,Sub φ ψ∧v=((.one aB):Sh).val r.1∧r.2.2.length=ss.length∧St ψ (fsC n r.2.1 (ps++qs) r.2.2 F) h'):=by
 refine BF mixed func105 ?_;rw[LN];unfold Hh;unfold RA at hd;refine AF _ rfl<|AL (x:=t.2.2.1) (K.at s0 (j:=2) rfl) rfl ?_;have nk:=K.pl.k2.length;refine Av (λ(y:Int×Bool×Unit) w g=>∃(ψ:AD),Sub φ ψ∧y.2.1=g.1∧g.2.2.length=ss.length∧St ψ (fsC n g.2.1 (ps++qs) g.2.2 F) w) (g:=r) ?_ ?_
 ·refine Cp hd (λi (y:Int×Bool×Unit) w g=>y.1=i∧ ∃(ψ:AD),Sub φ ψ∧y.2.1=g.1∧g.2.2.length=ss.length∧St ψ (fsC n g.2.1 (ps++qs) g.2.2 F) w) ((0:Int),false,()) rfl ⟨rfl,φ,mL _,rfl,rfl,s0⟩ ?_ ?_
  ·rintro i z w ⟨gr,nu,s1⟩ e ⟨rfl,ψ,le,N,m,st⟩ l h0 hlt hw;dsimp only at N m st l;subst N;refine Ai (by rw[nk];exact decide_eq_true hlt) ?_;have⟨O,P,l⟩:=bS l;have⟨hm,l⟩:=CQ l;have⟨I,J,l⟩:=bS l;have⟨b,C,l⟩:=bS l;obtain⟨Q,q,l⟩:=bS l;obtain rfl:=iS l;obtain⟨k,hk⟩:∃k:Nat,hA .i64 (O.1 - nT p)=(k:Int):=⟨_,(kI hm.1).symm⟩;rw[hk]at hm J C q;have R:k<ps.length:=by omega
   have L:ps[k]? =some ps[k]:=bO R;refine QI (K.pl.k2.mono le) P st ?_;intro r9 u h1 ku M;refine AA (b:=r9) (j:=0) (x:=O.1) M rfl<|AE (RD (K.mono le) M O.1) ?_;rintro _ h2 ⟨rfl,s⟩;refine⟨_,rfl,?_⟩;rw[hk];refine AA (b:=r9) (j:=1) (x:=u) s rfl<|AF _ rfl<|AL (x:=f) ((K.mono le).at s (j:=7) rfl) rfl ?_;obtain⟨A2,a0,S,T,r2,U⟩:=((K.mono le).kf).get (i:=(k:Int)) (by rw[Bu];exact L);refine AF _ S (Am T ?_);obtain rfl:=r2;refine AL (x:=ps[k]) (AM s.sub (U 0 _ rfl)) rfl<|AE (RE (gk.mono le) (K.mono le) ku (WP L) (hl.trans m.symm) J s.tail) ?_;rintro _ h3 ⟨V,W,rfl,X,c⟩;refine⟨_,rfl,?_⟩;have A:=le.trans W;refine Ad (λ(y:Bool×Unit) w (_:Unit)=>y=(z.2.1 || I.1 || (I.2.1 && !b),())∧St V (fsC n nu (ps++qs) I.2.2 F) w) (g:=()) ?_ ?_
   ·cases hz:z.2.1
    ·refine AW rfl ?_;cases hgg:I.1
     ·refine AW (by dsimp only) ?_;cases hgn:I.2.1
      ·refine AW (by dsimp only)<|jY rfl ⟨by simp,c⟩
      ·refine Ai (by dsimp only)<|AF _ rfl<|AL (x:=n) ((K.mono A).at c (j:=6) rfl) rfl ?_;have⟨A3,Y,D,E,Z,G⟩:=c.get C;refine AF _ D (Am E ?_);obtain rfl:=Z;refine AL (x:=b) (G 0 _ rfl) rfl<|jY rfl ⟨by simp,c⟩
     ·refine Ai (by dsimp only)<|jY rfl ⟨by simp,c⟩
    ·refine Ai rfl<|jY rfl ⟨by simp,c⟩
   ·rintro y h4 ⟨rfl,d⟩;refine Ad (λ(y:Unit) w (_:Unit)=>St V (fsC n Q (ps++qs) I.2.2 F) w) (g:=()) ?_ ?_
    ·refine AF _ rfl<|AL (x:=n) ((K.mono A).at d (j:=6) rfl) rfl<|AF _ rfl<|AL (x:=n) ((K.mono A).at d (j:=6) rfl) rfl ?_;have⟨A3,Y,D,E,Z,G⟩:=d.get C;refine AF _ D (Am E ?_);obtain rfl:=Z;refine AL (x:=b) (G 0 _ rfl) rfl ?_;have⟨A4,B,q4⟩:=d.there q;cases b
     ·refine AW rfl<|AF _ B (Am q4 (Jq d q rfl B ?_));intro h5 o;exact jY rfl o
     ·refine Ai rfl<|AF _ B (Am q4 (Jq d q rfl B ?_));intro h5 o;exact jY rfl o
    ·rintro _ h5 o;exact jZ rfl rfl ⟨hw,V,A,rfl,X.trans m,o⟩
  ·rintro i z w ⟨rfl,H⟩ hge;refine AW (by rw[nk];exact decide_eq_false (mH.2 hge))<|AO (kB rfl H)
 ·rintro z h1 ⟨ψ,le,N,m,st⟩;exact AB ⟨ψ,le,by rw[N];rfl,m,st⟩
theorem cut_ok {u:Slc}{l:List Int}{lo:Int}(k:lQ (mO .i64) φ u l) (b:0≤lo) (c:lo≤(l.length:Int)):cut l lo (u.2.1:Int)=some (l.drop lo.toNat):=by have a:=k.length;unfold cut;rw[if_pos ⟨by omega,by omega,by omega⟩,lI,a,lJ]
theorem OY {ps qs:List (Option mQ)}{k:Nat}{q:Option mQ}(h:qs[k]? =some q):(ps++qs)[ps.length+k]? =some q:=by rw[lP (by omega),Nat.add_sub_cancel_left];exact h
theorem WQ (gk:Dg.Glob φ) (K:FsK φ a t n f g p ps qs) (d0:qs.length=ps.length) {null:List Bool}{ss:List Aa}(hl:(ps++qs).length=ss.length) {r:Bool×List Aa}
 (hd:OR p (ps.length:Int) null ss=some r) (s0:St φ (fsC n null (ps++qs) ss F) h):
 CallsH hM 107 [.pointer (some a)] h (Ae λv h'=>∃ψ:AD,Sub φ ψ∧v=((.one aB):Sh).val r.1∧r.2.length=ss.length∧St ψ (fsC n null (ps++qs) r.2 F) h'):=by
 refine BF mixed func107 ?_;rw[KF];unfold G7;unfold OR at hd;refine AF _ rfl<|AL (x:=t.2.2.1) (K.at s0 (j:=2) rfl) rfl ?_;have nk:=K.pl.k2.length;refine Av (λ(y:Int×Bool×Unit) w g=>∃(ψ:AD),Sub φ ψ∧y.2.1=g.1∧g.2.length=ss.length∧St ψ (fsC n null (ps++qs) g.2 F) w) (g:=r) ?_ ?_
 ·refine Cp hd (λi (y:Int×Bool×Unit) w g=>y.1=i∧ ∃(ψ:AD),Sub φ ψ∧y.2.1=g.1∧g.2.length=ss.length∧St ψ (fsC n null (ps++qs) g.2 F) w) ((0:Int),false,()) rfl ⟨rfl,φ,mL _,rfl,rfl,s0⟩ ?_ ?_
  ·rintro i z w ⟨gr,s1⟩ e ⟨rfl,ψ,le,hg,M,st⟩ he h0 hlt hw;dsimp only at hg M st he;subst hg;refine Ai (by rw[nk];exact decide_eq_true hlt) ?_;have⟨V,b1,he⟩:=bS he;refine QI (K.pl.k2.mono le) b1 st ?_;intro r9 u h1 ku a4;refine AA (b:=r9) (j:=1) (x:=u) a4 rfl ?_;have nu:=ku.length;obtain⟨G,hG⟩:∃G:List Chk,G=⟨mP 57,[.pointer (jX r9)],[.int .i64 V.1,sv u,.int .i64 V.2.2]⟩::F:=⟨_,rfl⟩;have b2:St ψ (fsC n null (ps++qs) s1 G) h1:=by
    rw[hG];exact a4.perm ((mM _ _ _).trans (mB _ (kO (l₁:=AV (ps++qs) s1)).symm))
   have raw:∀ {B:AD} {s':List Aa} {h':AH},St B (fsC n null (ps++qs) s' G) h'→St B (⟨mP 57,[.pointer (jX r9)],[.int .i64 V.1,sv u,.int .i64 V.2.2]⟩::fsC n null (ps++qs) s' F) h':=λ{B s' h'} H=>by
    rw[hG]at H;exact H.perm ((mB _ (kO (l₁:=AV (ps++qs) s'))).trans (mM _ _ _))
   refine Av (λ(y:Int×Bool×Unit) w g=>∃(ψ:AD),Sub φ ψ∧y.2.1=g.1∧g.2.length=ss.length∧St ψ (fsC n null (ps++qs) g.2 G) w) (g:=e) ?_ ?_
   ·refine Cp he (λi (y:Int×Bool×Unit) w g=>y.1=i∧ ∃(B:AD),Sub ψ B∧y.2.1=g.1∧g.2.length=ss.length∧St B (fsC n null (ps++qs) g.2 G) w) ((0:Int),z.2.1,()) rfl ⟨rfl,ψ,mL _,rfl,M,b2⟩ ?_ ?_
    ·rintro i2 z2 w2 ⟨d1,s2⟩ e2 ⟨rfl,ψ2,m,a5,E,N⟩ c d2 a6 O;dsimp only at a5 E N c;subst a5;have I:=le.trans m;refine Ai (by rw[nu];exact decide_eq_true a6) ?_;have⟨sym,b3,c⟩:=bS c;have⟨tm,b4,c⟩:=bS c;refine Av (λ(y:Bool×Unit) w (_:Unit)=>∃(B:AD),Sub ψ B∧y.1=e2.1∧e2.2.length=ss.length∧St B (fsC n null (ps++qs) e2.2 G) w) (g:=()) ?_ ?_
     ·obtain⟨A1,d3,b5,b6,r1,b7⟩:=(ku.mono m).get b3;refine AF _ b5 (Am b6 ?_);obtain rfl:=r1;refine AL (x:=sym) (AM N.sub (b7 0 _ rfl)) rfl<|AF _ rfl (Td ((K.mono I).pv N) (K.mono I).pl N b4 ?_);intro ψ3 h3 D W;have d:=I.trans D;refine kD c rfl (λc=>?_) (λc=>?_)
      ·obtain rfl:=iS c;exact Vt (z2.2.1,()) rfl ⟨ψ3,m.trans D,rfl,E,W⟩
      ·have⟨hm,c⟩:=CQ c;have⟨gg,X,c⟩:=bS c;have⟨hh,l,c⟩:=bS c;obtain rfl:=iS c;obtain⟨k,hk⟩:∃k:Nat,hA .i64 (sym - nT p)=(k:Int):=⟨_,(kI hm.1).symm⟩;have hx:(ps.length:Int)+(k:Int)=((ps.length+k:Nat):Int):=by omega
       rw[hk,hx]at X l;rw[hk]at hm;have b8:k<qs.length:=by omega
       have Y:qs[k]? =some qs[k]:=bO b8;refine AF _ rfl<|AL (x:=g) ((K.mono d).at W (j:=8) rfl) rfl<|AE (RD (K.mono d) W sym) ?_;rintro _ h4 ⟨rfl,P⟩;refine⟨_,rfl,?_⟩;refine AI ((K.mono d).at P (j:=8) rfl) ?_;rw[hk];obtain⟨A2,d4,b9,c0,r2,c1⟩:=((K.mono d).kg).get (i:=(k:Int)) (by rw[Bu];exact Y);refine AF _ b9 (Am c0 ?_);obtain rfl:=r2;refine AL (x:=qs[k]) (AM P.sub (c1 0 _ rfl)) rfl<|AA (b:=r9) (j:=1) (x:=u) (raw P) rfl ?_;obtain⟨q1,kt⟩:=(ku.mono (m.trans D)).cut (cut_ok (ku.mono (m.trans D)) (lo:=hA .i64 (z2.1+1)) (by rw[O];omega) (by rw[O];omega)) (sz:=1) rfl;refine Am q1 ?_;rw[←O]at X;refine AE (RE (gk.mono d) (K.mono d) kt (OY Y) (hl.trans E.symm) X P) ?_;rintro _ h5 ⟨ψ5,Z,rfl,a7,Q⟩;refine⟨_,rfl,?_⟩;have q:=d.trans Z;refine Ad (λ(y:Bool×Unit) w (_:Unit)=>y=(hh.1,())∧hh.2.length=ss.length∧ ∃B,Sub ψ B∧St B (fsC n null (ps++qs) hh.2 G) w) (g:=()) ?_ ?_
       ·refine kD l rfl (λl=>?_) (λl=>?_)
        ·have⟨a8,l⟩:=CQ l;have⟨uu,R,l⟩:=bS l;obtain rfl:=iS l;obtain⟨k2,a0⟩:∃k:Nat,hA .i64 (V.1 - nT p)=(k:Int):=⟨_,(kI a8.1).symm⟩;have c2:(ps.length:Int)+(k2:Int)=((ps.length+k2:Nat):Int):=by omega
         rw[a0,c2]at R;rw[a0]at a8;have a9:k2<qs.length:=by omega
         have S:qs[k2]? =some qs[k2]:=bO a9;unfold YV at R;have⟨s,hs,R⟩:=bS R;have⟨o,ho,R⟩:=bS R;have⟨ok,R⟩:=CQ R;obtain rfl:=iS R;refine Ad (λ(y:Bool×Unit) w (_:Unit)=>y=(Fo s o || gg.1,())∧ ∃B,Sub ψ B∧St B (fsC n null (ps++qs) (gg.2.2.set (ps.length+k) (BN s o)) G) w) (g:=()) ?_ ?_
         ·refine AF _ rfl<|AL (x:=g) ((K.mono q).at Q (j:=8) rfl) rfl<|AA (b:=r9) (j:=0) (x:=V.1) (raw Q) rfl<|AE (RD (K.mono q) Q V.1) ?_;rintro _ h7 ⟨rfl,a1⟩;refine⟨_,rfl,?_⟩;refine AI ((K.mono q).at a1 (j:=8) rfl) ?_;rw[a0];obtain⟨A3,d5,c3,c4,r3,c5⟩:=((K.mono q).kg).get (i:=(k2:Int)) (by rw[Bu];exact S);refine AF _ c3 (Am c4 ?_);obtain rfl:=r3;refine AL (x:=qs[k2]) (AM a1.sub (c5 0 _ rfl)) rfl ?_;have c6:St ψ5 (AV (ps++qs) gg.2.2++(cR 4 mN n null::G)) h7:=a1.perm (kO (l₁:=AV (ps++qs) gg.2.2)).symm;refine AE (XC (gk.mono q) (aM hs) (aM ho) (OY Y) (OY S) ok c6) ?_;rintro _ h8 ⟨ψ8,c7,rfl,c8⟩;refine⟨_,rfl,?_⟩;have T:St ψ8 (fsC n null (ps++qs) (gg.2.2.set (ps.length+k) (BN s o)) G) h8:=c8.perm (kO (l₁:=AV (ps++qs) (gg.2.2.set (ps.length+k) (BN s o))));have U:=((m.trans D).trans Z).trans c7;cases hgr:Fo s o
          ·exact AW rfl (jY rfl ⟨by simp,ψ8,U,T⟩)
          ·exact Ai rfl (jY rfl ⟨by simp,ψ8,U,T⟩)
         ·rintro y h9 ⟨rfl,ψ9,a2,C⟩;refine jY rfl ⟨rfl,by simp[a7,E],ψ9,a2,?_⟩;rw[lI];exact C
        ·obtain rfl:=iS l;exact jY rfl ⟨rfl,by rw[a7,E],ψ5,(m.trans D).trans Z,Q⟩
       ·rintro y h9 ⟨rfl,c9,ψ9,a2,C⟩;refine Ad (λ(y:Bool×Unit) w (_:Unit)=>y=(z2.2.1 || hh.1,())∧St ψ9 (fsC n null (ps++qs) hh.2 G) w) (g:=()) ?_ ?_
        ·cases hz:z2.2.1
         ·exact AW rfl (jY rfl ⟨by simp,C⟩)
         ·exact Ai rfl (jY rfl ⟨by simp,C⟩)
        ·rintro y b0 ⟨rfl,A⟩;exact kC rfl ⟨ψ9,a2,rfl,c9,A⟩
     ·rintro y b0 ⟨a3,J,hy,L,A⟩;exact jZ rfl rfl ⟨O,a3,J,hy,L,A⟩
    ·rintro i2 z2 w2 ⟨rfl,ψ2,m,H⟩ hge;refine AW (by rw[nu];exact decide_eq_false (mH.2 hge))<|AO (kB rfl ⟨ψ2,le.trans m,H⟩)
   ·rintro y b0 ⟨a3,J,hy,L,A⟩;exact jZ rfl rfl ⟨hw,a3,J,hy,L,(raw A).tail⟩
  ·rintro i z w ⟨rfl,H⟩ hge;refine AW (by rw[nk];exact decide_eq_false (mH.2 hge))<|AO (kB rfl H)
 ·rintro z h1 ⟨ψ,le,hg,M,st⟩;exact AB ⟨ψ,le,by rw[hg];rfl,M,st⟩
end
end Go.Proofs.YtnlkgidlfnefbaaGreatDoor
