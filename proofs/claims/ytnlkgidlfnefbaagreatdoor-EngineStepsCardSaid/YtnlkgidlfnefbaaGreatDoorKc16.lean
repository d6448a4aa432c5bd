/- The parts R2 to En1, put together. Conditions: each tells its own. -/
import Derived.Test.YtnlkgidlfnefbaaGreatDoorKc15
import Derived.Test.YtnlkgidlfnefbaaGreatDoorKc10
import Derived.Test.YtnlkgidlfnefbaaGreatDoorKc5
import Derived.Test.YtnlkgidlfnefbaaGreatDoorKc11
set_option linter.unusedVariables false
set_option maxRecDepth 100000
set_option maxHeartbeats 4000000
open List renaming getElem?_eq_getElem → bD,getElem?_eq_some_iff → bO,range → eE,getElem?_range → hM,getElem?_map → kF,map_append → kH,length_append → kI,length_range → kJ,take_of_length_le → kL,range_succ → kQ,length_map → kT,length_filter_le → kU,take_add_one → kV
open Option renaming bind_some → hA
open Int renaming eq_ofNat_of_zero_le → hC,lt_or_le → kO
open Bool renaming and_eq_false_iff → kG,not_eq_true' → kK
open Nat renaming le_refl → kW
open Go.Eng.Ok renaming eq → kX
namespace Go.Proofs.YtnlkgidlfnefbaaGreatDoor
open Go Go.Eng
def lvl (p:As) (a:Int):Int:=if a<0∨(p.2.2.2.1.length:Int) ≤a then 0 else(idx p.2.2.2.1 a).getD 0
def hgt (p:As) (k:Int):Int:=if k<0∨(p.2.2.1.length:Int) ≤k then 0 else((idx p.2.2.1 k).map (·.2.2)).getD 0
def asc (p:As) (t:Int):Int:=(idx p.2.2.2.2.1 t).getD 0
def red (k:Int):Int×Int:=if k=0 then(3,0) else(2,k)
theorem Of {α:Type}{l:List α}{i:Int}(a:0≤i) (b:i< (l.length:Int)):idx l i=some l[i.toNat]:=by unfold idx;rw[if_pos a,bD]
theorem dW (p:As) (a:Int):E9 p a=some (lvl p a):=by
 refine kX ?_;unfold E9 lvl;refine AP (Q:=λc=>c=decide (a<0∨(p.2.2.2.1.length:Int) ≤a)) (Af (λh=>AC ?_) λh=>AC ?_) λc b=> ?_
 ·exact(decide_eq_true (.inl (of_decide_eq_true h))).symm
 ·have h:=of_decide_eq_false h;rw[Bool.eq_iff_iff,decide_eq_true_eq,decide_eq_true_eq];omega
 ·subst b;refine Af (λh=>AC ?_) λh=> ?_
  ·rw[if_pos (of_decide_eq_true h)]
  ·have h:=of_decide_eq_false h;have e:=Of (l:=p.2.2.2.1) (i:=a) (by omega) (by omega);rw[if_neg h,e];exact AC rfl
theorem ar (p:As) (k:Int):Eh p k=some (hgt p k):=by
 refine kX ?_;unfold Eh hgt;refine AP (Q:=λc=>c=decide (k<0∨(p.2.2.1.length:Int) ≤k)) (Af (λh=>AC ?_) λh=>AC ?_) λc a=> ?_
 ·exact(decide_eq_true (.inl (of_decide_eq_true h))).symm
 ·have h:=of_decide_eq_false h;rw[Bool.eq_iff_iff,decide_eq_true_eq,decide_eq_true_eq];omega
 ·subst a;refine Af (λh=>AC ?_) λh=> ?_
  ·rw[if_pos (of_decide_eq_true h)]
  ·have h:=of_decide_eq_false h;have e:=Of (l:=p.2.2.1) (i:=k) (by omega) (by omega);rw[if_neg h,e];exact AC rfl
theorem RS (k:Int):Cu k=some (red k):=by
 unfold Cu red;by_cases h:k=0
 ·subst h;rfl
 ·rw[if_neg h,show(k==(0:Int))=false by simpa using h,cond_false]
def byF (p:As) (a s k:Int):Int×Int×Bool:=
 if lvl p a≤0∨hgt p k≤0 then(1,s,true)
 else if hgt p k=lvl p a∧asc p (lvl p a)=3 then(0,0,false)
 else if(hgt p k=lvl p a∧asc p (lvl p a)=1)∨lvl p a<hgt p k then((red k).1,k,false)
 else(1,s,false)
theorem iM (p:As) (a s k:Int) (j:0≤lvl p a→lvl p a< (p.2.2.2.2.1.length:Int)):HL p a ((1:Int),s) (red k)=some (byF p a s k):=by
 unfold HL;rw[dW];have l:(red k).2=k:=by unfold red;split<;>simp_all
 rw[hA,l,ar,hA];unfold byF;by_cases d:lvl p a≤0
 ·rw[if_pos (.inl d),decide_eq_true d,cond_true,hA,cond_true]
 ·rw[decide_eq_false d,cond_false,hA];by_cases f:hgt p k≤0
  ·rw[if_pos (.inr f),decide_eq_true f,cond_true]
  ·rw[if_neg (by omega),decide_eq_false f,cond_false];by_cases e:hgt p k=lvl p a
   ·have m:idx p.2.2.2.2.1 (lvl p a)=some (asc p (lvl p a)):=by
     unfold asc;rw[Of (by omega) (j (by omega))];rfl
    have i:(hgt p k==lvl p a)=true:=by simpa using e
    rw[i,cond_true,cond_true,m,hA,hA];by_cases b:asc p (lvl p a)=3
    ·rw[if_pos ⟨e,b⟩,show(asc p (lvl p a)==(3:Int))=true by simpa using b];rfl
    ·rw[if_neg (λh=>b h.2),show(asc p (lvl p a)==(3:Int))=false by simpa using b,cond_false,hA,hA];by_cases c:asc p (lvl p a)=1
     ·rw[if_pos (.inl ⟨e,c⟩),show(asc p (lvl p a)==(1:Int))=true by simpa using c];rfl
     ·rw[if_neg (λh=>h.elim (λh=>c h.2) λh=>by omega),show(asc p (lvl p a)==(1:Int))=false by simpa using c,decide_eq_false (show ¬hgt p k>lvl p a by omega)];rfl
   ·have i:(hgt p k==lvl p a)=false:=by simpa using e
    rw[i,cond_false,cond_false,if_neg (λh=>e h.1)];by_cases g:lvl p a<hgt p k
    ·rw[if_pos (.inr g),decide_eq_true (show hgt p k>lvl p a from g)];rfl
    ·rw[if_neg (λh=>h.elim (λh=>e h.1) g),decide_eq_false (show ¬hgt p k>lvl p a from g)];rfl
structure Sc (l:List Int) (m:Int):Prop where
 mem:m∈l
 le:∀x∈l,m≤x
theorem Sc.eq {l:List Int}{m n:Int}(h:Sc l m) (k:Sc l n):m=n:=by
 have:=h.le n k.mem
 have:=k.le m h.mem
 omega
theorem Og {l:List Int}{j:Nat}{x:Int}(a:l[j]? =some x) {y:Int}:y∈l.take (j+1)↔y∈l.take j∨y=x:=by rw[kV,a,List.mem_append];simp
theorem gq {l:List Int}(u:l.length≤1000000) (m:0<l.length):Ok (aq l) (Sc l):=by
 have h:=bD m;unfold aq;refine AX (i:=0) h ?_;have e:(l.length:Int)=1+((l.length - 1:Nat):Int):=by omega
 unfold forS;rw[if_pos ⟨by omega,by omega⟩];obtain⟨s',n,o⟩:=Qj (f:=λi z=>(idx l i).bind λx=>some (if x<z then x else z)) (λi z=>0≤i∧Sc (l.take i.toNat) z) ((l.length:Int) - 1).toNat 1 l[0] ⟨by omega,by
  have p:l.take (1:Int).toNat= [l[0]]:=by
   show l.take 1=_;rw[List.take_one];simp[List.head?_eq_getElem?,h]
  rw[p];exact⟨by simp,by simp⟩⟩ λj s v q ⟨r,c⟩=>by
   have d:j.toNat<l.length:=by omega
   have b:=bD d;refine⟨if l[j.toNat] <s then l[j.toNat] else s,?_,by omega,?_⟩
   ·unfold idx;rw[if_pos (by omega),b];rfl
   ·rw[show(j+1).toNat=j.toNat+1 by omega];by_cases g:l[j.toNat] <s
    ·rw[if_pos g];exact⟨(Og b).2 (.inr rfl),λy a=>(Og b).1 a |>.elim (λa=>by have:=c.le y a;omega) λa=>by omega⟩
    ·rw[if_neg g];exact⟨(Og b).2 (.inl c.mem),λy a=>(Og b).1 a |>.elim (c.le y) λa=>by omega⟩
 refine⟨s',n,?_⟩;have t:((1:Int)+(((l.length:Int) - 1).toNat:Nat)).toNat=l.length:=by omega
 have k:=o.2;rw[t,kL (kW _)]at k;exact k
def Sd (p:As) (a s:Int) (l:List Int) (r:Int×Int×Bool):Prop:=
 (l= [] ∧s<0∧r=(0,0,false))∨(l= [] ∧0≤s∧r=(1,s,false))∨(∃k,l= [k] ∧s<0∧r=((red k).1,(red k).2,false))∨(∃k,l= [k] ∧0≤s∧r=byF p a s k)∨
 (1<l.length∧0≤s∧r=(1,s,true))∨(1<l.length∧s<0∧ ∃m,Sc l m∧r=((red m).1,(red m).2,true))
theorem fm (p:As) (d s:Int) {l:List Int}(g:l.length≤1000000) (n:0≤lvl p d→lvl p d< (p.2.2.2.2.1.length:Int)):Ok (Dd p d s l) (Sd p d s l):=by
 unfold Dd
 match l,g with
 | [],_=>
  refine AP (Q:=λc=>c=decide (s<0)) (Ap rfl (AC rfl)) λc e=> ?_;subst e;exact Af (λh=>AC (.inl ⟨rfl,of_decide_eq_true h,rfl⟩)) λh=>Ap rfl (AC (.inr (.inl ⟨rfl,by have:=of_decide_eq_false h;omega,rfl⟩)))
 | [k],_=>
  refine AP (Q:=λc=>c=false) (AS rfl (AC rfl)) λc e=> ?_;subst e;refine AS rfl (AS rfl (AP (Q:=λc=>c=decide (s<0)) (Ap rfl (AC rfl)) λc e=> ?_));subst e;refine Af (λh=>AJ rfl (AJ (RS k) (AC (.inr (.inr (.inl ⟨k,rfl,of_decide_eq_true h,rfl⟩)))))) λh=>Ap rfl (AJ rfl (AJ (RS k) (AJ (iM p d s k n) (AC (.inr (.inr (.inr (.inl ⟨k,rfl,by have:=of_decide_eq_false h;omega,rfl⟩))))))))
 |a::b::l,g=>
  have i:((((List.length (a::b::l)):Nat):Int)==(0:Int))=false:=by simp;omega
  have j:((((List.length (a::b::l)):Nat):Int)==(1:Int))=false:=by simp;omega
  have f:1< (a::b::l).length:=by simp
  refine AP (Q:=λc=>c=false) (AS i (AC rfl)) λc e=> ?_;subst e;refine AS rfl (AS i (AP (Q:=λc=>c=false) (AS j (AC rfl)) λc e=> ?_));subst e;refine AS rfl (AS j (Af (λh=>AC (.inr (.inr (.inr (.inr (.inl ⟨f,of_decide_eq_true h,rfl⟩)))))) λh=> ?_));refine AP (gq g (by omega)) λm o=>AJ (RS m) (AC (.inr (.inr (.inr (.inr (.inr ⟨f,by have:=of_decide_eq_false h;omega,m,o,rfl⟩))))))
theorem Sd.eq {p:As}{b s:Int}{l:List Int}{r d:Int×Int×Bool}(h:Sd p b s l r) (e:Sd p b s l d):r=d:=by
 rcases h with⟨rfl,g,rfl⟩|⟨rfl,g,rfl⟩|⟨k,rfl,g,rfl⟩|⟨k,rfl,g,rfl⟩|⟨q,g,rfl⟩|⟨q,g,m,hm,rfl⟩ <;>
 rcases e with⟨a,c,rfl⟩|⟨a,c,rfl⟩|⟨k',a,c,rfl⟩|⟨k',a,c,rfl⟩|⟨a,c,rfl⟩|⟨a,c,m',hm',rfl⟩ <;>
 first
  |rfl
  |(exfalso;omega)
  |(cases a;done)
  |(cases a;rfl)
  |(exfalso;simp at a;done)
  |(exfalso;subst a;simp at q;done)
  |(exfalso;simp at a;omega)
  |(exfalso;subst a;simp at q;omega)
  |(rw[hm.eq hm'])
end Go.Proofs.YtnlkgidlfnefbaaGreatDoor
namespace Go.Proofs.YtnlkgidlfnefbaaGreatDoor
open Go Go.Eng Dg
noncomputable def Yg (d:LkD) (i t k:Int):Bool:=match SW (some d) i k with
 |some l=>decide (t∈l)
 |none=>false
noncomputable def rsL (d:LkD) (a:List Int) (i t:Int):List Int:=a.filter (Yg d i t)
noncomputable def goV (A:dtA) (i t:Int):Int:=(Ay A i t).getD 0
noncomputable def Jz (p:dtP) (t go:Int) (rs:List Int):Int×Int×Bool:=(Dd p t go rs).getD (0,0,false)
def two (rs:List Int) (go:Int):Bool:=decide (1<rs.length) || (decide (rs.length=1) && decide (0≤go))
theorem fp {α:Type}{o:Option α}{P:α→Prop}(h:Ok (o.bind some) P):Ok o P:=by cases o<;>exact h
theorem WZ {a:List Int}{f:Int→List Int→Option (List Int)}(P:Int→Bool) (g:a.length≤1000000) (d:∀(j:Nat) x acc,a[j]? =some x→acc.length≤j→f (j:Int) acc=some (if P x=true then acc++ [x] else acc)):
 forS (0:Int) (a.length:Int) ([]:List Int) f=some (a.filter P):=by
 refine kX (fp (B0 (λj (z:List Int)=>z=(a.take j).filter P) (by omega) (by simp) (λj z e b=> ?_) λz b=>AC (by rw[b,kL (kW _)])));subst b;have c:=bD e;refine⟨_,d j _ _ c (Nat.le_trans (kU _ _) (by simp;omega)),?_⟩;rw[kV,c,List.filter_append];by_cases h:P a[j] =true
 ·rw[if_pos h];simp[h]
 ·rw[if_neg h];simp[h]
section
variable {p:dtP}{B:List dtK}{E:List (List Edge)}{d:LkD}{tt:Int}
theorem dX (M:MkI p B E d tt) {i:Nat}{b:dtK}(a:B[i]? =some b) (t:Int):Ay (Be p B E tt) (i:Int) t=some (goV (Be p B E tt) (i:Int) t):=by
 have f:=(bO.1 a).1;have c:i<E.length:=by have:=M.all.fin.len;omega
 have⟨x,e,_⟩:=XN (t:=tt) M.all.vp M.all.fin a (bD c) t;unfold goV;rw[e];rfl
theorem Xa (M:MkI p B E d tt) {i:Nat}{b:dtK}(c:B[i]? =some b) {k:Int}(e:k∈Co p.2.2.1 b.2.1) (t:Int):∃l,SW (some d) (i:Int) k=some l∧l.length≤64000∧decide (t∈l)=Yg d (i:Int) t k:=by obtain⟨j,f⟩:=List.getElem?_of_mem e;obtain⟨n,r,rfl,g,h⟩:=Yf M c f;have⟨l,a,m⟩:=XZ M (s:=i) (bO.1 g).1;refine⟨l,a,m.2,?_⟩;unfold Yg;rw[a]
theorem au (M:MkI p B E d tt) {i:Nat}{b:dtK}(a:B[i]? =some b) (t:Int):(rsL d (Co p.2.2.1 b.2.1) (i:Int) t).length≤10100:=
 Nat.le_trans (kU _ _) (Sb (l:=[]) M a)
theorem Se (p:dtP) (t go:Int) {rs:List Int}(a:rs.length≤1000000) (b:0≤lvl p t→lvl p t< (p.2.2.2.2.1.length:Int)):Dd p t go rs=some (Jz p t go rs)∧Sd p t go rs (Jz p t go rs):=by have⟨x,c,d⟩:=fm p t go a b;unfold Jz;rw[c];exact⟨rfl,d⟩
noncomputable def Oh (p:dtP) (A:dtA) (d:LkD) (a:List Int) (i t:Int):List Kn:=if two (rsL d a i t) (goV A i t)=true then[(i,t,goV A i t,rsL d a i t,(Jz p t (goV A i t) (rsL d a i t)).1,(Jz p t (goV A i t) (rsL d a i t)).2.1,(Jz p t (goV A i t) (rsL d a i t)).2.2)] else[]
theorem dY (M:MkI p B E d tt) {i:Nat}{b:dtK}(k:B[i]? =some b) {t:Int}(y:0≤lvl p t→lvl p t< (p.2.2.2.2.1.length:Int)) {a:List (List FG)}{e:List (List Int)}{o:List Kn}(A:o.length≤1000000):
 resolve_Grid_cell_D (p.1,p.2.1,p.2.2.1,p.2.2.2.1,p.2.2.2.2.1,p.2.2.2.2.2,a,e,o) (Be p B E tt) (some d) (i:Int) t=some ((Jz p t (goV (Be p B E tt) (i:Int) t) (rsL d (Co p.2.2.1 b.2.1) (i:Int) t)).1,(Jz p t (goV (Be p B E tt) (i:Int) t) (rsL d (Co p.2.2.1 b.2.1) (i:Int) t)).2.1,p.1,p.2.1,p.2.2.1,p.2.2.2.1,p.2.2.2.2.1,p.2.2.2.2.2,a,e,o++Oh p (Be p B E tt) d (Co p.2.2.1 b.2.1) (i:Int) t):=by
 refine kX ?_;unfold resolve_Grid_cell_D;have C:=Sb (l:=[]) M k;have q:=au M k t;refine AJ (dX M k t) (AJ (Ye M k) (AJ (x:=rsL d (Co p.2.2.1 b.2.1) (i:Int) t) (WZ (Yg d (i:Int) t) (by omega) λj x m r w=> ?_) ?_))
 ·have J:=(bO.1 r).1;have⟨l,D,f,F⟩:=Xa M k (List.mem_of_getElem? r) t;refine kX (AX r (AJ D (AJ (Dg.contains_ok (by omega) t) ?_)));rw[F];cases Yg d (i:Int) t x with
  |true=>exact AP (Q:=λz=>z=m++ [x]) (Ap rfl (BL (by simp;omega) (AC rfl))) λz s=>AC (by rw[s];rfl)
  |false=>exact AP (Q:=λz=>z=m) (AS rfl (AC rfl)) λz s=>AC (by rw[s];rfl)
 ·obtain⟨G,K⟩:=Se p t (goV (Be p B E tt) (i:Int) t) (rs:=rsL d (Co p.2.2.1 b.2.1) (i:Int) t) (by omega) y;refine AJ G ?_;obtain⟨kv,u⟩:∃kv,Jz p t (goV (Be p B E tt) (i:Int) t) (rsL d (Co p.2.2.1 b.2.1) (i:Int) t)=kv:=⟨_,rfl⟩;obtain⟨rs,n⟩:∃rs,rsL d (Co p.2.2.1 b.2.1) (i:Int) t=rs:=⟨_,rfl⟩;obtain⟨go,v⟩:∃go,goV (Be p B E tt) (i:Int) t=go:=⟨_,rfl⟩;unfold Oh;rw[u,n,v];rw[n]at q;refine AP (Q:=λc=>c=two rs go) (Af (λh=>AC ?_) λh=> ?_) λc H=> ?_
  ·have h:=of_decide_eq_true h;unfold two;rw[decide_eq_true (show 1<rs.length by omega)];rfl
  ·have h:=of_decide_eq_false h;unfold two;rw[decide_eq_false (show ¬1<rs.length by omega),Bool.false_or];refine Af (λf=>AC ?_) λf=>AC ?_
   ·have f:=eq_of_beq f;rw[decide_eq_true (show rs.length=1 by omega)];rfl
   ·have f:=ne_of_beq_false f;rw[decide_eq_false (show ¬rs.length=1 by omega)];rfl
  ·subst H;refine AP (Q:=λg=>g=(p.1,p.2.1,p.2.2.1,p.2.2.2.1,p.2.2.2.2.1,p.2.2.2.2.2,a,e,o++if two rs go=true then[((i:Int),t,go,rs,kv.1,kv.2.1,kv.2.2)] else[])) ?_ λg I=>AC (by rw[I]);refine Af (λh=> ?_) λh=>AC ?_
   ·rw[if_pos h];exact BL (by simp;omega) (AC rfl)
   ·rw[h,if_neg (by simp),List.append_nil]
end
section
variable {p:dtP}{B:List dtK}{E:List (List Edge)}{d:LkD}{tt:Int}
def dlB (p:dtP) (B:List dtK) (i:Nat):List Int:=match B[i]? with
 |some b=>Co p.2.2.1 b.2.1
 |none=>[]
noncomputable def clS (p:dtP) (A:dtA) (d:LkD) (a:List Int) (i:Nat):Nat→List Kn | 0=>[] | n+1=>clS p A d a i n++Oh p A d a (i:Int) (n:Int)
noncomputable def clA (p:dtP) (A:dtA) (d:LkD) (B:List dtK):Nat→List Kn | 0=>[] | n+1=>clA p A d B n++clS p A d (dlB p B n) n p.1.length
theorem Yh (p:dtP) (A:dtA) (d:LkD) (a:List Int) (i t:Int):(Oh p A d a i t).length≤1:=by
 unfold Oh
 split<;>simp
theorem To (p:dtP) (A:dtA) (d:LkD) (a:List Int) (i:Nat):∀n,(clS p A d a i n).length≤n
 | 0=>kW _
 |n+1=>by
  have b:=To p A d a i n;have c:=Yh p A d a (i:Int) (n:Int);unfold clS;rw[kI];omega
theorem Xb (p:dtP) (A:dtA) (d:LkD) (B:List dtK):∀n,(clA p A d B n).length≤n *p.1.length
 | 0=>by simp[clA]
 |n+1=>by
  have a:=Xb p A d B n;have b:=To p A d (dlB p B n) n p.1.length;unfold clA;rw[kI,Nat.succ_mul];omega
noncomputable def Tp (p:dtP) (A:dtA) (d:LkD) (a:List Int) (i t:Int):Int×Int:=((Jz p t (goV A i t) (rsL d a i t)).1,(Jz p t (goV A i t) (rsL d a i t)).2.1)
end
def Gd (p:dtP) (A:dtA) (d:LkD) (B:List dtK) (g:Bt):Prop:= ∃a b,g=(p.1,p.2.1,p.2.2.1,p.2.2.2.1,p.2.2.2.2.1,p.2.2.2.2.2,a,b,clA p A d B B.length)∧a.length=B.length∧
 ∀(i:Nat),i<B.length→ ∃row,a[i]? =some row∧row=(eE p.1.length).map λt=>Tp p A d (dlB p B i) (i:Int) ((t:Nat):Int)
theorem av {d b:Nat}{p:dtP}(c:Pl d b p) (a:Int):0≤lvl p a→lvl p a< (p.2.2.2.2.1.length:Int):=λ_=>by
 have h:=c.assocs;have f:=c.levels.2
 have:lvl p a≤(b:Int):=by
  unfold lvl;split
  ·omega
  ·rename_i g
   have e:=Of (l:=p.2.2.2.1) (i:=a) (by omega) (by omega);rw[e];exact(f _ (List.getElem_mem _)).2
 omega
def RT (a n go:Int) (rs:List Int):Bool:=
 (a==1 && (n==go && decide (go≥0))) || ((a==2 && (decide (n∈rs) && decide (n>0))) || (a==3 && decide ((0:Int)∈rs)))
theorem RU {go:Int}{rs:List Int}{k:Int}(a:k∈rs) (b:0≤k):RT (red k).1 (red k).2 go rs=true:=by
 unfold red;by_cases h:k=0
 ·subst h;rw[if_pos rfl];unfold RT;simp[a]
 ·rw[if_neg h];unfold RT;simp[a];omega
theorem Yi {p:dtP}{t go:Int}{rs:List Int}{r:Int×Int×Bool}(h:Sd p t go rs r) (e:∀k∈rs,0≤k):RT r.1 r.2.1 go rs=true∨(r=(0,0,false)∧(two rs go=true∨(rs= [] ∧go<0))):=by
 have sh:∀(b:Bool),0≤go→RT 1 go go rs=true:=λb f=>by unfold RT;simp[f]
 have c:∀k,(red k).2=k:=λk=>by unfold red;split<;>simp_all
 rcases h with⟨d,a,rfl⟩|⟨d,a,rfl⟩|⟨k,rfl,a,rfl⟩|⟨k,rfl,a,rfl⟩|⟨d,a,rfl⟩|⟨d,a,m,hm,rfl⟩
 ·exact .inr ⟨rfl,.inr ⟨d,a⟩⟩
 ·exact .inl (sh true a)
 ·exact .inl (RU (by simp) (e k (by simp)))
 ·unfold byF;split
  ·exact .inl (sh true a)
  ·split
   ·refine .inr ⟨rfl,.inl ?_⟩;unfold two;simp[a]
   ·split
    ·have:=RU (go:=go) (rs:=[k]) (k:=k) (by simp) (e k (by simp))
     rw[c]at this;exact .inl this
    ·exact .inl (sh true a)
 ·exact .inl (sh true a)
 ·exact .inl (RU hm.mem (e m hm.mem))
section
variable {p:dtP}{B:List dtK}{E:List (List Edge)}{d:LkD}{tt:Int}{A:dtA}
theorem dZ {g:Bt}(G:Gd p A d B g) {i t:Nat}(e:i<B.length) (f:t<p.1.length):Bk g (i:Int) (t:Int)=some (Tp p A d (dlB p B i) (i:Int) (t:Int)):=by
 obtain⟨b,h,rfl,n,j⟩:=G;have⟨row,k,l⟩:=j i e;have m:row[t]? =some (Tp p A d (dlB p B i) (i:Int) (t:Int)):=by
  rw[l,kF,hM f];rfl
 unfold Bk;refine kX (AP (Q:=λc=>c=false) (AP (Q:=λc=>c=true) ?_ λc a=> ?_) λc a=>AS a (AX k (AX m (AC rfl))))
 ·unfold Ce;exact AP (Q:=λc=>c=true) (Ap (by simp) (AC (decide_eq_true (by dsimp only;omega)))) λc a=>AC a
 ·subst a;exact AS rfl (AJ (HJ _ _) (AC (by simp;omega)))
end
end Go.Proofs.YtnlkgidlfnefbaaGreatDoor
namespace Go.Proofs.YtnlkgidlfnefbaaGreatDoor
open Go Go.Eng
section
variable {p:As}{B:List dtK}{E:List (List Edge)}{t:Int}
def Off (B:List dtK) (n:Int):Prop:=n<0∨(B.length:Int) ≤n
theorem aw (H:Fin p B E) (n:Int):Ok (Bv (Be p B E t) n) λx=>(∃(j:Nat) (b:dtK) (e:List Edge),n=(j:Int)∧B[j]? =some b∧E[j]? =some e∧x=Mx b e)∨(Off B n∧x=([],[],[],0,0)):=by
 rcases kO n 0 with h | h
 ·unfold Bv;refine AP (Q:=λc=>c=true) (Ap (decide_eq_true h) (AC rfl)) λc a=> ?_;subst a;exact Ap rfl (AC (.inr ⟨.inl h,rfl⟩))
 ·rcases kO n (B.length:Int) with g | g
  ·obtain⟨j,rfl⟩:=hC h;have d:=bD (show j<B.length by omega);have⟨e,f⟩:=H.edge d;exact Ok.of (XM H d f) (.inl ⟨j,_,e,rfl,d,f,rfl⟩)
  ·unfold Bv;refine AP (Q:=λc=>c=true) (AS (decide_eq_false (by omega)) (AC (decide_eq_true (by rw[EV H.len];omega)))) λc a=> ?_;subst a;exact Ap rfl (AC (.inr ⟨.inr g,rfl⟩))
def GoZ (p:As) (B:List dtK) (E:List (List Edge)) (n s r:Int):Prop:=(∃(j:Nat) (b:dtK) (e:List Edge),n=(j:Int)∧B[j]? =some b∧E[j]? =some e∧JU p.2.2.1 B b e s r)∨(Off B n∧r= -1)
theorem GoZ.unique (H:Fin p B E) {n s r i:Int}(h:GoZ p B E n s r) (l:GoZ p B E n s i):r=i:=by
 have k:∀ {j:Nat} {b:dtK},B[j]? =some b→ ¬Off B (j:Int):=λh g=>by
  have:=(bO.1 h).1
  unfold Off at g;omega
 rcases h with⟨j,b,e,rfl,c,f,m⟩|⟨c,f⟩ <;>rcases l with⟨o,u,v,q,a,d,t⟩|⟨a,d⟩
 ·have:o=j:=by omega
  subst this;rw[c]at a;rw[f]at d;cases a;cases d;exact JU.unique H m t
 ·exact absurd a (k c)
 ·subst q;exact absurd c (k a)
 ·rw[f,d]
theorem ax (V:VPp p) (H:Fin p B E) (n s:Int):Ok (Ay (Be p B E t) n s) (GoZ p B E n s):=by
 rcases kO n 0 with h | h
 ·unfold Ay;refine AP (aw H n) λx b=> ?_;rcases b with⟨j,_,_,rfl,_⟩|⟨a,rfl⟩
  ·omega
  ·exact AC (.inr ⟨a,rfl⟩)
 ·rcases kO n (B.length:Int) with g | g
  ·obtain⟨j,rfl⟩:=hC h;have c:=bD (show j<B.length by omega);have⟨e,d⟩:=H.edge c;exact(XN V H c d s).mono λr f=>.inl ⟨j,_,e,rfl,c,d,f⟩
  ·unfold Ay;refine AP (aw H n) λx b=> ?_;rcases b with⟨j,_,_,rfl,a,_⟩|⟨a,rfl⟩
   ·have:=(bO.1 a).1;omega
   ·exact AC (.inr ⟨a,rfl⟩)
noncomputable def goF (p:As) (B:List dtK) (E:List (List Edge)) (n s:Int):Int:=(Ay (Be p B E 0) n s).getD (-1)
theorem eK (V:VPp p) (H:Fin p B E) (n s:Int):GoZ p B E n s (goF p B E n s):=by have⟨r,a,b⟩:=ax (t:=0) V H n s;unfold goF;rw[a];exact b
theorem eL (V:VPp p) (H:Fin p B E) (n s:Int):Ay (Be p B E t) n s=some (goF p B E n s):=by have⟨r,a,b⟩:=ax (t:=t) V H n s;rw[a,GoZ.unique H b (eK V H n s)]
end
end Go.Proofs.YtnlkgidlfnefbaaGreatDoor
namespace Go.Proofs.YtnlkgidlfnefbaaGreatDoor
open Go Go.Eng Dg
section
variable {p:dtP}{B:List dtK}{E:List (List Edge)}{d:LkD}{tt:Int}
theorem gt (M:MkI p B E d tt) (i t:Int):goV (Be p B E tt) i t=goF p B E i t:=by unfold goV;rw[eL M.all.vp M.all.fin];rfl
theorem ay {i:Nat}{b:dtK}(a:B[i]? =some b):dlB p B i=Co p.2.2.1 b.2.1:=by unfold dlB;rw[a]
def GdT (p:dtP) (B:List dtK) (E:List (List Edge)) (d:LkD) (tt:Int) (g:Bt):Prop:= ∃rows gos,g=(p.1,p.2.1,p.2.2.1,p.2.2.2.1,p.2.2.2.2.1,p.2.2.2.2.2,rows,gos,clA p (Be p B E tt) d B B.length)∧
 rows=(eE B.length).map (λ(i:Nat)=>(eE p.1.length).map λt=>Tp p (Be p B E tt) d (dlB p B i) (i:Int) ((t:Nat):Int))∧
 gos=(eE B.length).map (λ(i:Nat)=>(eE p.2.1.length).map λv=>goF p B E (i:Int) ((p.1.length+v:Nat):Int))
theorem GdT.gd {g:Bt}(G:GdT p B E d tt g):Gd p (Be p B E tt) d B g:=by obtain⟨a,b,c,rfl,rfl⟩:=G;exact⟨_,_,c,by simp,λi e=>⟨_,by rw[kF,hM e];rfl,rfl⟩⟩
theorem az (M:MkI p B E d tt) (q:∀t:Int,0≤lvl p t→lvl p t< (p.2.2.2.2.1.length:Int)) (r:p.1.length≤100) (x:p.2.1.length≤1000):
 Ok (HM p (Be p B E tt) (some d)) λg=>∃n,g=some n∧GdT p B E d tt n:=by
 have y:=M.all.few;unfold HM;refine AJ (TX M.all.fin) (B0 (λi (z:Bt)=>z=(p.1,p.2.1,p.2.2.1,p.2.2.2.1,p.2.2.2.2.1,p.2.2.2.2.2,(eE i).map (λ(i:Nat)=>(eE p.1.length).map λt=>Tp p (Be p B E tt) d (dlB p B i) (i:Int) ((t:Nat):Int)),(eE i).map (λ(i:Nat)=>(eE p.2.1.length).map λv=>goF p B E (i:Int) ((p.1.length+v:Nat):Int)),clA p (Be p B E tt) d B i)) (by omega) rfl (λi z s c=> ?_) λz c=>AC ⟨_,by rw[c],_,_,rfl,rfl,rfl⟩);subst c;obtain⟨a,f⟩:∃a,(eE i).map (λ(i:Nat)=>(eE p.1.length).map λt=>Tp p (Be p B E tt) d (dlB p B i) (i:Int) ((t:Nat):Int))=a:=⟨_,rfl⟩;obtain⟨h,j⟩:∃h,(eE i).map (λ(i:Nat)=>(eE p.2.1.length).map λv=>goF p B E (i:Int) ((p.1.length+v:Nat):Int))=h:=⟨_,rfl⟩;have A:a.length=i:=by rw[←f];simp
 have C:h.length=i:=by rw[←j];simp
 rw[kQ,kH,kH,f,j];have k:=bD s;obtain⟨b,l⟩:∃b,B[i] =b:=⟨_,rfl⟩;rw[l]at k;have m:dlB p B i=Co p.2.2.1 b.2.1:=ay k;have u:=Xb p (Be p B E tt) d B i;have o:i *p.1.length≤300 *100:=Nat.mul_le_mul (by omega) r;refine B0 (λt (z:List FG×Bt)=>z=((eE t).map (λt=>Tp p (Be p B E tt) d (dlB p B i) (i:Int) ((t:Nat):Int)),p.1,p.2.1,p.2.2.1,p.2.2.2.1,p.2.2.2.2.1,p.2.2.2.2.2,a,h,clA p (Be p B E tt) d B i++clS p (Be p B E tt) d (dlB p B i) i t)) (by omega) (by simp[clS]) (λt z w c=> ?_) λz c=> ?_
 ·subst c;have D:=To p (Be p B E tt) d (dlB p B i) i t;refine AJ (dY M k (q (t:Int)) (by rw[kI];omega)) (BL (by simp;omega) (AC ?_));rw[kQ,kH,m,List.append_assoc];rfl
 ·subst c;refine B0 (λt (z:List Int)=>z=(eE t).map λv=>goF p B E (i:Int) ((p.1.length+v:Nat):Int)) (by omega) rfl (λt z w c=> ?_) λz c=> ?_
  ·subst c;have e:IntKind.wrap .i64 ((p.1.length:Int)+(t:Int))=((p.1.length+t:Nat):Int):=by rw[w64 (by omega) (by omega)];omega
   rw[e];refine AJ (eL M.all.vp M.all.fin _ _) (BL (by simp;omega) (AC ?_));rw[kQ,kH];rfl
  ·subst c;exact BL (by simp;omega) (BL (by simp;omega) (AC rfl))
inductive Yj (p:dtP) (B:List dtK) (E:List (List Edge)) (i:Nat) (t:Int):Int×Int→Prop
 |err (n:Int):Yj p B E i t (0,n)
 |shift {m:Nat} :TrB p B E i t m→Yj p B E i t (1,(m:Int))
 |reduce {k:Nat} {r:BM} :0<k→p.2.2.1[k]? =some r→It p.2.2.1 (KB B) i k r.2.1.length→Yj p B E i t (2,(k:Int))
 |accept {r:BM} (n:Int):t=0→p.2.2.1[0]? =some r→It p.2.2.1 (KB B) i 0 r.2.1.length→Yj p B E i t (3,n)
theorem bA (M:MkI p B E d tt) {i:Nat}(x:i<B.length) (s:Int):(∃m:Nat,goF p B E (i:Int) s=(m:Int)∧TrB p B E i s m)∨(goF p B E (i:Int) s= -1∧ ∀m,¬TrB p B E i s m):=by
 rcases eK M.all.vp M.all.fin (i:Int) s with⟨j,b,e,y,l,n,o⟩|⟨h,_⟩
 ·obtain rfl:j=i:=by omega
  rcases o with⟨g,q,r,c,f,t,u,v⟩|⟨g,c⟩
  ·refine .inl ⟨q,c,b,e,l,n,.inl ⟨g,q,r,rfl,f,t,u,?_⟩⟩;rw[←c];exact v
  ·refine .inr ⟨c,λm ⟨z,A,a,w,k⟩=> ?_⟩;rw[l]at a;cases a;rcases k with⟨f,_⟩|⟨_,f⟩
   ·exact g f
   ·omega
 ·unfold Off at h;omega
theorem da (M:MkI p B E d tt) (G:∀t:Int,0≤lvl p t→lvl p t< (p.2.2.2.2.1.length:Int)) {i:Nat}(C:i<B.length) (t:Int):Yj p B E i t (Tp p (Be p B E tt) d (dlB p B i) (i:Int) t):=by
 have u:=bD C;obtain⟨b,w⟩:∃b,B[i] =b:=⟨_,rfl⟩;rw[w]at u;have x:dlB p B i=Co p.2.2.1 b.2.1:=ay u;unfold Tp;rw[gt M,x];have D:=au M u t;obtain⟨_,F⟩:=Se p t (goF p B E (i:Int) t) (rs:=rsL d (Co p.2.2.1 b.2.1) (i:Int) t) (by omega) (G t);obtain⟨r,H⟩:∃r,Jz p t (goF p B E (i:Int) t) (rsL d (Co p.2.2.1 b.2.1) (i:Int) t)=r:=⟨_,rfl⟩;rw[H]at F ⊢;have o:∀k∈rsL d (Co p.2.2.1 b.2.1) (i:Int) t,k∈Co p.2.2.1 b.2.1∧Yg d (i:Int) t k=true∧ ∃(q:Nat) (r:BM),k=(q:Int)∧p.2.2.1[q]? =some r∧It p.2.2.1 (KB B) i q r.2.1.length:=λk v=>by
  unfold rsL at v;have⟨f,g⟩:=List.mem_filter.1 v;exact⟨f,g,(VE M u).1 f⟩
 rcases Yi F (λk v=>by obtain⟨_,_,q,_,h,_⟩:=o k v;omega) with hf | ⟨y,_⟩
 ·obtain⟨a,n,c⟩:=r;unfold RT at hf;simp only[Bool.or_eq_true,Bool.and_eq_true,beq_iff_eq,decide_eq_true_eq]at hf;rcases hf with⟨f,g,I⟩|⟨f,hn,hpos⟩|⟨f,y⟩
  ·subst f g;rcases bA M C t with⟨m,f,g⟩|⟨f,_⟩
   ·rw[f];exact .shift g
   ·omega
  ·subst f;obtain⟨_,_,q,r,f,g,z⟩:=o n hn;subst f;exact .reduce (by omega) g z
  ·subst f;obtain⟨J,K,q,r,f,g,z⟩:=o 0 y;obtain rfl:q=0:=by omega
   refine .accept n ?_ g z;have⟨l,L,_,j⟩:=Xa M u J t;obtain⟨l',A,N,_⟩:=XZ M (s:=i) (k:=0) (bO.1 g).1;have e:some l=some l':=L.symm.trans A;cases e;rw[K]at j;exact XO ((N t).1 (of_decide_eq_true j))
 ·rw[y];exact .err _
theorem Wa (g:Bt) (i:Int):Ce g i=some (decide (0≤i) && decide (i< (g.2.2.2.2.2.2.1.length:Int))):=by
 refine kX ?_;unfold Ce;refine AP (Q:=λb=>b=(decide (0≤i) && decide (i< (g.2.2.2.2.2.2.1.length:Int)))) (Af (λh=>AC ?_) λh=>AC ?_) λb a=>AC a
 ·rw[decide_eq_true (show 0≤i from of_decide_eq_true h)];rfl
 ·rw[decide_eq_false (show ¬0≤i from of_decide_eq_false h)];rfl
theorem gu (M:MkI p B E d tt) (j:∀t:Int,0≤lvl p t→lvl p t< (p.2.2.2.2.1.length:Int)) {g:Bt}(G:GdT p B E d tt g) (i t:Int):
 Ok (Bk g i t) λa=>a=(0,0)∨ ∃b:Nat,i=(b:Int)∧b<B.length∧0≤t∧t< (p.1.length:Int)∧Yj p B E b t a:=by
 by_cases h:(0≤i∧i< (B.length:Int))∧0≤t∧t< (p.1.length:Int)
 ·obtain⟨b,rfl⟩:=hC h.1.1;obtain⟨m,rfl⟩:=hC h.2.1;exact Ok.of (dZ G.gd (by omega) (by omega)) (.inr ⟨b,rfl,by omega,h.2.1,h.2.2,da M j (by omega) _⟩)
 ·obtain⟨e,k,rfl,rfl,rfl⟩:=G;unfold Bk;refine AP (Q:=λc=>c=true) ?_ λc l=>by subst l;exact Ap rfl (AC (.inl rfl))
  refine AJ (Wa _ _) ?_;dsimp only;rw[kT,kJ];by_cases f:0≤i∧i< (B.length:Int)
  ·rw[decide_eq_true f.1,decide_eq_true f.2];refine AS rfl (AJ (HJ _ _) (AC ?_));simp only[kK,kG,decide_eq_false_iff_not];omega
  ·refine Ap ?_ (AC rfl);simp only[kK,kG,decide_eq_false_iff_not];omega
theorem gw (M:MkI p B E d tt) {g:Bt}(G:GdT p B E d tt g) (r:p.1.length≤1000) (t:p.2.1.length≤1000) (i s:Int) (u:0≤s) (w:s≤1000000):
 Ok (Cf g i s) λv=>∀a:Nat,i=(a:Int)→a<B.length→(p.1.length:Int) ≤s→s< (p.1.length:Int)+(p.2.1.length:Int)→v=goF p B E (a:Int) s:=by
 obtain⟨f,m,rfl,rfl,rfl⟩:=G;unfold Cf;dsimp only;have e:IntKind.wrap .i64 (s - (p.1.length:Int))=s - (p.1.length:Int):=w64 (by omega) (by omega);rw[e];by_cases h:(0≤i∧i< (B.length:Int))∧(p.1.length:Int) ≤s∧s< (p.1.length:Int)+(p.2.1.length:Int)
 ·obtain⟨a,rfl⟩:=hC h.1.1;obtain⟨v,n⟩:∃v:Nat,s=((p.1.length+v:Nat):Int):=⟨(s - (p.1.length:Int)).toNat,by omega⟩;subst n;have o:((p.1.length+v:Nat):Int) - (p.1.length:Int)=((v:Nat):Int):=by omega
  rw[o];refine AP (Q:=λc=>c=false) (AJ (Wa _ _) ?_) λc b=> ?_
  ·dsimp only;rw[kT,kJ,decide_eq_true h.1.1,decide_eq_true h.1.2];exact AS rfl (AS (decide_eq_false (by omega)) (AC (decide_eq_false (by omega))))
  ·subst b;refine AS rfl (AX (x:=(eE p.2.1.length).map λv=>goF p B E (a:Int) ((p.1.length+v:Nat):Int)) ?_ (AX (x:=goF p B E (a:Int) ((p.1.length+v:Nat):Int)) ?_ (AC λj q _ _ _=> ?_)))
   ·rw[kF,hM (by omega)];rfl
   ·rw[kF,hM (by omega)];rfl
   ·obtain rfl:j=a:=by omega
    rfl
 ·refine AP (Q:=λc=>c=true) (AJ (Wa _ _) ?_) λc b=> ?_
  ·dsimp only;rw[kT,kJ];by_cases k:0≤i∧i< (B.length:Int)
   ·rw[decide_eq_true k.1,decide_eq_true k.2];refine AS rfl (Af (λ_=>AC rfl) λl=>AC ?_);have l:=of_decide_eq_false l;exact decide_eq_true (by omega)
   ·refine Ap ?_ (AC rfl);simp only[kK,kG,decide_eq_false_iff_not];omega
  ·subst b;exact Ap rfl (AC λj q y z A=>by omega)
end
end Go.Proofs.YtnlkgidlfnefbaaGreatDoor
