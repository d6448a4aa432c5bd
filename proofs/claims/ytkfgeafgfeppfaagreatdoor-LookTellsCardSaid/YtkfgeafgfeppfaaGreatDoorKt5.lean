/-
  T2, DgTarjan, DgTarjanB, DgP1, F1, F2, F3, F4, F5, F6, M1, M2, SimUa, Aw, M3, Ref10, Ref10B, Ref10C, Ref10D, Ref10E, Ref10F, Fo1, Fo2, Fo3, Fo4, SimY, Ref10G, Ref13, Cn1, Rt2, put together.
  Conditions: none; each part tells its own.
-/
import Derived.Test.YtkfgeafgfeppfaaGreatDoorKt4
import Derived.Test.YtkfgeafgfeppfaaGreatDoorKt2
import Derived.Test.YtkfgeafgfeppfaaGreatDoorKt3
import Derived.KernelRfl
set_option linter.unusedVariables false
set_option maxRecDepth 100000
set_option maxRecDepth 1000000
set_option maxHeartbeats 4000000
open List renaming getElem?_eq_getElem → gO,mem_of_getElem? → gQ,getElem?_eq_some_iff → gS,getElem?_of_mem → gV,getElem_mem → gY,mem_append → gZ,getElem?_append_right → hQ,mem_cons_of_mem → hU,getElem?_set → hZ,getElem?_append_left → iC,length_set → iF,getElem?_cons_zero → iI,append_assoc → iJ,take_succ_eq_append_getElem → iK,perm_append_comm_assoc → iL,length_append → iM,getElem?_eq_none → iO,mem_cons → iQ,mem_singleton → iR,perm_middle → iU,nodup_append → iV,take_of_length_le → iW,length_map → iX,mem_or_eq_of_mem_set → iY,mem_map → jA,replicate → jE,append_nil → jH,getElem?_map → jJ,getElem?_set_ne → jK,mem_range → jM,getElem?_replicate → jN,countP_cons → jO,mem_filter → jS,count_cons → jT,map_append → jU,mem_append_right → jV,contains_iff_mem → jW,take_add_one → jY,mem_of_mem_drop → kF,length → kG,set_cons_succ → kJ,getElem?_cons_succ → kM,getElem?_set_self → kN,range → kO,take_length → kQ,length_take → kT,eq_nil_of_length_eq_zero → kV,mem_append_left → kW,set_cons_zero → kX,filter_append → kY,map_cons → lB,sum_cons → lC,length_cons → lD,length_filter_le → lH,length_singleton → lI,take_append_drop → lJ,take_zero → lK,mem_of_mem_take → lL,mem_cons_self → lR,length_range → lU,ext_getElem? → lV,pairwise_map → lW,cons_append → mA,filter_cons → mC,mem_flatMap → mD
open Go.IntKind renaming wrap → gP
open Option renaming bind_some → gR,bind → kH
open Int renaming toNat_natCast → gT,toNat_of_nonneg → hO,not_lt → jL,toNat → mH
open List.Perm renaming cons → gU,append_right → gW,swap → iD,append_left → iP,refl → mG
open Go.Eng.Ro renaming bool → gX,int → jB,slc → jF,list → jG,prod → mL,str → mM
open Go.Proofs.Tryz renaming prog → iA,underlying93 → lX,underlying82 → lY,underlying90 → lZ
open Nat renaming le_refl → iB,lt_succ_iff_lt_or_eq → iE,eq_zero_or_pos → jD,le_trans → jI,lt_or_ge → jR,zero_le → kZ,lt_trichotomy → lT
open Go.Eng.St renaming freezeRow → iG,cell → jC,cells → jP,lit → lF,freezeRows → lQ,there → mK
open Bool renaming or_eq_true → iH,or_eq_false_iff → iN,and_eq_true → iZ,and_eq_false_iff → jX,not_eq_true' → jZ,true_and → lA,and_false → lM,false_or → lP,false_ne_true → lS,not_eq_true → mB
open Go.Eng.Sub renaming refl → iT,trans → jQ
open Go.Eng.AW renaming next → kD,done → kU
open Prod renaming ext_iff → lG,ext → mF
open Go.Eng.Ro.SliceIs renaming nil → lN
open Go.Eng.Rep renaming raw → lO
open Iff renaming rfl → mI
open Go.Proofs.YtkfgeafgfeppfaaGreatDoor.St renaming blk → mJ
namespace Go.Proofs.YtkfgeafgfeppfaaGreatDoor
open Go Go.Eng
def KB (B:List dtK) (n:Nat):List Item:=match B[n]? with
 |some b=>b.1
 |none=>[]
def SB (B:List dtK) (n:Nat):Prop:=n<B.length
def TrB (p:Au) (B:List dtK) (E:List (List Edge)) (n:Nat) (s:Int) (m:Nat):Prop:= ∃b e,B[n]? =some b∧E[n]? =some e∧JF p.2.2.1 B b e s (m:Int)
section
variable {p:Au}{B:List dtK}{E:List (List Edge)}
theorem Pe {n:Nat}{b:dtK}(h:B[n]? =some b):KB B n=b.1:=by unfold KB;rw[h]
theorem JF.to {b:dtK}{e:List Edge}{s:Int}{m:Nat}(h:JF p.2.2.1 B b e s (m:Int)):s∈sy p.2.2.1 b.2.1∧1≤m∧ ∃bt,B[m]? =some bt∧bt.1=nx p.2.2.1 b.2.1 s∧(s,(m:Int))∈e:=by
 rcases h with⟨a,q,bt,i,c,d,f,g⟩|⟨_,h⟩
 ·have e:m=q:=by omega
  subst e;exact⟨a,c,bt,d,f,g⟩
 ·omega
theorem Fo (V:VPp p) (H:Fin p B E) {n:Nat}{b:dtK}(hb:B[n]? =some b) (x:Item):x∈b.2.1↔Cl p.2.2.1 (KB B n) x:=by
 rw[Pe hb];exact(H.good V hb).2.2.1.mem x
theorem GX (V:VPp p) (H:Fin p B E):Aut p.2.2.1 (SB B) (KB B) (TrB p B E) where
 ok {n x} hn hx:=by
  have hb:=gO (l:=B) hn;rw[Pe hb]at hx;exact(H.good V hb).1.ok x hx
 kern {n x} hn hx:=by
  have hb:=gO (l:=B) hn;rw[Pe hb]at hx;rcases jD n with rfl | h
  ·have:=H.zero
   rw[hb]at this;rw[Option.some.inj this]at hx;exact .inl ⟨by simpa[k0]using hx,rfl⟩
  ·have⟨f,bf,e,c,g,a,d,k,q,r⟩:=H.from_ n _ h hb;rw[d]at hx;exact .inr (Qc V (H.good V a).2.1.ok (Hg.1 k).1 x hx).2
 zero x:=by rw[Pe H.zero];simp[k0]
 s0:=Bo H.zero
 st {n s m} h:=by
  obtain⟨b,e,hb,he,hg⟩:=h;obtain⟨c,g,bt,a,_⟩:=hg.to;exact⟨Bo hb,Bo a,g,(Hg.1 c).1⟩
 go {n x} hn hx u:=by
  have hb:=gO (l:=B) hn;have⟨e,he⟩:=H.edge hb;have hs:beh p.2.2.1 x∈sy p.2.2.1 B[n].2.1:=Hg.2 ⟨u,x,(Fo V H hb x).2 hx,rfl⟩;have hd:=H.done n _ e hb he;rw[←hd.1]at hs;obtain⟨y,hy,hy'⟩:=jA.1 hs;have⟨t,bt,c,g,a,d⟩:=hd.2 y hy;refine⟨t,_,e,hb,he,.inl ⟨?_,t,bt,rfl,g,a,?_,?_⟩⟩
  ·rw[←hd.1];exact hs
  ·rw[←hy'];exact d
  ·rw[←hy',←c];exact hy
 into {n s m x} h:=by
  obtain⟨b,e,hb,he,hg⟩:=h;obtain⟨c,g,bt,a,d,_⟩:=hg.to;rw[Pe a,d,PL];constructor
  ·rintro⟨y,i,j,o⟩;exact⟨y,(Fo V H hb y).1 i,j,o⟩
  ·rintro⟨y,i,j,o⟩;exact⟨y,(Fo V H hb y).2 i,j,o⟩
 some_ {n s m} h:=by
  obtain⟨b,e,hb,he,hg⟩:=h;obtain⟨y,i,j⟩:=(Hg.1 hg.to.1).2;exact⟨y,(Fo V H hb y).1 i,j⟩
 fn {n s m m'} h h':=by
  obtain⟨b,e,hb,he,hg⟩:=h;obtain⟨b',e',hb',he',hg'⟩:=h';rw[hb]at hb';rw[he]at he';cases hb';cases he'
  have:=JF.unique H hg hg'
  omega
 reach {n} hn:=by
  induction n using Nat.strongRecOn with
  |_ n ih=>
   rcases jD n with rfl | h
   ·exact⟨[],rfl⟩
   ·have hb:=gO (l:=B) hn;have⟨f,bf,e,c,g,a,d,k,q,r⟩:=H.from_ n _ h hb;obtain⟨l,hl⟩:=ih f c (Bo a);exact⟨l++ [B[n].2.2.2],Pth.app.2 ⟨f,hl,n,⟨bf,e,a,q,.inl ⟨k,n,_,rfl,h,hb,d,r⟩⟩,rfl⟩⟩
theorem X7 (H:Fin p B E):∀ {l:gM}{n m:Nat},n<B.length→(Walk p.2.2.1 B E (n:Int) l (m:Int)↔Pth (TrB p B E) n l m):=by
 intro l
 induction l with
 |nil=>
  intro n m hn;constructor
  ·intro h
   generalize hq:(n:Int)=n' at h
   generalize hr:(m:Int)=m' at h
   cases h
   have:n=m:=by omega
   exact this
  ·rintro rfl;exact .nil _
 |cons s l ih=>
  intro n m hn;constructor
  ·intro h
   generalize hq:(n:Int)=n' at h
   generalize hr:(m:Int)=m' at h
   cases h with
   |stop _ _ _=>omega
   | @step j q b e _ _ _ hb he hg hql hw=>
    have e:n=j:=by omega
    subst e;subst hr;exact⟨q,⟨b,_,hb,he,hg⟩,(ih hql).1 hw⟩
  ·rintro⟨q,⟨b,e,hb,he,hg⟩,hp⟩;obtain⟨_,_,bt,a,_⟩:=hg.to;exact .step hb he hg (Bo a) ((ih (Bo a)).2 hp)
theorem aK {nt nl:Nat}(G:Pl nt nl p) (hp:∀v:Nat,v<p.2.1.length→Pro (p.1.length:Int) p.2.2.1 ((p.1.length+v:Nat):Int)):Gr (p.1.length:Int) p.2.2.1:=by
 have hT:=G.terms.len;obtain⟨st,b,c,a⟩:=G.first;have each:∀(k:Nat) r,p.2.2.1[k]? =some r→(k=0∧r=(((nt+1+p.2.1.length:Nat):Int),[st],0))∨(1≤k∧Pr nt p.2.1.length nl r):=λk r hk=>by
  rcases jD k with rfl | h
  ·rw[a]at hk;exact .inl ⟨rfl,(Option.some.inj hk).symm⟩
  ·exact .inr ⟨h,G.rules k r h hk⟩
 have syms:∀r∈p.2.2.1,∀s∈r.2.1,0<s∧s< ((nt+1+p.2.1.length:Nat):Int):=λr hr s hs=>by
  obtain⟨k,hk⟩:=gV hr;rcases each k r hk with⟨_,rfl⟩|⟨_,h⟩
  ·simp at hs;subst hs;omega
  ·exact h.right s hs
 refine⟨by omega,⟨_,st,a,rfl,by omega,λr' hr' hm=> ?_,λk r' hk he=> ?_⟩,λr hr=> ?_,λr hr s hs=>(syms r hr s hs).1,λr hr s hs=> ?_⟩
 ·have:=syms r' hr' _ hm
  dsimp only at this;omega
 ·rcases each k r' hk with⟨h,_⟩|⟨_,h⟩
  ·exact h
  ·have:=h.left
   dsimp only at he;omega
 ·obtain⟨k,hk⟩:=gV hr;rcases each k r hk with⟨_,rfl⟩|⟨_,h⟩
  ·dsimp only;omega
  ·have:=h.left;omega
 ·have:=syms r hr s hs
  by_cases h:s< (p.1.length:Int)
  ·exact .term (by omega) h
  ·have e:s=((p.1.length+(s.toNat - p.1.length):Nat):Int):=by omega
   rw[e];exact hp _ (by omega)
end
end Go.Proofs.YtkfgeafgfeppfaaGreatDoor
namespace Go.Proofs.YtkfgeafgfeppfaaGreatDoor.Dg
open Go Go.Eng
abbrev EV:Int:=9223372036854775807
def lv (low:gM) (v:Int):Int:=(idx low v).getD 0
theorem Nu {low:gM}{v:Int}(a:0≤v) (b:v< (low.length:Int)):idx low v=some (lv low v):=by
 have:idx low v=some low[v.toNat]:=Ku a (by omega)
 unfold lv;rw[this];rfl
theorem X8 {low:gM}{v:Int}(h:v<0∨(low.length:Int) ≤v):lv low v=0:=by
 unfold lv idx;split
 ·rw[iO (by omega)];rfl
 ·rfl
theorem Rh {low:gM}{x e:Int}(a:0≤x) (b:x< (low.length:Int)) (v:Int):lv (low.set x.toNat e) v=if v=x then e else lv low v:=by
 by_cases hv:v=x
 ·subst hv;rw[gF rfl];unfold lv idx;rw[gF a,hZ,gF rfl,gF (by omega)];rfl
 ·rw[gG hv];unfold lv idx;split
  ·rw[hZ,gG (by omega)]
  ·rfl
inductive Reach (ll:List gM) (n:Int):Int→Int→Prop where
 |refl (x:Int):Reach ll n x x
 |step {x y z:Int} :y∈C9 ll x n→Reach ll n y z→Reach ll n x z
theorem Reach.trans {ll:List gM}{n x y z:Int}(h:Reach ll n x y) (k:Reach ll n y z):Reach ll n x z:=by
 induction h with
 |refl=>exact k
 |step e _ ih=>exact .step e (ih k)
theorem Reach.one {ll:List gM}{n x y:Int}(h:y∈C9 ll x n):Reach ll n x y:=.step h (.refl _)
theorem JG {ll:List gM}{n x y:Int}(h:y∈C9 ll x n):0≤y∧y<n:=by
 unfold C9 at h;split at h
 ·cases h
 ·have:=(jS.1 h).2
  unfold KM at this;simp at this;omega
theorem Reach.closed {ll:List gM}{n:Int}{D:Int→Prop}(hD:∀v w,D v→w∈C9 ll v n→D w) {x y:Int}(h:Reach ll n x y):D x→D y:=by
 induction h with
 |refl=>exact id
 |step e _ ih=>exact λhx=>ih (hD _ _ hx e)
structure bX (ll:List gM) (n:Int) {A:Type}(ledA:A→Int→Int→Option A) (partA:A→gM→Option A) where
 I:(Int→Prop)→A→Prop
 Q:A→Int→Int→Prop
 led:∀ {D:Int→Prop} {a:A} {x to:Int},I D a→0≤x→x<n→to∈C9 ll x n→D to∨Reach ll n to x→ ¬D x→ ∃a',ledA a x to=some a'∧I D a'∧Q a' x to∧ ∀y z,Q a y z→Q a' y z
 part:∀ {D:Int→Prop} {a:A} {l:gM},I D a→l≠[] →l.Nodup→(∀v∈l,0≤v∧v<n∧ ¬D v)→(∀v∈l,∀w∈C9 ll v n,Q a v w∧(D w∨w∈l))→(∀v∈l,∀z,z∈l↔Reach ll n v z∧Reach ll n z v)→
  ∃a',partA a l=some a'∧I (λv=>D v∨v∈l) a'∧ ∀y z,Q a y z→Q a' y z
section
variable (ll:List gM) (n:Int)
structure Inv (low stk:gM):Prop where
 len:(low.length:Int)=n
 on:∀(i:Nat) (v:Int),stk[i]? =some v→0≤v∧v<n∧1≤lv low v∧lv low v≤(i:Int)+1
 off:∀v:Int,0≤v→v<n→v∉stk→lv low v=0∨lv low v=EV
 nodup:stk.Nodup
 back:∀(i:Nat) (v:Int),stk[i]? =some v→ ∃(j:Nat) (u:Int),lv low v=(j:Int)+1∧stk[j]? =some u∧Reach ll n v u
 clo:∀v w:Int,lv low v=EV→w∈C9 ll v n→lv low w=EV
variable {ll:List gM}{n:Int}
theorem Inv.size {low stk:gM}(H:Inv ll n low stk):stk.length≤low.length:=by
 have h:=List.Nodup.length_le_of_subset (l₂:=(kO low.length).map λk:Nat=>(k:Int)) H.nodup (λv hv=>by
  obtain⟨i,hi⟩:=gV hv
  have:=H.on i v hi
  have hl:=H.len;exact jA.2 ⟨v.toNat,jM.2 (by omega),by omega⟩)
 simpa using h
theorem Inv.mem {low stk:gM}(H:Inv ll n low stk) (hn:n≤100000) {v:Int}(a:0≤v) (b:v<n) (hv:lv low v≠0) (hm:lv low v≠EV):∃i:Nat,stk[i]? =some v:=by
 by_cases h:v∈stk
 ·exact gV h
 ·rcases H.off v a b h with h | h
  ·exact gI h hv
  ·exact gI h hm
theorem Inv.notMax {low stk:gM}(H:Inv ll n low stk) (hn:n≤100000) {i:Nat}{v:Int}(h:stk[i]? =some v):lv low v≠EV:=by
 have a:=(H.on i v h).2.2.2;have c:=H.size;have d:=H.len;have e:i<stk.length:=by
  rcases jR i stk.length with g | g
  ·exact g
  ·rw[iO g]at h;cases h
 intro b;rw[b]at a;simp only[EV]at a;omega
theorem MT {α:Type}{l:List α}{i:Nat}{v:α}(h:l[i]? =some v):i<l.length:=by
 rcases jR i l.length with g | g
 ·exact g
 ·rw[iO g]at h;cases h
theorem S2 {low low':gM}(hl:low'.length=low.length) (h:∀v,lv low v≠0→lv low' v≠0):low'.count 0≤low.count 0:=by
 have key:∀(l l':gM),l'.length=l.length→(∀i:Nat,(l[i]?).getD 0≠0→(l'[i]?).getD 0≠0)→l'.count 0≤l.count 0:=by
  intro l
  induction l with
  |nil=>intro l' hl _;rw[kV hl];exact iB _
  |cons x l ih=>
   intro l' hl h;cases l' with
   |nil=>simp
   |cons y l'=>
    have b:=ih l' (by simpa using hl) λi hi=>by simpa using h (i+1) (by simpa using hi)
    have a:=h 0;simp only[iI,Option.getD_some]at a;rw[jT,jT];by_cases hx:x=0
    ·subst hx;simp only[beq_self_eq_true,if_true]
     split<;>omega
    ·have:=a hx
     rw[gG (by simpa using this),gG (by simpa using hx)];omega
 refine key low low' hl λi hi=> ?_
 have:=h (i:Int)
 unfold lv at this;rw[CK,CK]at this;exact this hi
theorem Gd {low:gM}{x e:Int}(a:0≤x) (b:x< (low.length:Int)) (hx:lv low x=0) (he:e≠0):(low.set x.toNat e).count 0+1≤low.count 0:=by
 have key:∀(l:gM) (i:Nat),l[i]? =some 0→(l.set i e).count 0+1≤l.count 0:=by
  intro l
  induction l with
  |nil=>intro i h;simp at h
  |cons y l ih=>
   intro i h;cases i with
   |zero=>
    simp only[iI,Option.some.injEq]at h;subst h;rw[kX,jT,jT];simp[he]
   |succ i=>
    have:=ih i (by simpa using h)
    rw[kJ,jT,jT];omega
 refine key low x.toNat ?_
 have:=Nu (low:=low) a b
 unfold idx at this;rw[gF a,hx]at this;exact this
end
section
variable {ll:List gM}{n:Int}{A:Type}{ledA:A→Int→Int→Option A}{partA:A→gM→Option A}(S:bX ll n ledA partA)
abbrev Dn (low:gM) (v:Int):Prop:=lv low v=EV
structure ZS (low stk:gM) (x:Int) (a:A) (low' ext:gM) (a':A):Prop where
 inv:Inv ll n low' (stk++ext)
 keep:∀v:Int,lv low v≠0→lv low' v=lv low v
 seen:lv low' x≠0
 fresh:∀v∈ext,lv low v=0
 reach:∀v∈ext,Reach ll n x v
 strict:∀(i:Nat) (v:Int),ext[i]? =some v→lv low' x≤lv low' v∧lv low' v< (stk.length:Int)+i+1
 edges:∀v∈ext,∀w∈C9 ll v n,lv low' w≠0∧S.Q a' v w∧ ∀i:Nat,stk[i]? =some w→lv low' v≤(i:Int)+1
 ok:S.I (Dn low') a'
 mono:∀y z:Int,S.Q a y z→S.Q a' y z
structure EN (low0 stk:gM) (x:Int) (a0:A) (es:gM) (q:Int) (low ext:gM) (a:A):Prop where
 inv:Inv ll n low (stk++x::ext)
 keep:∀v:Int,lv low0 v≠0→lv low v=lv low0 v
 fresh:∀v∈ext,lv low0 v=0
 reach:∀v∈ext,Reach ll n x v
 strict:∀(i:Nat) (v:Int),ext[i]? =some v→(lv low x≤lv low v∨q≤lv low v)∧lv low v< (stk.length:Int)+i+2
 edges:∀v∈ext,∀w∈C9 ll v n,lv low w≠0∧S.Q a v w∧ ∀i:Nat,stk[i]? =some w→lv low v≤(i:Int)+1
 own:∀w∈es,lv low w≠0∧S.Q a x w∧ ∀i:Nat,stk[i]? =some w→lv low x≤(i:Int)+1
 ok:S.I (Dn low) a
 mono:∀y z:Int,S.Q a0 y z→S.Q a y z
theorem bY (stk:gM) (x:Int) (ext:gM):(stk++x::ext)[stk.length]? =some x:=by
 rw[hQ (iB _),Nat.sub_self];rfl
theorem Nv {stk:gM}{i:Nat}{v:Int}(h:stk[i]? =some v) (r:gM):(stk++r)[i]? =some v:=by
 rw[iC (MT h)];exact h
theorem bZ {stk:gM}{x:Int}{ext:gM}{i:Nat}{v:Int}(h:ext[i]? =some v):(stk++x::ext)[stk.length+1+i]? =some v:=by
 rw[hQ (by omega),show stk.length+1+i - stk.length=i+1 by omega];exact h
theorem G2 {stk:gM}{x:Int}{ext:gM}{i:Nat}{v:Int}(h:(stk++x::ext)[i]? =some v):(stk[i]? =some v)∨(i=stk.length∧v=x)∨ ∃k,i=stk.length+1+k∧ext[k]? =some v:=by
 rcases lT i stk.length with g | g | g
 ·left;rw[iC g]at h;exact h
 ·right;left
  subst g;rw[bY]at h;exact⟨rfl,(Option.some.inj h).symm⟩
 ·right;right
  refine⟨i - stk.length - 1,by omega,?_⟩;rw[hQ (by omega),show i - stk.length=(i - stk.length - 1)+1 by omega]at h;exact h
theorem EN.all {low0 stk:gM}{x q:Int}{a0:A}{es low ext:gM}{a:A}(R:EN S low0 stk x a0 es q low ext a) (hx:∀u∈stk,Reach ll n u x):∀(i:Nat) (v:Int),(stk++x::ext)[i]? =some v→Reach ll n v x:=by
 intro i
 induction i using Nat.strongRecOn with
 |ind i ih=>
  intro v hv;rcases G2 hv with h | ⟨_,rfl⟩|⟨k,rfl,hk⟩
  ·exact hx v (gQ h)
  ·exact .refl _
  ·have⟨j,u,d,b,c⟩:=R.inv.back _ v hv
   have:=(R.strict k v hk).2
   exact c.trans (ih j (by omega) u b)
variable {low0 stk:gM}{x q:Int}{a0:A}{es low ext:gM}{a:A}
theorem EN.not_stk (R:EN S low0 stk x a0 es q low ext a) {v:Int}(hv:v∈x::ext):v∉stk:=λh=>by
 have:=(iV.1 R.inv.nodup).2.2
 exact this v h v hv rfl
theorem EN.not_x (R:EN S low0 stk x a0 es q low ext a) {v:Int}(hv:v∈ext):v≠x:=λh=>by
 have:=(iV.1 R.inv.nodup).2.1
 rw[List.nodup_cons]at this;subst h;exact this.1 hv
theorem EN.x_on (R:EN S low0 stk x a0 es q low ext a):0≤x∧x<n∧1≤lv low x∧lv low x≤(stk.length:Int)+1:=R.inv.on _ _ (bY stk x ext)
theorem EN.begin (hn:n≤100000) (H:Inv ll n low0 stk) (c:0≤x) (f:x<n) (hx:lv low0 x=0) (hI:S.I (Dn low0) a0):EN S low0 stk x a0 [] (lv (low0.set x.toNat ((stk.length:Int)+1)) x) (low0.set x.toNat ((stk.length:Int)+1)) [] a0:=by
 have hlen:=H.len;have hsz:=H.size;have hs:=λv=>Rh (low:=low0) (x:=x) (e:=(stk.length:Int)+1) c (by omega) v;have hxs:x∉stk:=λh=>by
  obtain⟨i,hi⟩:=gV h
  have:=(H.on i x hi).2.2.1
  omega
 have hD:Dn (low0.set x.toNat ((stk.length:Int)+1))=Dn low0:=by
  funext v;apply propext;show lv _ v=EV↔lv low0 v=EV;rw[hs];split
  ·rename_i e;subst e;rw[hx];simp only[EV];omega
  ·exact mI
 have hne:∀ {v:Int},lv low0 v≠0→v≠x:=λh e=>by subst e;exact h hx
 refine⟨⟨?_,?_,?_,?_,?_,?_⟩,?_,?_,?_,?_,?_,?_,?_,?_⟩
 ·rw[iF];exact hlen
 ·intro i v hv;rcases G2 hv with h | ⟨rfl,rfl⟩|⟨k,_,hk⟩
  ·have d:=H.on i v h;rw[hs,gG (hne (by omega))];exact d
  ·rw[hs,gF rfl];exact⟨c,f,by omega,by omega⟩
  ·simp at hk
 ·intro v g l hv;have hvx:v≠x:=λe=>hv (by rw[e];simp);rw[hs,gG hvx];exact H.off v g l λh=>hv (kW _ h)
 ·rw[iV];exact⟨H.nodup,by simp,λa ha b hb e=>by simp at hb;subst hb;subst e;exact hxs ha⟩
 ·intro i v hv;rcases G2 hv with h | ⟨rfl,rfl⟩|⟨k,_,hk⟩
  ·have⟨j,u,m,o,p⟩:=H.back i v h;have d:=H.on i v h;exact⟨j,u,by rw[hs,gG (hne (by omega))];exact m,Nv o _,p⟩
  ·exact⟨stk.length,v,by rw[hs,gF rfl],bY _ _ _,.refl _⟩
  ·simp at hk
 ·intro v w hv hw;have hv':Dn low0 v:=by rw[←hD];exact hv
  have:=H.clo v w hv' hw
  show Dn _ w;rw[hD];exact this
 ·intro v hv;rw[hs,gG (hne hv)]
 ·intro v hv;cases hv
 ·intro v hv;cases hv
 ·intro i v hv;simp at hv
 ·intro v hv;cases hv
 ·intro w hw;cases hw
 ·rw[hD];exact hI
 ·exact λy z h=>h
theorem EN.child (R:EN S low0 stk x a0 es (lv low x) low ext a) {to:Int}{low' ext':gM}{a':A}(hto:to∈C9 ll x n) (hz:lv low to=0) (Po:ZS S low (stk++x::ext) to a low' ext' a'):EN S low0 stk x a0 es (lv low' to) low' (ext++ext') a':=by
 have hx:=R.x_on;have hkx:lv low' x=lv low x:=Po.keep x (by omega);have hon:∀v∈ext,lv low v≠0:=λv hv=>by
  obtain⟨i,hi⟩:=gV hv
  have:=(R.inv.on _ _ (bZ (stk:=stk) (x:=x) hi)).2.2.1
  omega
 have f:∀v,lv low v=0→lv low0 v=0:=λv hv=>by
  by_cases h:lv low0 v=0
  ·exact h
  ·have:=R.keep v h
   omega
 refine⟨?_,?_,?_,?_,?_,?_,?_,Po.ok,λy z h=>Po.mono y z (R.mono y z h)⟩
 ·have:=Po.inv
  rwa [iJ,mA]at this
 ·intro v hv;have b:=R.keep v hv;rw[Po.keep v (by rw[b];exact hv),b]
 ·intro v hv;rcases gZ.1 hv with h | h
  ·exact R.fresh v h
  ·exact f v (Po.fresh v h)
 ·intro v hv;rcases gZ.1 hv with h | h
  ·exact R.reach v h
  ·exact .step hto (Po.reach v h)
 ·intro i v hv;rcases jR i ext.length with g | g
  ·rw[iC g]at hv;have b:=R.strict i v hv;rw[Po.keep v (hon v (gQ hv)),hkx];exact⟨.inl (b.1.elim id id),b.2⟩
  ·rw[hQ g]at hv;have b:=Po.strict _ v hv;refine⟨.inr b.1,?_⟩;have j:=b.2;rw[iM,lD]at j;omega
 ·intro v hv w hw;rcases gZ.1 hv with h | h
  ·have⟨c,d,e⟩:=R.edges v h w hw;rw[Po.keep v (hon v h),Po.keep w c];exact⟨c,Po.mono _ _ d,e⟩
  ·have⟨c,d,e⟩:=Po.edges v h w hw;exact⟨c,d,λi hi=>e i (Nv hi _)⟩
 ·intro w hw;have⟨c,d,e⟩:=R.own w hw;rw[Po.keep w c,hkx];exact⟨c,Po.mono _ _ d,e⟩
theorem EN.upd (hn:n≤100000) {to:Int}(hx:∀u∈stk,Reach ll n u x) (hz:lv low0 x=0) (R:EN S low0 stk x a0 es (lv low to) low ext a) (hto:to∈C9 ll x n) (hne:lv low to≠0):
 ∃a',ledA a x to=some a'∧EN S low0 stk x a0 (es++ [to]) (lv (low.set x.toNat (if lv low to<lv low x then lv low to else lv low x)) x) (low.set x.toNat (if lv low to<lv low x then lv low to else lv low x)) ext a':=by
 have hxo:=R.x_on;have hsz:=R.inv.size;have hlen:=R.inv.len;rw[iM,lD]at hsz;have⟨t0,t1⟩:=JG hto;have d:¬Dn low x:=λh=>by have h:lv low x=EV:=h;simp only[EV]at h;omega
 have hto':Dn low to∨ ∃i:Nat,(stk++x::ext)[i]? =some to:=by
  by_cases h:lv low to=EV
  ·exact .inl h
  ·exact .inr (R.inv.mem hn t0 t1 hne h)
 obtain⟨a',r,s,t,f⟩:=S.led R.ok hxo.1 hxo.2.1 hto (hto'.imp id λ⟨i,hi⟩=>R.all S hx i to hi) d;refine⟨a',r,?_⟩;obtain⟨m,hm⟩:∃m,(if lv low to<lv low x then lv low to else lv low x)=m:=⟨_,rfl⟩;rw[hm];have A:1≤lv low to:=by
  rcases hto' with h | ⟨i,hi⟩
  ·have h:lv low to=EV:=h;rw[h];decide
  ·exact(R.inv.on i to hi).2.2.1
 have hmp:m≤lv low x:=by rw[←hm];split<;>omega
 have hmq:m≤lv low to:=by rw[←hm];split<;>omega
 have l:1≤m:=by rw[←hm];split<;>omega
 have hs:=λv=>Rh (low:=low) (x:=x) (e:=m) hxo.1 (by omega) v;have hD:Dn (low.set x.toNat m)=Dn low:=by
  funext v;apply propext;show lv _ v=EV↔lv low v=EV;rw[hs];split
  ·rename_i e;subst e;simp only[EV];omega
  ·exact mI
 refine⟨⟨?_,?_,?_,R.inv.nodup,?_,?_⟩,?_,R.fresh,R.reach,?_,?_,?_,?_,λy z h=>f y z (R.mono y z h)⟩
 ·rw[iF];exact hlen
 ·intro i v hv;have⟨b,c,B,C⟩:=R.inv.on i v hv;rw[hs];split
  ·rename_i e;subst e;exact⟨b,c,l,by omega⟩
  ·exact⟨b,c,B,C⟩
 ·intro v D b hv;have hvx:v≠x:=λe=>hv (by rw[e];simp);rw[hs,gG hvx];exact R.inv.off v D b hv
 ·intro i v hv;rw[hs];split
  ·rename_i e
   subst e;by_cases hlt:lv low to<lv low v
   ·rw[gF hlt]at hm;subst hm;rcases hto' with h | ⟨k,hk⟩
    ·have h:lv low to=EV:=h;rw[h]at hlt;simp only[EV]at hlt;omega
    ·have⟨j,u,q,o,p⟩:=R.inv.back k to hk;exact⟨j,u,q,o,.step hto p⟩
   ·rw[gG hlt]at hm;subst hm;exact R.inv.back i v hv
  ·exact R.inv.back i v hv
 ·intro v w hv hw;have hv':Dn low v:=by rw[←hD];exact hv
  show Dn _ w;rw[hD];exact R.inv.clo v w hv' hw
 ·intro v hv;have hvx:v≠x:=λe=>hv (by rw[e];exact hz);rw[hs,gG hvx];exact R.keep v hv
 ·intro i v hv;have hvx:=R.not_x S (gQ hv);have⟨b,c⟩:=R.strict i v hv;rw[hs x,gF rfl,hs v,gG hvx];refine⟨.inl ?_,c⟩;rcases b with g | g<;>omega
 ·intro v hv w hw;have⟨q,o,p⟩:=R.edges v hv w hw;rw[hs v,gG (R.not_x S hv)];refine⟨?_,f _ _ o,p⟩;rw[hs]
  split<;>omega
 ·intro w hw;rw[hs x,gF rfl];refine⟨?_,?_,?_⟩
  ·rw[hs];split
   ·omega
   ·rcases gZ.1 hw with h | h
    ·exact(R.own w h).1
    ·simp at h;subst h;exact hne
  ·rcases gZ.1 hw with h | h
   ·exact f _ _ (R.own w h).2.1
   ·simp at h;subst h;exact t
  ·intro i hi;rcases gZ.1 hw with h | h
   ·have:=(R.own w h).2.2 i hi;omega
   ·simp at h;subst h
    have:=(R.inv.on i w (Nv hi _)).2.2.2
    omega
 ·rw[hD];exact s
theorem EN.stay (hz:lv low0 x=0) (R:EN S low0 stk x a0 (C9 ll x n) (lv low x) low ext a) (hne:lv low x≠(stk.length:Int)+1):ZS S low0 stk x a0 low (x::ext) a:=by
 have hx:=R.x_on;refine⟨R.inv,R.keep,by omega,?_,?_,?_,?_,R.ok,R.mono⟩
 ·intro v hv;rcases iQ.1 hv with h | h
  ·rw[h];exact hz
  ·exact R.fresh v h
 ·intro v hv;rcases iQ.1 hv with h | h
  ·rw[h];exact .refl _
  ·exact R.reach v h
 ·intro i v hv;cases i with
  |zero=>
   simp only[iI,Option.some.injEq]at hv;subst hv;exact⟨Int.le_refl _,by omega⟩
  |succ i=>
   have:=R.strict i v (by simpa using hv)
   exact⟨this.1.elim id id,by omega⟩
 ·intro v hv w hw;rcases iQ.1 hv with h | h
  ·subst h;exact R.own w hw
  ·exact R.edges v h w hw
theorem ZT {low:gM}:∀(l:gM),(∀v∈l,0≤v∧v< (low.length:Int))→l.length≤9223372036854775807→ ∃low':gM,(forS 0 (l.length:Int) low λi low=>(idx l i).bind λy=>DB low y 9223372036854775807)=some low'∧low'.length=low.length∧ ∀v,lv low' v=if v∈l then EV else lv low v:=by
 intro l hl hb;obtain⟨low',a,b,c⟩:=CL (f:=λi (low:gM)=>(idx l i).bind λy=>DB low y 9223372036854775807) (n:=l.length) (λk low'=>low'.length=low.length∧ ∀v,lv low' v=if v∈l.take k then EV else lv low v) hb (s:=low) ⟨rfl,λv=>by simp⟩ (λk s hk ⟨d,j⟩=>by
  have hr:=hl _ (gY hk);refine⟨s.set (l[k]).toNat EV,by rw[Gl hk];exact HM hr.1 (by omega),by rw[iF];exact d,λv=> ?_⟩;rw[Rh hr.1 (by omega),j,iK hk];by_cases e:v=l[k]
  ·rw[gF e,gF (jV _ (by rw[e];exact iR.2 rfl))]
  ·rw[gG e];by_cases h:v∈l.take k
   ·rw[gF h,gF (kW _ h)]
   ·rw[gG h,gG λg=>(gZ.1 g).elim h λg=>e (iR.1 g)])
 refine⟨low',a,b,λv=> ?_⟩;rw[c,kQ]
theorem EN.pop (hn:n≤100000) (hx:∀u∈stk,Reach ll n u x) (hz:lv low0 x=0) (R:EN S low0 stk x a0 (C9 ll x n) (lv low x) low ext a) (he:lv low x=(stk.length:Int)+1) {low':gM}(hlen':low'.length=low.length) (hlow:∀v,lv low' v=if v∈x::ext then EV else lv low v):
 ∃a',partA a (x::ext)=some a'∧ZS S low0 stk x a0 low' [] a':=by
 have hxo:=R.x_on;have hsz:=R.inv.size;have hlen:=R.inv.len;rw[iM,lD]at hsz;have hge:∀v∈x::ext,(stk.length:Int)+1≤lv low v:=λv hv=>by
  rcases iQ.1 hv with h | h
  ·subst h;omega
  ·obtain⟨i,hi⟩:=gV h
   have:=(R.strict i v hi).1.elim id id
   omega
 have hed:∀v∈x::ext,∀w∈C9 ll v n,lv low w≠0∧S.Q a v w∧ ∀i:Nat,stk[i]? =some w→lv low v≤(i:Int)+1:=λv hv w hw=>by
  rcases iQ.1 hv with h | h
  ·subst h;exact R.own w hw
  ·exact R.edges v h w hw
 have hmem:∀v∈x::ext,∃i:Nat,(stk++x::ext)[i]? =some v:=λv hv=>gV (jV _ hv);have hcl:∀v∈x::ext,∀w∈C9 ll v n,lv low w=EV∨w∈x::ext:=λv hv w hw=>by
  have⟨b,c,d⟩:=hed v hv w hw;have⟨w0,p⟩:=JG hw;by_cases hM:lv low w=EV
  ·exact .inl hM
  ·have⟨i,hi⟩:=R.inv.mem hn w0 p b hM;rcases G2 hi with h | ⟨_,rfl⟩|⟨k,_,hk⟩
   ·have f:=d i h;have m:=hge v hv;have o:=MT h;omega
   ·exact .inr (by simp)
   ·exact .inr (hU _ (gQ hk))
 have hnd:∀v∈x::ext,¬lv low v=EV:=λv hv=>by
  have⟨i,hi⟩:=hmem v hv;exact R.inv.notMax hn hi
 have hto:∀v∈x::ext,Reach ll n x v∧Reach ll n v x:=λv hv=>by
  have⟨i,hi⟩:=hmem v hv;refine⟨?_,R.all S hx i v hi⟩;rcases iQ.1 hv with h | h
  ·rw[h];exact .refl _
  ·exact R.reach v h
 have hD:Dn low'=λv=>Dn low v∨v∈x::ext:=by
  funext v;apply propext;show lv low' v=EV↔_;rw[hlow];split
  ·exact⟨λ_=>.inr (by assumption),λ_=>rfl⟩
  ·exact⟨λh=>.inl h,λh=>h.elim id λg=>gI g (by assumption)⟩
 have hndp:=(iV.1 R.inv.nodup).2.1;obtain⟨a',f,m,o⟩:=S.part (l:=x::ext) R.ok (by simp) hndp (λv hv=>by
  have⟨i,hi⟩:=hmem v hv
  have:=R.inv.on i v hi
  exact⟨this.1,this.2.1,hnd v hv⟩) (λv hv w hw=>⟨(hed v hv w hw).2.1,hcl v hv w hw⟩) (λv hv z=>by
  constructor
  ·intro hzl;exact⟨(hto v hv).2.trans (hto z hzl).1,(hto z hzl).2.trans (hto v hv).1⟩
  ·rintro⟨e,q⟩;rcases e.closed (D:=λv=>lv low v=EV∨v∈x::ext) (λv w hv hw=>by
    rcases hv with h | h
    ·exact .inl (R.inv.clo v w h hw)
    ·exact hcl v h w hw) (.inr hv) with h | h
   ·exact gI (q.closed (D:=λv=>lv low v=EV) (λv w hv hw=>R.inv.clo v w hv hw) h) (hnd v hv)
   ·exact h)
 refine⟨a',f,⟨⟨?_,?_,?_,?_,?_,?_⟩,?_,?_,?_,?_,?_,?_,?_,λy z h=>o y z (R.mono y z h)⟩⟩
 ·rw[hlen'];exact hlen
 ·intro i v hv;rw[jH]at hv;have hns:v∉x::ext:=λh=>R.not_stk S h (gQ hv);rw[hlow,gG hns];exact R.inv.on i v (Nv hv _)
 ·intro v r e hv;rw[jH]at hv;rw[hlow];split
  ·exact .inr rfl
  ·rename_i h
   exact R.inv.off v r e λg=>(gZ.1 g).elim hv h
 ·rw[jH];exact(iV.1 R.inv.nodup).1
 ·intro i v hv;rw[jH]at hv ⊢;have hns:v∉x::ext:=λh=>R.not_stk S h (gQ hv);have⟨j,u,b,c,d⟩:=R.inv.back i v (Nv hv _);have s:=(R.inv.on i v (Nv hv _)).2.2.2;have t:=MT hv;refine⟨j,u,by rw[hlow,gG hns];exact b,?_,d⟩;rw[iC (by omega)]at c;exact c
 ·intro v w hv hw;have hv':Dn low v∨v∈x::ext:=by
   have:Dn low' v:=hv
   rwa [hD]at this
  show Dn low' w;rw[hD];rcases hv' with h | h
  ·exact .inl (R.inv.clo v w h hw)
  ·exact hcl v h w hw
 ·intro v hv;have hns:v∉x::ext:=λh=>by
   rcases iQ.1 h with h | h
   ·rw[h]at hv;exact hv hz
   ·exact hv (R.fresh v h)
  rw[hlow,gG hns];exact R.keep v hv
 ·rw[hlow,gF (by simp)];decide
 ·intro v hv;cases hv
 ·intro v hv;cases hv
 ·intro i v hv;simp at hv
 ·intro v hv;cases hv
 ·rw[hD];exact m
theorem UT (hn:n≤100000) (hll:∀l∈ll,l.length≤1073741824):∀(fuel:Nat) (low stk:gM) (a:A) (x:Int),Inv ll n low stk→0≤x→x<n→lv low x=0→(∀u∈stk,Reach ll n u x)→S.I (Dn low) a→low.count 0≤fuel→
 ∃low' ext a',KN ll n ledA partA fuel (low,stk,a) x=some (low',stk++ext,a')∧ZS S low stk x a low' ext a':=by
 intro fuel
 induction fuel with
 |zero=>
  intro low stk a x H h B hx _ _ hc;have hlen:=H.len
  have:=Gd (e:=1) h (by omega) hx (by decide)
  omega
 |succ f ih=>
  intro low stk a x H h B hx hr hI hc;have hlen:=H.len;have hsz:=H.size;have hfl:(C9 ll x n).length≤1073741824:=by
   unfold C9;split
   ·simp
   ·refine jI (lH _ _) ?_;cases hg:ll[x.toNat]? with
    |none=>simp
    |some l=>exact hll l (gQ hg)
  show ∃low' ext a',O3 ll n ledA partA (KN ll n ledA partA f) (low,stk,a) x=some (low',stk++ext,a')∧_;unfold O3;dsimp only;rw[Fi (by simp;omega),gR,HM h (by omega),gR,FN hll];have hst:(((stk++ [x]).length:Nat):Int)=(stk.length:Int)+1:=by simp
  rw[hst];have C:=Gd (e:=(stk.length:Int)+1) h (by omega) hx (by omega);obtain⟨st,D,b,c,j,rfl,R,m⟩:=CL (f:=λi st=>(idx (C9 ll x n) i).bind λto=>toD ledA (KN ll n ledA partA f) x to st) (n:=(C9 ll x n).length)
   (λk st=>∃b c j,st=((b,stk++x::c,j):Dk A)∧EN S low stk x a ((C9 ll x n).take k) (lv b x) b c j∧b.count 0≤f) (by omega) (s:=((low.set x.toNat ((stk.length:Int)+1),stk++ [x],a):Dk A))
   ⟨_,[],a,rfl,by rw[lK];exact EN.begin S hn H h B hx hI,by omega⟩ (λk st hk ⟨b,c,j,e,R,m⟩=>by
    subst e;have hto:=gY hk;have⟨t0,t1⟩:=JG hto;have r:=R.inv.len;rw[Gl hk,gR,iK hk]
    generalize (C9 ll x n)[k] =to at *
    unfold toD;dsimp only;rw[Nu t0 (by omega),gR];have mid:∃d g o,(cond (lv b to==0) (KN ll n ledA partA f (b,stk++x::c,j) to) (some (b,stk++x::c,j)))=some (d,stk++x::g,o)∧EN S low stk x a ((C9 ll x n).take k) (lv d to) d g o∧lv d to≠0∧d.count 0≤f:=by
     by_cases hz:lv b to=0
     ·rw[show(lv b to==0)=true by simp[hz],cond_true];obtain⟨d,g,o,q,p⟩:=ih b (stk++x::c) j to R.inv t0 t1 hz (λu hu=>by
       obtain⟨i,hi⟩:=gV hu;exact(R.all S hr i u hi).trans (.one hto)) R.ok m
      refine⟨d,c++g,o,by rw[q,iJ,mA],R.child S hto hz p,p.seen,?_⟩;have t:=p.inv.len;exact jI (S2 (by omega) λv hv=>by rw[p.keep v hv];exact hv) m
     ·rw[show(lv b to==0)=false by simp[hz],cond_false];exact⟨b,c,j,rfl,⟨R.inv,R.keep,R.fresh,R.reach,λi v hv=>⟨.inl ((R.strict i v hv).1.elim id id),(R.strict i v hv).2⟩,R.edges,R.own,R.ok,R.mono⟩,hz,m⟩
    obtain⟨d,g,o,q,R2,hne,w⟩:=mid;have t:=R2.inv.len;have E:=R2.x_on;rw[q];simp only[gR];rw[Nu h (by omega),gR,Nu t0 (by omega),gR,HM h (by omega),gR];have⟨F,y,R3⟩:=R2.upd S hn hr hx hto hne;refine⟨_,by rw[y];rfl,_,g,F,rfl,R3,?_⟩;refine jI (S2 (by simp) λv hv=> ?_) w;rw[Rh h (by omega)];split
    ·have:1≤lv d to:=by
      by_cases hM:lv d to=EV
      ·rw[hM];decide
      ·have⟨i,hi⟩:=R2.inv.mem hn t0 t1 hne hM;exact(R2.inv.on i to hi).2.2.1
     split<;>omega
    ·exact hv)
  rw[kQ]at R;have r:=R.inv.len;have z:=R.inv.size;have hxo:=R.x_on;rw[D,gR];unfold Wz;dsimp only;rw[Nu h (by omega),gR,hst];by_cases hd:lv b x=(stk.length:Int)+1
  ·rw[show(lv b x !=(stk.length:Int)+1)=false by simp[hd],cond_false];have hsn:(stk++ [x]).length=stk.length+1:=by simp
   rw[hsn,FN ⟨by omega,by simp,by omega⟩];have hdr:(stk++x::c).drop (stk.length+1 - 1)=x::c:=by simp
   have htk:(stk++x::c).take (stk.length+1 - 1)=stk:=by simp
   rw[hdr,htk];obtain⟨d,q,p,y⟩:=ZT (low:=b) (x::c) (λv hv=>by
    obtain⟨i,hi⟩:=gV (jV stk hv)
    have:=R.inv.on i v hi
    exact⟨this.1,by omega⟩) (by rw[iM]at z;omega)
   have⟨o,G,J⟩:=R.pop S hn hr hx hd p y;exact⟨d,[],o,by rw[q,gR,G,jH];rfl,J⟩
  ·rw[show(lv b x !=(stk.length:Int)+1)=true by simp[hd],cond_true];exact⟨b,x::c,j,rfl,R.stay S hx hd⟩
end
section
variable {ll:List gM}{n:Int}{A:Type}{ledA:A→Int→Int→Option A}{partA:A→gM→Option A}(S:bX ll n ledA partA)
theorem V9 (j:0≤n) (hn:n≤100000) (hll:∀l∈ll,l.length≤1073741824) {a:A}(hI:S.I (λ_=>False) a) {fuel:Nat}(hf:n.toNat≤fuel):∃st',QR ll n ledA partA fuel a=some st'∧S.I (λv=>0≤v∧v<n) st'.2.2:=by
 unfold QR;rw[FN ⟨j,by omega⟩];have hrep:∀v,lv (jE n.toNat (0:Int)) v=0:=λv=>by
  unfold lv idx;split
  ·rw[jN]
   split<;>rfl
  ·rfl
 have hn':n=(n.toNat:Int):=by omega
 have hloop:=CL (f:=λi (st:Dk A)=>(idx st.1 i).bind λe=>cond (e==0) (KN ll n ledA partA fuel st i) (some st)) (n:=n.toNat)
  (λk st=>∃low a',st=(low,[],a')∧Inv ll n low [] ∧(∀v:Int,0≤v→v<k→lv low v≠0)∧S.I (Dn low) a') (by omega) (s:=(jE n.toNat (0:Int),[],a))
  ⟨_,_,rfl,⟨by simp;omega,λi v hv=>by simp at hv,λv _ _ _=>.inl (hrep v),.nil,λi v hv=>by simp at hv,λv w hv=>by rw[hrep]at hv;simp[EV]at hv⟩,λv b c=>by omega,by
   have:Dn (jE n.toNat (0:Int))=λ_=>False:=by
    funext v;apply propext;show lv _ v=EV↔False;rw[hrep];exact⟨λh=>(by simp[EV]at h),λh=>h.elim⟩
   rw[this];exact hI⟩ (λk st hk ⟨low,d,e,H,hseen,hok⟩=>by
    subst e;have hlen:=H.len;dsimp only;rw[Nu (by omega) (by omega),gR];by_cases hz:lv low (k:Int)=0
    ·rw[show(lv low (k:Int)==0)=true by simp[hz],cond_true];have hcl:low.count 0≤low.length:=List.count_le_length;obtain⟨low',ext,m,c,Po⟩:=UT S hn hll fuel low [] d k H (by omega) (by omega) hz (λu hu=>by cases hu) hok (by omega);have hext:ext= []:=by
      cases ext with
      |nil=>rfl
      |cons v r=>
       have o:=(Po.strict 0 v rfl).2;have t:=(Po.inv.on 0 v rfl).2.2.1;simp at o;omega
     subst hext;refine⟨_,c,low',m,rfl,Po.inv,λv b p=> ?_,Po.ok⟩;by_cases hv:v=(k:Int)
     ·subst hv;exact Po.seen
     ·have:=hseen v b (by omega)
      rw[Po.keep v this];exact this
    ·rw[show(lv low (k:Int)==0)=false by simp[hz],cond_false];refine⟨_,rfl,low,d,rfl,H,λv b p=> ?_,hok⟩;by_cases hv:v=(k:Int)
     ·subst hv;exact hz
     ·exact hseen v b (by omega))
 rw[←hn']at hloop;obtain⟨st',q,low,a',rfl,H,hseen,hok⟩:=hloop;refine⟨_,q,?_⟩;have hlen:=H.len
 have:Dn low=λv=>0≤v∧v<n:=by
  funext v;apply propext;show lv low v=EV↔_;constructor
  ·intro h;rcases Int.lt_or_le v 0 with g | g
   ·rw[X8 (.inl g)]at h;cases h
   ·refine⟨g,?_⟩;rcases Int.lt_or_le v n with g' | g'
    ·exact g'
    ·rw[X8 (.inr (by omega))]at h;cases h
  ·rintro⟨b,c⟩;rcases H.off v b c (by simp) with h | h
   ·exact gI h (hseen v b (by omega))
   ·exact h
 rw[←this];exact hok
end
def gv (a:List Ad) (v:Int):Ad:=(idx a v).getD (0,[])
theorem Ri {a:List Ad}{v:Int}(b:0≤v) (c:v< (a.length:Int)):idx a v=some (gv a v):=by
 have:idx a v=some a[v.toNat]:=Ku b (by omega)
 unfold gv;rw[this];rfl
theorem X9 {a:List Ad}{x:Int}{s:Ad}(b:0≤x) (c:x< (a.length:Int)) (v:Int):gv (a.set x.toNat s) v=if v=x then s else gv a v:=by
 by_cases hv:v=x
 ·subst hv;rw[gF rfl];unfold gv idx;rw[gF b,hZ,gF rfl,gF (by omega)];rfl
 ·rw[gG hv];unfold gv idx;split
  ·rw[hZ,gG (by omega)]
  ·rfl
section
variable (ll:List gM) (n wide:Int) (B:List Ad)
def L5 (v j:Int):Prop:= ∃z,Reach ll n v z∧mem (gv B z) j=true
structure Kj (a:List Ad):Prop where
 len:(a.length:Int)=n
 ok:∀v,0≤v→v<n→OkS (gv a v)∧(gv a v).1=wide
 base:∀v j,0≤v→v<n→mem (gv B v) j=true→mem (gv a v) j=true
 sound:∀v j,0≤v→v<n→mem (gv a v) j=true→L5 ll n B v j
variable {ll n wide B}
theorem L5.back {v w j:Int}(h:Reach ll n v w) (k:L5 ll n B w j):L5 ll n B v j:=by
 obtain⟨z,a,b⟩:=k;exact⟨z,h.trans a,b⟩
theorem ZU {a:List Ad}(H:Kj ll n wide B a) {v j:Int}(b:0≤v) (c:v<n) (h:mem (gv a v) j=true):j<wide:=by
 have⟨d,e⟩:=H.ok v b c
 have:=(Nf d h).2
 omega
theorem Kj.led {a:List Ad}(H:Kj ll n wide B a) {x to:Int}(d:0≤x) (f:x<n) (t0:0≤to) (t1:to<n) (hr:Reach ll n x to):∃a',PA a x to=some a'∧Kj ll n wide B a'∧(∀v,v≠x→gv a' v=gv a v)∧(∀j,mem (gv a' x) j=(mem (gv a x) j || mem (gv a to) j)):=by
 have hlen:=H.len;have⟨kx,wx⟩:=H.ok x d f;have⟨kt,wt⟩:=H.ok to t0 t1;have⟨g,i,k⟩:=Mw kx kt;have hs:=λv=>X9 (a:=a) (x:=x) (s:=BL (gv a x) (gv a to)) d (by omega) v;have hm:∀j,mem (BL (gv a x) (gv a to)) j=(mem (gv a x) j || mem (gv a to) j):=λj=>by
  rw[k];by_cases h:mem (gv a to) j=true
  ·have:=ZU H t0 t1 h
   rw[gC (by omega),Bool.and_true]
  ·rw[mB]at h;rw[h];rfl
 refine⟨a.set x.toNat (BL (gv a x) (gv a to)),?_,⟨by rw[iF];exact hlen,?_,?_,?_⟩,λv hv=>by rw[hs,gG hv],λj=>by rw[hs,gF rfl,hm]⟩
 ·unfold PA;rw[Ri d (by omega),gR,Ri t0 (by omega),gR,FN ⟨kx,kt⟩,HM d (by omega)]
 ·intro v b c;rw[hs];split
  ·exact⟨g,by rw[i,wx]⟩
  ·exact H.ok v b c
 ·intro v j b c h;rw[hs];split
  ·rename_i e
   subst e;rw[hm,H.base v j b c h];rfl
  ·exact H.base v j b c h
 ·intro v j b c h;rw[hs]at h;split at h
  ·rename_i e
   subst e;rw[hm,iH]at h;rcases h with h | h
   ·exact H.sound v j b c h
   ·exact(H.sound to j t0 t1 h).back hr
  ·exact H.sound v j b c h
theorem ZV {s:Ad}(H:OkS s):DK s=some s:=by
 unfold DK cloneD;have a:=H.len;have b:=H.hi;rw[gF (by omega)];rfl
theorem Kj.part {a:List Ad}(H:Kj ll n wide B a) {c:Int}{l:gM}(hin:∀v∈c::l,0≤v∧v<n) (hnd:(c::l).Nodup) (hb:l.length≤100000) (hr:∀v∈c::l,∀w∈c::l,Reach ll n v w):
 ∃a',OE a (c::l)=some a'∧Kj ll n wide B a'∧(∀v,v∉c::l→gv a' v=gv a v)∧ ∀v∈c::l,∀w∈c::l,∀j,mem (gv a w) j=true→mem (gv a' v) j=true:=by
 have g:=hin c (by simp);have hnl:c∉l:=(List.nodup_cons.1 hnd).1;have⟨m,E,H1,o1,F,r⟩:=CL (f:=λi (a:List Ad)=>(idx l i).bind λy=>PA a c y) (n:=l.length)
  (λk b=>Kj ll n wide B b∧(∀v,v≠c→gv b v=gv a v)∧(∀j,mem (gv a c) j=true→mem (gv b c) j=true)∧ ∀w∈l.take k,∀j,mem (gv a w) j=true→mem (gv b c) j=true) (by omega) (s:=a)
  ⟨H,λ_ _=>rfl,λ_ h=>h,λw hw=>by simp at hw⟩ (λk b hk ⟨Hb,ob,mb,nb⟩=>by
   have hy:l[k]∈l:=gY hk;have⟨q,u⟩:=hin _ (hU _ hy);obtain⟨b',d,G,I,z⟩:=Hb.led g.1 g.2 q u (hr _ (by simp) _ (hU _ hy));refine⟨b',by rw[Gl hk];exact d,G,λv hv=>(I v hv).trans (ob v hv),λj h=>by rw[z,mb j h];rfl,λw hw j h=> ?_⟩;rw[iK hk]at hw;rw[z];rcases gZ.1 hw with hw | hw
   ·rw[nb w hw j h];rfl
   ·have hw:=iR.1 hw;rw[hw]at h;have p:=ob l[k] (λe=>hnl (by rw[←e];exact hy));rw[p,h,Bool.or_true])
 rw[kQ]at r;have J:=H1.len;have A:=H1.ok c g.1 g.2;have⟨C,K,H2,o2,D⟩:=CL (f:=λi (a:List Ad)=>(idx l i).bind λy=>(idx a c).bind λs=>(DK s).bind λs=>DB a y s) (n:=l.length)
  (λk b=>Kj ll n wide B b∧(∀v,v∉l.take k→gv b v=gv m v)∧ ∀v∈l.take k,gv b v=gv m c) (by omega) (s:=m)
  ⟨H1,λ_ _=>rfl,λw hw=>by simp at hw⟩ (λk b hk ⟨Hb,ob,mb⟩=>by
   have hy:l[k]∈l:=gY hk;have hlb:=Hb.len;have⟨q,u⟩:=hin _ (hU _ hy);have t:gv b c=gv m c:=ob c λh=>hnl (lL h);have hs:=λv=>X9 (a:=b) (x:=l[k]) (s:=gv m c) q (by omega) v;refine⟨b.set (l[k]).toNat (gv m c),?_,⟨by rw[iF];exact hlb,?_,?_,?_⟩,?_,?_⟩
   ·rw[Gl hk,gR,Ri g.1 (by omega),gR,t,ZV A.1,gR,HM q (by omega)]
   ·intro v o d;rw[hs];split
    ·exact A
    ·exact Hb.ok v o d
   ·intro v j o d h;rw[hs];split
    ·rename_i e
     subst e;exact r _ hy j (H.base _ j o d h)
    ·exact Hb.base v j o d h
   ·intro v j o d h;rw[hs]at h;split at h
    ·rename_i e
     subst e;exact(H1.sound c j g.1 g.2 h).back (hr _ (hU _ hy) _ (by simp))
    ·exact Hb.sound v j o d h
   ·intro v hv;rw[iK hk]at hv;have L:v∉l.take k:=λh=>hv (kW _ h);have p:v≠l[k]:=λh=>hv (jV _ (iR.2 h));rw[hs,gG p];exact ob v L
   ·intro v hv;rw[iK hk]at hv;rw[hs];split
    ·rfl
    ·rename_i p
     rcases gZ.1 hv with h | h
     ·exact mb v h
     ·exact gI (iR.1 h) p)
 rw[kQ]at o2 D;refine⟨C,?_,H2,λv hv=> ?_,λv hv w hw j h=> ?_⟩
 ·unfold OE;rw[show idx (c::l) 0=some c from rfl,gR,show(c::l).drop 1=l from rfl,E,gR,K]
 ·rw[iQ,not_or]at hv;rw[o2 v hv.2,o1 v hv.1]
 ·have hv':gv C v=gv m c:=by
   rcases iQ.1 hv with e | e
   ·rw[e];exact o2 c hnl
   ·exact D v e
  rw[hv'];rcases iQ.1 hw with e | e
  ·subst e;exact F j h
  ·exact r w e j h
def WA (hn:n≤100000):bX ll n PA OE where
 I D a:=Kj ll n wide B a∧ ∀v,D v→0≤v→v<n→ ∀j,L5 ll n B v j→mem (gv a v) j=true
 Q a y z:= ¬Reach ll n z y→ ∀j,L5 ll n B z j→mem (gv a y) j=true
 led:=by
  rintro D a x to ⟨H,hD⟩ p q hto hr hx;have⟨t0,t1⟩:=JG hto;obtain⟨a',e,H',o,m⟩:=H.led p q t0 t1 (.one hto);have grow:∀v j,mem (gv a v) j=true→mem (gv a' v) j=true:=λv j h=>by
   by_cases hv:v=x
   ·subst hv;rw[m,h];rfl
   ·rw[o v hv];exact h
  refine⟨a',e,⟨H',λv hv c d j hj=>grow v j (hD v hv c d j hj)⟩,λhnr j hj=> ?_,λy z h hnr j hj=>grow y j (h hnr j hj)⟩;rcases hr with g | g
  ·rw[m,hD to g t0 t1 j hj,Bool.or_true]
  ·exact gI g hnr
 part:=by
  rintro D a l ⟨H,hD⟩ hne hnd hin hq hscc;obtain⟨b,l',rfl⟩:∃b l',l=b::l':=by
   cases l with
   |nil=>exact gI rfl hne
   |cons a l=>exact⟨a,l,rfl⟩
  have hlen:(b::l').length≤100000:=by
   have h:=List.Nodup.length_le_of_subset (l₂:=(kO n.toNat).map λk:Nat=>(k:Int)) hnd (λv hv=>by
    have:=hin v hv
    exact jA.2 ⟨v.toNat,jM.2 (by omega),by omega⟩)
   simp at h ⊢;omega
  obtain⟨a',e,H',o,m⟩:=H.part (λv hv=>⟨(hin v hv).1,(hin v hv).2.1⟩) hnd (by simp at hlen;omega) (λv hv w hw=>((hscc v hv w).1 hw).1);have grow:∀v j,mem (gv a v) j=true→mem (gv a' v) j=true:=λv j h=>by
   by_cases hv:v∈b::l'
   ·exact m v hv v hv j h
   ·rw[o v hv];exact h
  have key:∀ {y z:Int},Reach ll n y z→ ∀j,mem (gv B z) j=true→y∈b::l'→ ∃w∈b::l',mem (gv a w) j=true:=λ{y z} hr j hj=>by
   induction hr with
   |refl y=>
    intro hy;exact⟨y,hy,H.base y j (hin y hy).1 (hin y hy).2.1 hj⟩
   | @step y w z he hr ih=>
    intro hy;by_cases hw:w∈b::l'
    ·exact ih hj hw
    ·refine⟨y,hy,(hq y hy w he).1 (λhwy=>hw ((hscc y hy w).2 ⟨.one he,hwy⟩)) j ⟨z,hr,hj⟩⟩
  refine⟨a',e,⟨H',λv hv c d j hj=> ?_⟩,λy z h hnr j hj=>grow y j (h hnr j hj)⟩;rcases hv with hv | hv
  ·exact grow v j (hD v hv c d j hj)
  ·obtain⟨z,f,i⟩:=hj;have⟨w,hw,hm⟩:=key f j i hv;exact m v hv w hw j hm
end
theorem K8 {α:Type}{f:Int→List α→Option (List α)}{n:Nat}(hn:n≤9223372036854775807) (P:Nat→α→Prop) (hs:∀(k:Nat) (acc:List α),k<n→acc.length=k→ ∃x,f (k:Int) acc=some (acc++ [x])∧P k x):
 ∃r,forS 0 (n:Int) ([]:List α) f=some r∧r.length=n∧ ∀(k:Nat) (x:α),r[k]? =some x→P k x:=by
 obtain⟨r,b,c,d⟩:=CL (f:=f) (n:=n) (λk acc=>acc.length=k∧ ∀(j:Nat) (x:α),acc[j]? =some x→P j x) hn (s:=[]) ⟨rfl,λj x h=>by simp at h⟩ (λk acc hk ⟨a,e⟩=>by
  have⟨x,i,l⟩:=hs k acc hk a;refine⟨_,i,by simp[a],λj y hj=> ?_⟩;rcases lT j acc.length with g | g | g
  ·rw[iC g]at hj;exact e j y hj
  ·subst g;rw[hQ (iB _),Nat.sub_self]at hj;cases hj;rw[a];exact l
  ·rw[iO (by simp;omega)]at hj;cases hj)
 exact⟨r,b,c,d⟩
theorem ZW {α:Type}{l:List α}(h:l.length<1073741824) (x:α):app l [x] =some (l++ [x]):=Fi (by simp;omega)
structure Few (ll base:List gM):Prop where
 e:ll.length≤25
 b:base.length≤25
 el:∀l∈ll,l.length≤10
 bl:∀l∈base,l.length≤10
theorem Nw (s:Ad):(Dz s).length≤64 *s.2.length:=QS _ _
theorem OH {s:Ad}(H:OkS s):(Dz s).length≤1073741824:=by
 have a:=Nw s;have b:=H.len;have c:=H.hi;omega
theorem Rj {n:Int}(a:0≤n) (b:n≤1000):LR n=n:=by unfold LR;rw[gG (by omega),gG (by omega)]
def bz (base:List gM) (z:Int):gM:=(idx base z).getD []
theorem VG {a:List Ad}{k:Nat}{s:Ad}(h:a[k]? =some s):gv a (k:Int)=s:=by
 unfold gv;rw[CK,h];rfl
theorem S7 {ll:List gM}{B:List Ad}{wide:Int}(p:0≤wide) (q:wide≤1000) (hb:B.length≤100000) (hll:∀l∈ll,l.length≤1073741824) (hB:∀(k:Nat) (s:Ad),B[k]? =some s→OkS s∧s.1=wide):
 ∃r,Hf ll B=some r∧r.length=B.length∧ ∀(k:Nat) (s:Ad),r[k]? =some s→OkS s∧s.1=wide∧ ∀j,mem s j=true↔L5 ll (B.length:Int) B k j:=by
 unfold Hf;have hget:∀k (hk:k<B.length),OkS B[k] ∧B[k].1=wide:=λk hk=>hB k _ (gO hk);have hgv:∀v:Int,0≤v→v< (B.length:Int)→OkS (gv B v)∧(gv B v).1=wide:=λv c b=>by
  have:=hget v.toNat (by omega)
  rw[←VG (gO (show v.toNat<B.length by omega)),hO c]at this;exact this
 obtain⟨w,ew,hw⟩:=CL (f:=λi (w:Int)=>(idx B i).bind λs=>some (if s.1>w then s.1 else w)) (n:=B.length) (λk (w:Int)=>0≤w∧w≤wide∧(0<k→w=wide)) (by omega) (s:=0) ⟨by omega,by omega,by omega⟩ (λk w hk ⟨c,b,d⟩=>by
  rw[Gl hk,gR,(hget k hk).2];refine⟨_,rfl,?_⟩;split
  ·exact⟨by omega,by omega,λ_=>rfl⟩
  ·exact⟨by omega,by omega,by omega⟩)
 rw[ew,gR];obtain⟨all,ea,la,pa⟩:=K8 (f:=λi (acc:List Ad)=>(idx B i).bind λs=>(JM s).bind λl=>(DJ w l).bind λs'=>app acc [s']) (n:=B.length) (by omega) (λk s=>OkS s∧s.1=wide∧ ∀j,mem s j=mem (gv B k) j) (λk acc hk ha=>by
  have hk':=hget k hk;have hwe:w=wide:=hw.2.2 (by omega);rw[Gl hk,gR,H6 hk'.1,gR];obtain⟨s,e,b,d,g⟩:=of_ok w (Dz B[k]) (by have:=OH hk'.1;omega);rw[hwe,Rj p q]at d g;refine⟨s,by rw[e,gR,ZW (by omega)],b,d,λj=> ?_⟩;rw[g,VG (gO hk)];by_cases hm:mem B[k] j=true
  ·have m:=Nf hk'.1 hm;rw[hk'.2]at m;rw[gC m,hm,lA];exact jW.2 ((E6 hk'.1 j).2 hm)
  ·have hn:(Dz B[k]).contains j=false:=by
    rw[Bool.eq_false_iff];intro hc;exact hm ((E6 hk'.1 j).1 (jW.1 hc))
   rw[hn,lM];rw[mB]at hm;exact hm.symm)
 rw[ea,gR];have hall:∀v:Int,0≤v→v< (B.length:Int)→OkS (gv all v)∧(gv all v).1=wide∧ ∀j,mem (gv all v) j=mem (gv B v) j:=λv c b=>by
  have hlt:v.toNat<all.length:=by omega
  have:=pa v.toNat _ (gO hlt)
  rw[←VG (gO hlt),hO c]at this;exact this
 have hS:Kj ll (B.length:Int) wide B all:=⟨by omega,λv c b=>⟨(hall v c b).1,(hall v c b).2.1⟩,λv j c b h=>by rw[(hall v c b).2.2];exact h,λv j c b h=>⟨v,.refl _,by rw[← (hall v c b).2.2];exact h⟩⟩;obtain⟨⟨low,stk,fin⟩,est,hI,hD⟩:=V9 (WA (ll:=ll) (n:=(B.length:Int)) (wide:=wide) (B:=B) (by omega)) (by omega) (by omega) hll (a:=all) ⟨hS,λv hv=>hv.elim⟩ (fuel:=B.length) (by omega);dsimp only at hI hD;have hfin:∀v:Int,0≤v→v< (B.length:Int)→ ∀j,mem (gv fin v) j=true↔L5 ll (B.length:Int) B v j:=λv c b j=>⟨hI.sound v j c b,hD v ⟨c,b⟩ c b j⟩;rw[est,gR];have lf:=hI.len;refine K8 (by omega) (λk s=>OkS s∧s.1=wide∧ ∀j,mem s j=true↔L5 ll (B.length:Int) B k j) λk acc hk ha=> ?_;have hk':=hget k hk;obtain⟨o,t⟩:=hI.ok (k:Int) (by omega) (by omega);dsimp only;rw[Gl hk,gR,Ri (by omega) (by omega),gR,H6 o,gR,hk'.2];obtain⟨s,e,b,d,g⟩:=of_ok wide (Dz (gv fin (k:Int))) (by have:=OH o;omega);rw[Rj p q]at d g;refine⟨s,by rw[e,gR,ZW (by omega)],b,d,λj=> ?_⟩;rw[g,←hfin (k:Int) (by omega) (by omega)];constructor
 ·intro h;rw[iZ]at h;exact(E6 o j).1 (jW.1 h.2)
 ·intro h;have m:=Nf o h;rw[t]at m;rw[gC m,lA];exact jW.2 ((E6 o j).2 h)
def QA (ll base:List gM) (wide i j:Int):Prop:=0≤j∧j<wide∧ ∃z,Reach ll (base.length:Int) i z∧j∈bz base z
end Go.Proofs.YtkfgeafgfeppfaaGreatDoor.Dg
namespace Go.Proofs.YtkfgeafgfeppfaaGreatDoor
open Go Go.Eng Dg
structure Sy (p:dtP):Prop where
 t1:1≤p.1.length∧p.1.length≤1000
 v1:p.2.1.length≤1000
 few:p.2.2.1.length≤1000
 left:∀r∈p.2.2.1,nT p≤r.1∧r.1≤nT p+(p.2.1.length:Int)
 right:∀r∈p.2.2.1,∀s∈r.2.1,0≤s∧s<nT p+(p.2.1.length:Int)
 short:∀r∈p.2.2.1,r.2.1.length≤1000
theorem Qm {α:Type}{p q:α→Bool}:∀ {l:List α},(∀x∈l,p x=true→q x=true)→l.countP p≤l.countP q:=by
 intro l
 induction l with
 |nil=>intro _;simp
 |cons a l ih=>
  intro h;have c:=ih λx hx=>h x (hU _ hx);have b:=h a lR;rw[jO,jO];cases hp:p a with
  |false=>simp;omega
  |true=>rw[b hp];simp;omega
theorem WB {α:Type}{p q:α→Bool}:∀ {l:List α},(∀x∈l,p x=true→q x=true)→(∃x∈l,q x=true∧p x=false)→l.countP p<l.countP q:=by
 intro l
 induction l with
 |nil=>rintro _ ⟨x,hx,_⟩;cases hx
 |cons a l ih=>
  rintro h ⟨x,hx,b,c⟩;have e:=Qm (l:=l) λx hx=>h x (hU _ hx);have d:=h a lR;rw[jO,jO];rcases iQ.1 hx with rfl | hx
  ·rw[b,c];simp;omega
  ·have f:=ih (λx hx=>h x (hU _ hx)) ⟨x,hx,b,c⟩;cases hp:p a with
   |false=>simp;omega
   |true=>rw[d hp];simp;omega
def card (s:Ad):Nat:=(kO 1000).countP λk:Nat=>mem s (k:Int)
theorem ZX (s:Ad):card s≤1000:=by
 unfold card
 have:=List.countP_le_length (p:=λk:Nat=>mem s (k:Int)) (l:=kO 1000)
 rwa [lU]at this
theorem ZY:∀(l:gM) {s:Ad}{g:Bool},OkS s→(∀i∈l,0≤i)→(l.foldl Dg.stepG (s,false,g)).2.2=true→g=true∨ ∃i∈l,i<s.1∧mem s i=false:=by
 intro l
 induction l with
 |nil=>intro s g _ _ h;exact .inl h
 |cons i l ih=>
  intro s g H b h;rw[List.foldl_cons]at h;by_cases hi:s.1≤i
  ·have e:Dg.stepG (s,false,g) i=(s,true,g):=by unfold Dg.stepG;rw[gG (by simp),gF hi]
   rw[e,XK l rfl]at h;exact .inl h
  ·obtain⟨s',hd,d,f,k⟩:=Dg.add_ok H i;have e:Dg.stepG (s,false,g) i=(s',false,(decide (0≤i∧i<s.1) && !mem s i) || g):=by unfold Dg.stepG;rw[gG (by simp),gG hi,hd];rfl
   rw[e]at h;have m:=b i (by simp);rcases ih d (λi hi=>b i (hU _ hi)) h with a | ⟨j,n,o,c⟩
   ·rw[iH,iZ]at a;rcases a with⟨_,a⟩|a
    ·exact .inr ⟨i,by simp,by omega,by simpa using a⟩
    ·exact .inl a
   ·refine .inr ⟨j,hU _ n,by rw[←f];exact o,?_⟩;rw[k,iN]at c;exact c.1
theorem S8 {s o:Ad}(H:OkS s) (K:OkS o):OkS (BL s o)∧(BL s o).1=s.1∧card s≤card (BL s o)∧(FQ s o=true→card s<card (BL s o)):=by
 have⟨e,f,a⟩:=Mw H K;refine⟨e,f,Qm λk _ hk=>by rw[a,hk];rfl,λhg=> ?_⟩;rcases ZY (Dz o) H (λi hi=>(KO K hi).1) hg with h | ⟨i,b,g,c⟩
 ·cases h
 ·have⟨d,j⟩:=KO K b;have hw:=H.hi;refine WB (λk _ hk=>by rw[a,hk];rfl) ⟨i.toNat,jM.2 (by omega),?_,?_⟩
  ·rw[hO d,a,c,(E6 K i).1 b,gC g];rfl
  ·rw[hO d];exact c
def Ss (w:Int) (ss:List Ad):Prop:= ∀s∈ss,OkS s∧s.1=w
def room (ss:List Ad):Nat:=(ss.map λs=>1000 - card s).sum
theorem VH:∀ {ss:List Ad}{k:Nat}{s s':Ad},ss[k]? =some s→card s≤card s'→room (ss.set k s') ≤room ss∧(card s<card s'→room (ss.set k s') <room ss):=by
 intro ss
 induction ss with
 |nil=>intro k s s' h;simp at h
 |cons a ss ih=>
  intro k s s' h hc;have hle:=ZX s';cases k with
  |zero=>
   obtain rfl:a=s:=by simpa using h
   simp only[kX,room,lB,lC];exact⟨by omega,λh=>by omega⟩
  |succ k=>
   obtain⟨c,b⟩:=ih (k:=k) (s:=s) (s':=s') (by simpa using h) hc;simp only[room]at c b;simp only[kJ,room,lB,lC];exact⟨by omega,λh=>by have:=b h;omega⟩
theorem Ss.set {w:Int}{ss:List Ad}(H:Ss w ss) {k:Nat}{s:Ad}(hs:OkS s∧s.1=w):Ss w (ss.set k s):=λx hx=>by
 rcases iY hx with h | rfl
 ·exact H x h
 ·exact hs
theorem ZZ {w:Int}{ss:List Ad}{x:Int}{o:Ad}(H:Ss w ss) (b:0≤x) (k:x< (ss.length:Int)) (ho:OkS o):
 Ok (ZJ ss x o) λr=>Ss w r.2∧r.2.length=ss.length∧room r.2≤room ss∧(r.1=true→room r.2<room ss):=by
 have hlt:x.toNat<ss.length:=by omega
 have hx:=gO hlt;have⟨a,c⟩:=H _ (gY hlt);have⟨d,e,f,h⟩:=S8 a ho;have⟨i,j⟩:=VH hx f;unfold ZJ;exact Ck b hx (Bp ⟨a,ho⟩ (AB ⟨H.set ⟨d,e.trans c⟩,by simp,i,λg=>j (h g)⟩))
theorem VI {w:Int}{ss:List Ad}{x y:Int}(H:Ss w ss) (c:0≤x) (m:x< (ss.length:Int)) (d:0≤y) (n:y< (ss.length:Int)):
 Ok (V1 ss x y) λr=>Ss w r.2∧r.2.length=ss.length∧room r.2≤room ss∧(r.1=true→room r.2<room ss):=by
 have hlt:x.toNat<ss.length:=by omega
 have a:y.toNat<ss.length:=by omega
 have hx:=gO hlt;have hy:=gO a;have⟨b,e⟩:=H _ (gY hlt);have ho:=(H _ (gY a)).1;have⟨f,h,i,j⟩:=S8 b ho;have⟨k,l⟩:=VH hx i;unfold V1;exact Ck c hx (Ck d hy (Bp ⟨b,ho⟩ (AB ⟨H.set ⟨f,h.trans e⟩,by simp,k,λg=>l (j g)⟩)))
def Nl (p:dtP) (null:List Bool) (s:Int):Prop:=nT p≤s∧null[(s - nT p).toNat]? =some true
def mu (null:List Bool) (ss:List Ad):Nat:=room ss+null.countP (λb=> !b)
theorem Gd:∀ {l:List Bool}{k:Nat},l[k]? =some false→(l.set k true).countP (λb=> !b)+1=l.countP (λb=> !b):=by
 intro l
 induction l with
 |nil=>intro k h;simp at h
 |cons a l ih=>
  intro k h;cases k with
  |zero=>
   obtain rfl:a=false:=by simpa using h
   simp
  |succ k=>
   have:=ih (k:=k) (by simpa using h)
   rw[kJ,jO,jO];omega
theorem YA {α:Type}{l:List α}{k:Nat}{x:α}(h:l[k]? =some x):l.set k x=l:=by
 refine lV λi=> ?_;rw[hZ];split
 ·rename_i e
  subst e;rw[h,gF (gS.1 h).1]
 ·rfl
theorem bc (p:dtP) {s:Int}(h:s<nT p) (null:List Bool):¬Nl p null s:=λg=>by have:=g.1;omega
section
variable {p:dtP}{w:Int}
theorem Qn (S:Sy p) {null:List Bool}{ss:List Ad}{x:Nat}{seq:gM}{m:Nat}(hm:m=p.2.1.length+1) (hn:null.length=m) (H:Ss w ss) (hl:ss.length=m+m) (hx:x<m+m) (hs:∀s∈seq,0≤s∧s<nT p+(p.2.1.length:Int)) (hq:seq.length≤1000):
 Ok (K5 p (m:Int) null (x:Int) ss seq) λr=>Ss w r.2.2∧r.2.2.length=ss.length∧room r.2.2≤room ss∧(r.1=true→room r.2.2<room ss)∧(r.2.1=true↔∀s∈seq,Nl p null s):=by
 have hT:=S.t1;have hV:=S.v1;have hnT:nT p=(p.1.length:Int):=rfl;unfold K5;refine F6 (λk (z:Bool×List Ad)=>Ss w z.2∧z.2.length=ss.length∧room z.2≤room ss∧(z.1=true→room z.2<room ss)∧ ∀s∈seq.take k,Nl p null s)
  (λb=>Ss w b.2.2∧b.2.2.length=ss.length∧room b.2.2≤room ss∧(b.1=true→room b.2.2<room ss)∧b.2.1=false∧ ¬ ∀s∈seq,Nl p null s) (by omega) ⟨H,rfl,iB _,(λh=>by cases h),by simp⟩ (λk z hk hz=> ?_) (λz hz=>AB ?_) λb hb=>AB ?_
 ·obtain⟨g,B⟩:=z;obtain⟨d,a,c,f,j⟩:=hz;dsimp only at d a c f j ⊢;have hsk:=gO hk;have hmem:=gY hk;have⟨C,D⟩:=hs _ hmem;refine AS hsk (AP (Im p seq[k]) ?_);refine AR (λhc=> ?_) λhc=> ?_
  ·rw[iZ,gJ,gJ]at hc;obtain⟨o,e,o1,o2,_⟩:=Dg.of_ok (nT p) [seq[k]] (by simp);refine AP e (AM (ZZ d (x:=(x:Int)) (by omega) (by omega) o1) λu hu=> ?_);obtain⟨q,t,v,y⟩:=hu;refine As ⟨q,t.trans a,jI v c,λh=> ?_,rfl,λhall=>bc p (by omega) null (hall _ hmem)⟩;dsimp only at h ⊢;rw[iH]at h;rcases h with h | h
   ·have:=y h;omega
   ·have:=f h;omega
  ·rw[jX,gK,gK]at hc;have e:gP .i64 (seq[k] - nT p)=(((seq[k] - nT p).toNat:Nat):Int):=by rw[w64 (by omega) (by omega)];omega
   have hlt:(seq[k] - nT p).toNat<m:=by omega
   rw[e];refine Bp (by omega) (AM (VI d (x:=(x:Int)) (by omega) (by omega) (by omega) (by omega)) λu hu=> ?_);obtain⟨q,t,v,y⟩:=hu;have hb:=gO (l:=null) (i:=(seq[k] - nT p).toNat) (by omega);refine AS hb ?_;have hor:(u.1 || g)=true→room u.2<room ss:=λh=>by
    rw[iH]at h;rcases h with h | h
    ·have:=y h;omega
    ·have:=f h;omega
   refine AR (λn=>BJ ⟨q,t.trans a,jI v c,hor,λs hs'=> ?_⟩) λn=>As ⟨q,t.trans a,jI v c,hor,rfl,λhall=> ?_⟩
   ·rw[jY,hsk]at hs';rcases gZ.1 hs' with h | h
    ·exact j s h
    ·have:s=seq[k]:=by simpa using h
     subst this;exact⟨by omega,by rw[hb,n]⟩
   ·have:=(hall _ hmem).2
    rw[hb,n]at this;cases this
 ·obtain⟨d,a,c,f,j⟩:=hz;rw[iW (iB _)]at j;exact⟨d,a,c,f,λ_=>j,λ_=>rfl⟩
 ·obtain⟨d,a,c,f,j,A⟩:=hb;exact⟨d,a,c,f,λh=>(by rw[j]at h;cases h),λh=>gI h A⟩
structure YB (p:dtP) (w:Int) (null:List Bool) (ss:List Ad) (k:Nat) (z:Bool×List Bool×List Ad):Prop where
 len:z.2.1.length=null.length
 sets:Ss w z.2.2
 lens:z.2.2.length=ss.length
 le:mu z.2.1 z.2.2≤mu null ss
 lt:z.1=true→mu z.2.1 z.2.2<mu null ss
 stay:z.1=false→z.2.1=null∧ ∀(j:Nat) r,j<k→p.2.2.1[j]? =some r→(∀s∈r.2.1,Nl p null s)→Nl p null r.1
 sound:(∀s,Nl p null s→Nul p.2.2.1 s)→ ∀s,Nl p z.2.1 s→Nul p.2.2.1 s
theorem YC (S:Sy p) {null:List Bool}{ss:List Ad}{m:Nat}(hm:m=p.2.1.length+1) (hn:null.length=m) (H:Ss w ss) (hl:ss.length=m+m):
 Ok (PM p (m:Int) null ss) (YB p w null ss p.2.2.1.length):=by
 have hT:=S.t1;have hV:=S.v1;have hF:=S.few;have hnT:nT p=(p.1.length:Int):=rfl;refine CL (n:=p.2.2.1.length) (λk=>YB p w null ss k) (by omega) (s:=(false,null,ss)) ⟨rfl,H,rfl,iB _,(λh=>by cases h),λ_=>⟨rfl,λj r hj=>by omega⟩,λh=>h⟩ λk z hk hz=> ?_;obtain⟨c,nu,t⟩:=z;have hr:=gO hk;have hmem:=gY hk;obtain⟨r,hre⟩:∃r,p.2.2.1[k] =r:=⟨_,rfl⟩;rw[hre]at hr hmem;have⟨u,B⟩:=S.left r hmem;have e:gP .i64 (r.1 - nT p)=(((r.1 - nT p).toNat:Nat):Int):=by rw[w64 (by omega) (by omega)];omega
 have hlt:(r.1 - nT p).toNat<m:=by omega
 have hlen:=hz.len;have hls:=hz.lens;dsimp only at hlen hls ⊢;refine AS hr ?_;rw[e];refine Bp (by omega) ?_;have nR:=S.right r hmem;refine AM (Qn S (null:=nu) (ss:=t) (x:=(r.1 - nT p).toNat) hm (by omega) hz.sets (by omega) (by omega) nR (S.short r hmem)) λg hg=> ?_;obtain⟨f,o,C,v,q⟩:=hg;have hb:=gO (l:=nu) (i:=(r.1 - nT p).toNat) (by omega);refine AS hb (ER (by omega) (by omega) (AB ?_));rw[gT];obtain⟨b,hbe⟩:∃b,nu[(r.1 - nT p).toNat] =b:=⟨_,rfl⟩;rw[hbe]at hb ⊢;by_cases hflip:b=false∧g.2.1=true
 ·obtain⟨rfl,a⟩:=hflip;have hc:=Gd hb;have hle:=hz.le;rw[a];refine⟨by simp[hlen],f,o.trans hls,?_,λ_=> ?_,λh=> ?_,λhs s h=> ?_⟩
  ·show mu (nu.set _ true) g.2.2≤mu null ss;unfold mu at hle ⊢;dsimp only at hle;omega
  ·show mu (nu.set _ true) g.2.2<mu null ss;unfold mu at hle ⊢;dsimp only at hle;omega
  ·exfalso;dsimp only at h;simp at h
  ·obtain⟨y,d⟩:=h;change (nu.set _ true)[_]? =some true at d;rw[hZ]at d;split at d
   ·rename_i he
    have:s=r.1:=by omega
    subst this;exact .rule hmem λs hs'=>hz.sound hs s (q.1 a s hs')
   ·exact hz.sound hs s ⟨y,d⟩
 ·have hbb:(b || g.2.1)=b:=by
   cases b with
   |true=>rfl
   |false=>cases hgg:g.2.1 with
    |false=>rfl
    |true=>exact gI ⟨rfl,hgg⟩ hflip
  have hff:(g.2.1 && !b)=false:=by
   cases b with
   |true=>simp
   |false=>cases hgg:g.2.1 with
    |false=>rfl
    |true=>exact gI ⟨rfl,hgg⟩ hflip
  rw[hbb,hff,YA hb,Bool.or_false];have hle:=hz.le;have hlt':=hz.lt;unfold mu at hle hlt';dsimp only at hle hlt';refine⟨hlen,f,o.trans hls,?_,λh=> ?_,λh=> ?_,hz.sound⟩
  ·unfold mu;dsimp only;omega
  ·unfold mu;dsimp only at h ⊢;rw[iH]at h;rcases h with h | h
   ·have:=hlt' h;omega
   ·have:=v h;omega
  ·dsimp only at h ⊢;rw[iN]at h;have⟨d,A⟩:=hz.stay h.1;dsimp only at d;subst d;refine⟨rfl,λj r' hj hr' ha=> ?_⟩;rcases iE.1 hj with hj | rfl
   ·exact A j r' hj hr' ha
   ·rw[hr]at hr';cases hr';refine⟨u,?_⟩;rw[hb];rw[q.2 ha]at hff;simpa using hff
end
section
variable {p:dtP}{w:Int}
theorem UU (S:Sy p) {null:List Bool}{ss:List Ad}{m:Nat}(hm:m=p.2.1.length+1) (hn:null.length=m) (H:Ss w ss) (hl:ss.length=m+m):
 Ok (M3 p (m:Int) null ss) λr=>Ss w r.2∧r.2.length=ss.length∧room r.2≤room ss∧(r.1=true→room r.2<room ss):=by
 have hT:=S.t1;have hV:=S.v1;have hF:=S.few;have hnT:nT p=(p.1.length:Int):=rfl;refine CL (n:=p.2.2.1.length) (λ_ (z:Bool×List Ad)=>Ss w z.2∧z.2.length=ss.length∧room z.2≤room ss∧(z.1=true→room z.2<room ss)) (by omega) (s:=(false,ss)) ⟨H,rfl,iB _,(λh=>by cases h)⟩ λk z hk hz=> ?_;have hr:=gO hk;have hmem:=gY hk;obtain⟨r,hre⟩:∃r,p.2.2.1[k] =r:=⟨_,rfl⟩;rw[hre]at hr hmem;have⟨E,F⟩:=S.left r hmem;have nR:=S.right r hmem;have nS:=S.short r hmem;refine AS hr (CL (λ_ (z:Bool×List Ad)=>Ss w z.2∧z.2.length=ss.length∧room z.2≤room ss∧(z.1=true→room z.2<room ss)) (by omega) hz λj z hj hz=> ?_);obtain⟨g,b⟩:=z;obtain⟨c,a,d,f⟩:=hz;dsimp only at c a d f ⊢;have⟨G,I⟩:=nR _ (gY hj);refine AS (gO hj) (AP (Im p _) ?_);refine AR (λhc=>AB ⟨c,a,d,f⟩) λhc=> ?_;rw[jX,gK,gK]at hc;have e:gP .i64 (r.2.1[j] - nT p)=(((r.2.1[j] - nT p).toNat:Nat):Int):=by rw[w64 (by omega) (by omega)];omega
 have C:(m:Int)+(((r.2.1[j] - nT p).toNat:Nat):Int)=((m+(r.2.1[j] - nT p).toNat:Nat):Int):=by omega
 have hlt:(r.2.1[j] - nT p).toNat<m:=by omega
 rw[e,C];refine Bp (by omega) (AM (Qn S (null:=null) (ss:=b) (x:=m+(r.2.1[j] - nT p).toNat) (seq:=r.2.1.drop ((j:Int)+1).toNat) hm hn c (by omega) (by omega) (λs hs=>nR s (kF hs)) (by simp;omega)) λq hq=> ?_);obtain⟨v,y,A,B,_⟩:=hq;refine AM (Q:=λ(u:Bool×List Ad)=>Ss w u.2∧u.2.length=ss.length∧room u.2≤room b∧(u.1=true→room u.2<room b)) ?_ λu hu=> ?_
 ·refine AR (λhg=> ?_) λhg=>AB ⟨v,y.trans a,A,B⟩;have D:gP .i64 (r.1 - nT p)=(((r.1 - nT p).toNat:Nat):Int):=by rw[w64 (by omega) (by omega)];omega
  rw[D];refine Bp (by omega) (AM (VI v (by omega) (by omega) (by omega) (by omega)) λu hu=>AB ?_);obtain⟨i,l,o,t⟩:=hu;refine⟨i,l.trans (y.trans a),jI o A,λh=> ?_⟩;dsimp only at h ⊢;rw[iH]at h;rcases h with h | h
  ·have:=t h;omega
  ·have:=B h;omega
 ·obtain⟨i,l,o,t⟩:=hu;refine AB ⟨i,l,jI o d,λh=> ?_⟩;dsimp only at h ⊢;rw[iH]at h;rcases h with h | h
  ·have:=f h;omega
  ·have:=t h;omega
theorem NG (S:Sy p):LR (nT p)=nT p:=by
 have hT:=S.t1;have hnT:nT p=(p.1.length:Int):=rfl;exact Rj (by omega) (by omega)
theorem S9 (S:Sy p):Ok (Nq p) λf=>f.length=p.2.1.length+1∧Ss (nT p) f:=by
 have hV:=S.v1;unfold Nq;have e:gP .i64 ((p.2.1.length:Int)+1)=((p.2.1.length+1:Nat):Int):=by rw[w64 (by omega) (by omega)];omega
 rw[e];obtain⟨l,a,b,c⟩:=K8 (f:=λ_ acc=>(CM (nT p)).bind λs=>app acc [s]) (n:=p.2.1.length+1) (by omega) (λ_ (s:Ad)=>OkS s∧s.1=nT p) λk acc hk ha=>by
  have⟨s,e,d,g,_⟩:=Dg.new_ok (nT p);rw[e,gR,ZW (by omega)];exact⟨s,rfl,d,g.trans (NG S)⟩
 refine⟨l,a,b,λs hs=> ?_⟩;obtain⟨k,hk⟩:=gV hs;exact c k s hk
theorem TA {ss:List Ad}(H:Ss w ss) (hl:ss.length≤100000):Ok (KT ss) λl=>l.length=ss.length∧ ∀x∈l,x.length≤64000:=by
 unfold KT;obtain⟨l,a,b,c⟩:=K8 (f:=λi (acc:List gM)=>(idx ss i).bind λs=>(JM s).bind λl=>app acc [l]) (n:=ss.length) (by omega) (λ_ (x:gM)=>x.length≤64000) λk acc hk ha=>by
  have hs:=(H _ (gY hk)).1;rw[Gl hk,gR,H6 hs,gR,ZW (by omega)];refine⟨_,rfl,?_⟩;have a:=Nw ss[k];have b:=hs.len;have c:=hs.hi;omega
 refine⟨l,a,b,λx hx=> ?_⟩;obtain⟨k,hk⟩:=gV hx;exact c k x hk
structure YD (p:dtP) (fa:dtF):Prop where
 len:fa.1.length=p.2.1.length+1
 nul:∀s,nT p≤s→(fa.1[(s - nT p).toNat]? =some true↔Nul p.2.2.1 s)
 flen:fa.2.1.length=p.2.1.length+1
 few:∀l∈fa.2.1,l.length≤64000
theorem Za (S:Sy p) {null:List Bool}(hn:null.length=p.2.1.length+1) (hc:∀(j:Nat) r,p.2.2.1[j]? =some r→(∀s∈r.2.1,Nl p null s)→Nl p null r.1) {s:Int}(h:Nul p.2.2.1 s):Nl p null s:=by
 induction h with
 |rule hr _ ih=>
  obtain⟨j,hj⟩:=gV hr;exact hc j _ hj ih
theorem YE (S:Sy p):Ok (PN p) (YD p):=by
 have hT:=S.t1;have hV:=S.v1;have hF:=S.few;have hnT:nT p=(p.1.length:Int):=rfl;unfold PN;have e:gP .i64 ((p.2.1.length:Int)+1)=((p.2.1.length+1:Nat):Int):=by rw[w64 (by omega) (by omega)];omega
 rw[e];refine AP (x:=jE (p.2.1.length+1) false) (by unfold Dh;rw[gF ⟨by omega,by omega⟩,gT])<|AM (S9 S) λf hf=>AM (S9 S) λg hg=> ?_;obtain⟨o,t⟩:=hf;obtain⟨u,v⟩:=hg;have hfg:Ss (nT p) (f++g):=λs hs=>(gZ.1 hs).elim (t s) (v s);refine Bq (λ(z:Int×List Bool×List Ad)=>z.2.1.length=p.2.1.length+1∧Ss (nT p) z.2.2∧z.2.2.length=f.length+f.length∧ ∀s,Nl p z.2.1 s→Nul p.2.2.1 s) (λz=>mu z.2.1 z.2.2)
  (λz=>z.2.1.length=p.2.1.length+1∧Ss (nT p) z.2.2∧z.2.2.length=f.length+f.length∧(∀s,Nl p z.2.1 s→Nul p.2.2.1 s)∧ ∀(j:Nat) r,p.2.2.1[j]? =some r→(∀s∈r.2.1,Nl p z.2.1 s)→Nl p z.2.1 r.1) ⟨by simp,hfg,by simp[o,u],λs h=> ?_⟩ (λz hz=> ?_) λz hz=> ?_
 ·have:=h.2
  dsimp only at this;rw[jN]at this;split at this<;>simp at this
 ·obtain⟨c,nu,n⟩:=z;obtain⟨d,i,k,l⟩:=hz;dsimp only at d i k l ⊢;refine AM (YC S (null:=nu) (ss:=n) (m:=f.length) o (by omega) i (by omega)) λr hr=>AR (λhc=>BJ ⟨⟨hr.len.trans d,hr.sets,hr.lens.trans k,hr.sound l⟩,hr.lt hc⟩) λhc=>As ⟨hr.len.trans d,hr.sets,hr.lens.trans k,hr.sound l,?_⟩;have⟨y,A⟩:=hr.stay hc;dsimp only;rw[y];exact λj r' hj=>A j r' (Bo hj) hj
 ·obtain⟨c,nu,n⟩:=z;obtain⟨d,i,k,l,q⟩:=hz;dsimp only at d i k l q ⊢;have hlt:f.length+p.2.1.length<n.length:=by omega
  have hget:=gO hlt;have⟨B,C⟩:=i _ (gY hlt);refine AS (x:=n[f.length+p.2.1.length]) (by rw[List.getElem?_drop];exact hget) ?_;obtain⟨s',D,E,F,_⟩:=Dg.add_ok B 0;refine AP D<|Bq (λ(ss:List Ad)=>Ss (nT p) ss∧ss.length=f.length+f.length) room (λ(ss:List Ad)=>Ss (nT p) ss∧ss.length=f.length+f.length) ⟨i.set ⟨E,F.trans C⟩,by simp[k]⟩ (λss hss=> ?_) λss hss=> ?_
  ·refine AM (UU S (null:=nu) (ss:=ss) (m:=f.length) o (by omega) hss.1 hss.2) λr hr=>AR (λhc=>BJ ⟨⟨hr.1,hr.2.1.trans hss.2⟩,hr.2.2.2 hc⟩) λhc=>As ⟨hr.1,hr.2.1.trans hss.2⟩
  ·refine AM (TA (w:=nT p) (λs hs=>hss.1 s (lL hs)) (by simp;omega)) λa ha=>AM (TA (w:=nT p) (λs hs=>hss.1 s (kF hs)) (by simp;omega)) λb hb=>AB ?_;refine⟨d,λs hs=>⟨λh=>l s ⟨hs,h⟩,λh=>(Za S d q h).2⟩,?_,ha.2⟩;dsimp only;rw[ha.1,kT];omega
end
def trE (p:dtP) (n:Nat) (es:List Edge):List (Stp×Int):=(es.filter λe=> !(decide (0≤e.1) && decide (e.1<nT p))).map λe=>(((n:Int),e.1),e.2)
def trs (p:dtP) (E:List (List Edge)) (n:Nat):List (Stp×Int):=(kO n).flatMap λk=>trE p k (E[k]?.getD [])
theorem Pf (p:dtP) (E:List (List Edge)) (n:Nat):trs p E (n+1)=trs p E n++trE p n (E[n]?.getD []):=by
 unfold trs;rw[List.range_succ,List.flatMap_append];simp
theorem YF (p:dtP) (E:List (List Edge)) {n m:Nat}(h:n≤m):trs p E n<+:trs p E m:=by
 induction h with
 |refl=>exact List.prefix_refl _
 |step _ ih=>rw[Pf];exact ih.trans (List.prefix_append _ _)
theorem TB {p:dtP}{n:Nat}{es:List Edge}{j:Nat}{e:Edge}(h:es[j]? =some e):trE p n (es.take (j+1))=trE p n (es.take j) ++trE p n [e]:=by
 unfold trE;rw[jY,h,kY,jU];rfl
theorem Zb (p:dtP) (n:Nat) (es:List Edge) (j:Nat):trE p n (es.take j) <+:trE p n es:=by
 unfold trE;have⟨r,hr⟩:=List.take_prefix j es;refine⟨(r.filter λe=> !(decide (0≤e.1) && decide (e.1<nT p))).map λe=>(((n:Int),e.1),e.2),?_⟩;rw[←jU,←kY,hr]
section
variable {p:dtP}{B:List dtK}{E:List (List Edge)}{tt:Int}
theorem VJ (V:VPp p) (H:Fin p B E) (hB:B.length≤1000000) {σ:Type}{f:σ→Stp→Int→Option σ}{s:σ}(I:List (Stp×Int)→σ→Prop) (b:I [] s)
 (hs:∀pre x s,pre++ [x] <+:trs p E B.length→I pre s→Ok (f s x.1 x.2) (I (pre++ [x]))):Ok (P9 p (DA p B E tt) f s) (I (trs p E B.length)):=by
 unfold P9;refine AP (Pc H)<|CL (n:=B.length) (λk s=>I (trs p E k) s) (by omega) b λk s hk hI=> ?_;have hb:=gO hk;have⟨es,he⟩:=H.edge hb;refine AP (S1 V H hb he) ?_;have hl:=H.edges_len V hb he;have hsucc:trs p E (k+1)=trs p E k++trE p k es:=by rw[Pf,he];rfl
 have hpre:=YF p E (show k+1≤B.length from hk);rw[hsucc]at hpre;obtain⟨s',c,a⟩:=CL (f:=λj s=>(idx es j).bind λe=>(Bu p e.1).bind λt=>cond (!t) (f s ((k:Int),e.1) e.2) (some s)) (n:=es.length) (λj s=>I (trs p E k++trE p k (es.take j)) s) (by omega) (s:=s) (by
  rw[lK];show I (trs p E k++ []) s;rw[jH];exact hI) λj s hj hI=>by
   have hx:=gO hj;refine AS hx (AP (Im p _) ?_);rw[TB hx];cases hc:(decide (0≤es[j].1) && decide (es[j].1<nT p)) with
   |true=>
    have e:trE p k [es[j]] = []:=by unfold trE;rw[mC,hc];rfl
    rw[e,jH];refine Af ?_ (AB hI);show(!(decide (0≤es[j].1) && decide (es[j].1<nT p)))=false;rw[hc];rfl
   |false=>
    have e:trE p k [es[j]] = [(((k:Int),es[j].1),es[j].2)]:=by unfold trE;rw[mC,hc];rfl
    rw[e];refine BK ?_ ?_
    ·show(!(decide (0≤es[j].1) && decide (es[j].1<nT p)))=true;rw[hc];rfl
    ·rw[←iJ];refine hs _ (((k:Int),es[j].1),es[j].2) s ?_ hI;rw[iJ,←e,←TB hx];exact((List.prefix_append_right_inj _).2 (Zb p k es (j+1))).trans hpre
 refine⟨s',c,?_⟩;rw[iW (iB _)]at a;show I (trs p E (k+1)) s';rw[hsucc];exact a
theorem YG (H:Fin p B E) {n:Nat}{b:dtK}{e:List Edge}(hb:B[n]? =some b) (he:E[n]? =some e) {s t:Int}:(s,t)∈e↔JF p.2.2.1 B b e s t∧t≠-1:=by
 have hd:=H.done n b e hb he;constructor
 ·intro h;have⟨q,bt,c,a,f,d⟩:=hd.2 _ h;dsimp only at c d;exact⟨.inl ⟨by rw[←hd.1];exact jA.2 ⟨_,h,rfl⟩,q,bt,c,a,f,d,h⟩,by omega⟩
 ·rintro⟨⟨_,q,bt,_,_,_,_,h⟩|⟨_,h⟩,a⟩
  ·exact h
  ·exact gI h a
theorem JH (H:Fin p B E) {n:Nat}{e:List Edge}(hn:n<B.length) (he:E[n]? =some e) {s t:Int}:(s,t)∈e↔∃m:Nat,t=(m:Int)∧TrB p B E n s m:=by
 have hb:=gO hn;rw[YG H hb he];constructor
 ·rintro⟨hg,a⟩;have hg':=hg;rcases hg with⟨_,q,bt,b,_⟩|⟨_,h⟩
  ·subst b;exact⟨q,rfl,_,e,hb,he,hg'⟩
  ·exact gI h a
 ·rintro⟨m,rfl,b',e',hb',he',hg⟩;rw[hb]at hb';cases hb';rw[he]at he';cases he';exact⟨hg,by omega⟩
theorem K9 (V:VPp p) (H:Fin p B E) {x:Stp×Int}:x∈trs p E B.length↔∃(n:Nat) (s:Int) (m:Nat),x=(((n:Int),s),(m:Int))∧nT p≤s∧TrB p B E n s m:=by
 unfold trs trE;rw[mD];constructor
 ·rintro⟨n,hn,hx⟩;have hn:=jM.1 hn;have⟨e,he⟩:=H.edge (gO hn);rw[he]at hx;obtain⟨y,hy,rfl⟩:=jA.1 hx;have⟨b,c⟩:=jS.1 hy;obtain⟨m,hm,ht⟩:=(JH H hn he (s:=y.1) (t:=y.2)).1 b;have a:=((GX V H).st ht).2.2.2;refine⟨n,y.1,m,by rw[hm],?_,ht⟩;rw[gC a,lA,jZ,gK]at c;omega
 ·rintro⟨n,s,m,rfl,hs,ht⟩;have hn:n<B.length:=((GX V H).st ht).1;have⟨e,he⟩:=H.edge (gO hn);have a:=((GX V H).st ht).2.2.2;refine⟨n,jM.2 hn,?_⟩;rw[he];refine jA.2 ⟨(s,(m:Int)),jS.2 ⟨(JH H hn he).2 ⟨m,rfl,ht⟩,?_⟩,rfl⟩;rw[gB (show ¬s<nT p by omega),lM];rfl
theorem Qo (V:VPp p) (H:Fin p B E):((trs p E B.length).map (·.1)).Nodup:=by
 have key:∀n,n≤B.length→((trs p E n).map (·.1)).Nodup∧ ∀x∈(trs p E n).map (·.1),x.1< (n:Int):=by
  intro n
  induction n with
  |zero=>intro _;exact⟨by simp[trs],by simp[trs]⟩
  |succ n ih=>
   intro hn;obtain⟨f,c⟩:=ih (by omega);have hb:=gO (show n<B.length from hn);have⟨e,he⟩:=H.edge hb;have hd:=(H.done n _ e hb he).1;have hu:=aF p.2.2.1 B[n].2.1;rw[←hd]at hu;have d:∀x∈(trE p n e).map (·.1),x.1=(n:Int):=by
    intro x hx;obtain⟨y,hy,rfl⟩:=jA.1 hx;obtain⟨z,_,rfl⟩:=jA.1 hy;rfl
   have i:((trE p n e).map (·.1)).Nodup:=by
    unfold trE;rw[List.map_map];have hsub:((e.filter λe=> !(decide (0≤e.1) && decide (e.1<nT p))).map (·.1)).Pairwise (· < ·):=hu.sublist (List.Sublist.map _ List.filter_sublist);rw[List.nodup_iff_pairwise_ne,lW];rw[lW]at hsub;exact hsub.imp λ{a b} h g=>by
     have:=(Prod.mk.inj g).2
     omega
   rw[Pf,he];show((trs p E n++trE p n e).map (·.1)).Nodup∧ ∀x∈(trs p E n++trE p n e).map (·.1),x.1< ((n+1:Nat):Int);rw[jU];refine⟨iV.2 ⟨f,i,λa ha b hb g=> ?_⟩,λx hx=> ?_⟩
   ·have:=c a ha
    have:=d b hb
    subst g;omega
   ·rcases gZ.1 hx with h | h
    ·have:=c x h;omega
    ·have:=d x h;omega
 exact(key _ (iB _)).1
theorem Zc (V:VPp p) (H:Fin p B E) (hV:∀n s m,TrB p B E n s m→s<nT p+(p.2.1.length:Int)):(trs p E B.length).length≤B.length *p.2.1.length:=by
 have h:=List.Nodup.length_le_of_subset (l₂:=(kO B.length).flatMap λa=>(kO p.2.1.length).map λb=>(((a:Nat):Int),nT p+((b:Nat):Int))) (Qo V H) λx hx=>by
  obtain⟨y,hy,rfl⟩:=jA.1 hx;obtain⟨n,s,m,rfl,hs,ht⟩:=(K9 V H).1 hy;have c:=hV n s m ht;have hn:n<B.length:=((GX V H).st ht).1;refine mD.2 ⟨n,jM.2 hn,jA.2 ⟨(s - nT p).toNat,jM.2 (by omega),mF rfl ?_⟩⟩;dsimp only;omega
 rw[iX,List.length_flatMap]at h;simp only[iX,lU,List.map_const',List.sum_replicate_nat]at h;exact h
structure Num (st:List Stp) (nm:List (Stp×Int)):Prop where
 at_:∀(i:Nat) k,st[i]? =some k→BT k nm=some (i:Int)
 none:∀k,k∉st→BT k nm=none
theorem YH (V:VPp p) (H:Fin p B E) (hB:B.length≤1000000) (hl:(trs p E B.length).length≤100000):Ok (P9 p (DA p B E tt) KZ ([],[])) λst=>st.1=(trs p E B.length).map (·.1)∧Num st.1 st.2:=by
 have hnd:=Qo V H;refine VJ V H hB (λpre (st:EnS)=>st.1=pre.map (·.1)∧Num st.1 st.2) ⟨rfl,λi k h=>by simp at h,λ_ _=>rfl⟩ λpre x st hpre hI=> ?_;obtain⟨a,nm⟩:=st;obtain⟨rfl,hN⟩:=hI;dsimp only at hN ⊢;have hlen:pre.length+1≤(trs p E B.length).length:=by
  have:=hpre.length_le
  simpa using this
 have hnew:x.1∉pre.map (·.1):=by
  obtain⟨r,hr⟩:=hpre;rw[←hr,jU,jU]at hnd
  have:=(iV.1 (iV.1 hnd).1).2.2
  intro hm;exact this _ hm x.1 (by simp) rfl
 unfold KZ;dsimp only;refine BI (by simp;omega) (AB ⟨by simp,λi k h=> ?_,λk hk=> ?_⟩)
 ·dsimp only at h ⊢;rw[DC];rcases jR i pre.length with g | g
  ·rw[iC (by simpa using g)]at h;rw[gG (λe=>hnew (by rw[←e];exact gQ h))];exact hN.at_ i k h
  ·rw[hQ (by simpa using g),iX]at h
   have:i - pre.length=0:=by
    have:=(gS.1 h).1
    simp at this;omega
   rw[this]at h;simp at h;rw[gF h.symm];congr 1;simp;omega
 ·dsimp only at hk ⊢;rw[gZ]at hk;rw[DC,gG λe=>hk (.inr (by simp[e])),hN.none k λh=>hk (.inl h)]
end
structure D7 (p:dtP) (B:List dtK) (E:List (List Edge)) (fa:dtF):Prop where
 vp:VPp p
 sy:Sy p
 fin:Fin p B E
 gr:Gr (nT p) p.2.2.1
 few:B.length≤300
 vars:p.2.1.length≤24
 fa:YD p fa
 zero:∃st,p.2.2.1[0]? =some (nT p+(p.2.1.length:Int),[st],0)
section
variable {p:dtP}{B:List dtK}{E:List (List Edge)}{fa:dtF}{tt:Int}{steps:List Stp}{o1 o2:Option Nat}
theorem D7.aut (H:D7 p B E fa):Aut p.2.2.1 (SB B) (KB B) (TrB p B E):=GX H.vp H.fin
theorem D7.sym (H:D7 p B E fa) {n m:Nat}{s:Int}(h:TrB p B E n s m):0≤s∧s<nT p+(p.2.1.length:Int):=by
 have A:=H.aut;have⟨y,a,b⟩:=A.some_ h;obtain⟨k,d,rfl,_,_⟩:=A.form (A.st h).1 a;have⟨r,c,e⟩:=Fm H.gr b (A.st h).2.2.2;exact H.sy.right r (gQ c) s (gQ e)
theorem D7.lens (H:D7 p B E fa):(trs p E B.length).length≤7200:=by
 have h:=Zc H.vp H.fin λn s m ht=>(H.sym ht).2;have a:=H.few;have b:=H.vars;have c:B.length *p.2.1.length≤300 *24:=Nat.mul_le_mul a b;omega
theorem Rk (H:D7 p B E fa) {n:Nat}(hn:n<B.length) {k:Nat}{r:Ax}(hr:p.2.2.1[k]? =some r):
 Ok (BN (lkT p (DA p B E tt) fa steps o1 o2) (n:Int) (k:Int)) λb=>b=true↔It p.2.2.1 (KB B) n k r.2.1.length:=by
 have hk:=Bo hr;have hb:=gO hn;have hg:=(H.fin.good H.vp hb).2.2.2.2;unfold BN;refine AM (Q:=λc=>c=false) (Af (gB (by omega)) (AB (gB (by dsimp only;omega)))) λc hc=> ?_;subst hc;refine Af rfl (AS hr (AP (Sz H.vp H.fin hb) (AP (KS (by omega)) (AB ?_))));rw[gJ];exact Fo H.vp H.fin hb _
def Dir (p:dtP) (B:List dtK) (E:List (List Edge)) (m:Nat) (j:Int):Prop:=(j<nT p∧ ∃q,TrB p B E m j q)∨(j=0∧It p.2.2.1 (KB B) m 0 1)
structure RdI (p:dtP) (B:List dtK) (E:List (List Edge)) (num:List (Stp×Int)) (x:Stp×Int) (d:Ad) (l:gM):Prop where
 ok:OkS d∧d.1=nT p
 mem:∀m:Nat,x.2=(m:Int)→ ∀j,Dg.mem d j=true↔Dir p B E m j
 few:l.length≤20000
 next:∀m:Nat,x.2=(m:Int)→ ∀k,k∈l↔∃c q,TrB p B E m c q∧nT p≤c∧Nul p.2.2.1 c∧(BT ((m:Int),c) num).getD 0=k
theorem BY {α:Type}{l:List α}{k:Nat}{x:α}(h:l[k]? =some x) {y:α}:y∈l.take (k+1)↔y∈l.take k∨y=x:=by
 rw[jY,h,gZ];simp
theorem YI (H:D7 p B E fa) {num:List (Stp×Int)}{x:Stp×Int}{st:RdS}(hx:x∈trs p E B.length) (a:st.1.length≤100000) (f:st.2.length≤100000):
 Ok (PS p (DA p B E tt) fa steps num st x.1 x.2) λst'=>∃d l,st'=(st.1++ [d],st.2++ [l])∧RdI p B E num x d l:=by
 obtain⟨n,s,m,rfl,hs,ht⟩:=(K9 H.vp H.fin).1 hx;have A:=H.aut;have hm:m<B.length:=(A.st ht).2.1;have hT:=H.sy.t1;have hV:=H.vars;have hnT:nT p=(p.1.length:Int):=rfl;have hb:=gO hm;have⟨es,he⟩:=H.fin.edge hb;have hel:=H.fin.edges_len H.vp hb he;have cl:=NG H.sy;obtain⟨z,hz⟩:=H.zero;unfold PS;dsimp only;have⟨U,O,M,F,N⟩:=Dg.new_ok (nT p);refine AP O (AM (Rk H hm (k:=0) hz) λb hbd=> ?_);have hbd:b=true↔It p.2.2.1 (KB B) m 0 1:=hbd;refine AM (Q:=λ(u:Ad)=>OkS u∧u.1=nT p∧ ∀j,mem u j=true↔(j=0∧It p.2.2.1 (KB B) m 0 1)) (AR (λhc=> ?_) λhc=>AB ⟨M,F.trans cl,λj=> ?_⟩) λu hu=> ?_
 ·have⟨u,G,I,J,K⟩:=Dg.add_ok M 0;refine AP G (AB ⟨I,J.trans (F.trans cl),λj=> ?_⟩);dsimp only;rw[K,N,lP,gJ];exact⟨λh=>⟨h.1,hbd.1 hc⟩,λh=>⟨h.1,by omega,by rw[F,cl];omega⟩⟩
 ·rw[N];constructor
  ·intro h;cases h
  ·intro h;have:=hbd.2 h.2;rw[hc]at this;cases this
 obtain⟨P,R,S⟩:=hu;refine AP (S1 H.vp H.fin hb he)<|BV (λj (z:Ad×gM)=>OkS z.1∧z.1.1=nT p∧(∀i,mem z.1 i=true↔(mem u i=true∨ ∃e∈es.take j,e.1=i∧e.1<nT p))∧z.2.length≤j∧ ∀k,k∈z.2↔∃e∈es.take j,nT p≤e.1∧Nul p.2.2.1 e.1∧(BT ((m:Int),e.1) num).getD 0=k) (by omega)
  ⟨P,R,λi=>by simp,by simp,λk=>by simp⟩ (λj z hj hz=> ?_) λz hz=> ?_
 ·obtain⟨zs,zl⟩:=z;obtain⟨y,o,C,L,r⟩:=hz;dsimp only at y o C L r ⊢;have hx:=gO hj;obtain⟨e,hee⟩:∃e,es[j] =e:=⟨_,rfl⟩;rw[hee]at hx;obtain⟨q,hq,htq⟩:=(JH H.fin hm he (s:=e.1) (t:=e.2)).1 (gQ hx);have⟨T,V⟩:=H.sym htq;refine AS hx (AP (Im p _) (AR (λhc=> ?_) λhc=> ?_))
  ·rw[iZ,gJ,gJ]at hc;have⟨v,G,I,J,K⟩:=Dg.add_ok y e.1;refine AP G (AB ⟨I,J.trans o,λi=> ?_,by dsimp only;omega,λk=> ?_⟩)
   ·dsimp only;rw[K,iH,C,gJ,o];constructor
    ·rintro((h | ⟨e',a,f⟩)|h)
     ·exact .inl h
     ·exact .inr ⟨e',(BY hx).2 (.inl a),f⟩
     ·exact .inr ⟨e,(BY hx).2 (.inr rfl),h.1.symm,by omega⟩
    ·rintro(h | ⟨e',a,f,g⟩)
     ·exact .inl (.inl h)
     ·rcases(BY hx).1 a with a | rfl
      ·exact .inl (.inr ⟨e',a,f,g⟩)
      ·exact .inr ⟨f.symm,T,g⟩
   ·dsimp only;rw[r];constructor
    ·rintro⟨e',a,f⟩;exact⟨e',(BY hx).2 (.inl a),f⟩
    ·rintro⟨e',a,f⟩;rcases(BY hx).1 a with a | rfl
     ·exact⟨e',a,f⟩
     ·omega
  ·rw[jX,gK,gK]at hc;have hge:nT p≤e.1:=by omega
   have ee:gP .i64 (e.1 - nT p)=(((e.1 - nT p).toNat:Nat):Int):=by rw[w64 (by omega) (by omega)];omega
   have hn:=H.fa.len;have hlt:(e.1 - nT p).toNat<fa.1.length:=by omega
   have hbb:=gO hlt;have hnul:=H.fa.nul e.1 hge;rw[hbb]at hnul;rw[ee];refine AS hbb ?_;have sets:∀i,mem zs i=true↔(mem u i=true∨ ∃e∈es.take (j+1),e.1=i∧e.1<nT p):=λi=>by
    rw[C];constructor
    ·rintro(h | ⟨e',a,f⟩)
     ·exact .inl h
     ·exact .inr ⟨e',(BY hx).2 (.inl a),f⟩
    ·rintro(h | ⟨e',a,f,g⟩)
     ·exact .inl h
     ·rcases(BY hx).1 a with a | rfl
      ·exact .inr ⟨e',a,f,g⟩
      ·omega
   refine AR (λD=>BI (by simp;omega) (AB ⟨y,o,sets,by simp;omega,λk=> ?_⟩)) λD=>AB ⟨y,o,sets,by dsimp only;omega,λk=> ?_⟩
   ·dsimp only;rw[gZ,r,iR];constructor
    ·rintro(⟨e',a,f⟩|h)
     ·exact⟨e',(BY hx).2 (.inl a),f⟩
     ·exact⟨e,(BY hx).2 (.inr rfl),hge,hnul.1 (by rw[D]),h.symm⟩
    ·rintro⟨e',a,f,g,w⟩;rcases(BY hx).1 a with a | rfl
     ·exact .inl ⟨e',a,f,g,w⟩
     ·exact .inr w.symm
   ·dsimp only;rw[r];constructor
    ·rintro⟨e',a,f⟩;exact⟨e',(BY hx).2 (.inl a),f⟩
    ·rintro⟨e',a,f,g,w⟩;rcases(BY hx).1 a with a | rfl
     ·exact⟨e',a,f,g,w⟩
     ·have:=hnul.2 g
      rw[D]at this;cases this
 ·obtain⟨zs,zl⟩:=z;obtain⟨y,o,C,L,r⟩:=hz;dsimp only at y o C L r ⊢;rw[iW (iB _)]at C r;refine BI (by simp;omega) (BI (by simp;omega) (AB ⟨zs,zl,rfl,⟨⟨y,o⟩,λm' hm' j=> ?_,by omega,λm' hm' k=> ?_⟩⟩))
  ·have:m'=m:=by dsimp only at hm';omega
   subst this;rw[C,S];unfold Dir;constructor
   ·rintro(h | ⟨e,a,rfl,g⟩)
    ·exact .inr h
    ·obtain⟨q,_,hq⟩:=(JH H.fin hm he (s:=e.1) (t:=e.2)).1 a;exact .inl ⟨g,q,hq⟩
   ·rintro(⟨a,q,hq⟩|h)
    ·exact .inr ⟨(j,(q:Int)),(JH H.fin hm he).2 ⟨q,rfl,hq⟩,rfl,a⟩
    ·exact .inl h
  ·have:m'=m:=by dsimp only at hm';omega
   subst this;rw[r];constructor
   ·rintro⟨e,a,f,g,w⟩;obtain⟨q,_,hq⟩:=(JH H.fin hm he (s:=e.1) (t:=e.2)).1 a;exact⟨e.1,q,hq,f,g,w⟩
   ·rintro⟨c,q,hq,f,g,w⟩;exact⟨(c,(q:Int)),(JH H.fin hm he).2 ⟨q,rfl,hq⟩,f,g,w⟩
theorem Zd {α:Type}{l:List α}{i:Nat}{x y:α}(h:(l++ [x])[i]? =some y):(i<l.length∧l[i]? =some y)∨(i=l.length∧y=x):=by
 rcases jR i l.length with g | g
 ·rw[iC g]at h;exact .inl ⟨g,h⟩
 ·rw[hQ g]at h
  have:i - l.length=0:=by
   have:=(gS.1 h).1
   simp at this;omega
  rw[this]at h;simp at h;exact .inr ⟨by omega,h.symm⟩
theorem Qp {α:Type}(l:List α) (x:α):(l++ [x])[l.length]? =some x:=by simp
theorem YJ (H:D7 p B E fa) {num:List (Stp×Int)}:
 Ok (Ns p (DA p B E tt) fa steps num) λr=>r.1.length=(trs p E B.length).length∧r.2.length=(trs p E B.length).length∧ ∀(i:Nat) x,(trs p E B.length)[i]? =some x→ ∃d l,r.1[i]? =some d∧r.2[i]? =some l∧RdI p B E num x d l:=by
 have hl:=H.lens;unfold Ns;refine VJ H.vp H.fin (by have:=H.few;omega) (λpre (r:RdS)=>r.1.length=pre.length∧r.2.length=pre.length∧ ∀(i:Nat) x,pre[i]? =some x→ ∃d l,r.1[i]? =some d∧r.2[i]? =some l∧RdI p B E num x d l) ⟨rfl,rfl,λi x h=>by simp at h⟩ λpre x st hpre hI=> ?_;obtain⟨a,b,c⟩:=hI;have hlen:=hpre.length_le;rw[iM,lI]at hlen;refine(YI H (hpre.mem (by simp)) (by omega) (by omega)).mono ?_;rintro _ ⟨d,l,rfl,hR⟩;refine⟨by simp[a],by simp[b],λi y hy=> ?_⟩;rcases Zd hy with⟨g,hy⟩|⟨rfl,rfl⟩
 ·obtain⟨d',l',e,f,j⟩:=c i y hy;exact⟨d',l',EU e,EU f,j⟩
 ·exact⟨d,l,by rw[←a];exact Qp _ _,by rw[←b];exact Qp _ _,hR⟩
theorem NH {ll:List gM}{n x y:Int}:y∈C9 ll x n↔x< (ll.length:Int)∧y∈ll[x.toNat]?.getD [] ∧0≤y∧y<n:=by
 unfold C9 KM;split
 ·constructor
  ·intro h;cases h
  ·intro h;omega
 ·rw[jS];constructor
  ·rintro⟨b,a⟩;rw[jZ,iN,gK,gK]at a;exact⟨by omega,b,by omega,by omega⟩
  ·rintro⟨b,a,c,d⟩;refine⟨a,?_⟩;rw[jZ,iN,gK,gK];omega
theorem Pg (H:D7 p B E fa) {num:List (Stp×Int)}(hN:Num ((trs p E B.length).map (·.1)) num) {n m:Nat}{s:Int}(hs:nT p≤s) (ht:TrB p B E n s m):∃i:Nat,(trs p E B.length)[i]? =some (((n:Int),s),(m:Int))∧BT ((n:Int),s) num=some (i:Int):=by
 obtain⟨i,hi⟩:=gV ((K9 H.vp H.fin).2 ⟨n,s,m,rfl,hs,ht⟩);exact⟨i,hi,hN.at_ i _ (by rw[jJ,hi];rfl)⟩
theorem Ph {a:List Ad}{i:Nat}{d:Ad}(h:a[i]? =some d) (j:Int):mem (gv a (i:Int)) j=mem d j:=by rw[VG h]
theorem be (H:D7 p B E fa) {num:List (Stp×Int)}(hN:Num ((trs p E B.length).map (·.1)) num) {ds:List Ad}{es:List gM}(G:ds.length=(trs p E B.length).length) (O:es.length=(trs p E B.length).length)
 (g:∀(i:Nat) x,(trs p E B.length)[i]? =some x→ ∃d l,ds[i]? =some d∧es[i]? =some l∧RdI p B E num x d l):
 Ok (Hf es ds) λr=>r.length=(trs p E B.length).length∧ ∀(i:Nat) (n:Int) (s:Int) (m:Nat),(trs p E B.length)[i]? =some ((n,s),(m:Int))→ ∃d,r[i]? =some d∧(OkS d∧d.1=nT p)∧ ∀j,mem d j=true↔Rdd (nT p) p.2.2.1 (KB B) (TrB p B E) m j:=by
 have hT:=H.sy.t1;have hl:=H.lens;have hnT:nT p=(p.1.length:Int):=rfl;have A:=H.aut;obtain⟨r,I,J,K⟩:=S7 (ll:=es) (B:=ds) (wide:=nT p) (by omega) (by omega) (by omega) (λl hl=>by
  obtain⟨i,hi⟩:=gV hl;have hlt:=Bo hi;obtain⟨d,l',_,o,a⟩:=g i _ (gO (by omega));rw[hi]at o;cases o
  have:=a.few
  omega) (λk s hk=>by
  have hlt:=Bo hk;obtain⟨d,l',f,_,a⟩:=g k _ (gO (by omega));rw[hk]at f;cases f;exact a.ok)
 refine⟨r,I,J.trans G,λi n s m hi=> ?_⟩;have hlt:=Bo hi;have hr:=gO (l:=r) (i:=i) (by omega);have⟨L,M,N⟩:=K i _ hr;refine⟨_,hr,⟨L,M⟩,λj=> ?_⟩;rw[N];constructor
 ·rintro⟨z,hz,hj⟩;have key:∀(v z:Int),Dg.Reach es (ds.length:Int) v z→mem (gv ds z) j=true→ ∀(i:Nat) (n s:Int) (m:Nat),v=(i:Int)→(trs p E B.length)[i]? =some ((n,s),(m:Int))→Rdd (nT p) p.2.2.1 (KB B) (TrB p B E) m j:=by
   intro v z hv
   induction hv with
   |refl v=>
    intro hj i n s m hv hi;have⟨d,l,f,_,a⟩:=g i _ hi;subst hv;rw[Ph f]at hj;rcases(a.mem m rfl j).1 hj with⟨b,q,e⟩|⟨rfl,e⟩
    ·exact .term e b
    ·exact .fin e
   | @step x y z hy _ ih=>
    intro hj i n s m hv hi;subst hv;have⟨d,l,f,o,a⟩:=g i _ hi;have⟨P,D,Q,R⟩:=NH.1 hy;rw[gT,o]at D;obtain⟨c,q,b,e,w,F⟩:=(a.next m rfl y).1 D;obtain⟨i',u,C⟩:=Pg H hN e b;rw[C]at F;exact .next b e w (ih hj i' _ _ q F.symm u)
  exact key _ _ hz hj i n s m rfl hi
 ·intro h;have key:∀ {m:Nat} {j:Int},Rdd (nT p) p.2.2.1 (KB B) (TrB p B E) m j→ ∀(i:Nat) (n s:Int),(trs p E B.length)[i]? =some ((n,s),(m:Int))→L5 es (ds.length:Int) ds (i:Int) j:=by
   intro m j h
   induction h with
   |term b e=>
    intro i n s hi;have⟨d,l,f,_,a⟩:=g i _ hi;exact⟨_,.refl _,by rw[Ph f];exact(a.mem _ rfl _).2 (.inl ⟨e,_,b⟩)⟩
   |fin b=>
    intro i n s hi;have⟨d,l,f,_,a⟩:=g i _ hi;exact⟨_,.refl _,by rw[Ph f];exact(a.mem _ rfl _).2 (.inr ⟨rfl,b⟩)⟩
   | @next m q c t b e w _ ih=>
    intro i n s hi;have⟨d,l,f,o,a⟩:=g i _ hi;obtain⟨i',u,C⟩:=Pg H hN e b;refine L5.back (.step (NH.2 ⟨by have:=Bo hi;omega,?_,by omega,by have:=Bo u;omega⟩) (.refl _)) (ih i' _ _ u);rw[gT,o];exact(a.next m rfl _).2 ⟨c,q,b,e,w,by rw[C];rfl⟩
  exact key h i n s hi
end
section
variable {p:dtP}{B:List dtK}{E:List (List Edge)}{fa:dtF}{tt:Int}{steps:List Stp}{o1 o2:Option Nat}
theorem Ze (H:D7 p B E fa) {s:Int}(h:s<nT p):¬Nul p.2.2.1 s:=λg=>by have:=g.var H.gr;omega
theorem WC {s o:Ad}(H:OkS s) (K:OkS o):Ok (RR s o) λr=>OkS r.2:=by
 unfold RR;exact Bp ⟨H,K⟩ (AB (Mw H K).1)
theorem Pi {s:Ad}(H:OkS s):Ok (Qa s) λ_=>True:=by
 unfold Qa;rw[H6 H];exact AB trivial
theorem bh (H:D7 p B E fa) {seq:gM}(hs:∀s∈seq,0≤s∧s<nT p+(p.2.1.length:Int)) (hq:seq.length≤1000):Ok (D5 fa p seq) λr=>r.2=true↔∀s∈seq,Nul p.2.2.1 s:=by
 have hT:=H.sy.t1;have hV:=H.vars;have hnT:nT p=(p.1.length:Int):=rfl;have hF:=H.fa;have cl:=NG H.sy;unfold D5;have⟨x,m,n,y,_⟩:=Dg.new_ok (nT p);refine AP m<|F6 (λk (z:Ad)=>OkS z∧ ∀s∈seq.take k,Nul p.2.2.1 s) (λb=>b.2=false∧ ¬ ∀s∈seq,Nul p.2.2.1 s) (by omega) ⟨n,by simp⟩ (λk z hk hz=> ?_) (λz hz=> ?_) λb hb=>AB ⟨λh=>(by rw[hb.1]at h;cases h),λh=>gI h hb.2⟩
 ·obtain⟨d,f⟩:=hz;have hsk:=gO hk;have hmem:=gY hk;have⟨A,C⟩:=hs _ hmem;refine AM (Q:=λ(e:AW Ad (gM×Bool))=>(∃s',e= .next s'∧OkS s'∧ ∀s∈seq.take (k+1),Nul p.2.2.1 s)∨ ∃b,e= .done b∧b.2=false∧ ¬ ∀s∈seq,Nul p.2.2.1 s) ?_ λe he=> ?_
  ·refine AS hsk (AP (Im p seq[k]) (AR (λhc=> ?_) λhc=> ?_))
   ·rw[iZ,gJ,gJ]at hc;have⟨v,q,t,_⟩:=Dg.add_ok d seq[k];refine AP q (AM (Pi t) λl _=>AB (.inr ⟨_,rfl,rfl,λh=>Ze H (by omega) (h _ hmem)⟩))
   ·rw[jX,gK,gK]at hc;have ee:gP .i64 (seq[k] - (p.1.length:Int))=(((seq[k] - nT p).toNat:Nat):Int):=by rw[w64 (by omega) (by omega)];omega
    rw[ee];have hn:=hF.len;have hfl:=hF.flen;refine AM (Q:=λc=>c=false) (Af (gB (by omega)) (AB (gB (by omega)))) λc a=> ?_;subst a;refine Af rfl ?_;have hf:=gO (l:=fa.2.1) (i:=(seq[k] - nT p).toNat) (by omega);have hfew:=hF.few _ (gQ hf);obtain⟨o,w,o1,_⟩:=Dg.of_ok (nT p) fa.2.1[(seq[k] - nT p).toNat] (by omega);have hb:=gO (l:=fa.1) (i:=(seq[k] - nT p).toNat) (by omega);have hnul:=hF.nul seq[k] (by omega);rw[hb]at hnul;refine AS hf (AP w (AM (WC d o1) λu hu=>AS hb (AR (λa=>AM (Pi hu) λl _=>AB (.inr ⟨_,rfl,rfl,λh=> ?_⟩)) λa=>AB (.inl ⟨_,rfl,hu,λs hs'=> ?_⟩))))
    ·have:=hnul.2 (h _ hmem)
     rw[jZ]at a;rw[a]at this;cases this
    ·rcases(BY hsk).1 hs' with h | rfl
     ·exact f s h
     ·refine hnul.1 ?_;rw[Bool.not_eq_false']at a;rw[a]
  ·rcases he with⟨s',rfl,g,j⟩|⟨b,rfl,g,j⟩
   ·exact BJ ⟨g,j⟩
   ·exact As ⟨g,j⟩
 ·obtain⟨d,f⟩:=hz;rw[iW (iB _)]at f;exact AM (Pi d) λl _=>AB ⟨λ_=>f,λ_=>rfl⟩
def Hit (p:dtP) (B:List dtK) (E:List (List Edge)) (num:List (Stp×Int)) (n k i:Nat) (kk:Nat):Prop:=
 ∃(q m':Nat) (r:Ax) (c:Int),((trs p E B.length).map (·.1))[n]? =some ((q:Int),r.1)∧p.2.2.1[k]? =some r∧r.2.1[i]? =some c∧(∀s∈r.2.1.drop (i+1),Nul p.2.2.1 s)∧nT p≤c∧Pth (TrB p B E) q (r.2.1.take i) m'∧BT ((m':Int),c) num=some (kk:Int)
def Bef (n k i n' k' i':Nat):Prop:=n'<n∨(n'=n∧(k'<k∨(k'=k∧i'<i)))
structure Pj (p:dtP) (B:List dtK) (E:List (List Edge)) (num:List (Stp×Int)) (n k i:Nat) (X:List gM):Prop where
 len:X.length=(trs p E B.length).length
 few:∀l∈X,l.length≤(n *100+k) *100+i
 mem:∀(kk:Nat) l,X[kk]? =some l→ ∀z,z∈l↔∃n' k' i',z=((n':Nat):Int)∧Bef n k i n' k' i'∧Hit p B E num n' k' i' kk
theorem Pj.same {num:List (Stp×Int)}{n k i b c d:Nat}{X:List gM}(h:Pj p B E num n k i X) (hc:(n *100+k) *100+i≤(b *100+c) *100+d) (hb:∀n' k' i' kk,Hit p B E num n' k' i' kk→(Bef n k i n' k' i'↔Bef b c d n' k' i')):Pj p B E num b c d X:=
 ⟨h.len,λl hl=>jI (h.few l hl) hc,λkk l hl z=>by
  rw[h.mem kk l hl z];constructor
  ·rintro⟨n',k',i',e,f,a⟩;exact⟨n',k',i',e,(hb _ _ _ _ a).1 f,a⟩
  ·rintro⟨n',k',i',e,f,a⟩;exact⟨n',k',i',e,(hb _ _ _ _ a).2 f,a⟩⟩
theorem LA (H:D7 p B E fa) {n:Nat}(hn:n< (trs p E B.length).length):∃(q m:Nat) (s:Int),(trs p E B.length)[n]? =some (((q:Int),s),(m:Int))∧((trs p E B.length).map (·.1))[n]? =some ((q:Int),s)∧nT p≤s∧TrB p B E q s m:=by
 obtain⟨q,s,m,a,b,c⟩:=(K9 H.vp H.fin).1 (gY hn);exact⟨q,m,s,by rw[gO hn,a],by rw[jJ,gO hn,a];rfl,b,c⟩
theorem cv (H:D7 p B E fa) {n m:Nat}{s:Int}(h:TrB p B E n s m):BA (DA p B E tt) (n:Int) s=some (m:Int):=by
 obtain⟨b,e,hb,he,hg⟩:=h;have⟨x,a,c⟩:=X6 (t:=tt) H.vp H.fin hb he s;rw[a,JF.unique H.fin c hg]
theorem IH {n k i n' k' i':Nat}:Bef n k (i+1) n' k' i'↔Bef n k i n' k' i'∨(n'=n∧k'=k∧i'=i):=by
 unfold Bef;omega
theorem Zf (H:D7 p B E fa) {num:List (Stp×Int)}(hN:Num ((trs p E B.length).map (·.1)) num) {n k:Nat}{q:Nat}{r:Ax}{m:Nat}(hs:((trs p E B.length).map (·.1))[n]? =some ((q:Int),r.1)) (hr:p.2.2.1[k]? =some r) (ht:TrB p B E q r.1 m)
 {i:Nat} {c:Int} (hc:r.2.1[i]? =some c) {m':Nat} (hp:Pth (TrB p B E) q (r.2.1.take i) m') {X:List gM} (hX:Pj p B E num n k i X) (hn:n≤7200):
 Ok (Xq p (DA p B E tt) fa num (n:Int) r.2.1 (i:Int) ((m':Int),X)) λz=>∃j:Nat,z.1=(j:Int)∧Pth (TrB p B E) q (r.2.1.take (i+1)) j∧Pj p B E num n k (i+1) z.2:=by
 have A:=H.aut;have hi:=Bo hc;have hmem:=gQ hr;have hk:=Bo hr;have hkf:=H.vp.few;have hsh:=H.vp.short r hmem;have⟨F,hit⟩:=A.starts H.gr hr ht;have hq:SB B q:=(A.st ht).1;have hm':=A.part H.gr hq hr hit (l:=r.2.1.take i) (l':=r.2.1.drop i) (lJ _ _).symm hp;rw[kT,Nat.min_eq_left (by omega)]at hm';have⟨j,w,S⟩:=A.step H.gr (A.at0 hq hp) hm' hr hc;unfold Xq;have G:((i:Int)+1).toNat=i+1:=by omega
 rw[G];refine AS hc (Bp ⟨by omega,by omega⟩ (AM (bh H (seq:=r.2.1.drop (i+1)) (λs hs=>H.sy.right r hmem s (kF hs)) (by simp;omega)) λsq hsq=> ?_));refine AM (Q:=λb=>b=true↔(∀s∈r.2.1.drop (i+1),Nul p.2.2.1 s)∧nT p≤c) (AR (λh=>AP (Im p c) (AB ?_)) λh=>AB ?_) λb hb=> ?_
 ·have I:=(H.sy.right r hmem c (gQ hc)).1;rw[gC I,lA,jZ,gK];exact⟨λg=>⟨hsq.1 h,jL.1 g⟩,λg=>jL.2 g.2⟩
 ·constructor
  ·intro g;cases g
  ·intro g;rw[hsq.2 g.1]at h;cases h
 have next:Pth (TrB p B E) q (r.2.1.take (i+1)) j:=by
  rw[jY,hc];exact Pth.app.2 ⟨m',hp,j,w,rfl⟩
 refine AM (Q:=λX'=>Pj p B E num n k (i+1) X') (AR (λh=> ?_) λh=>AB ?_) λX' hX'=> ?_
 ·have⟨ha,o⟩:=hb.1 h;have⟨kk,J,x⟩:=Pg H hN o w;rw[x];have hkk:kk<X.length:=by rw[hX.len];exact Bo J
  have hrow:=gO hkk;have hrf:=hX.few _ (gY hkk);refine AS (i:=kk) hrow (BI (by simp;omega) ?_);show Ok (DB X ((kk:Nat):Int) (X[kk] ++ [(n:Int)])) _;rw[HM (by omega) (by omega),gT];refine AB ⟨by simp[hX.len],λl hl=> ?_,λK l hl z=> ?_⟩
  ·rcases iY hl with h | rfl
   ·have:=hX.few l h;omega
   ·rw[iM,lI];omega
  ·have t:Hit p B E num n k i kk:=⟨q,m',r,c,hs,hr,hc,ha,o,hp,x⟩;rw[hZ]at hl;split at hl
   ·rename_i e
    subst e;try rw[gF hkk]at hl
    cases hl;rw[gZ,hX.mem kk _ hrow,iR];constructor
    ·rintro(⟨n',k',i',d,a,f⟩|rfl)
     ·exact⟨n',k',i',d,IH.2 (.inl a),f⟩
     ·exact⟨n,k,i,rfl,IH.2 (.inr ⟨rfl,rfl,rfl⟩),t⟩
    ·rintro⟨n',k',i',d,a,f⟩;rcases IH.1 a with a | ⟨rfl,rfl,rfl⟩
     ·exact .inl ⟨n',k',i',d,a,f⟩
     ·exact .inr d
   ·rename_i e
    rw[hX.mem K l hl];constructor
    ·rintro⟨n',k',i',d,a,f⟩;exact⟨n',k',i',d,IH.2 (.inl a),f⟩
    ·rintro⟨n',k',i',d,a,f⟩;rcases IH.1 a with a | ⟨rfl,rfl,rfl⟩
     ·exact⟨n',k',i',d,a,f⟩
     ·exfalso;obtain⟨C,L,M,N,y,u,v,_,_,O,D⟩:=f;rw[hr]at u;cases u;rw[hc]at v;cases v;rw[hs]at y;have hqq:q=C:=by have:=(Prod.mk.inj (Option.some.inj y)).1;omega
      subst hqq
      have:=Pth.fn A hp O
      subst this;rw[x]at D
      have:=Option.some.inj D
      omega
 ·refine hX.same (by omega) λn' k' i' kk hh=> ?_;rw[IH];constructor
  ·exact λg=>.inl g
  ·rintro(g | ⟨rfl,rfl,rfl⟩)
   ·exact g
   ·exfalso;obtain⟨C,L,M,N,y,u,v,P,R,_,_⟩:=hh;rw[hr]at u;cases u;rw[hc]at v;cases v
    have:=hb.2 ⟨P,R⟩
    rw[h]at this;cases this
 ·refine AP (cv H w) (AB ⟨j,rfl,next,hX'⟩)
theorem TC (H:D7 p B E fa) {num:List (Stp×Int)}(hN:Num ((trs p E B.length).map (·.1)) num):
 Ok (Gb p (DA p B E tt) fa ((trs p E B.length).map (·.1)) num) λX=>Pj p B E num (trs p E B.length).length 0 0 X:=by
 have hl:=H.lens;have A:=H.aut;have hkf:=H.vp.few;unfold Gb;rw[iX];refine AP (x:=jE (trs p E B.length).length []) (by unfold Dh;rw[gF ⟨by omega,by omega⟩,gT])<|CL (n:=(trs p E B.length).length) (λn X=>Pj p B E num n 0 0 X) (by omega) ⟨by simp,λl hl=>by rw[(List.mem_replicate.1 hl).2];simp,λkk l hl z=> ?_⟩ λn X hn hX=> ?_
 ·rw[jN]at hl;split at hl
  ·cases hl;constructor
   ·intro h;cases h
   ·rintro⟨n',k',i',_,b,_⟩;unfold Bef at b;omega
  ·cases hl
 have⟨q,m,s,F,b,G,v⟩:=LA H hn;refine AS b ?_;obtain⟨X',w,y⟩:=CL (f:=λk X=>(idx p.2.2.1 k).bind λr=>cond (r.1 !=s) (some X) ((forS (σ:=Int×List gM) 0 (r.2.1.length:Int) ((q:Int),X) (Xq p (DA p B E tt) fa num (n:Int) r.2.1)).bind λz=>some z.2)) (n:=p.2.2.1.length) (λk X=>Pj p B E num n k 0 X) (by omega) (s:=X) hX λk X hk hX=>by
  have hr:=gO hk;obtain⟨r,hre⟩:∃r,p.2.2.1[k] =r:=⟨_,rfl⟩;rw[hre]at hr;have hsh:=H.vp.short r (gQ hr);refine AS hr (AR (λhc=>AB ?_) λhc=> ?_)
  ·refine hX.same (by omega) λn' k' i' kk hh=> ?_;constructor
   ·unfold Bef;omega
   ·intro g;by_cases e:n'=n∧k'=k
    ·obtain⟨rfl,rfl⟩:=e;exfalso;obtain⟨d,j,o,t,u,a,_⟩:=hh;rw[hr]at a;cases a;rw[b]at u
     have:=(Prod.mk.inj (Option.some.inj u)).2
     rw[this]at hc;simp at hc
    ·unfold Bef at g ⊢;omega
  ·have hsr:r.1=s:=by simpa using hc
   subst hsr;refine BV (λi (z:Int×List gM)=>∃m':Nat,z.1=(m':Int)∧Pth (TrB p B E) q (r.2.1.take i) m'∧Pj p B E num n k i z.2) (by omega) ⟨q,rfl,by rw[lK];rfl,hX⟩ (λi z hi hz=> ?_) λz hz=> ?_
   ·obtain⟨I,J⟩:=z;obtain⟨m',rfl,C,c⟩:=hz;exact Zf H hN b hr v (gO hi) C c (by omega)
   ·obtain⟨m',_,_,c⟩:=hz;refine AB (c.same (by omega) λn' k' i' kk hh=> ?_);constructor
    ·unfold Bef;omega
    ·intro g;by_cases e:n'=n∧k'=k
     ·obtain⟨rfl,rfl⟩:=e;obtain⟨d,j,o,t,_,a,D,_⟩:=hh;rw[hr]at a;cases a
      have:=Bo D
      unfold Bef;omega
     ·unfold Bef at g ⊢;omega
 refine⟨X',w,y.same (by omega) λn' k' i' kk hh=> ?_⟩;obtain⟨d,j,o,t,_,a,_⟩:=hh
 have:=Bo a
 unfold Bef;omega
theorem bk (H:D7 p B E fa) {num:List (Stp×Int)}(hN:Num ((trs p E B.length).map (·.1)) num) {inc:List gM}(hI:Pj p B E num (trs p E B.length).length 0 0 inc) {u:List Ad}(T:u.length=(trs p E B.length).length)
 (L:∀(i:Nat) (n:Int) (s:Int) (m:Nat),(trs p E B.length)[i]? =some ((n,s),(m:Int))→ ∃d,u[i]? =some d∧(OkS d∧d.1=nT p)∧ ∀j,mem d j=true↔Rdd (nT p) p.2.2.1 (KB B) (TrB p B E) m j):
 Ok (Hf inc u) λr=>r.length=(trs p E B.length).length∧ ∀(i:Nat) (n:Nat) (s:Int) (m:Nat),(trs p E B.length)[i]? =some (((n:Int),s),(m:Int))→ ∃d,r[i]? =some d∧(OkS d∧d.1=nT p)∧ ∀j,mem d j=true↔Fol (nT p) p.2.2.1 (KB B) (TrB p B E) n s j:=by
 have hT:=H.sy.t1;have hl:=H.lens;have hnT:nT p=(p.1.length:Int):=rfl;have A:=H.aut;obtain⟨r,G,M,U⟩:=S7 (ll:=inc) (B:=u) (wide:=nT p) (by omega) (by omega) (by omega) (λl hl=>by have:=hI.few l hl;omega) (λk s hk=>by
  obtain⟨q,m,s',o,_⟩:=LA H (n:=k) (by have:=Bo hk;omega);have⟨d,I,w,_⟩:=L k _ _ _ o;rw[hk]at I;cases I;exact w)
 refine⟨r,G,M.trans T,λi n s m hi=> ?_⟩;have hlt:=Bo hi;have hr:=gO (l:=r) (i:=i) (by omega);have⟨V,W,X⟩:=U i _ hr;refine⟨_,hr,⟨V,W⟩,λj=> ?_⟩;rw[X];have tr:∀ {i n m:Nat} {s:Int},(trs p E B.length)[i]? =some (((n:Int),s),(m:Int))→nT p≤s∧TrB p B E n s m:=λ{i n m s} h=>by
  obtain⟨n',s',m',o,I,w⟩:=(K9 H.vp H.fin).1 (gQ h);have C:=(Prod.mk.inj (Prod.mk.inj o).1).1;have f:=(Prod.mk.inj (Prod.mk.inj o).1).2;have D:=(Prod.mk.inj o).2
  have:n=n':=by omega
  subst this
  have:m=m':=by omega
  subst this;subst f;exact⟨I,w⟩
 constructor
 ·rintro⟨z,hz,hj⟩;have key:∀(v z:Int),Dg.Reach inc (u.length:Int) v z→mem (gv u z) j=true→ ∀(i n:Nat) (s:Int) (m:Nat),v=(i:Int)→(trs p E B.length)[i]? =some (((n:Int),s),(m:Int))→Fol (nT p) p.2.2.1 (KB B) (TrB p B E) n s j:=by
   intro v z hv
   induction hv with
   |refl v=>
    intro hj i n s m hv hi;subst hv;have⟨d,o,_,w⟩:=L i _ _ _ hi;rw[Ph o]at hj;exact .read (tr hi).2 ((w j).1 hj)
   | @step x y z hy _ ih=>
    intro hj i n s m hv hi;subst hv;have⟨w1,Q,w3,w4⟩:=NH.1 hy;have hil:i<inc.length:=by omega
    have hrow:=gO hil;rw[gT,hrow]at Q;obtain⟨n',k',i',rfl,_,q,m',r,c,R,J,N,Y,Z,O,j7⟩:=(hI.mem i _ hrow y).1 Q;have hn':n'< (trs p E B.length).length:=by have:=Bo R;rwa [iX]at this
    have⟨q2,P,s2,C,f,D,K⟩:=LA H hn';rw[R]at f;have F:=(Prod.mk.inj (Option.some.inj f)).1;have S:=(Prod.mk.inj (Option.some.inj f)).2
    have:q=q2:=by omega
    subst this;subst S;have⟨a0,hit⟩:=A.starts H.gr J K;have hq:SB B q:=(A.st K).1;have hpt:=A.part H.gr hq J hit (l:=r.2.1.take i') (l':=r.2.1.drop i') (lJ _ _).symm O;rw[kT,Nat.min_eq_left (by have:=Bo N;omega)]at hpt;have⟨mm,c1,c2⟩:=A.step H.gr (A.at0 hq O) hpt J N;have⟨kk,d1,d2⟩:=Pg H hN Z c1;rw[j7]at d2
    have:kk=i:=by have:=Option.some.inj d2;omega
    subst this;rw[hi]at d1;have d1:=Option.some.inj d1;have G:=(Prod.mk.inj (Prod.mk.inj d1).1).1;have M:=(Prod.mk.inj (Prod.mk.inj d1).1).2;have G:n=m':=by omega
    subst G;subst M;exact .incl (tr hi).2 J (G2 N) Y hit O (ih hj n' q r.1 P rfl C)
  exact key _ _ hz hj i n s m rfl hi
 ·intro h;have key:∀ {n:Nat} {s j:Int},Fol (nT p) p.2.2.1 (KB B) (TrB p B E) n s j→ ∀(i m:Nat),(trs p E B.length)[i]? =some (((n:Int),s),(m:Int))→L5 inc (u.length:Int) u (i:Int) j:=by
   intro n s j h
   induction h with
   |read C f=>
    intro i m hi
    have:=A.fn C (tr hi).2
    subst this;have⟨d,o,_,w⟩:=L i _ _ _ hi;exact⟨_,.refl _,by rw[Ph o];exact(w _).2 f⟩
   | @incl n m0 q k a t r b g C f D K a5 a6 a7 ih=>
    intro i m hi;obtain⟨P,a8⟩:=a7.tr;have hL:nT p≤r.1:=(H.sy.left r (gQ f)).1;obtain⟨i',F,S⟩:=Pg H hN hL a8;refine L5.back (.step (NH.2 ⟨by have:=Bo hi;have:=hI.len;omega,?_,by omega,by have:=Bo F;omega⟩) (.refl _)) (ih i' P F);have hil:i<inc.length:=by have:=Bo hi;have:=hI.len;omega
    have hrow:=gO hil;rw[gT,hrow];refine(hI.mem i _ hrow _).2 ⟨i',k,b.length,rfl,.inl (Bo F),q,n,r,a,by rw[jJ,F];rfl,f,by rw[D];simp,λs hs=>K s ?_,(tr hi).1,by rw[D];simpa using a6,?_⟩
    ·rw[D]at hs;have e:(b++a::g).drop (b.length+1)=g:=by simp
     rwa [e]at hs
    ·exact hN.at_ i _ (by rw[jJ,hi];rfl)
  exact key h i m hi
end
section
variable {p:dtP}{B:List dtK}{E:List (List Edge)}{fa:dtF}{tt:Int}{steps:List Stp}{o1 o2:Option Nat}
theorem YK (H:Fin p B E) {l:gM}{n m:Nat}(hn:n<B.length) (h:Pth (TrB p B E) n l m):Walk p.2.2.1 B E (n:Int) l (m:Int):=(X7 H hn).2 h
theorem Zg (H:D7 p B E fa) {n m:Nat}{l:gM}(hn:n<B.length) (hl:l.length≤1000000) (h:Pth (TrB p B E) n l m):Bt (DA p B E tt) (n:Int) l=some (m:Int):=by
 have⟨x,a,b,_⟩:=ZQ (t:=tt) H.vp H.fin hn hl;rw[a,Walk.unique H.fin b (YK H.fin hn h)]
def QA (p:dtP) (B:List dtK) (E:List (List Edge)) (n k:Nat) (key:At) (q:Nat) (r:Ax):Prop:=
 ((trs p E B.length).map (·.1))[n]? =some ((q:Int),r.1)∧p.2.2.1[k]? =some r∧ ∃w:Nat,Pth (TrB p B E) q r.2.1 w∧key=((w:Int),(k:Int))
structure GiI (p:dtP) (B:List dtK) (E:List (List Edge)) (n k:Nat) (L:LkL):Prop where
 some_:∀key d,BT key L=some d→(OkS d∧d.1=nT p)∧(∃n' k' q r,Bef n k 0 n' k' 0∧QA p B E n' k' key q r)∧ ∀j,mem d j=true↔∃n' k' q r,Bef n k 0 n' k' 0∧QA p B E n' k' key q r∧Fol (nT p) p.2.2.1 (KB B) (TrB p B E) q r.1 j
 none_:∀key,BT key L=none→ ∀n' k' q r,Bef n k 0 n' k' 0→ ¬QA p B E n' k' key q r
theorem FT {n k n' k':Nat}:Bef n (k+1) 0 n' k' 0↔Bef n k 0 n' k' 0∨(n'=n∧k'=k):=by
 unfold Bef;omega
theorem GiI.same {n k e f:Nat}{L:LkL}(h:GiI p B E n k L) (hb:∀n' k' key q r,QA p B E n' k' key q r→(Bef n k 0 n' k' 0↔Bef e f 0 n' k' 0)):GiI p B E e f L:=by
 refine⟨λkey d hk=> ?_,λkey hk n' k' q r hb' hg=>h.none_ key hk n' k' q r ((hb _ _ _ _ _ hg).2 hb') hg⟩;obtain⟨i,⟨n',k',q,r,l,g⟩,m⟩:=h.some_ key d hk;refine⟨i,⟨n',k',q,r,(hb _ _ _ _ _ g).1 l,g⟩,λj=> ?_⟩;rw[m];constructor
 ·rintro⟨n',k',q,r,a,b,c⟩;exact⟨n',k',q,r,(hb _ _ _ _ _ b).1 a,b,c⟩
 ·rintro⟨n',k',q,r,a,b,c⟩;exact⟨n',k',q,r,(hb _ _ _ _ _ b).2 a,b,c⟩
theorem YL (H:D7 p B E fa) {fo:List Ad}(hf:∀(i:Nat) (n:Nat) (s:Int) (m:Nat),(trs p E B.length)[i]? =some (((n:Int),s),(m:Int))→ ∃d,fo[i]? =some d∧(OkS d∧d.1=nT p)∧ ∀j,mem d j=true↔Fol (nT p) p.2.2.1 (KB B) (TrB p B E) n s j)
 {n k q m:Nat} {s:Int} (hn:(trs p E B.length)[n]? =some (((q:Int),s),(m:Int))) (ht:TrB p B E q s m) (hk:k<p.2.2.1.length) {L:LkL} (hL:GiI p B E n k L):
 Ok (Sv p (DA p B E tt) fo (n:Int) ((q:Int),s) (k:Int) L) (GiI p B E n (k+1)):=by
 have A:=H.aut;have hT:=H.sy.t1;have hnT:nT p=(p.1.length:Int):=rfl;have cl:=NG H.sy;have hr:=gO hk;obtain⟨r,hre⟩:∃r,p.2.2.1[k] =r:=⟨_,rfl⟩;rw[hre]at hr;have hst:((trs p E B.length).map (·.1))[n]? =some ((q:Int),s):=by rw[jJ,hn];rfl
 unfold Sv;refine AS hr (AR (λhc=>AB ?_) λhc=> ?_)
 ·refine hL.same λn' k' key q' r' hg=> ?_;rw[FT];constructor
  ·exact λg=>.inl g
  ·rintro(g | ⟨rfl,rfl⟩)
   ·exact g
   ·exfalso;obtain⟨e,f,_⟩:=hg;rw[hr]at f;cases f;rw[hst]at e
    have:=(Prod.mk.inj (Option.some.inj e)).2
    dsimp only at hc;rw[this]at hc;simp at hc
 ·have hsr:r.1=s:=by simpa using hc
  subst hsr;have⟨D,hit⟩:=A.starts H.gr hr ht;have hq:SB B q:=(A.st ht).1;have⟨w,hw,_⟩:=A.along H.gr hr hq hit (l:=r.2.1) rfl;have hsh:=H.sy.short r (gQ hr);refine AP (Zg H hq (by omega) hw) ?_;obtain⟨o,ho,⟨o1,o2⟩,v⟩:=hf n q r.1 m hn;have hget:QA p B E n k ((w:Int),(k:Int)) q r:=⟨hst,hr,w,hw,rfl⟩;have uniq:∀key q' r',QA p B E n k key q' r'→key=((w:Int),(k:Int))∧q'=q∧r'=r:=λkey q' r' hg=>by
   obtain⟨e,f,w',F,G⟩:=hg;rw[hr]at f;cases f;rw[hst]at e;have hqq:q=q':=by have:=(Prod.mk.inj (Option.some.inj e)).1;omega
   subst hqq
   have:=Pth.fn A hw F
   subst this;exact⟨G,rfl,rfl⟩
  refine AM (Q:=λL'=>∃d,BT ((w:Int),(k:Int)) L'=some d∧(OkS d∧d.1=nT p)∧(∀j,mem d j=true↔∃n' k' q' r',Bef n k 0 n' k' 0∧QA p B E n' k' ((w:Int),(k:Int)) q' r'∧Fol (nT p) p.2.2.1 (KB B) (TrB p B E) q' r'.1 j)∧ ∀key,key≠((w:Int),(k:Int))→BT key L'=BT key L) ?_ λL' hL'=> ?_
  ·cases hg:BT ((w:Int),(k:Int)) L with
   |none=>
    have⟨I,J,K,M,N⟩:=Dg.new_ok (nT p);refine BK rfl (AP J (AB ⟨I,by rw[DC,gF rfl],⟨K,M.trans cl⟩,λj=> ?_,λkey hne=>by rw[DC,gG hne]⟩));rw[N];constructor
    ·intro h;cases h
    ·rintro⟨n',k',q',r',a,b,_⟩;exact gI b (hL.none_ _ hg n' k' q' r' a)
   |some d=>
    have⟨t,x,u⟩:=hL.some_ _ d hg;exact Af rfl (AB ⟨d,hg,t,u,λ_ _=>rfl⟩)
  ·obtain⟨d,O,⟨y,z⟩,P,C⟩:=hL';refine AS ho (AP O (Bp ⟨y,o1⟩ (AB ?_)));have⟨R,S,T⟩:=Mw y o1;refine⟨λkey dd hkey=> ?_,λkey hkey n' k' q' r' hb hg=> ?_⟩
   ·rw[DC]at hkey;by_cases he:key=((w:Int),(k:Int))
    ·subst he;rw[gF rfl]at hkey;cases hkey;refine⟨⟨R,S.trans z⟩,⟨n,k,q,r,FT.2 (.inr ⟨rfl,rfl⟩),hget⟩,λj=> ?_⟩;rw[T,iH,iZ,P,v,z];constructor
     ·rintro(⟨n',k',q',r',a,b,c⟩|⟨h,_⟩)
      ·exact⟨n',k',q',r',FT.2 (.inl a),b,c⟩
      ·exact⟨n,k,q,r,FT.2 (.inr ⟨rfl,rfl⟩),hget,h⟩
     ·rintro⟨n',k',q',r',a,b,c⟩;rcases FT.1 a with a | ⟨rfl,rfl⟩
      ·exact .inl ⟨n',k',q',r',a,b,c⟩
      ·have⟨_,U,V⟩:=uniq _ _ _ b;subst U V;refine .inr ⟨c,gC ?_⟩
       have:=Nf o1 ((v j).2 c)
       omega
    ·rw[gG he,C key he]at hkey;obtain⟨t,⟨n',k',q',r',x,u⟩,W⟩:=hL.some_ key dd hkey;refine⟨t,⟨n',k',q',r',FT.2 (.inl x),u⟩,λj=> ?_⟩;rw[W];constructor
     ·rintro⟨n',k',q',r',a,b,c⟩;exact⟨n',k',q',r',FT.2 (.inl a),b,c⟩
     ·rintro⟨n',k',q',r',a,b,c⟩;rcases FT.1 a with a | ⟨rfl,rfl⟩
      ·exact⟨n',k',q',r',a,b,c⟩
      ·exact gI (uniq _ _ _ b).1 he
   ·rw[DC]at hkey;by_cases he:key=((w:Int),(k:Int))
    ·rw[gF he]at hkey;cases hkey
    ·rw[gG he,C key he]at hkey;rcases FT.1 hb with hb | ⟨rfl,rfl⟩
     ·exact hL.none_ key hkey n' k' q' r' hb hg
     ·exact he (uniq _ _ _ hg).1
structure bm (p:dtP) (B:List dtK) (E:List (List Edge)) (L:LkL):Prop where
 some_:∀key d,BT key L=some d→OkS d∧d.1=nT p∧ ∃s k:Nat,key=((s:Int),(k:Int))∧s<B.length∧k<p.2.2.1.length∧ ∀j,mem d j=true↔Lk (nT p) p.2.2.1 (KB B) (TrB p B E) s k j
 none_:∀(s k:Nat) j,BT ((s:Int),(k:Int)) L=none→k<p.2.2.1.length→ ¬Lk (nT p) p.2.2.1 (KB B) (TrB p B E) s k j
theorem Zh (H:D7 p B E fa) {fo:List Ad}(hf:∀(i:Nat) (n:Nat) (s:Int) (m:Nat),(trs p E B.length)[i]? =some (((n:Int),s),(m:Int))→ ∃d,fo[i]? =some d∧(OkS d∧d.1=nT p)∧ ∀j,mem d j=true↔Fol (nT p) p.2.2.1 (KB B) (TrB p B E) n s j):
 Ok (Qi p (DA p B E tt) fa ((trs p E B.length).map (·.1)) fo) (bm p B E):=by
 have hl:=H.lens;have A:=H.aut;have hkf:=H.sy.few;have hBf:=H.few;have hT:=H.sy.t1;have hnT:nT p=(p.1.length:Int):=rfl;have cl:=NG H.sy;obtain⟨X,z⟩:=H.zero;unfold Qi;rw[iX];refine BV (λn L=>GiI p B E n 0 L) (by omega) ⟨(λkey d h=>by cases h),λkey _ n' k' q r hb=>(by unfold Bef at hb;omega)⟩ (λn L hn hL=> ?_) λL hL=> ?_
 ·have⟨q,m,s,R,S,Y,T⟩:=LA H hn;refine AS S ?_;obtain⟨L',J,K⟩:=CL (f:=λk L=>Sv p (DA p B E tt) fo (n:Int) ((q:Int),s) k L) (n:=p.2.2.1.length) (λk L=>GiI p B E n k L) (by omega) (s:=L) hL λk L hk hL=>YL H hf R T hk hL;refine⟨L',J,K.same λn' k' key q r hg=> ?_⟩
  have:=Bo hg.2.1
  unfold Bef;omega
 ·refine AP (Pc H.fin) ?_;have conv:∀(w k:Nat) j,0<k→((∃n' k' q r,Bef (trs p E B.length).length 0 0 n' k' 0∧QA p B E n' k' ((w:Int),(k:Int)) q r∧Fol (nT p) p.2.2.1 (KB B) (TrB p B E) q r.1 j)↔Lk (nT p) p.2.2.1 (KB B) (TrB p B E) w k j):=λw k j hk=>by
   constructor
   ·rintro⟨n',k',q,r,_,⟨a,u,w',C,t⟩,h⟩;have J:w=w':=by have:=(Prod.mk.inj t).1;omega
    have K:k=k':=by have:=(Prod.mk.inj t).2;omega
    subst J K;obtain⟨m,hm⟩:=h.tr;exact .inr ⟨hk,q,m,r,u,hm,C,h⟩
   ·rintro(⟨e,_⟩|⟨_,q,m,r,a,u,C,t⟩)
    ·omega
    ·have hL:nT p≤r.1:=(H.sy.left r (gQ a)).1;obtain⟨i,hi⟩:=gV ((K9 H.vp H.fin).2 ⟨q,r.1,m,rfl,hL,u⟩);exact⟨i,k,q,r,.inl (Bo hi),⟨by rw[jJ,hi];rfl,a,w,C,rfl⟩,t⟩
  have pos:∀ {n' k':Nat} {key:At} {q:Nat} {r:Ax},QA p B E n' k' key q r→0<k':=λ{n' k' key q r} hg=>by
   obtain⟨a,u,_⟩:=hg;have hn':n'< (trs p E B.length).length:=by have:=Bo a;rwa [iX]at this
   have⟨M,U,V,v,c,G,N⟩:=LA H hn';rw[a]at c;have O:=(Prod.mk.inj (Option.some.inj c)).1;have y:=(Prod.mk.inj (Option.some.inj c)).2
   have:q=M:=by omega
   subst this;subst y;exact(A.starts H.gr u N).1
  refine CL (n:=B.length) (λi (L':LkL)=>(∀(w k:Nat),0<k→BT ((w:Int),(k:Int)) L'=BT ((w:Int),(k:Int)) L)∧(∀key d,BT key L'=some d→OkS d∧d.1=nT p∧ ∃s k:Nat,key=((s:Int),(k:Int))∧s<B.length∧k<p.2.2.1.length)∧
   (∀w:Nat,(∀d,BT ((w:Int),(0:Int)) L'=some d→(w<i∧It p.2.2.1 (KB B) w 0 1)∧ ∀j,mem d j=true↔j=0)∧(BT ((w:Int),(0:Int)) L'=none→w<i→ ¬It p.2.2.1 (KB B) w 0 1))) (by omega) (s:=L) ⟨λ_ _ _=>rfl,λkey d hk=> ?_,λw=>⟨λd hd=> ?_,λ_ h=>by omega⟩⟩ (λi L' hi hL'=> ?_) |>.elim λL' hL'=>⟨L',hL'.1,?_⟩
  ·obtain⟨⟨v,c⟩,⟨n',k',q,r,_,hg⟩,_⟩:=hL.some_ key d hk;obtain⟨a,u,w,C,t⟩:=hg;have hn':n'< (trs p E B.length).length:=by have:=Bo a;rwa [iX]at this
   have⟨M,U,V,O,y,Z,W⟩:=LA H hn';rw[a]at y;have c1:=(Prod.mk.inj (Option.some.inj y)).1
   have:q=M:=by omega
   subst this;exact⟨v,c,w,k',t,A.at0 (A.st W).1 C,Bo u⟩
  ·obtain⟨_,⟨n',k',q,r,_,hg⟩,_⟩:=hL.some_ _ d hd;have h0:=pos hg;obtain⟨_,_,w',_,t⟩:=hg
   have:=(Prod.mk.inj t).2
   omega
  ·obtain⟨D,I,l⟩:=hL';refine AM (Rk (tt:=tt) (steps:=(trs p E B.length).map (·.1)) (o1:=none) (o2:=none) H hi (k:=0) z) λb hb=> ?_;have hb:b=true↔It p.2.2.1 (KB B) i 0 1:=hb;refine AR (λhc=> ?_) λhc=>AB ⟨D,I,λw=>⟨λd hd=>⟨⟨by have:=((l w).1 d hd).1.1;omega,((l w).1 d hd).1.2⟩,((l w).1 d hd).2⟩,λhn hw hit=> ?_⟩⟩
   ·obtain⟨o,e,v,c,G⟩:=Dg.of_ok (nT p) [0] (by simp);refine AP e (AB ⟨λw k hk=> ?_,λkey d hd=> ?_,λw=>⟨λd hd=> ?_,λhn hw=> ?_⟩⟩)
    ·rw[DC,gG (λe=>by have:=(Prod.mk.inj e).2;omega)];exact D w k hk
    ·rw[DC]at hd;split at hd
     ·rename_i he
      cases hd;exact⟨v,c.trans cl,i,0,he,hi,Bo z⟩
     ·exact I key d hd
    ·rw[DC]at hd;split at hd
     ·rename_i he
      cases hd
      have:w=i:=by have:=(Prod.mk.inj he).1;omega
      subst this;refine⟨⟨by omega,hb.1 hc⟩,λj=> ?_⟩;rw[G,cl,iZ,gJ];constructor
      ·rintro⟨_,h⟩;simpa using h
      ·rintro rfl;exact⟨by omega,by simp⟩
     ·obtain⟨⟨g1,P⟩,Q⟩:=(l w).1 d hd;exact⟨⟨by omega,P⟩,Q⟩
    ·rw[DC]at hn;split at hn
     ·cases hn
     ·rename_i he
      have:w≠i:=λe=>he (by rw[e])
      exact(l w).2 hn (by omega)
   ·by_cases e:w=i
    ·subst e
     have:=hb.2 hit
     rw[hc]at this;cases this
    ·exact(l w).2 hn (by omega) hit
  ·obtain⟨_,D,I,l⟩:=hL';refine⟨λkey d hd=> ?_,λs k j hn hk=> ?_⟩
   ·obtain⟨v,c,s,k,rfl,G,N⟩:=I key d hd;refine⟨v,c,s,k,rfl,G,N,λj=> ?_⟩;rcases jD k with rfl | hk
    ·obtain⟨⟨_,P⟩,Q⟩:=(l s).1 d hd;rw[Q];constructor
     ·rintro rfl;exact .inl ⟨rfl,rfl,P⟩
     ·exact ZR
    ·rw[D s k hk]at hd;rw[((hL.some_ _ d hd).2.2 j),conv s k j hk]
   ·rcases jD k with rfl | F
    ·rintro(⟨_,_,h⟩|⟨h,_⟩)
     ·have hs:s<B.length:=by
       rcases jR s B.length with g | g
       ·exact g
       ·exfalso
        have:KB B s= []:=by unfold KB;rw[iO g]
        unfold It at h;rw[this]at h;have key:∀x,Cl p.2.2.1 [] x→False:=λx hx=>by
         induction hx with
         |base h=>cases h
         |step _ _ _ ih=>exact ih
        exact key _ h
      exact(l s).2 hn hs h
     ·omega
    ·rw[D s k F]at hn;intro h;obtain⟨n',k',q,r,O,y,_⟩:=(conv s k j F).2 h
     exact hL.none_ _ hn n' k' q r O y
theorem Zi {p:dtP}{B:List dtK}{E:List (List Edge)}{tt:Int}(H:∀fa,YD p fa→D7 p B E fa) (S:Sy p):Ok (U9 p (DA p B E tt)) λr=>∃d,r=some d∧d.p=p∧d.A=DA p B E tt∧YD p d.fa∧bm p B E d.L:=by
 unfold U9;refine AM (YE S) λfa hfa=> ?_;have H:=H fa hfa;have hl:=H.lens;have hBf:=H.few;refine AM (YH (tt:=tt) H.vp H.fin (by omega) (by omega)) λst hst=> ?_;obtain⟨c,num⟩:=st;obtain⟨rfl,hN⟩:=hst;dsimp only at hN ⊢;refine AM (YJ (tt:=tt) H) λrd hrd=> ?_;obtain⟨r1,e,r3⟩:=hrd;refine AM (TC (tt:=tt) H hN) λinc hinc=>AM (be H hN r1 e r3) λf a=>AM (bk H hN hinc a.1 a.2) λg b=>AM (Zh (tt:=tt) H b.2) λL hL=>AB ⟨_,rfl,rfl,rfl,hfa,hL⟩
end
section
variable {p:dtP}
theorem Pm (S:Sy p):Ba p=some ((p.1.length+p.2.1.length+1:Nat):Int):=by
 have hT:=S.t1;have hV:=S.v1;unfold Ba;congr 1;rw[w64 (n:=(p.1.length:Int)+(p.2.1.length:Int)) (by omega) (by omega),w64 (by omega) (by omega)];omega
def CS (l:List Bool):Nat:=l.countP λb=> !b
theorem Pn {l:List Bool}{i:Nat}(h:l[i]? =some false):CS (l.set i true)+1=CS l:=Gd h
theorem VK {l:List Bool}{i j:Nat}(h:(l.set i true)[j]? =some true):j=i∨l[j]? =some true:=by
 rw[hZ]at h;split at h
 ·rename_i e;exact .inl e.symm
 ·exact .inr h
theorem YM (S:Sy p):Ok (DN p) λl=>l.length=p.1.length+p.2.1.length+1∧ ∀s:Nat,l[s]? =some true→Pro (nT p) p.2.2.1 (s:Int):=by
 have hT:=S.t1;have hV:=S.v1;have hF:=S.few;have hnT:nT p=(p.1.length:Int):=rfl;unfold DN;refine AP (x:=((p.1.length+p.2.1.length+1:Nat):Int)) (Pm S) (AP (x:=jE (p.1.length+p.2.1.length+1) false) (by unfold Dh;rw[gF ⟨by omega,by omega⟩,gT]) ?_);refine BV (λk (l:List Bool)=>l.length=p.1.length+p.2.1.length+1∧ ∀s:Nat,l[s]? =some true→s<k) (by omega) ⟨by simp,λs h=> ?_⟩ (λk l hk hl=> ?_) λl hl=> ?_
 ·rw[jN]at h;split at h<;>simp at h
 ·refine ER (by omega) (by omega) (AB ⟨by simp[hl.1],λs h=> ?_⟩);rw[gT]at h;rcases VK h with h | h
  ·omega
  ·have:=hl.2 s h;omega
 ·obtain⟨t,u⟩:=hl;refine Bq (λ(z:Bool×List Bool)=>z.2.length=p.1.length+p.2.1.length+1∧ ∀s:Nat,z.2[s]? =some true→Pro (nT p) p.2.2.1 (s:Int)) (λz=>CS z.2 *2+(if z.1 then 1 else 0)) (λl=>l.length=p.1.length+p.2.1.length+1∧ ∀s:Nat,l[s]? =some true→Pro (nT p) p.2.2.1 (s:Int)) ⟨t,λs h=>.term (by omega) (by have:=u s h;omega)⟩ (λz hz=> ?_) λl hl=>AB hl;obtain⟨c,m⟩:=z;obtain⟨i,n⟩:=hz;dsimp only at i n ⊢;refine AR (λhc=> ?_) λhc=>As ⟨i,n⟩;subst hc;refine BV (λk (z:Bool×List Bool)=>z.2.length=p.1.length+p.2.1.length+1∧(∀s:Nat,z.2[s]? =some true→Pro (nT p) p.2.2.1 (s:Int))∧CS z.2≤CS m∧(z.1=true→CS z.2<CS m)) (by omega) ⟨i,n,iB _,by simp⟩ (λk z hk hz=> ?_) λz hz=>BJ ⟨⟨hz.1,hz.2.1⟩,?_⟩
  ·obtain⟨g,w⟩:=z;obtain⟨o,d,e,a⟩:=hz;dsimp only at o d e a ⊢;have hr:=gO hk;have hmem:=gY hk;obtain⟨r,hre⟩:∃r,p.2.2.1[k] =r:=⟨_,rfl⟩;rw[hre]at hr hmem;have hL:=S.left r hmem;have hR:=S.right r hmem;have hS:=S.short r hmem;refine Bq (λ(z:Int×Bool)=>∃j:Nat,z.1=(j:Int)∧j≤r.2.1.length∧(z.2=true→ ∀s∈r.2.1.take j,Pro (nT p) p.2.2.1 s)) (λz=>r.2.1.length - z.1.toNat) (λb=>b=true→ ∀s∈r.2.1,Pro (nT p) p.2.2.1 s) ⟨0,rfl,kZ _,by simp⟩ (λz hz=> ?_) λb hb=> ?_
   ·obtain⟨j',b⟩:=z;obtain⟨j,q,A,f⟩:=hz;dsimp only at q f ⊢;subst q;refine AS hr (AR (λhc=> ?_) λhc=>As ?_)
    ·have hlt:j<r.2.1.length:=by have:=gD hc;omega
     have hj:=gO hlt;have hs:=hR _ (gY hlt);refine AM (Q:=λb'=>b'=true→ ∀s∈r.2.1.take (j+1),Pro (nT p) p.2.2.1 s) (AR (λhb=> ?_) λhb=>AB (by simp)) λb' hb'=> ?_
     ·have hw:(r.2.1[j]).toNat<w.length:=by omega
      refine AS hr (AS hj (Ck hs.1 (gO hw) (AB λht s hs'=> ?_)));rcases(BY hj).1 hs' with h | rfl
      ·exact f hb s h
      ·have:=d _ (by rw[gO hw,ht])
       rwa [hO hs.1]at this
     ·refine BJ ⟨⟨j+1,by rw[w64 (by omega) (by omega)];omega,hlt,hb'⟩,?_⟩;rw[w64 (by omega) (by omega)];omega
    ·have:j=r.2.1.length:=by have:=gE hc;omega
     subst this;rw[iW (iB _)]at f;exact f
   ·have hw:r.1.toNat<w.length:=by omega
    have hwg:=gO hw;refine AM (Q:=λc=>c=true→b=true∧w[r.1.toNat]? =some false) (AR (λh=>AS hr (Ck (by omega) hwg (AB λh'=>⟨h,by rw[hwg];simpa using h'⟩))) λh=>AB (by simp)) λc hc=>AM (Q:=λ(z:Bool×List Bool)=>z.2.length=p.1.length+p.2.1.length+1∧(∀s:Nat,z.2[s]? =some true→Pro (nT p) p.2.2.1 (s:Int))∧CS z.2≤CS m∧(z.1=true→CS z.2<CS m)) (AR (λh=> ?_) λh=>AB ⟨o,d,e,a⟩) λz hz=>AB hz;have⟨v,y⟩:=hc h;have hfs:=Pn y;refine AS hr (ER (by omega) (by omega) (AB ⟨by simp[o],λs hs=> ?_,by dsimp only;omega,λ_=>by dsimp only;omega⟩));rcases VK hs with rfl | h
    ·rw[hO (by omega)];exact .rule hmem (hb v)
    ·exact d s h
  ·obtain⟨_,_,e,a⟩:=hz;obtain⟨g,w⟩:=z;dsimp only at e a ⊢;cases g with
   |true=>have:=a rfl;simp;omega
   |false=>simp;omega
theorem Zj (S:Sy p):Ok (DW p) λl=>l.length=p.1.length+p.2.1.length+1:=by
 have hT:=S.t1;have hV:=S.v1;have hF:=S.few;have hnT:nT p=(p.1.length:Int):=rfl;unfold DW;refine AP (x:=((p.1.length+p.2.1.length+1:Nat):Int)) (Pm S) (AP (x:=jE (p.1.length+p.2.1.length+1) false) (by unfold Dh;rw[gF ⟨by omega,by omega⟩,gT]) (AP (x:=((p.1.length+p.2.1.length+1:Nat):Int)) (Pm S) ?_));have o:gP .i64 (((p.1.length+p.2.1.length+1:Nat):Int) - 1)=((p.1.length+p.2.1.length:Nat):Int):=by rw[w64 (by omega) (by omega)];omega
 rw[o];refine ER (by omega) (by simp;omega)<|Bq (λ(z:Bool×List Bool)=>z.2.length=p.1.length+p.2.1.length+1) (λz=>CS z.2 *2+(if z.1 then 1 else 0)) (λl=>l.length=p.1.length+p.2.1.length+1) (by simp) (λz hz=> ?_) λl hl=>AB hl;obtain⟨c,m⟩:=z;dsimp only at hz ⊢;refine AR (λhc=> ?_) λhc=>As hz;subst hc;refine BV (λk (z:Bool×List Bool)=>z.2.length=p.1.length+p.2.1.length+1∧CS z.2≤CS m∧(z.1=true→CS z.2<CS m)) (by omega) ⟨hz,iB _,by simp⟩ (λk z hk hz=> ?_) λz hz=>BJ ⟨hz.1,?_⟩
 ·obtain⟨g,w⟩:=z;have hr:=gO hk;have hmem:=gY hk;obtain⟨r,hre⟩:∃r,p.2.2.1[k] =r:=⟨_,rfl⟩;rw[hre]at hr hmem;have hL:=S.left r hmem;have hR:=S.right r hmem;have hS:=S.short r hmem;refine Bq (λ(z:Int×Bool×List Bool)=>∃j:Nat,z.1=(j:Int)∧j≤r.2.1.length∧z.2.2.length=p.1.length+p.2.1.length+1∧CS z.2.2≤CS m∧(z.2.1=true→CS z.2.2<CS m)) (λz=>r.2.1.length - z.1.toNat) (λ(z:Bool×List Bool)=>z.2.length=p.1.length+p.2.1.length+1∧CS z.2≤CS m∧(z.1=true→CS z.2<CS m)) ⟨0,rfl,kZ _,hz⟩ (λz hz=> ?_) λb hb=>AB hb;obtain⟨j',b,w⟩:=z;obtain⟨j,i,s,a,d,e⟩:=hz;dsimp only at i a d e ⊢;subst i;refine AS hr (AR (λhc=> ?_) λhc=>As ⟨a,d,e⟩);have hlt:j<r.2.1.length:=by have:=gD hc;omega
  have hj:=gO hlt;have hs:=hR _ (gY hlt);have hw:r.1.toNat<w.length:=by omega
  have f:(r.2.1[j]).toNat<w.length:=by omega
  have hwg:=gO f;refine AM (Q:=λc=>c=true→w[(r.2.1[j]).toNat]? =some false) (AS hr (Ck (by omega) (gO hw) (AR (λh=>AS hr (AS hj (Ck hs.1 hwg (AB λh'=>by rw[hwg];simpa using h')))) λh=>AB (by simp)))) λc hc=> ?_;refine AM (Q:=λ(z:Bool×List Bool)=>z.2.length=p.1.length+p.2.1.length+1∧CS z.2≤CS m∧(z.1=true→CS z.2<CS m)) (AR (λh=> ?_) λh=>AB ⟨a,d,e⟩) λz hz=> ?_
  ·have hfs:=Pn (hc h);exact AS hr (AS hj (ER hs.1 (by omega) (AB ⟨by simp[a],by dsimp only;omega,λ_=>by dsimp only;omega⟩)))
  ·refine BJ ⟨⟨j+1,by rw[w64 (by omega) (by omega)];omega,hlt,hz⟩,?_⟩;rw[w64 (by omega) (by omega)];omega
 ·obtain⟨_,q,n⟩:=hz;obtain⟨g,w⟩:=z;dsimp only at q n ⊢;cases g with
  |true=>have:=n rfl;simp;omega
  |false=>simp;omega
theorem TD (S:Sy p):Ok (CF p) λr=>r.2=0→ ∀v:Nat,v<p.2.1.length→Pro (nT p) p.2.2.1 ((p.1.length+v:Nat):Int):=by
 have hT:=S.t1;have hV:=S.v1;unfold CF;refine AM (YM S) λl hl=>AM (Zj S) λl' hl'=> ?_;obtain⟨a,e⟩:=hl;have a:l.length=p.1.length+p.2.1.length+1:=a;have hl':l'.length=p.1.length+p.2.1.length+1:=hl';have c:gP .i64 (((p.1.length+p.2.1.length+1:Nat):Int) - 1)=((p.1.length+p.2.1.length:Nat):Int):=by rw[w64 (by omega) (by omega)];omega
 refine Bq (λz=>∃k:Nat,z=((p.1.length+k:Nat):Int)∧k≤p.2.1.length∧ ∀v,v<k→l[p.1.length+v]? =some true) (λz=>p.1.length+p.2.1.length - z.toNat)
  (λb=>(∃z,b= .done (z,18))∨(b= .next ()∧ ∀v,v<p.2.1.length→l[p.1.length+v]? =some true)) ⟨0,rfl,kZ _,λv hv=>by omega⟩ (λz hz=> ?_) λb hb=> ?_
 ·obtain⟨k,rfl,f,d⟩:=hz;refine AP (x:=((p.1.length+p.2.1.length+1:Nat):Int)) (Pm S) ?_;rw[c];refine AR (λhc=> ?_) λhc=>As (.inr ⟨rfl,λv hv=>d v (by have:=gE hc;omega)⟩);have hlt:k<p.2.1.length:=by have:=gD hc;omega
  have hg:=gO (l:=l) (i:=p.1.length+k) (by omega);refine AS hg (AR (λh=>As (.inl ⟨_,rfl⟩)) λh=>BJ ⟨⟨k+1,by rw[w64 (by omega) (by omega)];omega,hlt,λv hv=> ?_⟩,?_⟩)
  ·rcases iE.1 hv with hv | rfl
   ·exact d v hv
   ·rw[hg]
    have:l[p.1.length+v] =true:=by simpa using h
    rw[this]
  ·rw[w64 (by omega) (by omega)];omega
 ·rcases hb with⟨z,rfl⟩|⟨rfl,hb⟩
  ·exact AB λh=>by simp at h
  ·refine Bq (λz=>∃k:Nat,z=((p.1.length+k:Nat):Int)∧k≤p.2.1.length) (λz=>p.1.length+p.2.1.length - z.toNat)
    (λb=>(∃z,b= .done (z,17))∨b= .next ()) ⟨0,rfl,kZ _⟩ (λz hz=> ?_) λb hb'=> ?_
   ·obtain⟨k,rfl,f⟩:=hz;refine AP (x:=((p.1.length+p.2.1.length+1:Nat):Int)) (Pm S) ?_;rw[c];refine AR (λhc=> ?_) λhc=>As (.inr rfl);have hlt:k<p.2.1.length:=by have:=gD hc;omega
    have hg:=gO (l:=l') (i:=p.1.length+k) (by omega);refine AS hg (AR (λh=>As (.inl ⟨_,rfl⟩)) λh=>BJ ⟨⟨k+1,by rw[w64 (by omega) (by omega)];omega,hlt⟩,?_⟩);rw[w64 (by omega) (by omega)];omega
   ·rcases hb' with⟨z,rfl⟩|rfl
    ·exact AB λh=>by simp at h
    ·exact AB λ_ v hv=>e _ (hb v hv)
end
structure MkI (p:dtP) (B:List dtK) (E:List (List Edge)) (d:LkD) (tt:Int):Prop where
 all:D7 p B E d.fa
 dp:d.p=p
 dA:d.A=DA p B E tt
 lk:bm p B E d.L
theorem YN {nt nl:Nat}{p:dtP}(H:Pl nt nl p):Sy p:=by
 have hT:=H.terms.len;have hn:=H.nt5;have hv:=H.vars;have hr:=H.room;have hnT:nT p=(p.1.length:Int):=rfl;obtain⟨st,b,c,a⟩:=H.first;have each:∀r∈p.2.2.1,(nT p≤r.1∧r.1≤nT p+(p.2.1.length:Int))∧(∀s∈r.2.1,0≤s∧s<nT p+(p.2.1.length:Int))∧r.2.1.length≤1000:=λr hm=>by
  obtain⟨k,hk⟩:=gV hm;rcases jD k with rfl | h
  ·rw[a]at hk;cases hk;refine⟨⟨by dsimp only;omega,by dsimp only;omega⟩,λs hs=> ?_,by simp⟩
   have:s=st:=by simpa using hs
   omega
  ·have:=H.rules k r h hk
   have hl:=this.left;refine⟨⟨by omega,by omega⟩,λs hs=> ?_,by have:=this.few;omega⟩
   have:=this.right s hs
   omega
 exact⟨by omega,by omega,by omega,λr hm=>(each r hm).1,λr hm=>(each r hm).2.1,λr hm=>(each r hm).2.2⟩
theorem YO {nt nl:Nat}{p:dtP}(H:Pl nt nl p) (hp:∀v:Nat,v<p.2.1.length→Pro (nT p) p.2.2.1 ((p.1.length+v:Nat):Int)) {B:List dtK}{E:List (List Edge)}(hF:Fin p B E) (hB:B.length≤300) {fa:dtF}(hfa:YD p fa):D7 p B E fa:=by
 have hT:=H.terms.len;have hv:=H.vars;have hnT:nT p=(p.1.length:Int):=rfl;obtain⟨st,b,c,a⟩:=H.first;refine⟨H.vp,YN H,hF,aK H hp,hB,by omega,hfa,st,?_⟩;rw[a];congr 2;omega
theorem Zk {s:NT}(G:SmG s) (F:SmF 12 5 s):Ok (Cq s) λr=>∃(p:dtP) (nt nl:Nat),Bb s=some p∧Pl nt nl p∧((r.2.2.2.2.2.2.2.2=false∧((∃e,CF p=some e∧e.2≠0)∨ ∃n,¬Fit (held 300) (held 9000) (stM p n).1))∨(r.2.2.2.2.2.2.2.2=true∧ ∃(n:Nat) (d:LkD) (tt:Int),(stM p n).1.length≤n∧
 (r.1,r.2.1,r.2.2.1,r.2.2.2.1,r.2.2.2.2.1,r.2.2.2.2.2.1)=p∧r.2.2.2.2.2.2.1=some (DA p (stM p n).1 (stM p n).2 tt)∧r.2.2.2.2.2.2.2.1=some d∧MkI p (stM p n).1 (stM p n).2 d tt)):=by
 unfold Cq;have⟨p,a,nt,nl,hp⟩:=ZE G F.up;refine AP a ?_;have S:=YN hp;have⟨e,b,he⟩:=TD S;refine AP b<|AR (λhc=>AB ⟨p,nt,nl,a,hp,.inl ⟨rfl,.inl ⟨e,b,by simpa using hc⟩⟩⟩) λhc=> ?_;have f:e.2=0:=by simpa using hc
 have hpro:=he f;refine AM (Xn hp.vp hp.pos (st:=300) (it:=9000) (λn m hl=>by
  have:held 300=300:=by decide
  omega)) λr hr=> ?_
 rcases hr with⟨n,g,i,rfl⟩|⟨rfl,h⟩
 ·have H:=X5 hp.vp hp.pos g;have hB:(stM p n).1.length≤300:=by
   have:=i.1
   have e:held 300=300:=by decide
   omega
  have hpos:1≤(stM p n).1.length:=Bo H.zero;refine AM (Q:=λc=>c=false) (Af rfl (AP rfl (AP (Pc H) (AB ?_)))) λc hc=> ?_
  ·simp only[beq_eq_false_iff_ne];omega
  subst hc;refine Af rfl (AP rfl (AM (Zi (tt:=((tot (stM p n).1:Nat):Int)) (λfa hfa=>YO hp hpro H hB hfa) S) λl hl=> ?_));obtain⟨d,rfl,d1,d2,d3,d4⟩:=hl;exact AB ⟨p,nt,nl,a,hp,.inr ⟨rfl,n,d,_,g,rfl,rfl,rfl,YO hp hpro H hB d3,d1,d2,d4⟩⟩
 ·refine AM (Q:=λc=>c=true) (BK rfl (AB rfl)) λc hc=> ?_;subst hc;exact BK rfl (AB ⟨p,nt,nl,a,hp,.inl ⟨rfl,.inr h⟩⟩)
def FA (R:Rl) (l:List Item):gM:=(l.filter λx=>match R[x.1.toNat]? with
 |some r=>x.2==(r.2.1.length:Int)
 |none=>false).map (·.1)
section
variable {p:dtP}{B:List dtK}{E:List (List Edge)}{d:LkD}{tt:Int}
theorem LB (R:Rl) (l:List Item):(FA R l).length≤l.length:=by
 unfold FA;rw[iX];exact lH _ _
theorem MU {R:Rl}{l:List Item}{x:Item}{r:Ax}(h:R[x.1.toNat]? =some r):FA R (l++ [x])=if x.2=(r.2.1.length:Int) then FA R l++ [x.1] else FA R l:=by
 unfold FA;rw[kY,jU];by_cases e:x.2=(r.2.1.length:Int)
 ·rw[gF e];simp[h,e]
 ·rw[gG e];simp[h,e]
theorem WD (M:MkI p B E d tt) {n:Nat}{b:dtK}(hb:B[n]? =some b):Is (some d) (n:Int)=some (FA p.2.2.1 b.2.1):=by
 obtain⟨p',A',fa,steps,L⟩:=d;obtain⟨H,a,c,hL⟩:=M;dsimp only at H a c hL;subst a;subst c;have⟨g,e,h,i,j⟩:=H.fin.good H.vp hb;refine Ok.eq ?_;unfold Is DL;rw[gR];refine AP (Sz H.vp H.fin hb)<|BV (λk (z:gM)=>z=FA p'.2.2.1 (b.2.1.take k)) (by omega) (by simp[FA]) (λk z hk hz=> ?_) λz hz=>AB ?_
 ·subst hz;have hx:=gO hk;obtain⟨x,hxe⟩:∃x,b.2.1[k] =x:=⟨_,rfl⟩;rw[hxe]at hx;have⟨x0,x1,r,hr,f⟩:=e.ok x (gQ hx);have hd:(FA p'.2.2.1 (b.2.1.take k)).length≤10100:=by
   have:=LB p'.2.2.1 (b.2.1.take k)
   rw[kT]at this;omega
  refine AS hx (Ck x0 hr ?_);have hs:b.2.1.take (k+1)=b.2.1.take k++ [x]:=by rw[jY,hx];rfl
  rw[hs,MU hr];refine AM (Q:=λz=>z=if x.2=(r.2.1.length:Int) then FA p'.2.2.1 (b.2.1.take k) ++ [x.1] else FA p'.2.2.1 (b.2.1.take k)) (AR (λhc=> ?_) λhc=>AB ?_) λz hz=>AB hz
  ·rw[gF (eq_of_beq hc)];exact BI (by simp;omega) (AB rfl)
  ·rw[gG (by simpa using hc)]
 ·subst hz;rw[iW (iB _)]
theorem YP (M:MkI p B E d tt) {n:Nat}{b:dtK}(hb:B[n]? =some b) {k:Int}:k∈FA p.2.2.1 b.2.1↔∃(k':Nat) (r:Ax),k=(k':Int)∧p.2.2.1[k']? =some r∧It p.2.2.1 (KB B) n k' r.2.1.length:=by
 have H:=M.all;have⟨h,f,i,j,l⟩:=H.fin.good H.vp hb;unfold FA;rw[jA];constructor
 ·rintro⟨x,hx,rfl⟩;have⟨a,c⟩:=jS.1 hx;have⟨x0,x1,r,hr,g⟩:=f.ok x a;rw[hr]at c;refine⟨x.1.toNat,r,by omega,hr,?_⟩;have e:x=((x.1.toNat:Int),(r.2.1.length:Int)):=mF (by simp only;omega) (eq_of_beq c);unfold It;rw[←e];exact(Fo H.vp H.fin hb x).1 a
 ·rintro⟨k',r,rfl,hr,hi⟩;refine⟨((k':Int),(r.2.1.length:Int)),jS.2 ⟨(Fo H.vp H.fin hb _).2 hi,?_⟩,rfl⟩;dsimp only;rw[gT,hr];simp
theorem Zl (M:MkI p B E d tt) {s k:Nat}(hk:k<p.2.2.1.length):Ok (NC (some d) (s:Int) (k:Int)) λt=>(∀j,j∈t↔Lk (nT p) p.2.2.1 (KB B) (TrB p B E) s k j)∧t.length≤64000:=by
 obtain⟨p',A',fa,steps,L⟩:=d;obtain⟨H,a,b,hL⟩:=M;dsimp only at H a b hL;subst a;subst b;unfold NC;rw[gR];dsimp only;cases hg:BT ((s:Int),(k:Int)) L with
 |none=>exact AB ⟨λj=>⟨(λh=>by cases h),λh=>gI h (hL.none_ s k j hg hk)⟩,by simp⟩
 |some x=>
  obtain⟨c,g,s',k',e,_,_,f⟩:=hL.some_ _ _ hg;have a:s=s':=by have:=(Prod.mk.inj e).1;omega
  have b:k=k':=by have:=(Prod.mk.inj e).2;omega
  subst a b;dsimp only;rw[H6 c];refine AB ⟨λj=>by rw[E6 c,f],?_⟩;have i:=Nw x;have l:=c.len;have m:=c.hi;omega
end
end Go.Proofs.YtkfgeafgfeppfaaGreatDoor
namespace Go.Proofs.YtkfgeafgfeppfaaGreatDoor
open Go Go.Eng
noncomputable def EO:Option Bool:=(GE).bind λt1=>(Cq (t1.1,t1.2.1,t1.2.2.1,t1.2.2.2.1,t1.2.2.2.2.1,t1.2.2.2.2.2.1,t1.2.2.2.2.2.2)).bind λt2=>(cond (!t2.2.2.2.2.2.2.2.2) (some true) (some ((t2.2.2.1.length:Int) !=6))).bind λg=>cond g (some false) (t2.2.2.2.2.2.2.1.bind λb=>(BA b 0 5).bind λa=>(cond (decide (a>0)) ((Is t2.2.2.2.2.2.2.2.1 a).bind λh=>(Be h ([(5:Int)]:gM)).bind λc=>cond c ((NC t2.2.2.2.2.2.2.2.1 a 5).bind λd=>(Be d ([(0:Int)]:gM)).bind λe=>cond e ((K7 t2.2.2.2.2.2.2.2.1 a 5).bind λf=>some ((f.length:Int)==1)) (some false)) (some false)) (some false)).bind λi=>some i)
theorem JI {φ:AD}{h:AE}{F:List Chk}(gk:OF φ) (G:St φ (F) h) {r:Bool}(hd:EO=some r):
 CallsH iA 4 [] h (Ap λv h'=>∃ψ:AD,∃y:Bool,Sub φ ψ∧v=fR.val y∧y=r∧St ψ (F) h'):=by
 refine AY mixed Tryz.func4 (Iy ..) ?_;have⟨c7,s,hd⟩:=bS hd;refine AK (I5 G s) ?_;rintro _ c8 ⟨c9,t1,ch,cl,cm,cp,cs,cw,rfl,rfl,u,w,x,z,a0,H⟩;refine⟨t1,rfl,?_⟩;have⟨cx,I,hd⟩:=bS hd;refine AK (Fb (small_0:=(t1.1,t1.2.1,t1.2.2.1,t1.2.2.2.1,t1.2.2.2.2.1,t1.2.2.2.2.2.1,t1.2.2.2.2.2.2.1,())) (gk.mono sb) u w x z a0 H I) ?_;rintro _ d0 ⟨e,t2,d1,d2,d3,d4,d5,d6,d7,i,d8,rfl,rfl,d9,da,J,db,dc,dd,K,L⟩;refine⟨t2,rfl,?_⟩;have M:=J.length;refine AV (vs:=[.slice none 0 0,.slice none 0 0,.slice none 0 0,.slice none 0 0,.slice none 0 0,.slice none 0 0]) L λr3 de N=>AQ N rfl rfl λdf O=>AQ O rfl rfl λdg P=>AQ P rfl rfl λdh ad=>AQ ad rfl rfl λdi al=>AQ al rfl rfl λdj ap=>AQ ap rfl rfl λdk f=> ?_;have⟨ax,d,hd⟩:=bS hd;refine Aa (λy w_ g=>∃ψ:AD,Sub e ψ∧y.1=g∧St ψ (cW 32 r3 [sv t2.1.1,sv t2.1.2.1,sv t2.1.2.2.1,sv t2.1.2.2.2.1,sv t2.1.2.2.2.2.1,sv t2.1.2.2.2.2.2.1]::⟨E9,[.pointer t2.2.2.1],i⟩::F) w_) (g:=ax) ?_ ?_
 ·refine AH d rfl (λ_ d=> ?_) (λ_ d=> ?_)
  ·have Q:=f.at1;obtain rfl:=iS d;exact AO (true,()) rfl ⟨e,sb,rfl,Q.at1⟩
  refine AA f rfl ?_;have R:=f.at1.at1;obtain rfl:=iS d;exact AO (((t2.1.2.2.1.2.1:Int) !=(6:Int)),()) rfl ⟨e,sb,(by rw[M]),R⟩
 rintro z4 dl ⟨j,dm,rfl,k⟩;refine AH hd rfl (λ_ hd=> ?_) (λ_ hd=> ?_)
 ·obtain rfl:=iS hd;exact AC ⟨j,false,sb,rfl,rfl,k.tail.tail⟩
 have⟨dn,S,hd⟩:=bS hd;have⟨dp,T,hd⟩:=bS hd;refine AK (De (((K.up (ψ:=j))).get S) k T) ?_;rintro _ dq ⟨m,U,dr,rfl,rfl,o⟩;refine⟨U,rfl,?_⟩;have⟨V,c,hd⟩:=bS hd;refine Aa (λy w_ g=>∃ψ:AD,Sub m ψ∧y.1=g∧St ψ (cW 32 r3 [sv t2.1.1,sv t2.1.2.1,sv t2.1.2.2.1,sv t2.1.2.2.2.1,sv t2.1.2.2.2.2.1,sv t2.1.2.2.2.2.2.1]::⟨E9,[.pointer t2.2.2.1],i⟩::F) w_) (g:=V) ?_ ?_
 ·refine AH c rfl (λ_ c=> ?_) (λ_ c=> ?_)
  ·have W:=o.at1;have⟨ds,X,c⟩:=bS c;refine AK (PT W X) ?_;rintro _ dt ⟨du,Y,dv,dw,rfl,rfl,Z,b8⟩;refine⟨Y,rfl,?_⟩;refine AV (vs:=[.int .i64 (5:Int)]) b8 λr9 dx b9=> ?_;have ba:=lF (r:=(jB .i64)) (l:=([(5:Int)]:gM)) (n:=1) b9 (.cons (a:=[_]) rfl .nil) rfl (by decide);have⟨dy,dz,bb,bd⟩:=iG (t:=((some ⟨r9,0,none⟩,1,1):Slc)) ba;have⟨e0,bf,c⟩:=bS c;refine AK (C3 Z.up bb bd bf) ?_;rintro _ e1 ⟨bg,B,e2,rfl,rfl,p⟩;refine⟨B,rfl,?_⟩;refine AH c rfl (λ_ c=> ?_) (λ_ c=> ?_)
   ·have⟨e3,bi,c⟩:=bS c;refine AK (Sw (gk.b.mono sb) p bi) ?_;rintro _ e4 ⟨e5,C,e6,e7,rfl,rfl,bj,bl⟩;refine⟨C,rfl,?_⟩;refine AV (vs:=[.int .i64 (0:Int)]) bl λD e8 bn=> ?_;have bp:=lF (r:=(jB .i64)) (l:=([(0:Int)]:gM)) (n:=1) bn (.cons (a:=[_]) rfl .nil) rfl (by decide);have⟨e9,ea,bq,bs⟩:=iG (t:=((some ⟨D,0,none⟩,1,1):Slc)) bp;have⟨eb,bt,c⟩:=bS c;refine AK (C3 bj.up bq bs bt) ?_;rintro _ ec ⟨bx,E,ed,rfl,rfl,q⟩;refine⟨E,rfl,?_⟩;refine AH c rfl (λ_ c=> ?_) (λ_ c=> ?_)
    ·have⟨ee,bz,c⟩:=bS c;refine AK (PU q bz) ?_;rintro _ ef ⟨c0,A,eg,eh,rfl,rfl,c1,c2⟩;refine⟨A,rfl,?_⟩;have c3:=c1.length;have c4:=c2.at1;obtain rfl:=iS c;exact AO (((A.2.1:Int)==(1:Int)),()) rfl ⟨c0,sb,(by rw[c3]),c4⟩
    obtain rfl:=iS c;exact AO (false,()) rfl ⟨bx,sb,rfl,q.at1⟩
   obtain rfl:=iS c;exact AO (false,()) rfl ⟨bg,sb,rfl,p.at1⟩
  obtain rfl:=iS c;exact AO (false,()) rfl ⟨m,sb,rfl,o.at1.at1⟩
 rintro z7 ei ⟨c5,ej,rfl,c6⟩;obtain rfl:=iS hd;exact AC ⟨c5,z7.1,sb,rfl,rfl,c6.tail.tail⟩
theorem UV:EO=some true:=by kernel_rfl
end Go.Proofs.YtkfgeafgfeppfaaGreatDoor
namespace Go.Proofs.YtkfgeafgfeppfaaGreatDoor
open Go Go.Eng Dg
section
variable {p:dtP}{B:List dtK}{E:List (List Edge)}{d:LkD}{tt:Int}
end
theorem aL:Fv iA 93 93 68 1:=⟨lX,.inl lX,⟨Tryz.t68,by kernel_rfl,rfl,⟨_,rfl,rfl⟩,by decide,by decide⟩,by decide⟩
abbrev rB (us:List Slc) (A:List (List Bool)):List Chk:=N8 4 gX us A
theorem VL {us:List Slc}{A:List (List Bool)}(h:us.length=A.length) (u:Slc) (l:List Bool):rB (us++ [u]) (A++ [l])=rB us A++ [cR 4 gX u l]:=by
 unfold rB N8;rw[List.zipWith_append h];rfl
section
variable {φ ψ:AD}{h:AE}{F:List Chk}{t:Slc×Slc×Slc×Slc×Slc×Slc×Unit}{p:dtP}
theorem II (k:PlK φ t p) (o:St φ F h) {r:List (List Bool)}(hd:Ce p=some r):
 CallsH iA 51 [.agg #[.slice t.1.1 t.1.2.1 t.1.2.2,.slice t.2.1.1 t.2.1.2.1 t.2.1.2.2,.slice t.2.2.1.1 t.2.2.1.2.1 t.2.2.1.2.2,.slice t.2.2.2.1.1 t.2.2.2.1.2.1 t.2.2.2.1.2.2,.slice t.2.2.2.2.1.1 t.2.2.2.2.1.2.1 t.2.2.2.2.1.2.2,.slice t.2.2.2.2.2.1.1 t.2.2.2.2.2.1.2.1 t.2.2.2.2.2.1.2.2]] h
  (Ap λv h'=>∃(ψ:AD) (y:Slc) (us:List Slc),Sub φ ψ∧v=fP.val y∧us.length=r.length∧Ro.SliceIs jF ψ y us∧St ψ (rB us r++F) h'):=by
 refine Av mixed Tryz.func51 ?_;rw[I2];unfold GD;unfold Ce at hd;have⟨l,hl,hd⟩:=bS hd;obtain rfl:=iS hd;have q:t.1.2.1=p.1.length:=k.k0.length;have s:t.2.1.2.1=p.2.1.length:=k.k1.length;refine AV (vs:=plV t) o ?_;intro r1 D c;have⟨d,f,cB,c⟩:=mJ c;refine Ag (λ(y:Int×Slc×Unit) w (g:List (List Bool))=>∃ψ us,Sub d ψ∧us.length=g.length∧St ψ (cR 68 jF y.2.1 us::(rB us g++F)) w) (g:=l) ?_ ?_
 ·refine CA hl (λ(y:Int×Slc×Unit) w (g:Int×List (List Bool))=>y.1=g.1∧ ∃ψ us,Sub d ψ∧us.length=g.2.length∧St ψ (cR 68 jF y.2.1 us::(rB us g.2++F)) w) ((0:Int),((none,0,0):Slc),()) rfl ⟨rfl,d,[],iT _,rfl,St.nil _ _ c⟩ ?_;rintro y w ⟨gi,gl⟩ e ⟨hy,ψ,us,le,hu,st⟩ he hb;dsimp only at hy hu st he;subst hy;refine AG (x:=t.2.1) (B7 (cB.mono le) st (j:=1) rfl) rfl<|AH he (by rw[s]) (λ_ he=> ?_) (λ_ he=> ?_)
  ·have⟨row,hrow,he⟩:=bS he;obtain⟨gl',hgl,he⟩:=bS he;obtain rfl:=iS he;refine AG (x:=t.1) (B7 (cB.mono le) st (j:=0) rfl) rfl<|Er (r:=gX) (x:=false) Iq st rfl rfl (by rw[q];exact hrow) ?_;intro b E u;refine AV (vs:=[sv b]) u ?_;intro G H n;have cw:=jP n;obtain⟨hap,rfl⟩:=Gq hgl hu b;refine AX (r:=jF) (ms:=[b]) aL (n.at2) rfl cw (.cons (a:=[_]) rfl .nil) rfl hap ?_;intro z I A;refine AZ (gP .i64 (y.1+(1:Int)),z,()) _ rfl rfl ⟨rfl,ψ,us++ [b],le,by simp[hu],?_⟩;dsimp only;rw[VL hu,iJ];exact A.at1.tail.perm (gU _ (iU (l₁:=rB us gl)).symm)
  ·obtain rfl:=iS he;obtain rfl:=hb _ rfl;exact AI (AL y rfl ⟨ψ,us,le,hu,st⟩)
 ·rintro y w ⟨ψ,us,le,hu,st⟩;have⟨B,i,C,m⟩:=iG (t:=y.2.1) st;exact AC ⟨B,y.2.1,us,(f.trans le).trans i,rfl,hu,C,m⟩
end
section
variable {φ ψ:AD}{h:AE}{F:List Chk}{t:Slc×Slc×Slc×Slc×Slc×Slc×Unit}{p:dtP}
theorem YQ {a:Slc}{l:List Bool}(e:St φ (cR 4 gX a l::F) h) (hl:l.length≤1000000):
 CallsH iA 53 [.slice a.1 a.2.1 a.2.2,.slice a.1 a.2.1 a.2.2] h (Ap λv h'=>v=fR.val false∧St φ (cR 4 gX a l::F) h'):=by
 refine Av mixed Tryz.func53 ?_;rw[EM];unfold Gy;have j:a.2.1=l.length:=e.rowLen;have hf:forS (σ:=Unit) (0:Int) (l.length:Int) () (λ_ _=>some ())=some ():=by
  obtain⟨s,hs,_⟩:=CL (σ:=Unit) (f:=λ_ _=>some ()) (n:=l.length) (λ_ _=>True) (by omega) (s:=()) trivial (λi s k _=>⟨(),rfl,trivial⟩);rw[hs]
 refine Ag (λ(y:Int×Bool×Unit) w (_:Unit)=>y.2.1=false∧St φ (cR 4 gX a l::F) w) (g:=()) ?_ ?_
 ·refine By hf (λi (y:Int×Bool×Unit) w (_:Unit)=>y.1=i∧y.2.1=false∧St φ (cR 4 gX a l::F) w) ((0:Int),false,()) rfl ⟨rfl,rfl,e⟩ ?_ ?_
  ·rintro _ z w _ _ ⟨rfl,hz,st⟩ he k hlt hw;refine Ac (by rw[j];exact gC hlt) ?_;obtain⟨x,hx⟩:∃x,idx l z.1=some x:=⟨l[z.1.toNat]'(by omega),by unfold idx;rw[gF k];exact gO _⟩;refine Aa (λ(y:Bool×Unit) w (_:Unit)=>y.1=false∧St φ (cR 4 gX a l::F) w) (g:=()) ?_ ?_
   ·refine NS st hx ?_;cases x
    ·exact AU rfl (AO (false,()) rfl ⟨rfl,st⟩)
    ·refine Ac rfl (NS st hx ?_);exact AO (false,()) rfl ⟨rfl,st⟩
   ·rintro y o ⟨hy,b⟩;refine Aa (λ(y:Bool×Unit) w (_:Unit)=>y.1=false∧St φ (cR 4 gX a l::F) w) (g:=()) ?_ ?_
    ·exact AU hy (AO (z.2.1,()) rfl ⟨hz,b⟩)
    ·rintro m p ⟨c,d⟩;exact AZ (gP .i64 (z.1+(1:Int)),m.1,()) _ rfl rfl ⟨hw,c,d⟩
  ·rintro _ z w ⟨rfl,hz,st⟩ hge;refine AU (by rw[j];exact gB (jL.2 hge))<|AI (AL (z.1,z.2.1,()) rfl ⟨hz,st⟩)
 ·rintro z w ⟨hz,st⟩;exact AC ⟨by rw[hz];rfl,st⟩
abbrev Da (r:Nat) (n f g:Slc) (c:Int) (null:List Bool) (us:List Slc) (A:List (List Bool)) (vs:List Slc) (B:List (List Bool)):List Chk:=
 cR 4 gX n null::(rB us A++(rB vs B++ [⟨lO 136,[.pointer (fH r)],[sv n,sv f,sv g,.int .i64 c]⟩]))
variable {r:Nat}{n f g:Slc}{c:Int}{null:List Bool}{us vs:List Slc}{A B:List (List Bool)}
theorem cy (c:Int):∃rest,∀c' F,(Da r n f g c' null us A vs B++F).Perm (⟨lO 136,[.pointer (fH r)],[sv n,sv f,sv g,.int .i64 c']⟩::(rest++F)):=by
 refine⟨cR 4 gX n null::(rB us A++rB vs B),λc' F=> ?_⟩;have e:Da r n f g c' null us A vs B++F=(cR 4 gX n null::(rB us A++rB vs B)) ++(⟨lO 136,[.pointer (fH r)],[sv n,sv f,sv g,.int .i64 c']⟩::F):=by
  simp[Da,iJ]
 rw[e];exact iU
theorem EP (st:St φ (Da r n f g c null us A vs B++F) h) {j:Nat}{v:Value}(hv: [sv n,sv f,sv g,.int .i64 c][j]? =some v):BW h ⟨r,j,none⟩=some v:=by
 have⟨rest,hp⟩:=cy (r:=r) (n:=n) (f:=f) (g:=g) (null:=null) (us:=us) (A:=A) (vs:=vs) (B:=B) c;exact(st.perm (hp c F)).cell hv
theorem Ge {α:Type}{l:List α}{k:Nat}{x:α}(h:l[k]? =some x):l.set k x=l:=by
 refine lV λi=> ?_;rw[hZ];split
 ·next e=>subst e;rw[h];simp[(gS.1 h).1]
 ·rfl
theorem Nx {us:List Slc}{A:List (List Bool)}{k:Nat}{u:Slc}{l:List Bool}(hu:us[k]? =some u) (hA:A[k]? =some l):∃rest,(rB us A).Perm (cR 4 gX u l::rest)∧ ∀l',(rB us (A.set k l')).Perm (cR 4 gX u l'::rest):=by
 have⟨rest,a,b⟩:=Kt (f:=cR 4 gX) hu hA;refine⟨rest,a,λl'=> ?_⟩
 have:=b u l'
 rwa [Ge hu]at this
theorem cz {k:Nat}{u:Slc}{l:List Bool}(hu:us[k]? =some u) (hA:A[k]? =some l):∃rest,∀F,(Da r n f g c null us A vs B++F).Perm (cR 4 gX u l::(rest++F))∧ ∀l',(Da r n f g c null us (A.set k l') vs B++F).Perm (cR 4 gX u l'::(rest++F)):=by
 have⟨rest,a,b⟩:=Nx hu hA;refine⟨cR 4 gX n null::(rest++(rB vs B++ [⟨lO 136,[.pointer (fH r)],[sv n,sv f,sv g,.int .i64 c]⟩])),λF=>⟨?_,λl'=> ?_⟩⟩
 ·exact(gW F (gU _ (gW _ a))).trans (iD _ _ _)
 ·exact(gW F (gU _ (gW _ (b l')))).trans (iD _ _ _)
theorem bo {k:Nat}{u:Slc}{l:List Bool}(hu:vs[k]? =some u) (hB:B[k]? =some l):∃rest,∀F,(Da r n f g c null us A vs B++F).Perm (cR 4 gX u l::(rest++F))∧ ∀l',(Da r n f g c null us A vs (B.set k l') ++F).Perm (cR 4 gX u l'::(rest++F)):=by
 have⟨rest,a,b⟩:=Nx hu hB;have key:∀(X:List Chk) (x:Chk) (T:List Chk),(cR 4 gX n null::(rB us A++((x::rest) ++T))).Perm (x::(cR 4 gX n null::(rB us A++(rest++T)))):=λX x T=>
  (gU _ iU).trans (iD _ _ _)
 refine⟨cR 4 gX n null::(rB us A++(rest++ [⟨lO 136,[.pointer (fH r)],[sv n,sv f,sv g,.int .i64 c]⟩])),λF=>⟨?_,λl'=> ?_⟩⟩
 ·exact gW F ((gU _ (iP _ (gW _ a))).trans (key [] _ _))
 ·exact gW F ((gU _ (iP _ (gW _ (b l')))).trans (key [] _ _))
theorem UW {α β:Type}{f:α→β→Chk}:∀ {ps:List α}{ss:List β}{i j:Nat}{p q:α}{s t:β},i≠j→ps[i]? =some p→ss[i]? =some s→ps[j]? =some q→ss[j]? =some t→
 ∃rest,(List.zipWith f ps ss).Perm (f p s::f q t::rest)∧ ∀s',(List.zipWith f ps (ss.set i s')).Perm (f p s'::f q t::rest):=by
 intro ps
 induction ps with
 |nil=>intro ss i j p q s t _ h;simp at h
 |cons x ps ih=>
  intro ss i j p q s t hij hp hs hq ht;cases ss with
  |nil=>simp at hs
  |cons y ss=>
   cases i with
   |zero=>
    cases j with
    |zero=>exact(hij rfl).elim
    |succ j=>
     simp only[iI,Option.some.injEq,kM]at hp hs hq ht;subst hp hs;have⟨rest,a,_⟩:=Kt (f:=f) hq ht;exact⟨rest,gU _ a,λs'=>gU _ a⟩
   |succ i=>
    cases j with
    |zero=>
     simp only[iI,Option.some.injEq,kM]at hp hs hq ht;subst hq ht;have⟨rest,a,b⟩:=Kt (f:=f) hp hs;refine⟨rest,(gU _ a).trans (iD _ _ _),λs'=> ?_⟩
     have:=b p s'
     rw[Ge hp]at this;exact(gU _ this).trans (iD _ _ _)
    |succ j=>
     simp only[kM]at hp hs hq ht;obtain⟨rest,a,b⟩:=ih (λe=>hij (by rw[e])) hp hs hq ht;exact⟨f x y::rest,(gU _ a).trans ((iD _ _ _).trans (gU _ (iD _ _ _))),λs'=>(gU _ (b s')).trans ((iD _ _ _).trans (gU _ (iD _ _ _)))⟩
theorem dB {k j:Nat}{u v:Slc}{l m:List Bool}(hkj:k≠j) (hu:vs[k]? =some u) (hB:B[k]? =some l) (hv:vs[j]? =some v) (hC:B[j]? =some m):
 ∃rest,∀F,(Da r n f g c null us A vs B++F).Perm (cR 4 gX u l::cR 4 gX v m::(rest++F))∧ ∀l',(Da r n f g c null us A vs (B.set k l') ++F).Perm (cR 4 gX u l'::cR 4 gX v m::(rest++F)):=by
 have⟨rest,a,b⟩:=UW (f:=cR 4 gX) hkj hu hB hv hC;have key:∀(x y:Chk) (T:List Chk),(cR 4 gX n null::(rB us A++((x::y::rest) ++T))).Perm (x::y::(cR 4 gX n null::(rB us A++(rest++T)))):=λx y T=>
  (gU _ (List.perm_middle.trans (gU _ iU))).trans ((iD _ _ _).trans (gU _ (iD _ _ _)))
 refine⟨cR 4 gX n null::(rB us A++(rest++ [⟨lO 136,[.pointer (fH r)],[sv n,sv f,sv g,.int .i64 c]⟩])),λF=>⟨?_,λl'=> ?_⟩⟩
 ·exact gW F ((gU _ (iP _ (gW _ a))).trans (key _ _ _))
 ·exact gW F ((gU _ (iP _ (gW _ (b l')))).trans (key _ _ _))
end
noncomputable def Kk (nt:Int) (null:List Bool) (first:List (List Bool)) (seq:gM):Option (List Bool×Bool):=
 (Dh nt false).bind λa=>
 (DE (σ:=List Bool) (β:=List Bool×Bool) 0 (seq.length:Int) a λi out=>
  (idx seq i).bind λs=>
  cond (decide (s≥0) && decide (s<nt))
   ((DB out s true).bind λo=>some (.done (o,false)))
   (cond (decide (gP .i64 (s - nt) <0) || decide (gP .i64 (s - nt) ≥ (null.length:Int)))
    (some (.next out))
    ((idx first (gP .i64 (s - nt))).bind λrow=>(Ar out row).bind λr=>
     (idx null (gP .i64 (s - nt))).bind λb=>cond b (some (.next r.2)) (some (.done (r.2,false)))))).bind λe=>
 match e with
 |.next z=>some (z,true)
 |.done r=>some r
section
variable {φ ψ:AD}{h:AE}{F:List Chk}{t:Slc×Slc×Slc×Slc×Slc×Slc×Unit}{p:dtP}{r:Nat}{n f g:Slc}{c:Int}{null:List Bool}{us vs:List Slc}{A B:List (List Bool)}
theorem Qq (k:PlK φ t p) (kf:Ro.SliceIs jF φ f us) (hus:us.length=A.length) {sq:Slc}{seq:gM}(ks:Ro.SliceIs (jB .i64) φ sq seq) (X:St φ (Da r n f g c null us A vs B++F) h) {x:List Bool×Bool}(hd:Kk (nT p) null A seq=some x):
 CallsH iA 52 [.pointer (fH r),.agg #[.slice t.1.1 t.1.2.1 t.1.2.2,.slice t.2.1.1 t.2.1.2.1 t.2.1.2.2,.slice t.2.2.1.1 t.2.2.1.2.1 t.2.2.1.2.2,.slice t.2.2.2.1.1 t.2.2.2.1.2.1 t.2.2.2.1.2.2,.slice t.2.2.2.2.1.1 t.2.2.2.2.1.2.1 t.2.2.2.2.1.2.2,.slice t.2.2.2.2.2.1.1 t.2.2.2.2.2.1.2.1 t.2.2.2.2.2.1.2.2],.slice sq.1 sq.2.1 sq.2.2] h
  (Ap λv h'=>∃(ψ:AD) (y:Slc),Sub φ ψ∧v=((.tuple fZ):Sh).val (y,x.2,())∧St ψ (cR 4 gX y x.1::(Da r n f g c null us A vs B++F)) h'):=by
 refine Av mixed Tryz.func52 ?_;rw[Dq];unfold EL;unfold Kk at hd;have V:t.1.2.1=p.1.length:=k.k0.length;have nq:=ks.length;have⟨o0,I,hd⟩:=bS hd;have⟨Y,J,hd⟩:=bS hd;refine AV (vs:=plV t) X ?_;intro r1 h1 W;refine AA (b:=r1) (j:=0) (x:=t.1) W rfl<|Er (r:=gX) (x:=false) Iq W.tail rfl (by rw[V];rfl) I ?_;intro o h2 Z;have hnT:(t.1.2.1:Int)=nT p:=by rw[V];rfl
 refine Ag (λ(y:Int×Bool×Slc×Unit) w g'=>∃(z:List Bool),g'=kD z∧ ∃ψ,Sub φ ψ∧St ψ (cR 4 gX o z::(Da r n f g c null us A vs B++F)) w) (g:=Y) ?_ ?_
 ·refine NR J (λi (y:Int×Bool×Slc×Unit) w z=>y.1=i∧ ∃ψ,Sub φ ψ∧St ψ (cR 4 gX o z::(Da r n f g c null us A vs B++F)) w) ((0:Int),false,((none,0,0):Slc),()) rfl ⟨rfl,φ,iT _,Z⟩ ?_ ?_
  ·rintro _ y w z e ⟨rfl,ψ,le,st⟩ he h0 hlt hw hb;try dsimp only at st he
   refine Ac (by rw[nq];exact gC hlt) ?_;have⟨s,hs,he⟩:=bS he;have kq:=ks.mono le;have hsym:∀ {K:Int→T} {P:Bh→AE→Prop} {w':AE} {ψ':AD} {Γ:List Chk},Sub ψ ψ'→St ψ' Γ w'→(K s).wp iA P w'→(deref sq.1 λA=>chk (0≤y.1∧y.1< (sq.2.1:Nat))<|T.load (.int .i64) (A.add (mH y.1 *1)) K).wp iA P w':=λ{K P w' ψ' Γ} le' st' hK=>On (a:=.int .i64) kq hs (jQ le' st'.sub) hK;refine Ag (λ(y':Bool×Slc×Unit) w (g':Unit)=>∃(z':List Bool),e=kD z'∧ ∃ψ,Sub φ ψ∧St ψ (cR 4 gX o z'::(Da r n f g c null us A vs B++F)) w) (g:=()) ?_ ?_
   ·refine Aa (λ(y':Bool×Unit) w' (_:Unit)=>y'.1=(decide (s≥0) && decide (s<nT p))∧St ψ (cR 4 gX o z::(Da r n f g c null us A vs B++F)) w') (g:=()) ?_ ?_
    ·refine hsym (iT _) st ?_;by_cases d:s≥0
     ·refine Ac (gC d)<|hsym (iT _) st<|AO (decide (s< (t.1.2.1:Int)),()) rfl ⟨by rw[hnT,gC d];rfl,st⟩
     ·refine AU (gB d)<|AO (false,()) rfl ⟨by rw[gB d];rfl,st⟩
    ·rintro y7 w7 ⟨L,l⟩;refine AH he L (λ_ he=> ?_) (λ_ he=> ?_)
     ·obtain⟨o',ho',he⟩:=bS he;obtain rfl:=iS he;obtain rfl:=hb _ rfl;obtain rfl:=iS hd;refine hsym (iT _) l ?_;have⟨A4,D,q4⟩:=l.there ho';refine AF _ D (Ah q4 (Ef l ho' rfl D ?_));intro h8 M;exact Al (Aj (Al (AC ⟨ψ,o,le,rfl,M⟩)))
     ·refine hsym (iT _) l<|Aa (λ(y':Bool×Unit) w' (_:Unit)=>y'.1=(decide (gP .i64 (s - nT p) <0) || decide (gP .i64 (s - nT p) ≥ (null.length:Int)))∧St ψ (cR 4 gX o z::(Da r n f g c null us A vs B++F)) w') (g:=()) ?_ ?_
      ·rw[hnT];by_cases d:gP .i64 (s - nT p) <0
       ·refine Ac (gC d)<|AO (true,()) rfl ⟨by rw[gC d];rfl,l⟩
       ·refine AU (gB d)<|AF _ rfl<|AG (x:=n) (EP l.tail (j:=0) rfl) rfl ?_;have nn:n.2.1=null.length:=(l.tail).rowLen;exact AO (decide (gP .i64 (s - nT p) ≥ (n.2.1:Int)),()) rfl ⟨by rw[nn,gB d];rfl,l⟩
      ·rintro y9 w9 ⟨N,q⟩;refine AH he N (λ_ he=> ?_) (λa0 he=> ?_)
       ·obtain rfl:=iS he;exact Oj (y.2.1,y.2.2.1,()) rfl ⟨z,rfl,ψ,le,q⟩
       ·have⟨row,hrow,he⟩:=bS he;have⟨pr,hpr,he⟩:=bS he;have⟨b,E,he⟩:=bS he;rw[hnT];have⟨y0,y1,y2⟩:=CC hrow;obtain⟨kk,hkk⟩:∃k:Nat,gP .i64 (s - nT p)=(k:Int):=⟨_,(hO y0).symm⟩;rw[hkk]at hrow E ⊢;have hA:=P8 hrow;have hku:kk<us.length:=by rw[hus];exact(gS.1 hA).1
        have hu:us[kk]? =some us[kk]:=gO hku;refine AF _ rfl<|AG (x:=f) (EP q.tail (j:=1) rfl) rfl ?_;obtain⟨A2,a1,O,Q,r2,R⟩:=(kf.mono le).get (i:=(kk:Int)) (by rw[CK];exact hu);refine AF _ O (Ah Q ?_);obtain rfl:=r2;refine AG (x:=us[kk]) (AJ q.sub (R 0 _ rfl)) rfl ?_;have⟨rest,hp⟩:=cz (r:=r) (n:=n) (f:=f) (g:=g) (c:=c) (null:=null) (vs:=vs) (B:=B) hu hA;refine AK (CZ (q.perm (gU _ (hp F).1)) hpr) ?_;rintro _ S ⟨C,yb,U,u,rfl,G,H⟩;refine⟨yb,rfl,?_⟩;obtain rfl:U=pr.2:=by rw[←G]
        have m:St C (cR 4 gX o pr.2::(Da r n f g c null us A vs B++F)) S:=H.perm ((iD _ _ _).trans (gU _ (hp F).1.symm));refine AF _ rfl<|AG (x:=n) (EP m.tail (j:=0) rfl) rfl<|NS (a:=.bool) m.tail E ?_;cases b
        ·obtain rfl:=iS he;obtain rfl:=hb _ rfl;obtain rfl:=iS hd;refine Ac rfl<|Al (Aj (Al (AC ⟨C,o,le.trans u,rfl,m⟩)))
        ·obtain rfl:=iS he;refine AU rfl<|FG (y.2.1,y.2.2.1,()) rfl ⟨pr.2,rfl,C,le.trans u,m⟩
   ·rintro y' w' ⟨z',rfl,ψ',le',st'⟩;exact AZ (gP .i64 (y.1+(1:Int)),y'.1,y'.2.1,()) _ rfl rfl ⟨hw,ψ',le',st'⟩
  ·rintro i y w z ⟨rfl,ψ,le,st⟩ hge hr;subst hr;refine AU (by rw[nq];exact gB (jL.2 hge))<|AI (AL y rfl ⟨z,rfl,ψ,le,st⟩)
 ·rintro y w ⟨z,rfl,ψ,le,st⟩;obtain rfl:=iS hd;exact AC ⟨ψ,o,le,rfl,st⟩
end
noncomputable def Pp (p:dtP) (null:List Bool) (first:List (List Bool)):Option (Bool×List Bool×List (List Bool)):=forS (σ:=Bool×List Bool×List (List Bool)) 0 (p.2.2.1.length:Int) (false,null,first) λi z=>(idx p.2.2.1 i).bind λru=>(Kk (nT p) z.2.1 z.2.2 ru.2.1).bind λb=>(idx z.2.2 (gP .i64 (ru.1 - nT p))).bind λrow=>(Ar row b.1).bind λpr=>(idx z.2.1 (gP .i64 (ru.1 - nT p))).bind λnl=>(DB z.2.1 (gP .i64 (ru.1 - nT p)) (nl || b.2)).bind λnull'=>some (z.1 || pr.1 || (b.2 && !nl),null',z.2.2.set (gP .i64 (ru.1 - nT p)).toNat pr.2)
noncomputable def NI (p:dtP) (null:List Bool) (first follow:List (List Bool)):Option (Bool×List (List Bool)):=forS (σ:=Bool×List (List Bool)) 0 (p.2.2.1.length:Int) (false,follow) λi z=>(idx p.2.2.1 i).bind λru=>forS (σ:=Bool×List (List Bool)) 0 (ru.2.1.length:Int) z λj z=>(idx ru.2.1 j).bind λs=>cond (decide (s<nT p)) (some z) ((Kk (nT p) null first (ru.2.1.drop (j+1).toNat)).bind λb=>(idx z.2 (gP .i64 (s - nT p))).bind λrow=>(Ar row b.1).bind λpr=>(cond b.2 ((idx z.2 (gP .i64 (ru.1 - nT p))).bind λa=>cond (decide (gP .i64 (s - nT p)=gP .i64 (ru.1 - nT p))) (need (pr.2.length≤1000000)<|some (false,pr.2)) (Ar pr.2 a)) (some (false,pr.2))).bind λq=>some (z.1 || pr.1 || q.1,z.2.set (gP .i64 (s - nT p)).toNat q.2))
section
variable {φ ψ:AD}{h:AE}{F:List Chk}{t:Slc×Slc×Slc×Slc×Slc×Slc×Unit}{p:dtP}{r r1:Nat}{n f g:Slc}{c:Int}{us vs:List Slc}
theorem HT (cB:Ci φ (fH r1) (plV t)) {Γ:List Chk}(st:St φ Γ h):∀j v,(plV t)[j]? =some v→BW h ⟨r1,j,none⟩=some v:=λj v hv=>by
 have:=AJ st.sub (cB.at j hv)
 rwa [Dt,Nat.zero_add]at this
theorem UX {null:List Bool}{A B:List (List Bool)}{K:Int×Bool×Unit→T}{P:Bh→AE→Prop}(cB:Ci φ (fH r1) (plV t)) (k:PlK φ t p) (kf:Ro.SliceIs jF φ f us) (hus:us.length=A.length)
 (S:St φ (Da r n f g c null us A vs B++F) h) {x:Bool×List Bool×List (List Bool)} (hd:Pp p null A=some x)
 (hK:∀ψ y h',Sub φ ψ→y.2.1=x.1→us.length=x.2.2.length→St ψ (Da r n f g c x.2.1 us x.2.2 vs B++F) h'→(K y).wp iA P h'):
 (Re r1 r t.1 K).wp iA P h:=by
 unfold Re;unfold Pp at hd;have U:t.1.2.1=p.1.length:=k.k0.length;have nk:=k.k2.length;have hnT:(t.1.2.1:Int)=nT p:=by rw[U];rfl
 rw[hnT];refine Ag (λ(y:Int×Bool×Unit) w g'=>∃(ψ:AD),Sub φ ψ∧y.2.1=g'.1∧us.length=g'.2.2.length∧St ψ (Da r n f g c g'.2.1 us g'.2.2 vs B++F) w) (g:=x) ?_ ?_
 ·refine By hd (λi (y:Int×Bool×Unit) w g'=>y.1=i∧ ∃(ψ:AD),Sub φ ψ∧y.2.1=g'.1∧us.length=g'.2.2.length∧St ψ (Da r n f g c g'.2.1 us g'.2.2 vs B++F) w) ((0:Int),false,()) rfl ⟨rfl,φ,iT _,rfl,hus,S⟩ ?_ ?_
  ·rintro _ y w ⟨gr,nu,A1⟩ e ⟨rfl,ψ,le,hg,l,st⟩ he h0 hlt hw;dsimp only at hg l st he;subst hg;refine AG (x:=t.2.2.1) (HT (cB.mono le) st 2 _ rfl) rfl<|Ac (by rw[nk];exact gC hlt) ?_;have⟨ru,hru,he⟩:=bS he;have⟨b,hb,he⟩:=bS he;have⟨row,hrow,he⟩:=bS he;have⟨pr,hpr,he⟩:=bS he;have⟨nl,hnl,he⟩:=bS he;obtain⟨nu',hnu,he⟩:=bS he;obtain rfl:=iS he;refine AG (x:=t.2.2.1) (HT (cB.mono le) st 2 _ rfl) rfl ?_;obtain⟨D1,V,C,D,W,E⟩:=(k.k2.mono le).get hru;refine AF _ C (Ah D ?_);obtain⟨_,_,rfl,rfl,⟨_,_,rfl,J,X⟩⟩:=W;obtain⟨u,rfl,ku⟩:=J;obtain rfl:=X;refine AG (x:=ru.1) (AJ st.sub (E 0 _ rfl)) rfl<|Ek (HT (cB.mono le) st)<|AG (x:=t.2.2.1) (HT (cB.mono le) st 2 _ rfl) rfl<|AF _ C (Ah D ?_);refine AG (x:=u) (by rw[An];exact AJ st.sub (E 1 _ rfl)) rfl<|AK (Qq (k.mono le) (kf.mono le) l ku st hb) ?_;rintro _ h2 ⟨ψ2,yb,L,rfl,z⟩;refine⟨(yb,b.2,()),rfl,?_⟩;have le':=le.trans L;have⟨Y,y1,y2⟩:=CC hrow;obtain⟨kk,hkk⟩:∃k:Nat,gP .i64 (ru.1 - nT p)=(k:Int):=⟨_,(hO Y).symm⟩;rw[hkk]at hrow hnl hnu ⊢;rw[gT];have hA:=P8 hrow;have hku:kk<us.length:=by rw[l];exact(gS.1 hA).1
   have hu:us[kk]? =some us[kk]:=gO hku;refine AG (x:=f) (EP z.tail (j:=1) rfl) rfl ?_;obtain⟨D2,Z,M,N,r2,O⟩:=(kf.mono le').get (i:=(kk:Int)) (by rw[CK];exact hu);refine AF _ M (Ah N ?_);obtain rfl:=r2;refine AG (x:=us[kk]) (AJ z.sub (O 0 _ rfl)) rfl ?_;have⟨rest,hp⟩:=cz (r:=r) (n:=n) (f:=f) (g:=g) (c:=c) (null:=nu) (vs:=vs) (B:=B) hu hA;refine AK (CZ (z.perm ((gU _ (hp F).1).trans (iD _ _ _))) hpr) ?_;rintro _ Q ⟨s,gw,o,G,rfl,H,I⟩;refine⟨gw,rfl,?_⟩;obtain rfl:(gw,o)=pr:=H;have d:St s (Da r n f g c nu us (A1.set kk o) vs B++F) Q:=I.tail.perm ((hp F).2 o).symm;have le'':=le'.trans G;refine Aa (λ(y':Bool×Unit) w (_:Unit)=>y'=(y.2.1 || gw || (b.2 && !nl),())∧St s (Da r n f g c nu us (A1.set kk o) vs B++F) w) (g:=()) ?_ ?_
   ·cases hz:y.2.1
    ·refine AU rfl ?_;cases gw
     ·refine AU rfl ?_;cases hbn:b.2
      ·refine AU (by dsimp only)<|AO (false,()) rfl ⟨by simp,d⟩
      ·refine Ac (by dsimp only)<|AG (x:=n) (EP d (j:=0) rfl) rfl<|NS (a:=.bool) d hnl<|AO (!nl,()) rfl ⟨by simp,d⟩
     ·refine Ac rfl<|AO (true,()) rfl ⟨by simp,d⟩
    ·refine Ac rfl<|AO (true,()) rfl ⟨by simp,d⟩
   ·rintro y' h4 ⟨rfl,m⟩;refine Aa (λ(y':Unit) w (_:Unit)=>St s (Da r n f g c nu' us (A1.set kk o) vs B++F) w) (g:=()) ?_ ?_
    ·refine AG (x:=n) (EP m (j:=0) rfl) rfl<|AG (x:=n) (EP m (j:=0) rfl) rfl<|NS (a:=.bool) m hnl ?_;have⟨D4,v,J⟩:=mK m hnu;cases nl
     ·refine AU rfl<|AF _ v (Ah J (Ef m hnu rfl v ?_));intro R q;exact AO () rfl q
     ·refine Ac rfl<|AF _ v (Ah J (Ef m hnu rfl v ?_));intro R q;exact AO () rfl q
    ·rintro _ R q;exact AZ (gP .i64 (y.1+(1:Int)),y.2.1 || gw || (b.2 && !nl),()) _ rfl rfl ⟨hw,s,le'',rfl,by rw[iF];exact l,q⟩
  ·rintro _ y w ⟨rfl,ψ,le,hg,l,st⟩ hge;refine AG (x:=t.2.2.1) (HT (cB.mono le) st 2 _ rfl) rfl<|AU (by rw[nk];exact gB (jL.2 hge))<|AI (AL y rfl ⟨ψ,le,hg,l,st⟩)
 ·rintro y w ⟨ψ,le,hg,l,st⟩;exact hK ψ y w le hg l st
end
section
variable {φ ψ:AD}{h:AE}{F:List Chk}{t:Slc×Slc×Slc×Slc×Slc×Slc×Unit}{p:dtP}{r r1:Nat}{n f g:Slc}{c:Int}{us vs:List Slc}
theorem orT {a b:Bool}{K:Bool×Unit→T}{Q:Bh→AE→Prop}(H:(K (a || b,())).wp iA Q h):(T.join [.atom .bool] (cond a (T.out [.bool true]) (T.out [.bool b])) K).wp iA Q h:=by
 refine Aa (λy w (_:Unit)=>y=(a || b,())∧w=h) (g:=()) ?_ (λy h' ⟨c,d⟩=>by subst c d;exact H);cases a
 ·exact AU rfl (AO (b,()) rfl ⟨rfl,rfl⟩)
 ·exact Ac rfl (AO (true,()) rfl ⟨rfl,rfl⟩)
theorem TE {null:List Bool}{A B:List (List Bool)}{K:Int×Bool×Unit→T}{P:Bh→AE→Prop}(cB:Ci φ (fH r1) (plV t)) (k:PlK φ t p) (kf:Ro.SliceIs jF φ f us) (kg:Ro.SliceIs jF φ g vs) (hus:us.length=A.length) (hvs:vs.length=B.length)
 (s0:St φ (Da r n f g c null us A vs B++F) h) {x:Bool×List (List Bool)} (hd:NI p null A B=some x)
 (hK:∀ψ y h',Sub φ ψ→y.2.1=x.1→vs.length=x.2.length→St ψ (Da r n f g c null us A vs x.2++F) h'→(K y).wp iA P h'):
 (PV r1 r t.1 K).wp iA P h:=by
 unfold PV;unfold NI at hd;have n0:t.1.2.1=p.1.length:=k.k0.length;have nk:=k.k2.length;have hnT:(t.1.2.1:Int)=nT p:=by rw[n0];rfl
 rw[hnT];refine Ag (λ(y:Int×Bool×Unit) w g'=>∃(ψ:AD),Sub φ ψ∧y.2.1=g'.1∧vs.length=g'.2.length∧St ψ (Da r n f g c null us A vs g'.2++F) w) (g:=x) ?_ ?_
 ·refine By hd (λi (y:Int×Bool×Unit) w g'=>y.1=i∧ ∃(ψ:AD),Sub φ ψ∧y.2.1=g'.1∧vs.length=g'.2.length∧St ψ (Da r n f g c null us A vs g'.2++F) w) ((0:Int),false,()) rfl ⟨rfl,φ,iT _,rfl,hvs,s0⟩ ?_ ?_
  ·rintro _ y w ⟨gr,B1⟩ e ⟨rfl,ψ,le,hg,G,st⟩ he h0 hlt hw;dsimp only at hg G st he;subst hg;refine AG (x:=t.2.2.1) (HT (cB.mono le) st 2 _ rfl) rfl<|Ac (by rw[nk];exact gC hlt) ?_;have⟨ru,hru,he⟩:=bS he;refine AG (x:=t.2.2.1) (HT (cB.mono le) st 2 _ rfl) rfl ?_;obtain⟨D1,c3,a3,a4,q1,a5⟩:=(k.k2.mono le).get hru;refine AF _ a3 (Ah a4 ?_);obtain⟨_,_,rfl,rfl,⟨_,_,rfl,⟨u,rfl,ku⟩,rfl⟩⟩:=q1;refine AG (x:=u) (by rw[An];exact AJ st.sub (a5 1 _ rfl)) rfl ?_;have nu:=ku.length;refine Ag (λ(y':Int×Bool×Unit) w g'=>∃(ψ':AD),Sub ψ ψ'∧y'.2.1=g'.1∧vs.length=g'.2.length∧St ψ' (Da r n f g c null us A vs g'.2++F) w) (g:=e) ?_ ?_
   ·refine By he (λi (y':Int×Bool×Unit) w g'=>y'.1=i∧ ∃(ψ':AD),Sub ψ ψ'∧y'.2.1=g'.1∧vs.length=g'.2.length∧St ψ' (Da r n f g c null us A vs g'.2++F) w) ((0:Int),y.2.1,()) rfl ⟨rfl,ψ,iT _,rfl,G,st⟩ ?_ ?_
    ·rintro _ z w2 ⟨c4,B2⟩ e2 ⟨rfl,ψ2,I,M,m,o⟩ d c5 a6 N;dsimp only at M m o d;subst M;have D:=le.trans I;refine Ac (by rw[nu];exact gC a6) ?_;have⟨s,hs,d⟩:=bS d;have kq:=ku.mono I;have hsym:∀ {K:Int→T} {P:Bh→AE→Prop} {w':AE} {ψ':AD} {Γ:List Chk},Sub ψ2 ψ'→St ψ' Γ w'→(K s).wp iA P w'→(deref u.1 λA=>chk (0≤z.1∧z.1< (u.2.1:Nat))<|T.load (.int .i64) (A.add (mH z.1 *1)) K).wp iA P w':=λ{K P w' ψ' Γ} le' st' hK=>On (a:=.int .i64) kq hs (jQ le' st'.sub) hK;refine Ag (λ(y':Bool×Unit) w (_:Unit)=>y'.1=e2.1∧vs.length=e2.2.length∧ ∃(ψ':AD),Sub ψ ψ'∧St ψ' (Da r n f g c null us A vs e2.2++F) w) (g:=()) ?_ ?_
     ·refine hsym (iT _) o<|AH d rfl (λ_ d=> ?_) (λ_ d=> ?_)
      ·obtain rfl:=iS d;exact Oj (z.2.1,()) rfl ⟨rfl,m,ψ2,I,o⟩
      ·have⟨b,hb,d⟩:=bS d;have⟨row,hrow,d⟩:=bS d;have⟨pr,hpr,d⟩:=bS d;have⟨q,hq,d⟩:=bS d;obtain rfl:=iS d;refine Ek (HT (cB.mono D) o) ?_;obtain⟨q1,kt⟩:=kq.cut (RH kq (lo:=gP .i64 (z.1+1)) (by rw[N];omega) (by rw[N];omega)) (sz:=1) rfl;refine Ah q1 ?_;rw[←N]at hb;refine AK (Qq (k.mono D) (kf.mono D) hus kt o hb) ?_;rintro _ h3 ⟨ψ3,yb,O,rfl,Q⟩;refine⟨(yb,b.2,()),rfl,?_⟩;have V:=D.trans O;have a7:=I.trans O;have⟨y0,y1,y2⟩:=CC hrow;obtain⟨kk,hkk⟩:∃k:Nat,gP .i64 (s - nT p)=(k:Int):=⟨_,(hO y0).symm⟩;rw[hkk]at hrow hq ⊢;rw[gT];have hB:=P8 hrow;have hku:kk<vs.length:=by rw[m];exact(gS.1 hB).1
       have hu:vs[kk]? =some vs[kk]:=gO hku;have hrowL:∀ {K:Slc→T} {P:Bh→AE→Prop} {w':AE} {ψ':AD} {Γ:List Chk},Sub ψ3 ψ'→St ψ' Γ w'→(K vs[kk]).wp iA P w'→(deref g.1 λA=>chk (0≤(kk:Int)∧(kk:Int) < (g.2.1:Nat))<|T.load .slice (A.add (mH (kk:Int) *1)) K).wp iA P w':=λ{K P w' ψ' Γ} le' st' hK=>by
        obtain⟨D2,b6,Y,Z,r2,a0⟩:=(kg.mono (V.trans le')).get (i:=(kk:Int)) (by rw[CK];exact hu);refine AF _ Y (Ah Z ?_);obtain rfl:=r2;exact AG (x:=vs[kk]) (AJ st'.sub (a0 0 _ rfl)) rfl hK
       refine AG (x:=g) (EP Q.tail (j:=2) rfl) rfl<|hsym O Q ?_;rw[hkk];refine hrowL (iT _) Q ?_;have⟨rest,hp⟩:=bo (r:=r) (n:=n) (f:=f) (g:=g) (c:=c) (null:=null) (us:=us) (A:=A) hu hB;refine AK (CZ (Q.perm ((gU _ (hp F).1).trans (iD _ _ _))) hpr) ?_;rintro _ b7 ⟨R,gw,v,E,rfl,a8,a9⟩;refine⟨gw,rfl,?_⟩;obtain rfl:(gw,v)=pr:=a8;have W:St R (Da r n f g c null us A vs (B2.set kk v) ++F) b7:=a9.tail.perm ((hp F).2 v).symm;have X:=V.trans E;have leA:=a7.trans E;have hB':(B2.set kk v)[kk]? =some v:=by rw[kN];rw[←m];exact hku
       refine Aa (λ(y':Bool×Unit) w (_:Unit)=>y'=(z.2.1 || gw,())∧St R (Da r n f g c null us A vs (B2.set kk v) ++F) w) (g:=()) ?_ ?_
       ·cases hz:z.2.1
        ·exact AU rfl (AO (gw,()) rfl ⟨rfl,W⟩)
        ·exact Ac rfl (AO (true,()) rfl ⟨rfl,W⟩)
       ·rintro _ h4 ⟨rfl,l⟩;refine Aa (λ(y':Bool×Bool×Unit) w (_:Unit)=>y'.1=(z.2.1 || gw || q.1)∧ ∃ψ',Sub ψ ψ'∧St ψ' (Da r n f g c null us A vs (B2.set kk q.2) ++F) w) (g:=()) ?_ ?_
        ·refine AH hq rfl (λ_ hq=> ?_) (λ_ hq=> ?_)
         ·have⟨b0,C,hq⟩:=bS hq;have⟨x0,x1,x2⟩:=CC C;obtain⟨k3,b1⟩:∃k:Nat,gP .i64 (ru.1 - nT p)=(k:Int):=⟨_,(hO x0).symm⟩;rw[b1]at C hq;have b2:=P8 C;have b3:k3<vs.length:=by rw[m];exact(gS.1 b2).1
          have b4:vs[k3]? =some vs[k3]:=gO b3;refine AG (x:=g) (EP l (j:=2) rfl) rfl<|hsym (O.trans E) l ?_;rw[hkk];refine hrowL E l<|AG (x:=g) (EP l (j:=2) rfl) rfl<|AG (x:=t.2.2.1) (HT (cB.mono X) l 2 _ rfl) rfl<|AF _ a3 (Ah a4 ?_);refine AG (x:=ru.1) (AJ l.sub ((Ao leA) (a5 0 _ rfl))) rfl ?_;rw[b1];obtain⟨D2,b6,Y,Z,r2,a0⟩:=(kg.mono X).get (i:=(k3:Int)) (by rw[CK];exact b4);refine AF _ Y (Ah Z ?_);obtain rfl:=r2;refine AG (x:=vs[k3]) (AJ l.sub (a0 0 _ rfl)) rfl ?_;by_cases he:kk=k3
          ·subst he;rw[gC rfl]at hq;have⟨hlen,hq⟩:=CD hq;obtain rfl:=iS hq;have⟨a1,J⟩:=bo (r:=r) (n:=n) (f:=f) (g:=g) (c:=c) (null:=null) (us:=us) (A:=A) hu hB';refine AK (YQ (l.perm (J F).1) hlen) ?_;rintro _ h5 ⟨rfl,L⟩;refine⟨false,rfl,?_⟩;exact orT (AO (z.2.1 || gw || false,false,()) rfl ⟨rfl,R,leA,L.perm (J F).1.symm⟩)
          ·rw[gB (λe=>he (by omega))]at hq;have b5:(B2.set kk v)[k3]? =some b0:=by rw[jK he];exact b2
           have⟨a1,J⟩:=dB (r:=r) (n:=n) (f:=f) (g:=g) (c:=c) (null:=null) (us:=us) (A:=A) he hu hB' b4 b5;refine AK (CZ (l.perm (J F).1) hq) ?_;rintro _ h5 ⟨ψ5,S,l5,a2,rfl,b8,L⟩;refine⟨S,rfl,?_⟩;obtain rfl:(S,l5)=q:=b8;have U:=(L.perm (iD _ _ _)).perm ((J F).2 l5).symm;rw[List.set_set]at U;exact orT (AO (z.2.1 || gw || S,S,()) rfl ⟨rfl,ψ5,leA.trans a2,U⟩)
         ·obtain rfl:=iS hq;exact AO (z.2.1 || gw,gw,()) rfl ⟨by simp,R,leA,l⟩
        ·rintro y' h5 ⟨b9,ψ5,a2,L⟩;exact FG (y'.1,()) rfl ⟨b9,by rw[iF];exact m,ψ5,a2,L⟩
     ·rintro y' h6 ⟨c0,c1,ψ6,c2,U⟩;exact AZ (gP .i64 (z.1+(1:Int)),y'.1,()) _ rfl rfl ⟨N,ψ6,c2,c0,c1,U⟩
    ·rintro _ z w2 ⟨rfl,H⟩ hge;refine AU (by rw[nu];exact gB (jL.2 hge))<|AI (AL z rfl H)
   ·rintro z w2 ⟨ψ2,I,M,m,o⟩;exact AZ (gP .i64 (y.1+(1:Int)),z.2.1,()) _ rfl rfl ⟨hw,ψ2,le.trans I,M,m,o⟩
  ·rintro _ y w ⟨rfl,ψ,le,hg,G,st⟩ hge;refine AG (x:=t.2.2.1) (HT (cB.mono le) st 2 _ rfl) rfl<|AU (by rw[nk];exact gB (jL.2 hge))<|AI (AL y rfl ⟨ψ,le,hg,G,st⟩)
 ·rintro y w ⟨ψ,le,hg,G,st⟩;exact hK ψ y w le hg G st
end
abbrev OI:Type:=List Bool×List (List Bool)×List (List Bool)×Int
noncomputable def NJ (p:dtP) (null:List Bool) (a:List (List Bool)):Option OI:=(loop (σ:=Bool×Int×List Bool×List (List Bool)) (β:=Int×List Bool×List (List Bool)) (true,0,null,a) λz=>cond z.1 ((Pp p z.2.2.1 z.2.2.2).bind λr=>some (.next (r.1,gP .i64 (z.2.1+1),r.2))) (some (.done z.2))).bind λz=>(idx a (p.2.1.length:Int)).bind λrow=>(DB row 0 true).bind λrow'=>(loop (σ:=Bool×List (List Bool)) (β:=List (List Bool)) (true,a.set p.2.1.length row') λy=>cond y.1 ((NI p z.2.1 z.2.2 y.2).bind λr=>some (.next r)) (some (.done y.2))).bind λfo=>some (z.2.1,z.2.2,fo,z.1)
noncomputable def Pq (p:dtP):Option OI:=(Dh (gP .i64 ((p.2.1.length:Int)+1)) false).bind λnull=>(Ce p).bind λa=>NJ p null a
abbrev YR:Ro OI:=mL (jG gX) (mL (jG (jG gX)) (mL (jG (jG gX)) (jB .i64)))
section
variable {φ ψ φ0:AD}{h:AE}{F:List Chk}{t:Slc×Slc×Slc×Slc×Slc×Slc×Unit}{p:dtP}{r r1:Nat}{n f g:Slc}{us vs:List Slc}
theorem WE {null:List Bool}{D:List (List Bool)}{P:Bh→AE→Prop}(cB:Ci φ (fH r1) (plV t)) (k:PlK φ t p) (kf:Ro.SliceIs jF φ f us) (kg:Ro.SliceIs jF φ g vs) (hus:us.length=D.length) (hvs:vs.length=D.length)
 (Y:St φ (Da r n f g 0 null us D vs D++F) h) {x:OI} (hd:NJ p null D=some x)
 (hK:∀ψ y h',Sub φ ψ→Pt YR ψ y x→St ψ F h'→P (.ret (.pointer y)) h'):
 (Nt r1 r).wp iA P h:=by
 unfold Nt;unfold NJ at hd;have⟨Z,N,hd⟩:=bS hd;have⟨row,hrow,hd⟩:=bS hd;obtain⟨row',hrow',hd⟩:=bS hd;have⟨fo,hfo,hd⟩:=bS hd;obtain rfl:=iS hd;have n1:t.2.1.2.1=p.2.1.length:=k.k1.length;refine AG (x:=t.1) (HT cB Y 0 _ rfl) rfl<|Ag (λ(y:Bool×Unit) w (z:Int×List Bool×List (List Bool))=>∃(ψ:AD),Sub φ ψ∧us.length=z.2.2.length∧St ψ (Da r n f g z.1 z.2.1 us z.2.2 vs D++F) w) (g:=Z) ?_ ?_
 ·refine CA N (λ(y:Bool×Unit) w (z:Bool×Int×List Bool×List (List Bool))=>y.1=z.1∧ ∃(ψ:AD),Sub φ ψ∧us.length=z.2.2.2.length∧St ψ (Da r n f g z.2.1 z.2.2.1 us z.2.2.2 vs D++F) w) (true,()) rfl ⟨rfl,φ,iT _,hus,Y⟩ ?_;rintro y w ⟨mo,c,nu,A⟩ e ⟨hy,ψ,le,hl,st⟩ he hb;dsimp only at hy hl st he;refine AH he hy (λ_ he=> ?_) (λ_ he=> ?_)
  ·have⟨ro,hro,he⟩:=bS he;obtain rfl:=iS he;have⟨rest,hp⟩:=cy (r:=r) (n:=n) (f:=f) (g:=g) (null:=nu) (us:=us) (A:=A) (vs:=vs) (B:=D) c;refine AA (b:=r) (j:=3) (x:=c) (st.perm (hp c F)) rfl<|Cf (b:=r) (j:=3) (v:=.int .i64 (gP .i64 (c+1))) (st.perm (hp c F)) rfl (by simp) ?_;intro I o;have s:St ψ (Da r n f g (gP .i64 (c+1)) nu us A vs D++F) I:=o.perm (hp _ F).symm;refine UX (cB.mono le) (k.mono le) (kf.mono le) hl s hro ?_;intro J O h4 d G H m;exact AZ (O.2.1,()) _ rfl rfl ⟨G,J,le.trans d,H,m⟩
  ·obtain rfl:=iS he;obtain rfl:=hb _ rfl;exact AI (AL y rfl ⟨ψ,le,hl,st⟩)
 ·rintro y w ⟨ψ,le,hl,st⟩;obtain⟨c,nu,A⟩:=Z;dsimp only at hl st hfo;refine AG (x:=g) (EP st (j:=2) rfl) rfl<|AG (x:=t.2.1) (HT (cB.mono le) st 1 _ rfl) rfl ?_;rw[n1];have hB:=P8 hrow;have hku:p.2.1.length<vs.length:=by rw[hvs];exact(gS.1 hB).1
  have hu:vs[p.2.1.length]? =some vs[p.2.1.length]:=gO hku;obtain⟨D2,a0,Q,R,r2,S⟩:=(kg.mono le).get (i:=(p.2.1.length:Int)) (by rw[CK];exact hu);refine AF _ Q (Ah R ?_);obtain rfl:=r2;refine AG (x:=vs[p.2.1.length]) (AJ st.sub (S 0 _ rfl)) rfl ?_;have⟨rest,hp⟩:=bo (r:=r) (n:=n) (f:=f) (g:=g) (c:=c) (null:=nu) (us:=us) (A:=A) hu hB;have o:=st.perm (hp F).1;have⟨D4,K,q4⟩:=mK o hrow';refine AF _ K (Ah q4 (Ef o hrow' rfl K ?_));intro h3 s;have m:=s.perm ((hp F).2 row').symm;refine Ag (λ(y:Bool×Unit) w (z:List (List Bool))=>∃(ψ:AD),Sub φ ψ∧vs.length=z.length∧St ψ (Da r n f g c nu us A vs z++F) w) (g:=fo) ?_ ?_
  ·refine CA hfo (λ(y:Bool×Unit) w (z:Bool×List (List Bool))=>y.1=z.1∧ ∃(ψ:AD),Sub φ ψ∧vs.length=z.2.length∧St ψ (Da r n f g c nu us A vs z.2++F) w) (true,()) rfl ⟨rfl,ψ,le,by rw[iF];exact hvs,m⟩ ?_;rintro y w ⟨mo,B⟩ e ⟨hy,ψ,le,q,st⟩ he hb;dsimp only at hy q st he;refine AH he hy (λ_ he=> ?_) (λ_ he=> ?_)
   ·have⟨ro,hro,he⟩:=bS he;obtain rfl:=iS he;refine TE (cB.mono le) (k.mono le) (kf.mono le) (kg.mono le) hl q st hro ?_;intro J O h4 d G H m;exact AZ (O.2.1,()) _ rfl rfl ⟨G,J,le.trans d,H,m⟩
   ·obtain rfl:=iS he;obtain rfl:=hb _ rfl;exact AI (AL y rfl ⟨ψ,le,q,st⟩)
  ·rintro y w ⟨ψ,le,q,st⟩;have⟨ψ1,T,kn,U⟩:=iG (t:=n) st;have o:St ψ1 (rB us A++(rB vs fo++(⟨lO 136,[.pointer (fH r)],[sv n,sv f,sv g,.int .i64 c]⟩::F))) w:=by
    have e:∀(a b:List Chk) (x:Chk),(a++(b++ [x])) ++F=a++(b++(x::F)):=λa b x=>by simp[iJ]
    rw[←e];exact U
   have⟨ψ2,V,kA,s⟩:=lQ hl o;have⟨ψ3,L,kB,m⟩:=lQ q s;have⟨J,d,kC,W⟩:=mJ m;have E:=(V.trans L).trans d;have M:=L.trans d;have C:=(le.trans T).trans E;refine hK J (fH r) w C ⟨_,_,rfl,?_,kC⟩ W;refine⟨[sv n],[sv f,sv g,.int .i64 c],rfl,⟨n,rfl,kn.mono E⟩,[sv f],[sv g,.int .i64 c],rfl,⟨f,rfl,?_⟩,[sv g],[.int .i64 c],rfl,⟨g,rfl,?_⟩,rfl⟩
   ·exact Ir hl (λi u l X I=>(kA i u l X I).mono M) (kf.mono C)
   ·exact Ir q (λi u l X I=>(kB i u l X I).mono d) (kg.mono C)
theorem YS (cB:Ci φ (fH r1) (plV t)) (k:PlK φ t p) (i:Sub φ0 φ) {null:List Bool}{a:List (List Bool)}(kf:Ro.SliceIs jF φ f us) (kg:Ro.SliceIs jF φ g vs) (hus:us.length=a.length) (hvs:vs.length=a.length) {x:OI}(hd:NJ p null a=some x)
 (j:St φ (cR 4 gX n null::(rB us a++(rB vs a++F))) h):
 (T.new (.cells #[.slice n.1 n.2.1 n.2.2,.slice f.1 f.2.1 f.2.2,.slice g.1 g.2.1 g.2.2,.int .i64 (0:Int)] 136 (0,0)) λc=>Nt r1 c).wp iA (Ln (Ap λv h'=>∃ψ:AD,∃y:gL,∃l:OI,Sub φ0 ψ∧v=fO.val y∧l=x∧Pt YR ψ y l∧St ψ F h')) h:=by
 refine AV (vs:=[sv n,sv f,sv g,.int .i64 0]) j ?_;intro c q o;have e:∀(b d:List Chk) (x m:Chk),(x::m::(b++(d++F))).Perm ((m::(b++(d++ [x]))) ++F):=λb d x m=>by
  have:(m::(b++(d++ [x]))) ++F=(m::(b++d)) ++(x::F):=by simp[iJ]
  rw[this];refine List.Perm.trans ?_ List.perm_middle.symm;simp[iJ]
 refine WE (n:=n) (f:=f) (g:=g) cB k kf kg hus hvs (o.perm (e _ _ _ _)) hd ?_;intro ψ y h' le pt st;exact AC ⟨ψ,y,x,i.trans le,rfl,rfl,pt,st⟩
end
def Hs (l:List Bool) (t:Int):Prop:=0≤t∧l[t.toNat]? =some true
def Hr (ls:List (List Bool)) (k:Nat) (t:Int):Prop:= ∃l,ls[k]? =some l∧Hs l t
def fz (l:List Bool):Nat:=l.countP λb=> !b
def fzs (ls:List (List Bool)):Nat:=(ls.map fz).sum
theorem YT {l:List Bool}{k:Nat}(h:l[k]? =some false):fz (l.set k true)+1=fz l:=Gd h
theorem VM:∀ {ls:List (List Bool)}{k:Nat}{a b:List Bool},ls[k]? =some a→fzs (ls.set k b)+fz a=fzs ls+fz b:=by
 intro ls
 induction ls with
 |nil=>intro k a b h;simp at h
 |cons x ls ih=>
  intro k a b h;cases k with
  |zero=>
   obtain rfl:x=a:=by simpa using h
   simp only[kX,fzs,lB,lC];omega
  |succ k=>
   have:=ih (k:=k) (a:=a) (b:=b) (by simpa using h)
   simp only[fzs]at this;simp only[kJ,fzs,lB,lC];omega
theorem UY {l:List Bool}{k:Nat}{t:Int}(h:Hs l t):Hs (l.set k true) t:=by
 refine⟨h.1,?_⟩;rw[hZ];split
 ·next e=>subst e;rw[gF (gS.1 h.2).1]
 ·exact h.2
theorem Rm {l:List Bool}{t:Int}(a:0≤t) (b:t< (l.length:Int)):Hs (l.set t.toNat true) t:=by
 refine⟨a,?_⟩;rw[hZ,gF rfl,gF (by omega)]
theorem aM {l:List Bool}{k:Nat}{t:Int}(h:Hs (l.set k true) t):Hs l t∨t.toNat=k:=by
 obtain⟨b,a⟩:=h;by_cases e:k=t.toNat
 ·exact .inr e.symm
 ·rw[jK e]at a;exact .inl ⟨b,a⟩
theorem Rn {a b:List Bool}(h:a.length=b.length) (hl:b.length≤1000000):Ok (Ar a b) λr=>r.2.length=a.length∧(∀t,Hs a t∨Hs b t→Hs r.2 t)∧fz r.2≤fz a∧(r.1=true→fz r.2<fz a)∧(r.1=false→r.2=a)∧ ∀t,Hs r.2 t→Hs a t∨Hs b t:=by
 unfold Ar;refine BV (λj (z:Bool×List Bool)=>z.2.length=a.length∧(∀t,Hs a t→Hs z.2 t)∧(∀t,t< (j:Int)→Hs b t→Hs z.2 t)∧fz z.2≤fz a∧(z.1=true→fz z.2<fz a)∧(z.1=false→z.2=a)∧ ∀t,Hs z.2 t→Hs a t∨Hs b t) (by omega) ⟨rfl,λt ht=>ht,λt s d=>by have:=d.1;omega,iB _,(λe=>by cases e),λ_=>rfl,λt h=>.inl h⟩ (λj z hj hz=> ?_) λz hz=> ?_
 ·obtain⟨f,g,i,m,n,o,k⟩:=hz;have hb:=gO hj;obtain⟨x,hx⟩:∃x,b[j] =x:=⟨_,rfl⟩;rw[hx]at hb;have hzj:j<z.2.length:=by omega
  have hzz:=gO hzj;obtain⟨y,hy⟩:∃y,z.2[j] =y:=⟨_,rfl⟩;rw[hy]at hzz;refine AM (Q:=λc=>c=(x && !y)) (AS hb ?_) λc hc=> ?_
  ·cases x
   ·exact Af rfl (AB rfl)
   ·exact BK rfl (AS hzz (AB rfl))
  refine AM (Q:=λ(e:Bool×List Bool)=>e=if(x && !y)=true then(true,z.2.set j true) else z) ?_ λe he=>AB ?_
  ·refine AR (λh=> ?_) λh=> ?_
   ·rw[hc]at h;rw[gF h];refine ER (by omega) (by omega) (AB ?_);rw[gT]
   ·rw[hc]at h;rw[gG (by rw[h];simp)];exact AB rfl
  ·subst he;split
   ·next hxy=>
    rw[iZ]at hxy;obtain⟨rfl,p⟩:=hxy;obtain rfl:y=false:=by simpa using p
    have hf:=YT hzz;refine⟨by simp[f],λt ht=>UY (g t ht),λt s d=> ?_,by dsimp only;omega,λ_=>by dsimp only;omega,(λe=>by cases e),λt h=> ?_⟩
    rotate_right
    ·rcases aM h with h | e
     ·exact k t h
     ·exact .inr ⟨h.1,by rw[e];exact hb⟩
    by_cases e:t=(j:Int)
    ·subst e
     have:=Rm (l:=z.2) (t:=(j:Int)) (by omega) (by omega)
     rwa [gT]at this
    ·exact UY (i t (by omega) d)
   ·next hxy=>
    refine⟨f,g,λt s d=> ?_,m,n,o,k⟩;by_cases e:t=(j:Int)
    ·subst e;have q:=d.2;rw[gT,hb]at q;obtain rfl:x=true:=by simpa using q
     refine⟨by omega,?_⟩;rw[gT,hzz];cases y
     ·simp at hxy
     ·rfl
    ·exact i t (by omega) d
 ·obtain⟨f,g,i,m,n,o,k⟩:=hz;refine AB ⟨f,λt ht=> ?_,m,n,o,k⟩;rcases ht with ht | ht
  ·exact g t ht
  ·have q:=(gS.1 ht.2).1
   have:=ht.1
   exact i t (by omega) ht
theorem NK {α:Type}{n:Int}{x:α}(a:0≤n) (b:n≤1073741824):Dh n x=some (jE n.toNat x):=gF ⟨a,b⟩
def Bg (nt:Int) (null:List Bool) (first:List (List Bool)):gM→Int→Prop
 | [],_=>False
 |s::l,t=>if s<nt then t=s else Hr first (s - nt).toNat t∨(null[(s - nt).toNat]? =some true∧Bg nt null first l t)
def Bn (nt:Int) (null:List Bool):gM→Prop
 | [] =>True
 |s::l=>nt≤s∧null[(s - nt).toNat]? =some true∧Bn nt null l
structure ShT (N m:Nat) (null:List Bool) (first:List (List Bool)):Prop where
 n:null.length=m
 f:first.length=m
 w:∀l∈first,l.length=N
theorem Ps {N m:Nat}{null:List Bool}{first:List (List Bool)}(S:ShT N m null first) (hN:N≤1000) (hm:m≤1001) {seq:gM}(hs:∀s∈seq,0≤s∧s< (N:Int)+(m:Int)) (hl:seq.length≤1000):
 Ok (Kk (N:Int) null first seq) λr=>r.1.length=N∧(∀t,Hs r.1 t↔Bg (N:Int) null first seq t)∧(r.2=true↔Bn (N:Int) null seq):=by
 unfold Kk;refine AP (NK (by omega) (by omega)) ?_;rw[gT];refine F6 (λj (out:List Bool)=>out.length=N∧(∀t,Bg (N:Int) null first seq t↔Hs out t∨Bg (N:Int) null first (seq.drop j) t)∧(Bn (N:Int) null seq↔Bn (N:Int) null (seq.drop j))) (λ(r:List Bool×Bool)=>r.1.length=N∧(∀t,Hs r.1 t↔Bg (N:Int) null first seq t)∧r.2=false∧ ¬Bn (N:Int) null seq) (by omega) ⟨by simp,λt=>⟨.inr,λh=>h.elim (λh=> ?_) id⟩,mI⟩ (λj out hj hz=> ?_) (λout hz=> ?_) λb hb=> ?_
 ·have:=gQ h.2
  simp at this
 ·obtain⟨e,a,c⟩:=hz;have hx:=gO hj;obtain⟨s,hse⟩:∃s,seq[j] =s:=⟨_,rfl⟩;rw[hse]at hx;have⟨k,v⟩:=hs s (gQ hx);have hd:=NF hx;refine AS hx ?_;by_cases hlt:s< (N:Int)
  ·have hbg:∀t,Bg (N:Int) null first (seq.drop j) t↔t=s:=λt=>by rw[hd];unfold Bg;rw[gF hlt]
   refine BK (by rw[gC k,gC hlt];rfl) (ER k (by omega) (As ⟨by simp[e],λt=> ?_,rfl,λhn=> ?_⟩))
   ·rw[a,hbg];constructor
    ·intro h;rcases aM h with g | g
     ·exact .inl g
     ·have:=h.1;exact .inr (by omega)
    ·rintro(h | rfl)
     ·exact UY h
     ·exact Rm k (by omega)
   ·have:=c.1 hn
    rw[hd]at this
    have:=this.1
    omega
  ·refine Af (by rw[gB hlt,lM]) ?_;have hw:gP .i64 (s - (N:Int))=s - (N:Int):=w64 (by omega) (by omega);rw[hw];have hk:(s - (N:Int)).toNat<m:=by omega
   have hfr:=gO (l:=first) (i:=(s - (N:Int)).toNat) (by rw[S.f];exact hk);have hnl:=gO (l:=null) (i:=(s - (N:Int)).toNat) (by rw[S.n];exact hk);have hrl:=S.w _ (gQ hfr);obtain⟨row,hrow⟩:∃row,first[(s - (N:Int)).toNat]'(by rw[S.f];exact hk)=row:=⟨_,rfl⟩;obtain⟨nl,hnle⟩:∃nl,null[(s - (N:Int)).toNat]'(by rw[S.n];exact hk)=nl:=⟨_,rfl⟩;rw[hrow]at hfr hrl;rw[hnle]at hnl;have hSn:=S.n;have hbg:∀t,Bg (N:Int) null first (seq.drop j) t↔Hs row t∨(nl=true∧Bg (N:Int) null first (seq.drop (j+1)) t):=λt=>by
    rw[hd]
    conv=>lhs;unfold Bg
    rw[gG hlt,hnl];refine or_congr ⟨λ⟨l,o,p⟩=> ?_,λh=>⟨row,hfr,h⟩⟩ (and_congr ⟨λh=>by cases h;rfl,λh=>by rw[h]⟩ mI);rw[hfr]at o;cases o;exact p
   have hbn:Bn (N:Int) null (seq.drop j)↔nl=true∧Bn (N:Int) null (seq.drop (j+1)):=by
    rw[hd]
    conv=>lhs;unfold Bn
    rw[hnl];exact⟨λh=>⟨by simpa using h.2.1,h.2.2⟩,λh=>⟨by omega,by rw[h.1],h.2⟩⟩
   refine Af (by rw[gB (by omega),gB (by omega)];rfl) (Ck (by omega) hfr (AM (Rn (by omega) (by omega)) λr hr=>Ck (by omega) hnl ?_));obtain⟨r1,q,_,_,_,u⟩:=hr;have d:∀t,Hs r.2 t↔Hs out t∨Hs row t:=λt=>⟨u t,q t⟩;refine AR (λhb=> ?_) λhb=> ?_
   ·subst hb;refine BJ ⟨by omega,λt=> ?_,?_⟩
    ·rw[a,hbg,d,or_assoc];simp
    ·rw[c,hbn];simp
   ·subst hb;refine As ⟨by dsimp only;omega,λt=> ?_,rfl,λhn=> ?_⟩
    ·rw[a,hbg];dsimp only;rw[d];simp
    ·rw[c,hbn]at hn;exact lS hn.1
 ·obtain⟨e,a,c⟩:=hz;rw[List.drop_of_length_le (iB _)]at a c;exact AB ⟨e,λt=>by rw[a];unfold Bg;simp,λ_=>c.2 trivial,λ_=>rfl⟩
 ·exact AB ⟨hb.1,hb.2.1,Iff.intro (λh=>by rw[hb.2.2.1]at h;cases h) λh=>(hb.2.2.2 h).elim⟩
structure Sd (nt:Int) (R:Rl) (null:List Bool) (first:List (List Bool)):Prop where
 n:∀k:Nat,null[k]? =some true→Nul R (nt+(k:Int))
 f:∀(k:Nat) t,Hr first k t→Fs nt R [nt+(k:Int)] t
theorem YU {nt:Int}{R:Rl}{l:gM}{t:Int}(h:Fs nt R l t) (m:gM):Fs nt R (l++m) t:=by
 induction h with
 |term h=>exact .term h
 |var a b c _=>exact .var a b c
 |skip a _ ih=>exact .skip a ih
theorem Sd.nul {nt:Int}{R:Rl}{null:List Bool}{first:List (List Bool)}(D:Sd nt R null first):∀ {l:gM},Bn nt null l→ ∀s∈l,Nul R s:=by
 intro l
 induction l with
 |nil=>intro _ s h;cases h
 |cons a l ih=>
  rintro⟨d,b,c⟩ s hs;rcases iQ.1 hs with rfl | hs
  ·have:=D.n _ b
   rwa [show nt+((s - nt).toNat:Int)=s by omega]at this
  ·exact ih c s hs
theorem Sd.fst {nt:Int}{R:Rl}{null:List Bool}{first:List (List Bool)}(D:Sd nt R null first) {t:Int}:∀ {l:gM},Bg nt null first l t→Fs nt R l t:=by
 intro l
 induction l with
 |nil=>intro h;exact h.elim
 |cons a l ih=>
  intro h;unfold Bg at h;split at h
  ·next hs=>subst h;exact .term hs
  ·next hs=>
   rcases h with h | ⟨b,c⟩
   ·have:=D.f _ t h
    rw[show nt+((a - nt).toNat:Int)=a by omega]at this;exact YU this l
   ·have:=D.n _ b
    rw[show nt+((a - nt).toNat:Int)=a by omega]at this;exact .skip this (ih c)
section
variable {p:dtP}
theorem YV {α:Type}{o:Option α}{P:α→Prop}(h:Ok (o.bind some) P):Ok o P:=by cases o<;>exact h
def Cl1 (p:dtP) (null:List Bool) (first:List (List Bool)) (ru:Ax):Prop:=
 (∀t,Bg (nT p) null first ru.2.1 t→Hr first (ru.1 - nT p).toNat t)∧(Bn (nT p) null ru.2.1→null[(ru.1 - nT p).toNat]? =some true)
def Cl2 (p:dtP) (null:List Bool) (first follow:List (List Bool)) (ru:Ax) (j:Nat):Prop:=
 ∀s,ru.2.1[j]? =some s→nT p≤s→(∀t,Bg (nT p) null first (ru.2.1.drop (j+1)) t→Hr follow (s - nT p).toNat t)∧(Bn (nT p) null (ru.2.1.drop (j+1))→ ∀t,Hr follow (ru.1 - nT p).toNat t→Hr follow (s - nT p).toNat t)
def Rp (null:List Bool) (first:List (List Bool)):Nat:=fz null+fzs first
theorem br {N m:Nat}{null null':List Bool}{first:List (List Bool)}(S:ShT N m null first) {k:Nat}{l:List Bool}(hl:l.length=N) (hn:null'.length=null.length):ShT N m null' (first.set k l):=
 ⟨hn.trans S.n,by rw[iF];exact S.f,λx hx=>by
  rcases iY hx with h | rfl
  ·exact S.w x h
  ·exact hl⟩
theorem UZ (H:Sy p) {null:List Bool}{first:List (List Bool)}(S:ShT p.1.length (p.2.1.length+1) null first) (D:Sd (nT p) p.2.2.1 null first):
 Ok (Pp p null first) λr=>(ShT p.1.length (p.2.1.length+1) r.2.1 r.2.2∧Sd (nT p) p.2.2.1 r.2.1 r.2.2)∧(r.1=true→Rp r.2.1 r.2.2<Rp null first)∧(r.1=false→r.2=(null,first)∧ ∀ru∈p.2.2.1,Cl1 p null first ru):=by
 unfold Pp;have hT:=H.t1;have hV:=H.v1;have hF:=H.few;refine YV (BV (λj (z:Bool×List Bool×List (List Bool))=>(ShT p.1.length (p.2.1.length+1) z.2.1 z.2.2∧Sd (nT p) p.2.2.1 z.2.1 z.2.2)∧Rp z.2.1 z.2.2≤Rp null first∧(z.1=true→Rp z.2.1 z.2.2<Rp null first)∧(z.1=false→z.2=(null,first)∧ ∀(i:Nat) ru,i<j→p.2.2.1[i]? =some ru→Cl1 p null first ru))
  (by omega) ⟨⟨S,D⟩,iB _,(λe=>by cases e),λ_=>⟨rfl,λi ru hi=>by omega⟩⟩ (λj z hj hz=> ?_) λx a=>AB ⟨a.1,a.2.2.1,λe=>⟨(a.2.2.2 e).1,λru hru=> ?_⟩⟩)
 ·obtain⟨⟨c,zD⟩,A,B,E⟩:=hz;have hx:=gO hj;obtain⟨ru,hru⟩:∃ru,p.2.2.1[j] =ru:=⟨_,rfl⟩;rw[hru]at hx;have hmem:=gQ hx;have⟨P,Q⟩:=H.left ru hmem;have hnT:nT p=(p.1.length:Int):=rfl;refine AS hx (AM (Ps c (by omega) (by omega) (λs hs=> ?_) (H.short ru hmem)) λb hb=> ?_)
  ·have:=H.right ru hmem s hs
   rw[hnT]at this;omega
  obtain⟨R,q,u⟩:=hb;have hw:gP .i64 (ru.1 - nT p)=ru.1 - nT p:=w64 (by omega) (by omega);rw[hw];obtain⟨k,hk⟩:∃k:Nat,ru.1 - nT p=(k:Int):=⟨_,(hO (by omega)).symm⟩;have hkm:k<p.2.1.length+1:=by omega
  rw[hk,gT];have hfr:=gO (l:=z.2.2) (i:=k) (by rw[c.f];exact hkm);have hnl:=gO (l:=z.2.1) (i:=k) (by rw[c.n];exact hkm);have hrl:=c.w _ (gQ hfr);obtain⟨row,hrow⟩:∃row,z.2.2[k]'(by rw[c.f];exact hkm)=row:=⟨_,rfl⟩;obtain⟨nl,hnle⟩:∃nl,z.2.1[k]'(by rw[c.n];exact hkm)=nl:=⟨_,rfl⟩;rw[hrow]at hfr hrl;rw[hnle]at hnl;have hzn:=c.n;refine AS hfr (AM (Rn (by omega) (by omega)) λr hr=>AS hnl (ER (by omega) (by omega) (AB ?_)));obtain⟨r1,F,r3,G,I,J⟩:=hr;rw[gT];have K:=VM (b:=r.2) hfr;have m:fz (z.2.1.set k (nl || b.2)) ≤fz z.2.1∧((b.2 && !nl)=true→fz (z.2.1.set k (nl || b.2)) <fz z.2.1)∧((b.2 && !nl)=false→z.2.1.set k (nl || b.2)=z.2.1):=by
   cases nl with
   |true=>
    rw[Bool.true_or,Ge hnl];exact⟨iB _,λh=>by simp at h,λ_=>rfl⟩
   |false=>
    cases L:b.2 with
    |true=>
     have:=YT hnl
     rw[lP];exact⟨by omega,λ_=>by omega,λh=>by simp at h⟩
    |false=>
     rw[lP,Ge hnl];exact⟨iB _,λh=>by simp at h,λ_=>rfl⟩
  have hrk:ru.1=nT p+(k:Int):=by omega
  refine⟨⟨br c (r1.trans hrl) (by simp),λi hi=> ?_,λi t hi=> ?_⟩,?_,?_,?_⟩
  ·by_cases e:k=i
   ·subst e;rw[kN (by omega)]at hi;cases nl with
    |true=>exact zD.n k hnl
    |false=>
     rw[←hrk];exact .rule hmem (zD.nul (u.1 (by simpa using hi)))
   ·dsimp only at hi;rw[jK e]at hi;exact zD.n i hi
  ·obtain⟨l,d,C⟩:=hi;by_cases e:k=i
   ·subst e;dsimp only at d;rw[kN (gS.1 hfr).1]at d;cases d;rcases J t C with g | g
    ·exact zD.f k t ⟨row,hfr,g⟩
    ·exact .var hmem hrk (zD.fst ((q t).1 g))
   ·dsimp only at d;rw[jK e]at d;exact zD.f i t ⟨l,d,C⟩
  ·unfold Rp at A ⊢;dsimp only;omega
  ·dsimp only;intro e;unfold Rp at A B ⊢;rcases iH _ _ |>.mp e with e | e
   ·rcases iH _ _ |>.mp e with e | e
    ·have:=B e
     omega
    ·have:=G e
     omega
   ·have:=m.2.1 e
    omega
  ·dsimp only;intro e;rw[iN,iN]at e;obtain⟨⟨M,N⟩,v⟩:=e;have⟨y,O⟩:=E M;have o:=I N;rw[o,Ge hfr,m.2.2 v];refine⟨y,λi ru' hi h'=> ?_⟩;rcases iE.1 hi with h | rfl
   ·exact O i ru' h h'
   ·rw[hx]at h';cases h';have gn:z.2.1=null:=gH Prod.fst y;have gf:z.2.2=first:=gH Prod.snd y;rw[gn,gf]at q;rw[gn]at u hnl;rw[gf]at hfr;unfold Cl1;rw[hk,gT];refine⟨λt ht=>⟨row,hfr,?_⟩,λhn=> ?_⟩
    ·have:=F t (.inr ((q t).2 ht))
     rwa [o]at this
    ·have:=u.2 hn
     rw[this]at v;rw[hnl];cases nl
     ·simp at v
     ·rfl
 ·obtain⟨i,hi⟩:=gV hru;exact(a.2.2.2 e).2 i ru (gS.1 hi).1 hi
end
section
variable {p:dtP}
structure Iw (p:dtP) (follow:List (List Bool)) (C:Prop) (z:Bool×List (List Bool)):Prop where
 f:z.2.length=p.2.1.length+1
 w:∀l∈z.2,l.length=p.1.length
 up:∀k t,Hr follow k t→Hr z.2 k t
 le:fzs z.2≤fzs follow
 lt:z.1=true→fzs z.2<fzs follow
 eq:z.1=false→z.2=follow∧C
theorem bu {ls:List (List Bool)}{k:Nat}{a b:List Bool}(h:ls[k]? =some a) (hab:∀t,Hs a t→Hs b t) {i:Nat}{t:Int}(H:Hr ls i t):Hr (ls.set k b) i t:=by
 obtain⟨l,c,d⟩:=H;by_cases e:k=i
 ·subst e;rw[h]at c;cases c;exact⟨b,by rw[hZ,gF rfl,gF (gS.1 h).1],hab t d⟩
 ·exact⟨l,by rw[jK e];exact c,d⟩
theorem TF (H:Sy p) {null:List Bool}{first follow:List (List Bool)}(S:ShT p.1.length (p.2.1.length+1) null first) (hf:follow.length=p.2.1.length+1) (hw:∀l∈follow,l.length=p.1.length):
 Ok (NI p null first follow) (Iw p follow (∀ru∈p.2.2.1,∀j,Cl2 p null first follow ru j)):=by
 unfold NI;have hT:=H.t1;have hV:=H.v1;have hF:=H.few;have hnT:nT p=(p.1.length:Int):=rfl;refine YV (BV (λi=>Iw p follow (∀(i':Nat) ru,i'<i→p.2.2.1[i']? =some ru→ ∀j,Cl2 p null first follow ru j)) (by omega) ⟨hf,hw,λ_ _ h=>h,iB _,(λe=>by cases e),λ_=>⟨rfl,λi' ru hi=>by omega⟩⟩ (λi y hi hy=> ?_) λx hx=>AB ⟨hx.f,hx.w,hx.up,hx.le,hx.lt,λe=>⟨(hx.eq e).1,λru hru=> ?_⟩⟩)
 ·have hx:=gO hi;obtain⟨ru,hru⟩:∃ru,p.2.2.1[i] =ru:=⟨_,rfl⟩;rw[hru]at hx;have hmem:=gQ hx;have⟨l0,l1⟩:=H.left ru hmem;have hsh:=H.short ru hmem;refine AS hx (YV (BV (λj=>Iw p follow ((∀(i':Nat) ru,i'<i→p.2.2.1[i']? =some ru→ ∀j,Cl2 p null first follow ru j)∧ ∀j':Nat,j'<j→Cl2 p null first follow ru j')) (by omega) ⟨hy.f,hy.w,hy.up,hy.le,hy.lt,λe=>⟨(hy.eq e).1,(hy.eq e).2,λj' h=>by omega⟩⟩ (λj z hj hz=> ?_) λx hx'=>AB ⟨hx'.f,hx'.w,hx'.up,hx'.le,hx'.lt,λe=>⟨(hx'.eq e).1,λi' ru' hi' hr'=> ?_⟩⟩))
  ·have hxs:=gO hj;obtain⟨s,hse⟩:∃s,ru.2.1[j] =s:=⟨_,rfl⟩;rw[hse]at hxs;have⟨s0,s1⟩:=H.right ru hmem s (gQ hxs);refine AS hxs (AR (λhlt=>AB ?_) λhlt=> ?_)
   ·have hlt:=gD hlt;refine⟨hz.f,hz.w,hz.up,hz.le,hz.lt,λe=>⟨(hz.eq e).1,(hz.eq e).2.1,λj' h=> ?_⟩⟩;rcases iE.1 h with h | rfl
    ·exact(hz.eq e).2.2 j' h
    ·intro s' h' hn;rw[hxs]at h';cases h';omega
   ·have hlt:=gE hlt;have hdr:(ru.2.1.drop (((j:Nat):Int)+1).toNat)=ru.2.1.drop (j+1):=by rw[show(((j:Nat):Int)+1).toNat=j+1 by omega]
    rw[hdr];refine AM (Ps S (by omega) (by omega) (λx hx=> ?_) (by rw[List.length_drop];omega)) λb hb=> ?_
    ·have:=H.right ru hmem x (kF hx)
     rw[hnT]at this;omega
    obtain⟨b1,M,N⟩:=hb;have C:gP .i64 (s - nT p)=s - nT p:=w64 (by omega) (by omega);have D:gP .i64 (ru.1 - nT p)=ru.1 - nT p:=w64 (by omega) (by omega);rw[C,D];obtain⟨k,hk⟩:∃k:Nat,s - nT p=(k:Int):=⟨_,(hO (by omega)).symm⟩;obtain⟨m,n⟩:∃k:Nat,ru.1 - nT p=(k:Int):=⟨_,(hO (by omega)).symm⟩;have hkm:k<p.2.1.length+1:=by omega
    have c:m<p.2.1.length+1:=by omega
    rw[hk,n,gT];have hfr:=gO (l:=z.2) (i:=k) (by rw[hz.f];exact hkm);have a:=gO (l:=z.2) (i:=m) (by rw[hz.f];exact c);have hrl:=hz.w _ (gQ hfr);have o:=hz.w _ (gQ a);obtain⟨row,hrow⟩:∃row,z.2[k]'(by rw[hz.f];exact hkm)=row:=⟨_,rfl⟩;obtain⟨u,d⟩:∃row,z.2[m]'(by rw[hz.f];exact c)=row:=⟨_,rfl⟩;rw[hrow]at hfr hrl;rw[d]at a o;refine AS hfr (AM (Rn (by omega) (by omega)) λr hr=> ?_);obtain⟨r1,I,r3,O,P,_⟩:=hr;refine AM (Q:=λ(q:Bool×List Bool)=>q.2.length=p.1.length∧(∀t,Hs r.2 t→Hs q.2 t)∧(b.2=true→k≠m→ ∀t,Hs u t→Hs q.2 t)∧fz q.2≤fz r.2∧(q.1=true→fz q.2<fz r.2)∧(q.1=false→q.2=r.2)) ?_ λq hq=>AB ?_
    ·refine AR (λv=>AS a (AR (λhe=> ?_) λhe=> ?_)) λv=>AB ⟨r1.trans hrl,λt h=>h,(λe=>by rw[v]at e;cases e),iB _,(λe=>by cases e),λ_=>rfl⟩
     ·have he:=gD he;exact Bp (by omega) (AB ⟨r1.trans hrl,λt h=>h,λ_ hne=>(hne (by omega)).elim,iB _,(λe=>by cases e),λ_=>rfl⟩)
     ·refine(Rn (by omega) (by omega)).mono λq hq=> ?_;obtain⟨J,A,E,K,F,_⟩:=hq;exact⟨by omega,λt h=>A t (.inl h),λ_ _ t h=>A t (.inr h),E,K,F⟩
    obtain⟨J,A,E,K,F,R⟩:=hq;have T:=VM (b:=q.2) hfr;have hle:=hz.le;refine⟨by rw[iF];exact hz.f,λx hx=> ?_,λk' t h=>bu hfr (λt h=>A t (I t (.inl h))) (hz.up k' t h),by dsimp only;omega,?_,?_⟩
    ·rcases iY hx with h | rfl
     ·exact hz.w x h
     ·exact J
    ·dsimp only;intro e;rcases iH _ _ |>.mp e with e | e
     ·rcases iH _ _ |>.mp e with e | e
      ·have:=hz.lt e
       omega
      ·have:=O e
       omega
     ·have:=F e
      omega
    ·dsimp only;intro e;rw[iN,iN]at e;obtain⟨⟨U,V⟩,W⟩:=e;have⟨L,X,Y⟩:=hz.eq U;have Z:=P V;have G:=(R W).trans Z;rw[G,Ge hfr];refine⟨L,X,λj' h=> ?_⟩;rcases iE.1 h with h | rfl
     ·exact Y j' h
     ·intro s' h' hn;rw[hxs]at h';cases h';rw[hk,n,gT,gT];rw[L]at hfr a;refine⟨λt ht=>⟨row,hfr,?_⟩,λhbn t ht=> ?_⟩
      ·have:=A t (I t (.inr ((M t).2 ht)))
       rwa [G]at this
      ·obtain⟨l,g,B⟩:=ht;by_cases hkk:k=m
       ·subst hkk;exact⟨l,g,B⟩
       ·rw[a]at g;cases g
        have:=E (N.2 hbn) hkk t B
        rw[G]at this;exact⟨row,hfr,this⟩
  ·rcases iE.1 hi' with h | rfl
   ·exact(hx'.eq e).2.1 i' ru' h hr'
   ·rw[hx]at hr';cases hr';intro j s h hn;exact(hx'.eq e).2.2 j (gS.1 h).1 s h hn
 ·obtain⟨i,hi⟩:=gV hru;exact(hx.eq e).2 i ru (gS.1 hi).1 hi
end
section
variable {p:dtP}
theorem YW (H:Sy p):Ok (Ce p) λf=>f.length=p.2.1.length+1∧(∀l∈f,l.length=p.1.length)∧ ∀l∈f,true∉l:=by
 have hT:=H.t1;have hV:=H.v1;unfold Ce;refine Bq (λ(z:Int×List (List Bool))=>z.1=(z.2.length:Int)∧z.2.length≤p.2.1.length+1∧ ∀l∈z.2,l.length=p.1.length∧true∉l) (λz=>p.2.1.length+1 - z.2.length) (λ(f:List (List Bool))=>f.length=p.2.1.length+1∧ ∀l∈f,l.length=p.1.length∧true∉l) ⟨rfl,by simp,λl h=>by cases h⟩ (λz hz=> ?_) λb hb=>AB ⟨hb.1,λl hl=>(hb.2 l hl).1,λl hl=>(hb.2 l hl).2⟩;obtain⟨c,d,a⟩:=hz;refine AR (λh=> ?_) λh=> ?_
 ·have h:=gD h;refine AP (NK (by omega) (by omega)) (BI (by simp;omega) ⟨_,rfl,.inl ⟨_,rfl,⟨?_,?_,λl hl=> ?_⟩,?_⟩⟩)
  ·dsimp only;rw[w64 (by omega) (by omega),iM,c];simp
  ·dsimp only;rw[iM];simp;omega
  ·rcases gZ.1 hl with h | h
   ·exact a l h
   ·obtain rfl:l=_:=iR.1 h;simp
  ·dsimp only;rw[iM];simp;omega
 ·have h:=gE h;exact⟨_,rfl,.inr ⟨_,rfl,by omega,a⟩⟩
structure Rq (p:dtP) (null:List Bool) (first:List (List Bool)):Prop where
 sh:ShT p.1.length (p.2.1.length+1) null first
 sd:Sd (nT p) p.2.2.1 null first
 cl:∀ru∈p.2.2.1,Cl1 p null first ru
theorem Rq.nul {null:List Bool}{first:List (List Bool)}(X:Rq p null first) (H:Sy p) {s:Int}(h:Nul p.2.2.1 s):nT p≤s∧null[(s - nT p).toNat]? =some true:=by
 induction h with
 | @rule r hr hall ih=>
  refine⟨(H.left r hr).1,(X.cl r hr).2 ?_⟩
  have:∀l:gM,(∀s∈l,nT p≤s∧null[(s - nT p).toNat]? =some true)→Bn (nT p) null l:=by
   intro l
   induction l with
   |nil=>intro _;trivial
   |cons a l ih=>intro h;exact⟨(h a (by simp)).1,(h a (by simp)).2,ih λs hs=>h s (hU _ hs)⟩
  exact this _ ih
theorem Rq.bn {null:List Bool}{first:List (List Bool)}(X:Rq p null first) (H:Sy p) {l:gM}:Bn (nT p) null l↔∀s∈l,Nul p.2.2.1 s:=by
 refine⟨X.sd.nul,?_⟩
 induction l with
 |nil=>intro _;trivial
 |cons a l ih=>intro h;exact⟨(X.nul H (h a (by simp))).1,(X.nul H (h a (by simp))).2,ih λs hs=>h s (hU _ hs)⟩
theorem Rq.bg {null:List Bool}{first:List (List Bool)}(X:Rq p null first) (H:Sy p) {l:gM}{t:Int}:Bg (nT p) null first l t↔Fs (nT p) p.2.2.1 l t:=by
 refine⟨X.sd.fst,λh=> ?_⟩
 induction h with
 |term hs=>unfold Bg;rw[gF hs]
 | @var s t l r hr he _ ih=>
  have hl:=(H.left r hr).1;unfold Bg;rw[gG (by omega),←he];exact .inl ((X.cl r hr).1 t ih)
 | @skip s t l hn _ ih=>
  have⟨b,a⟩:=X.nul H hn;unfold Bg;rw[gG (by omega)];exact .inr ⟨a,ih⟩
theorem YX (H:Sy p) {st:Int}(D:p.2.2.1[0]? =some (nT p+(p.2.1.length:Int),[st],0)):
 Ok (Pq p) λx=>Rq p x.1 x.2.1∧x.2.2.1.length=p.2.1.length+1∧(∀l∈x.2.2.1,l.length=p.1.length)∧ ∀a t,nT p≤a→Fw (nT p) p.2.2.1 a t→Hr x.2.2.1 (a - nT p).toNat t:=by
 have hT:=H.t1;have hV:=H.v1;have hnT:nT p=(p.1.length:Int):=rfl;unfold Pq NJ;have hw:gP .i64 ((p.2.1.length:Int)+1)=((p.2.1.length+1:Nat):Int):=by rw[w64 (by omega) (by omega)];omega
 rw[hw];refine AP (NK (by omega) (by omega)) (AM (YW H) λB q=> ?_);rw[gT];obtain⟨C,s,E⟩:=q;refine Bq (λ(z:Bool×Int×List Bool×List (List Bool))=>(ShT p.1.length (p.2.1.length+1) z.2.2.1 z.2.2.2∧Sd (nT p) p.2.2.1 z.2.2.1 z.2.2.2)∧(z.1=false→ ∀ru∈p.2.2.1,Cl1 p z.2.2.1 z.2.2.2 ru)) (λz=>2 *Rp z.2.2.1 z.2.2.2+cond z.1 1 0) (λ(z:Int×List Bool×List (List Bool))=>Rq p z.2.1 z.2.2) ⟨⟨⟨by simp,C,s⟩,λk h=> ?_,λk t h=> ?_⟩,λe=>by cases e⟩ (λz hz=> ?_) λz hz=> ?_
 ·have:=gQ h
  simp at this
 ·obtain⟨l,F,G⟩:=h;exact(E l (gQ F) (gQ G.2)).elim
 ·obtain⟨d,I⟩:=hz;refine AR (λh=>AM (UZ H d.1 d.2) λr hr=> ?_) λh=> ?_
  ·obtain⟨r1,J,r3⟩:=hr;refine⟨_,rfl,.inl ⟨_,rfl,⟨r1,λe=> ?_⟩,?_⟩⟩
   ·have⟨u,v⟩:=r3 e;rw[u];exact v
   ·dsimp only;rw[h];cases c:r.1 with
    |true=>
     have:=J c
     simp only[cond_true];omega
    |false=>
     rw[(r3 c).1];simp
  ·exact⟨_,rfl,.inr ⟨_,rfl,d.1,d.2,I h⟩⟩
 ·have S:=hz.sh;have hk:p.2.1.length<B.length:=by omega
  have hrow:=gO hk;obtain⟨row,hre⟩:∃row,B[p.2.1.length] =row:=⟨_,rfl⟩;rw[hre]at hrow;have hrl:=s row (gQ hrow);refine AS hrow (ER (by omega) (by omega) ?_);have A:Hs (row.set (0:Int).toNat true) 0:=Rm (by omega) (by omega);refine Bq (λ(y:Bool×List (List Bool))=>y.2.length=p.2.1.length+1∧(∀l∈y.2,l.length=p.1.length)∧Hr y.2 p.2.1.length 0∧(y.1=false→ ∀ru∈p.2.2.1,∀j,Cl2 p z.2.1 z.2.2 y.2 ru j)) (λy=>2 *fzs y.2+cond y.1 1 0) (λ(y:List (List Bool))=>y.length=p.2.1.length+1∧(∀l∈y,l.length=p.1.length)∧Hr y p.2.1.length 0∧ ∀ru∈p.2.2.1,∀j,Cl2 p z.2.1 z.2.2 y ru j) ⟨by rw[iF];exact C,λl hl=> ?_,⟨_,by rw[hZ,gF rfl,gF hk],A⟩,λe=>by cases e⟩ (λy hy=> ?_) λy hy=>AB ?_
  ·rcases iY hl with h | rfl
   ·exact s l h
   ·rw[iF];exact hrl
  ·obtain⟨i,m,n,o⟩:=hy;refine AR (λh=>AM (TF H S i m) λr hr=> ?_) λh=> ?_
   ·refine⟨_,rfl,.inl ⟨_,rfl,⟨hr.f,hr.w,hr.up _ _ n,λe=> ?_⟩,?_⟩⟩
    ·have⟨u,v⟩:=hr.eq e;rw[u];exact v
    ·rw[h];cases c:r.1 with
     |true=>
      have:=hr.lt c
      simp only[cond_true];omega
     |false=>
      rw[(hr.eq c).1];simp
   ·exact⟨_,rfl,.inr ⟨_,rfl,i,m,n,o h⟩⟩
  ·obtain⟨i,m,n,o⟩:=hy;refine⟨hz,i,m,?_⟩;dsimp only;intro a t ha hfw
   induction hfw with
   | @zero r hr=>
    rw[D]at hr;cases hr;dsimp only;rw[show(nT p+(p.2.1.length:Int) - nT p).toNat=p.2.1.length by omega];exact n
   | @first r b g a t hr he hf=>
    have hj:r.2.1[b.length]? =some a:=by rw[he];simp
    have hd:r.2.1.drop (b.length+1)=g:=by rw[he];simp
    exact((o r hr b.length) a hj ha).1 t (by rw[hd];exact(hz.bg H).2 hf)
   | @left r b g a t hr he hg _ ih=>
    have hj:r.2.1[b.length]? =some a:=by rw[he];simp
    have hd:r.2.1.drop (b.length+1)=g:=by rw[he];simp
    exact((o r hr b.length) a hj ha).2 (by rw[hd];exact(hz.bn H).2 hg) t (ih (H.left r hr).1)
end
end Go.Proofs.YtkfgeafgfeppfaaGreatDoor
namespace Go.Proofs.YtkfgeafgfeppfaaGreatDoor
open Go Go.Eng
section
variable {φ:AD}{h:AE}{F:List Chk}
theorem CO:Fv iA 82 82 85 3:=⟨lY,.inl lY,⟨Tryz.t85,by kernel_rfl,rfl,⟨_,rfl,rfl⟩,by decide,by decide⟩,by decide⟩
noncomputable def CB (a:List BH) (x_1:BH):Option (List BH×Bool):=(loop (σ:=Int) (β:=Int) 0 λb=>(cond (decide (b< (a.length:Int))) ((idx a b).bind λe=>cond (decide (e.1<x_1.1)) (some true) ((idx a b).bind λf=>cond (f.1==x_1.1) ((idx a b).bind λg=>cond (decide (g.2.1<x_1.2.1)) (some true) ((idx a b).bind λh=>cond (h.2.1==x_1.2.1) ((idx a b).bind λi=>some (decide (i.2.2<x_1.2.2))) (some false))) (some false))) (some false)).bind λp=>cond p (some (kD (gP .i64 (b+1)))) (some (kU b))).bind λd=>(cond (decide (d< (a.length:Int))) ((idx a d).bind λc=>some (((c.1==x_1.1) && ((c.2.1==x_1.2.1) && true)) && ((c.2.2==x_1.2.2) && true))) (some false)).bind λj=>cond j (some (a,false)) ((cut a 0 d).bind λk=>(cut a d (a.length:Int)).bind λl=>(app ([]:List BH) k).bind λm=>(app m ([(x_1.1,x_1.2.1,x_1.2.2)]:List BH)).bind λn=>(app n l).bind λo=>some (o,true))
theorem DP {A:Slc}{s:List BH}{x_1:Int×Int×Int×Unit}(e:Ro.SliceIs Bc φ A s) (T:St φ (F) h) {r:(List BH×Bool)}(hd:CB s (x_1.1,x_1.2.1,x_1.2.2.1)=some r):
 CallsH iA 33 [(sv A),(.agg #[(.int .i64 x_1.1),(.int .i64 x_1.2.1),(.int .i64 x_1.2.2.1)])] h (Ap λv h'=>∃ψ:AD,∃y:Slc×Bool×Unit,∃K:List BH,Sub φ ψ∧v=((.tuple fZ):Sh).val y∧(K,y.2.1)=r∧Ro.SliceIs Bc ψ y.1 K∧St ψ (F) h'):=by
 refine AY mixed Tryz.func33 (Ki ..) ?_;have x:A.2.1=kG s:=e.length;refine AV (vs:=[.int .i64 x_1.1,.int .i64 x_1.2.1,.int .i64 x_1.2.2.1]) T λr1 dc U=> ?_;have⟨V,W,hd⟩:=bS hd;refine Ag (λy w_ g=>∃ψ:AD,Sub φ ψ∧y.1=g∧St ψ (Wq8 r1 x_1::F) w_) (g:=V) ?_ ?_
 ·refine CA W (λy w_ g=>∃ψ:AD,Sub φ ψ∧y.1=g∧St ψ (Wq8 r1 x_1::F) w_) ((0:Int),()) rfl ⟨φ,sb,rfl,U⟩ ?_
  ·rintro L dd _ _ ⟨f,de,rfl,d⟩ i X;have⟨Y,c,i⟩:=bS i;refine Aa (λy w_ g=>∃ψ:AD,Sub f ψ∧y.1=g∧St ψ (Wq8 r1 x_1::F) w_) (g:=Y) ?_ ?_
   ·refine AH c (by rw[x] <;>rfl) (λ_ c=> ?_) (λ_ c=> ?_)
    ·refine IS Wq e c d λdf c=>AA d rfl<|AH c rfl (λ_ c=> ?_) (λ_ c=> ?_)
     ·obtain rfl:=iS c;exact AO (true,()) rfl ⟨f,sb,rfl,d⟩
     refine IS Wq e c d λdg c=>AA d rfl<|AH c rfl (λ_ c=> ?_) (λ_ c=> ?_)
     ·refine ixS Wr e c d λdh c=>AA d rfl<|AH c rfl (λ_ c=> ?_) (λ_ c=> ?_)
      ·obtain rfl:=iS c;exact AO (true,()) rfl ⟨f,sb,rfl,d⟩
      refine ixS Wr e c d λdi c=>AA d rfl<|AH c rfl (λ_ c=> ?_) (λ_ c=> ?_)
      ·refine ixS am e c d λZ c=>AA d rfl ?_;obtain rfl:=iS c;exact AO ((decide (Z.2.2<x_1.2.2.1)),()) rfl ⟨f,sb,rfl,d⟩
      obtain rfl:=iS c;exact AO (false,()) rfl ⟨f,sb,rfl,d⟩
     obtain rfl:=iS c;exact AO (false,()) rfl ⟨f,sb,rfl,d⟩
    obtain rfl:=iS c;exact AO (false,()) rfl ⟨f,sb,rfl,d⟩
   rintro z4 dj ⟨M,dk,rfl,N⟩;refine AH i rfl (λ_ i=> ?_) (λ_ i=> ?_)
   ·obtain rfl:=iS i;exact AZ ((wN L.1),()) _ rfl rfl ⟨M,sb,rfl,N⟩
   obtain rfl:=iS i;obtain rfl:=X _ rfl;exact AI (AL (L.1,()) rfl ⟨M,sb,rfl,N⟩)
 rintro z2 dl ⟨z,dm,rfl,m⟩;have⟨ba,k,hd⟩:=bS hd;refine Aa (λy w_ g=>∃ψ:AD,Sub z ψ∧y.1=g∧St ψ (Wq8 r1 x_1::F) w_) (g:=ba) ?_ ?_
 ·refine AH k (by rw[x] <;>rfl) (λ_ k=> ?_) (λ_ k=> ?_)
  ·refine Wn e k m λa0 k=>AA m rfl<|AA m rfl<|AA m rfl ?_;obtain rfl:=iS k;exact AO ((((a0.1==x_1.1) && ((a0.2.1==x_1.2.1) && true)) && ((a0.2.2==x_1.2.2.1) && true)),()) rfl ⟨z,sb,rfl,m⟩
  obtain rfl:=iS k;exact AO (false,()) rfl ⟨z,sb,rfl,m⟩
 rintro f0 dn ⟨E,dp,rfl,o⟩;refine AH hd rfl (λ_ hd=> ?_) (λ_ hd=> ?_)
 ·obtain rfl:=iS hd;exact AC ⟨E,(A,false,()),s,sb,rfl,rfl,e.up,o.tail⟩
 have⟨G,bb,hd⟩:=bS hd;obtain⟨bd,u⟩:=(e.up (ψ:=E)).cut (sz:=3) bb rfl;refine Ah bd ?_;have H:=u.length;refine AA o rfl<|AA o rfl<|AA o rfl ?_;have⟨I,bf,hd⟩:=bS hd;obtain⟨O,q⟩:=(e.up (ψ:=E)).cut (sz:=3) bf rfl;rw[←x]at O q;refine Ah O ?_;have J:=q.length;refine DY ?_ ?_
 ·refine AV (vs:=[]) o λf1 dq p=>AN (jC (b:=r1) (j:=0) p.at1 rfl)<|AN (jC (b:=r1) (j:=1) p.at1 rfl)<|AN (jC (b:=r1) (j:=2) p.at1 rfl)<|DY ?_ ?_
  ·have⟨dr,bg,bi⟩:=u.heap p.sub;have bj:=lF (r:=Bc) (l:=([]:List BH)) (n:=0) p .nil rfl (by decide);have⟨ds,bl,hd⟩:=bS hd;refine AX (r:=Bc) (ms:=G) CO bj rfl bi bg H.symm bl ?_;intro f2 dt w;refine AN (jC (b:=r1) (j:=0) w.at1 rfl)<|AN (jC (b:=r1) (j:=1) w.at1 rfl)<|AN (jC (b:=r1) (j:=2) w.at1 rfl)<|AV (vs:=[.int .i64 x_1.1,.int .i64 x_1.2.1,.int .i64 x_1.2.2.1]) w λf3 du ad=> ?_;have⟨dv,bn,hd⟩:=bS hd;refine AX (r:=Bc) (ms:=([(x_1.1,x_1.2.1,x_1.2.2.1)]:List BH)) CO ad.tail rfl (jP ad) (.cons (a:=[_,_,_]) ⟨[_],_,rfl,rfl,⟨[_],_,rfl,rfl,rfl⟩⟩ .nil) rfl bn ?_;intro f4 dw al;have⟨dx,bp,bq⟩:=q.heap al.sub;have⟨bs,bt,hd⟩:=bS hd;refine AX (r:=Bc) (ms:=I) CO al rfl bq bp J.symm bt ?_;intro B dy bx;have⟨bz,dz,c0,c1⟩:=iG (t:=B) bx;obtain rfl:=iS hd;exact AC ⟨bz,(B,true,()),bs,sb,rfl,rfl,c0,c1.tail⟩
  ·refine AV (vs:=[.int .i64 x_1.1,.int .i64 x_1.2.1,.int .i64 x_1.2.2.1]) p λf5 e0 ap=> ?_;have⟨e1,c2,c3⟩:=u.heap ap.sub;have c4:=lF (r:=Bc) (l:=([]:List BH)) (n:=0) ap.at1 .nil rfl (by decide);have⟨e2,c5,hd⟩:=bS hd;refine AX (r:=Bc) (ms:=G) CO c4 rfl c3 c2 H.symm c5 ?_;intro f6 e3 ax;have⟨e4,c6,hd⟩:=bS hd;refine AX (r:=Bc) (ms:=([(x_1.1,x_1.2.1,x_1.2.2.1)]:List BH)) CO ax.at1.tail rfl (jP ax.at1) (.cons (a:=[_,_,_]) ⟨[_],_,rfl,rfl,⟨[_],_,rfl,rfl,rfl⟩⟩ .nil) rfl c6 ?_;intro f7 e5 P;have⟨e6,c7,c8⟩:=q.heap P.sub;have⟨c9,ch,hd⟩:=bS hd;refine AX (r:=Bc) (ms:=I) CO P rfl c8 c7 J.symm ch ?_;intro C e7 cl;have⟨cm,e8,cp,cs⟩:=iG (t:=C) cl;obtain rfl:=iS hd;exact AC ⟨cm,(C,true,()),c9,sb,rfl,rfl,cp,cs.tail⟩
 ·refine AV (vs:=[.int .i64 x_1.1,.int .i64 x_1.2.1,.int .i64 x_1.2.2.1]) o λf8 e9 cw=>AV (vs:=[]) cw λf9 ea Q=> ?_;have⟨eb,cx,d0⟩:=u.heap Q.sub;have d1:=lF (r:=Bc) (l:=([]:List BH)) (n:=0) Q .nil rfl (by decide);have⟨ec,d2,hd⟩:=bS hd;refine AX (r:=Bc) (ms:=G) CO d1 rfl d0 cx H.symm d2 ?_;intro g0 ed R;have⟨ee,d3,hd⟩:=bS hd;refine AX (r:=Bc) (ms:=([(x_1.1,x_1.2.1,x_1.2.2.1)]:List BH)) CO R.at1.tail rfl (jP R.at1) (.cons (a:=[_,_,_]) ⟨[_],_,rfl,rfl,⟨[_],_,rfl,rfl,rfl⟩⟩ .nil) rfl d3 ?_;intro g1 ef S;have⟨eg,d4,d5⟩:=q.heap S.sub;have⟨d6,d7,hd⟩:=bS hd;refine AX (r:=Bc) (ms:=I) CO S rfl d5 d4 J.symm d7 ?_;intro D eh d8;have⟨d9,ei,da,db⟩:=iG (t:=D) d8;obtain rfl:=iS hd;exact AC ⟨d9,(D,true,()),d6,sb,rfl,rfl,da,db.tail⟩
noncomputable def CP (f_0:Oo) (c:Au) (a:gM):Option (List Bool×Bool):=
 (Dh (c.1.length:Int) false).bind λt3=>
 (DE (σ:=List Bool) (β:=(List Bool×Bool)) 0 (a.length:Int) t3 λb l=>
  ((((idx a b).bind λm=>
  cond (decide (m≥ 0))
  ((idx a b).bind λn=>
   some (decide (n< (c.1.length:Int))))
  (some false)).bind λr=>
  cond r
  ((idx a b).bind λo=>
   (DB l o true).bind λp=>
   some (kU (p,false)))
  ((idx a b).bind λd=>
   (cond (decide ((gP .i64 (d - (c.1.length:Int))) < 0))
   (some true)
   (some (decide ((gP .i64 (d - (c.1.length:Int))) ≥ (f_0.1.length:Int))))).bind λq=>
   cond q
   (some (kD l))
   ((idx f_0.2.1 (gP .i64 (d - (c.1.length:Int)))).bind λe=>
    (Ar l e).bind λf=>
    (idx f_0.1 (gP .i64 (d - (c.1.length:Int)))).bind λg=>
    cond (!g)
    (some (kU (f.2,false)))
    (some (kD f.2))))):Option (AW (List Bool) (List Bool×Bool))).bind λh=>match h with
  |.next s=>
   some (kD s)
  |.done i=>some (kU i)).bind λj=>match j with
 |.next t=>
  some (t,true)
 |.done k=>some k
theorem Cn {f_0:gL}{u:Oo}{A:Pl6}{n:Au}{B:Slc}{o:gM}(p:Pt Ur φ f_0 u) (O:JR φ A n) (e:Ro.SliceIs (jB .i64) φ B o) (P:St φ (F) h) {r:(List Bool×Bool)}(hd:CP u n o=some r):
 CallsH iA 52 [(.pointer f_0),(aG A),(sv B)] h (Ap λv h'=>∃ψ:AD,∃y:Slc×Bool×Unit,∃w:List Bool,Sub φ ψ∧v=((.tuple fZ):Sh).val y∧(w,y.2.1)=r∧Ro.SliceIs gX ψ y.1 w∧St ψ (F) h'):=by
 refine AY mixed Tryz.func52 (Dq ..) ?_;have d:A.1.2.1=kG n.1:=O.k0.length;have z:B.2.1=kG o:=e.length;refine GK (t:=A) P λr1 d1 a0=>AA a0 rfl ?_;have⟨ad,al,hd⟩:=bS hd;refine Er (r:=gX) (x:=false) PW a0 rfl (by rw[d]) al ?_;intro t3 d2 ap;have⟨d3,ax,hd⟩:=bS hd;refine BZ ax (λQ y w_ g=>∃ψ:AD,∃G:List Bool,Sub φ ψ∧y.1=Q∧G=g∧St ψ (cR 4 gX t3 G::Wq2 r1 A::F) w_) ((0:Int),false,((none,0,0):Slc),()) rfl ⟨φ,ad,sb,rfl,rfl,ap.at1.at1⟩ ?_ ?_ ?_
 ·rintro _ C d4 _ _ ⟨j,q,d5,rfl,rfl,k⟩ f d6 R S H;refine Ac (dT z R) ?_;have⟨T,a,f⟩:=bS f;refine Ag (λy w_ g=>∃ψ:AD,∃I:List Bool,Sub j ψ∧kD I=g∧St ψ (cR 4 gX t3 I::Wq2 r1 A::F) w_) (g:=T) ?_ ?_
  ·have⟨U,b,a⟩:=bS a;refine Aa (λy w_ g=>∃ψ:AD,Sub j ψ∧y.1=g∧St ψ (cR 4 gX t3 q::Wq2 r1 A::F) w_) (g:=U) ?_ ?_
   ·refine gx e b k λd7 b=>AH b rfl (λ_ b=> ?_) (λ_ b=> ?_)
    ·refine gx e b k λV b=> ?_;have W:=k.at1.at1;obtain rfl:=iS b;exact AO ((decide (V< (A.1.2.1:Int))),()) rfl ⟨j,sb,(by rw[d]),W⟩
    obtain rfl:=iS b;exact AO (false,()) rfl ⟨j,sb,rfl,k.at1.at1⟩
   rintro z7 d8 ⟨s,d9,rfl,c⟩;refine AH a rfl (λ_ a=> ?_) (λ_ a=> ?_)
   ·refine gx e a c λda a=> ?_;have⟨X,J,a⟩:=bS a;have⟨db,K,Y⟩:=c.there J;refine AF _ K (Ah Y (Ef c J rfl K ?_));intro dc Z;have⟨ba,dd,bb,bd⟩:=iG (t:=t3) Z;obtain rfl:=iS a;obtain rfl:=iS f;obtain rfl:=H _ rfl;obtain rfl:=iS hd;exact Al (Aj (Al (AC ⟨ba,(t3,false,()),X,sb,rfl,rfl,bb,bd.tail⟩)))
   refine gx e a c λbf a=> ?_;have⟨bg,i,a⟩:=bS a;refine Aa (λy w_ g=>∃ψ:AD,Sub s ψ∧y.1=g∧St ψ (cR 4 gX t3 q::Wq2 r1 A::F) w_) (g:=bg) ?_ ?_
   ·refine AH i (by rw[d] <;>rfl) (λ_ i=> ?_) (λ_ i=> ?_)
    ·have bi:=c.at1;obtain rfl:=iS i;exact AO (true,()) rfl ⟨s,sb,rfl,bi.at1⟩
    refine cb Us p c λbj bl=> ?_;have bn:=bl.length;have bp:=c.at1.at1;obtain rfl:=iS i;exact AO ((decide ((gP .i64 (bf - (A.1.2.1:Int))) ≥ (bj.2.1:Int))),()) rfl ⟨s,sb,(by rw[d,bn]),bp⟩
   rintro e0 de ⟨bq,df,rfl,l⟩;refine AH a rfl (λ_ a=> ?_) (λ_ a=> ?_)
   ·have bs:=l.at1;obtain rfl:=iS a;exact AL (C.2.1,(C.2.2.1.1,C.2.2.1.2.1,C.2.2.1.2.2),()) rfl ⟨bq,q,sb,rfl,bs.at1⟩
   refine pfR Yz p l λdg bt=> ?_;have⟨dh,L,a⟩:=bS a;rw[←d]at L;refine RA bt L (jQ sb l.sub) λdi bx=> ?_;have⟨dj,bz,a⟩:=bS a;refine AK (IE bx.up l bz) ?_;rintro _ dk ⟨c0,E,M,dl,rfl,rfl,m⟩;refine⟨E,rfl,?_⟩;refine cb Us p m λdm c1=> ?_;have⟨dn,N,a⟩:=bS a;rw[←d]at N;refine On c1 N (jQ sb m.sub)<|AH a rfl (λ_ a=> ?_) (λ_ a=> ?_)
   ·have⟨c2,dp,c3,c4⟩:=iG (t:=t3) m;obtain rfl:=iS a;obtain rfl:=iS f;obtain rfl:=H _ rfl;obtain rfl:=iS hd;exact Al (Aj (Al (AC ⟨c2,(t3,false,()),M,sb,rfl,rfl,c3,c4.tail⟩)))
   obtain rfl:=iS a;exact FG (C.2.1,(C.2.2.1.1,C.2.2.1.2.1,C.2.2.1.2.2),()) rfl ⟨c0,M,sb,rfl,m.at1.at1⟩
  rintro D dq ⟨c5,c6,dr,rfl,c7⟩;obtain rfl:=iS f;exact AZ ((wN C.1),D.1,(D.2.1.1,D.2.1.2.1,D.2.1.2.2),()) _ rfl rfl ⟨c5,c6,sb,S,rfl,c7.at1.at1⟩
 ·rintro _ C ds _ ⟨c8,c9,dt,rfl,rfl,ch⟩ cl cm;subst cm;refine AU (dF z cl)<|AI (AL (C.1,C.2.1,(C.2.2.1.1,C.2.2.1.2.1,C.2.2.1.2.2),()) rfl ⟨_,rfl,_,c8,c9,sb,rfl,rfl,ch.at1.at1⟩)
 rintro z4 du ⟨_,rfl,_,dv,cp,dw,_,rfl,cs⟩;have⟨cw,dx,cx,d0⟩:=iG (t:=t3) cs;obtain rfl:=iS hd;exact AC ⟨cw,(t3,true,()),cp,sb,rfl,rfl,cx,d0.tail⟩
noncomputable def CQ (p_0:Au) (s:Oo) (g:List BH):Option (List BH):=(app ([]:List BH) g).bind λt3=>(app ([]:List BH) g).bind λt5=>(loop (σ:=(Int×List BH×List BH)) (β:=List BH) (0,t5,t3) λe=>cond (decide (e.1< (e.2.1.length:Int))) (((idx e.2.1 e.1).bind λc=>(BS p_0 (c.1,c.2.1)).bind λh=>cond (decide (h< (p_0.1.length:Int))) (some (e.2.1,e.2.2)) ((idx p_0.2.2.1 c.1).bind λi=>(cut i.2.1 (gP .i64 (c.2.1+1)) (i.2.1.length:Int)).bind λj=>(app ([]:gM) j).bind λt=>(app t ([c.2.2]:gM)).bind λu=>(CP s p_0 u).bind λk=>(forS (σ:=(List BH×List BH)) 0 (p_0.2.2.1.length:Int) (e.2.1,e.2.2) λa f=>((idx p_0.2.2.1 a).bind λl=>cond (l.1 !=h) (some (f.1,f.2)) ((forS (σ:=(List BH×List BH)) 0 (k.1.length:Int) (f.1,f.2) λb d=>(idx k.1 b).bind λm=>(cond m ((CB d.2 (a,0,b)).bind λn=>(cond n.2 ((app d.1 ([(a,0,b)]:List BH)).bind λv=>some v) (some d.1)).bind λw=>some (w,n.1)) (some (d.1,d.2))).bind λo=>some (o.1,o.2)).bind λp=>some (p.1,p.2))).bind λq=>some (q.1,q.2)).bind λr=>some (r.1,r.2))).bind λx=>some (kD ((gP .i64 (e.1+1)),x.1,x.2))) (some (kU e.2.2))).bind λy=>some y
theorem El {p_0:Pl6}{d_p_0:Au}{S:gL}{c3:Oo}{O:Slc}{T:List BH}(e:JR φ p_0 d_p_0) (bg:Pt Ur φ S c3) (bi:Ro.SliceIs Bc φ O T) (s0:St φ (F) h) {r:(List BH)}(hd:CQ d_p_0 c3 T=some r):
 CallsH iA 32 [(aG p_0),(.pointer S),(sv O)] h (Ap λv h'=>∃ψ:AD,∃y:Slc,∃c4:List BH,Sub φ ψ∧v=fP.val y∧c4=r∧Ro.SliceIs Bc ψ y c4∧St ψ (F) h'):=by
 refine AY mixed Tryz.func32 (Hl ..) ?_;have ey:p_0.1.2.1=kG d_p_0.1:=e.k0.length;have P:p_0.2.2.1.2.1=kG d_p_0.2.2.1:=e.k2.length;have c5:O.2.1=kG T:=bi.length;refine GK (t:=p_0) s0 λr1 lw ez=>AV (vs:=[]) ez λr2 lx c6=> ?_;have⟨ly,f0,f1⟩:=bi.heap c6.sub;have f2:=lF (r:=Bc) (l:=([]:List BH)) (n:=0) c6 .nil rfl (by decide);have⟨f3,f4,hd⟩:=bS hd;refine AX (r:=Bc) (ms:=T) CO f2 rfl f1 f0 c5.symm f4 ?_;intro t3 lz f5;refine AV (vs:=[]) f5 λr4 m0 c7=> ?_;have⟨m1,f6,f7⟩:=bi.heap c7.sub;have f8:=lF (r:=Bc) (l:=([]:List BH)) (n:=0) c7 .nil rfl (by decide);have⟨f9,fa,hd⟩:=bS hd;refine AX (r:=Bc) (ms:=T) CO f8 rfl f7 f6 c5.symm fa ?_;intro t5 m2 fb;have⟨bj,m3,fc,fd⟩:=iG (t:=t3) fb.at1;have⟨fe,ff,hd⟩:=bS hd;refine Ag (λy w_ g=>∃ψ:AD,∃c8:List BH,Sub bj ψ∧c8=g∧Ro.SliceIs Bc ψ y.2.2.1 c8∧St ψ (Wq2 r1 p_0::F) w_) (g:=fe) ?_ ?_
 ·refine CA ff (λy w_ g=>∃ψ:AD,∃c9:List BH,∃ch:List BH,Sub bj ψ∧(y.1,c9,ch)=g∧Ro.SliceIs Bc ψ y.2.2.1 ch∧St ψ (cR 85 Bc y.2.1 c9::Wq2 r1 p_0::F) w_) ((0:Int),t5,t3,()) rfl ⟨bj,f9,f3,sb,rfl,fc,fd.at1.at1⟩ ?_
  ·rintro I m4 _ _ ⟨cl,b5,U,m5,rfl,V,b6⟩ u fg;have fh:=b6.rowLen;refine AH u (by rw[fh] <;>rfl) (λ_ u=> ?_) (λ_ u=> ?_)
   ·have⟨fi,d,u⟩:=bS u;refine Ag (λy w_ g=>∃ψ:AD,∃cm:List BH,∃cp:List BH,Sub cl ψ∧(cm,cp)=g∧Ro.SliceIs Bc ψ y.2.1 cp∧St ψ (cR 85 Bc y.1 cm::Wq2 r1 p_0::F) w_) (g:=fi) ?_ ?_
    ·refine dP b6 d λc d=>AV (vs:=[.int .i64 (0:Int),.int .i64 (0:Int),.int .i64 (0:Int)]) b6 λA m6 fj=>AQ fj rfl rfl λm7 fk=>AQ fk rfl rfl λm8 fl=>AQ fl rfl rfl λm9 b7=>Bk (t:=p_0) b7.at2<|AA b7 rfl<|AA b7 rfl ?_;have⟨ma,fm,d⟩:=bS d;refine AK (Ch (x_1:=(c.1,c.2.1,())) e.up b7 fm) ?_;rintro _ mb ⟨cs,s8,mc,rfl,rfl,f⟩;refine⟨s8,rfl,?_⟩;refine AA f.at2 rfl<|AH d (by rw[ey] <;>rfl) (λ_ d=> ?_) (λ_ d=> ?_)
     ·have fn:=f.at1;obtain rfl:=iS d;exact AL (I.2.1,I.2.2.1,()) rfl ⟨cs,b5,U,sb,rfl,V.up,fn.at1.tail.at1.at1⟩
     refine AA f.at2 rfl<|AA f rfl ?_;have⟨md,fo,d⟩:=bS d;obtain⟨me,mf,fp,fq,fr,W⟩:=(e.k2.up (ψ:=cs)).get fo;refine AF _ fp (Ah fq ?_);obtain⟨_,_,rfl,rfl,⟨_,_,rfl,⟨fw,rfl,cw⟩,fv⟩⟩:=fr;have fx:=cw.length;obtain rfl:=fv;refine AG (x:=fw) (by rw[An];exact(AJ (jQ sb f.sub) (W 1 _ rfl))) rfl<|AA f rfl ?_;have⟨bl,fy,d⟩:=bS d;have⟨cx,X⟩:=cw.cut (sz:=1) fy rfl;rw[←fx]at cx X;refine Ah cx ?_;have bn:=X.length;refine AA f rfl<|DY ?_ ?_
     ·refine GJ f λu2 mg mh s=>AN (jC (b:=A) (j:=2) s.at1 rfl)<|AN (jC (b:=A) (j:=1) s.at1 rfl)<|AN (by rw[An];exact(AJ (jQ sb s.sub) (W 1 _ rfl)))<|AN (jC (b:=A) (j:=0) s.at1 rfl)<|AN (jC (b:=r1) (j:=2) s.at3 rfl)<|DY ?_ ?_
      ·have⟨mi,fz,g0⟩:=X.heap s.sub;have g1:=lF (r:=(jB .i64)) (l:=([]:gM)) (n:=0) s .nil rfl (by decide);have⟨mj,g2,d⟩:=bS d;refine AX (r:=(jB .i64)) (ms:=bl) B0 g1 rfl g0 fz bn.symm g2 ?_;intro u3 mk d0;refine AN (jC (b:=A) (j:=2) d0.at1 rfl)<|AV (vs:=[.int .i64 c.2.2]) d0 λu4 ml d1=> ?_;have⟨mm,g3,d⟩:=bS d;refine AX (r:=(jB .i64)) (ms:=([c.2.2]:gM)) B0 d1.tail rfl (jP d1) (.cons (a:=[_]) rfl .nil) rfl g3 ?_;intro s9 mn d2;refine Bk (t:=p_0) d2.at3 ?_;have⟨mo,mp,g4,g5⟩:=iG (t:=s9) d2;have⟨mq,g6,d⟩:=bS d;refine AK (Cn bg.up e.up g4 g5 g6) ?_;rintro _ mr ⟨d3,t0,mu,mv,rfl,rfl,d4,g7⟩;refine⟨t0,rfl,?_⟩;have d5:=d4.length;have⟨mw,g8,d⟩:=bS d;refine BM g8 (λg9 y w_ g=>∃ψ:AD,∃d6:List BH,∃d7:List BH,Sub d3 ψ∧y.1=g9∧(d6,d7)=g∧Ro.SliceIs Bc ψ y.2.2.1 d7∧St ψ (cR 85 Bc y.2.1 d6::cW 85 A [.int .i64 c.1,.int .i64 c.2.1,.int .i64 c.2.2]::Wq2 r1 p_0::F) w_) ((0:Int),I.2.1,I.2.2.1,()) rfl ⟨d3,b5,U,sb,rfl,rfl,V.up,g7.at1.at2.at2.at2⟩ ?_ ?_ ?_
       ·rintro _ D mx _ _ ⟨b8,d8,d9,my,rfl,rfl,da,Y⟩ bp mz ga gb;refine AA Y.at2 rfl<|Ac (dT P ga) ?_;have⟨gc,i,bp⟩:=bS bp;refine Ag (λy w_ g=>∃ψ:AD,∃db:List BH,∃dc:List BH,Sub b8 ψ∧(db,dc)=g∧Ro.SliceIs Bc ψ y.2.1 dc∧St ψ (cR 85 Bc y.1 db::cW 85 A [.int .i64 c.1,.int .i64 c.2.1,.int .i64 c.2.2]::Wq2 r1 p_0::F) w_) (g:=gc) ?_ ?_
        ·refine AA Y.at2 rfl<|IS L8 e.k2 i Y λn0 i=>AH i rfl (λ_ i=> ?_) (λ_ i=> ?_)
         ·have gd:=Y.at2;obtain rfl:=iS i;exact AL (D.2.1,D.2.2.1,()) rfl ⟨b8,d8,d9,sb,rfl,da,gd.at2.at2⟩
         have⟨n1,ge,i⟩:=bS i;refine BM ge (λgf y w_ g=>∃ψ:AD,∃dd:List BH,∃de:List BH,Sub b8 ψ∧y.1=gf∧(dd,de)=g∧Ro.SliceIs Bc ψ y.2.2.1 de∧St ψ (cR 85 Bc y.2.1 dd::cW 85 A [.int .i64 c.1,.int .i64 c.2.1,.int .i64 c.2.2]::Wq2 r1 p_0::F) w_) ((0:Int),D.2.1,D.2.2.1,()) rfl ⟨b8,d8,d9,sb,rfl,rfl,da,Y.at2.at2.at2⟩ ?_ ?_ ?_
         ·rintro _ G n2 _ _ ⟨df,dg,gg,n3,rfl,rfl,dh,bq⟩ ad n4 gh gi;refine Ac (dT d5 gh)<|gx d4 ad bq λn5 ad=> ?_;have⟨gj,k,ad⟩:=bS ad;refine Aa (λy w_ g=>∃ψ:AD,∃di:List BH,∃dj:List BH,Sub df ψ∧(di,dj)=g∧Ro.SliceIs Bc ψ y.2.1 dj∧St ψ (cR 85 Bc y.1 di::cW 85 A [.int .i64 c.1,.int .i64 c.2.1,.int .i64 c.2.2]::Wq2 r1 p_0::F) w_) (g:=gj) ?_ ?_
          ·refine AH k rfl (λ_ k=> ?_) (λ_ k=> ?_)
           ·refine AV (vs:=[.int .i64 (0:Int),.int .i64 (0:Int),.int .i64 (0:Int)]) bq λt1 n6 gk=>AQ gk rfl rfl λn7 gl=>AQ gl rfl rfl λn8 gm=>AQ gm rfl rfl λn9 b9=>AA b9 rfl<|AA (x:=(0:Int)) b9 rfl<|AA b9 rfl ?_;have⟨na,gn,k⟩:=bS k;refine AK (DP (x_1:=(D.1,(0:Int),G.1,())) dh b9 gn) ?_;rintro _ nb ⟨bs,Z,go,nc,rfl,rfl,gp,al⟩;refine⟨Z,rfl,?_⟩;have⟨gq,w,k⟩:=bS k;refine Aa (λy w_ g=>∃ψ:AD,∃dk:List BH,Sub bs ψ∧dk=g∧St ψ (cR 85 Bc y.1 dk::cW 85 t1 [.int .i64 D.1,.int .i64 (0:Int),.int .i64 G.1]::cW 85 A [.int .i64 c.1,.int .i64 c.2.1,.int .i64 c.2.2]::Wq2 r1 p_0::F) w_) (g:=gq) ?_ ?_
            ·refine AH w rfl (λ_ w=> ?_) (λ_ w=> ?_)
             ·refine AA al rfl<|AA (x:=(0:Int)) al rfl<|AA al rfl<|AV (vs:=[.int .i64 D.1,.int .i64 (0:Int),.int .i64 G.1]) al λu5 nd dl=> ?_;have⟨gr,gs,w⟩:=bS w;refine AX (r:=Bc) (ms:=([(D.1,(0:Int),G.1)]:List BH)) CO dl.tail.at1 rfl (jP dl) (.cons (a:=[_,_,_]) ⟨[_],_,rfl,rfl,⟨[_],_,rfl,rfl,rfl⟩⟩ .nil) rfl gs ?_;intro t2 nf gt;obtain rfl:=iS w;exact AO (t2,()) rfl ⟨bs,gr,sb,rfl,gt.at3.at3.at3.at3⟩
             obtain rfl:=iS w;exact AO (G.2.1,()) rfl ⟨bs,dg,sb,rfl,al.at1.at3.at3.at3.at3⟩
            rintro t4 ng ⟨gu,gv,nh,rfl,gw⟩;obtain rfl:=iS k;exact AO (t4.1,Z.1,()) rfl ⟨gu,gv,go,sb,rfl,gp.up,gw.at1.tail.at2.at2.at2⟩
           obtain rfl:=iS k;exact AO (G.2.1,G.2.2.1,()) rfl ⟨df,dg,gg,sb,rfl,dh,bq.at2.at2.at2⟩
          rintro r0 ni ⟨gy,gz,h0,nj,rfl,h1,h2⟩;obtain rfl:=iS ad;exact AZ ((wN G.1),r0.1,r0.2.1,()) _ rfl rfl ⟨gy,gz,h0,sb,gi,rfl,h1,h2.at2.at2.at2⟩
         ·rintro _ G nk ⟨h3,h4,h5,nl,rfl,rfl,h6,h7⟩ h8;refine AU (dF d5 h8)<|AI (AL (G.1,G.2.1,G.2.2.1,()) rfl ⟨_,h3,h4,h5,sb,rfl,rfl,h6,h7.at2.at2.at2⟩)
         rintro r3 nm ⟨_,h9,hb,hc,nn,_,rfl,he,hf⟩;obtain rfl:=iS i;exact FG (r3.2.1,r3.2.2.1,()) rfl ⟨h9,hb,hc,sb,rfl,he,hf.at2.at2.at2⟩
        rintro r5 np ⟨hg,hh,hi,nq,rfl,hj,hk⟩;obtain rfl:=iS bp;exact AZ ((wN D.1),r5.1,r5.2.1,()) _ rfl rfl ⟨hg,hh,hi,sb,gb,rfl,hj,hk.at2.at2.at2⟩
       ·rintro _ D nr ⟨hl,hm,hn,ns,rfl,rfl,ho,dm⟩ hp;refine AA dm.at2 rfl<|AU (dF P hp)<|AI (AL (D.1,D.2.1,D.2.2.1,()) rfl ⟨_,hl,hm,hn,sb,rfl,rfl,ho,dm.at2.at2.at2⟩)
       rintro r6 nt ⟨_,hq,hr,hs,nu,_,rfl,ht,hu⟩;obtain rfl:=iS d;exact FG (r6.2.1,r6.2.2.1,()) rfl ⟨hq,hr,hs,sb,rfl,ht,hu.at1.tail.at1.at1⟩
      ·refine GJ s λu6 nv nw Q=>AN (jC (b:=A) (j:=1) Q.at2 rfl)<|AN (by rw[An];exact(AJ (jQ sb Q.sub) (W 1 _ rfl)))<|AN (jC (b:=A) (j:=0) Q.at2 rfl)<|AN (jC (b:=r1) (j:=2) Q.at4 rfl) ?_;have⟨nx,hv,hw⟩:=X.heap Q.sub;have hx:=lF (r:=(jB .i64)) (l:=([]:gM)) (n:=0) Q.at1 .nil rfl (by decide);have⟨ny,hy,d⟩:=bS d;refine AX (r:=(jB .i64)) (ms:=bl) B0 hx rfl hw hv bn.symm hy ?_;intro u7 nz dn;have⟨o0,hz,d⟩:=bS d;refine AX (r:=(jB .i64)) (ms:=([c.2.2]:gM)) B0 dn.at1.tail rfl (jP dn.at1) (.cons (a:=[_]) rfl .nil) rfl hz ?_;intro t6 o1 dp;refine Bk (t:=p_0) dp.at3 ?_;have⟨o2,o3,i0,i1⟩:=iG (t:=t6) dp;have⟨o4,i2,d⟩:=bS d;refine AK (Cn bg.up e.up i0 i1 i2) ?_;rintro _ o5 ⟨dq,t7,o6,o7,rfl,rfl,dr,i3⟩;refine⟨t7,rfl,?_⟩;have ds:=dr.length;have⟨o8,i4,d⟩:=bS d;refine BM i4 (λi5 y w_ g=>∃ψ:AD,∃dt:List BH,∃du:List BH,Sub dq ψ∧y.1=i5∧(dt,du)=g∧Ro.SliceIs Bc ψ y.2.2.1 du∧St ψ (cR 85 Bc y.2.1 dt::cW 85 A [.int .i64 c.1,.int .i64 c.2.1,.int .i64 c.2.2]::Wq2 r1 p_0::F) w_) ((0:Int),I.2.1,I.2.2.1,()) rfl ⟨dq,b5,U,sb,rfl,rfl,V.up,i3.at1.at2.at2.at2⟩ ?_ ?_ ?_
       ·rintro _ E o9 _ _ ⟨ba,dv,dw,oa,rfl,rfl,dx,ap⟩ bt ob i6 i7;refine AA ap.at2 rfl<|Ac (dT P i6) ?_;have⟨i8,m,bt⟩:=bS bt;refine Ag (λy w_ g=>∃ψ:AD,∃dy:List BH,∃dz:List BH,Sub ba ψ∧(dy,dz)=g∧Ro.SliceIs Bc ψ y.2.1 dz∧St ψ (cR 85 Bc y.1 dy::cW 85 A [.int .i64 c.1,.int .i64 c.2.1,.int .i64 c.2.2]::Wq2 r1 p_0::F) w_) (g:=i8) ?_ ?_
        ·refine AA ap.at2 rfl<|IS L8 e.k2 m ap λoc m=>AH m rfl (λ_ m=> ?_) (λ_ m=> ?_)
         ·have i9:=ap.at2;obtain rfl:=iS m;exact AL (E.2.1,E.2.2.1,()) rfl ⟨ba,dv,dw,sb,rfl,dx,i9.at2.at2⟩
         have⟨od,ia,m⟩:=bS m;refine BM ia (λib y w_ g=>∃ψ:AD,∃e0:List BH,∃e1:List BH,Sub ba ψ∧y.1=ib∧(e0,e1)=g∧Ro.SliceIs Bc ψ y.2.2.1 e1∧St ψ (cR 85 Bc y.2.1 e0::cW 85 A [.int .i64 c.1,.int .i64 c.2.1,.int .i64 c.2.2]::Wq2 r1 p_0::F) w_) ((0:Int),E.2.1,E.2.2.1,()) rfl ⟨ba,dv,dw,sb,rfl,rfl,dx,ap.at2.at2.at2⟩ ?_ ?_ ?_
         ·rintro _ H oe _ _ ⟨e2,e3,ic,og,rfl,rfl,e4,bx⟩ ax oh ie ig;refine Ac (dT ds ie)<|gx dr ax bx λoi ax=> ?_;have⟨ih,o,ax⟩:=bS ax;refine Aa (λy w_ g=>∃ψ:AD,∃e5:List BH,∃e6:List BH,Sub e2 ψ∧(e5,e6)=g∧Ro.SliceIs Bc ψ y.2.1 e6∧St ψ (cR 85 Bc y.1 e5::cW 85 A [.int .i64 c.1,.int .i64 c.2.1,.int .i64 c.2.2]::Wq2 r1 p_0::F) w_) (g:=ih) ?_ ?_
          ·refine AH o rfl (λ_ o=> ?_) (λ_ o=> ?_)
           ·refine AV (vs:=[.int .i64 (0:Int),.int .i64 (0:Int),.int .i64 (0:Int)]) bx λt8 oj ii=>AQ ii rfl rfl λok ij=>AQ ij rfl rfl λol ik=>AQ ik rfl rfl λom bb=>AA bb rfl<|AA (x:=(0:Int)) bb rfl<|AA bb rfl ?_;have⟨on,il,o⟩:=bS o;refine AK (DP (x_1:=(E.1,(0:Int),H.1,())) e4 bb il) ?_;rintro _ oo ⟨bz,r7,im,op,rfl,rfl,io,b0⟩;refine⟨r7,rfl,?_⟩;have⟨ip,z,o⟩:=bS o;refine Aa (λy w_ g=>∃ψ:AD,∃e7:List BH,Sub bz ψ∧e7=g∧St ψ (cR 85 Bc y.1 e7::cW 85 t8 [.int .i64 E.1,.int .i64 (0:Int),.int .i64 H.1]::cW 85 A [.int .i64 c.1,.int .i64 c.2.1,.int .i64 c.2.2]::Wq2 r1 p_0::F) w_) (g:=ip) ?_ ?_
            ·refine AH z rfl (λ_ z=> ?_) (λ_ z=> ?_)
             ·refine AA b0 rfl<|AA (x:=(0:Int)) b0 rfl<|AA b0 rfl<|AV (vs:=[.int .i64 E.1,.int .i64 (0:Int),.int .i64 H.1]) b0 λu8 oq e8=> ?_;have⟨iq,ir,z⟩:=bS z;refine AX (r:=Bc) (ms:=([(E.1,(0:Int),H.1)]:List BH)) CO e8.tail.at1 rfl (jP e8) (.cons (a:=[_,_,_]) ⟨[_],_,rfl,rfl,⟨[_],_,rfl,rfl,rfl⟩⟩ .nil) rfl ir ?_;intro t9 os it;obtain rfl:=iS z;exact AO (t9,()) rfl ⟨bz,iq,sb,rfl,it.at3.at3.at3.at3⟩
             obtain rfl:=iS z;exact AO (H.2.1,()) rfl ⟨bz,e3,sb,rfl,b0.at1.at3.at3.at3.at3⟩
            rintro u0 ot ⟨iu,iv,ou,rfl,iw⟩;obtain rfl:=iS o;exact AO (u0.1,r7.1,()) rfl ⟨iu,iv,im,sb,rfl,io.up,iw.at1.tail.at2.at2.at2⟩
           obtain rfl:=iS o;exact AO (H.2.1,H.2.2.1,()) rfl ⟨e2,e3,ic,sb,rfl,e4,bx.at2.at2.at2⟩
          rintro r8 ov ⟨ix,iy,iz,ow,rfl,j0,j1⟩;obtain rfl:=iS ax;exact AZ ((wN H.1),r8.1,r8.2.1,()) _ rfl rfl ⟨ix,iy,iz,sb,ig,rfl,j0,j1.at2.at2.at2⟩
         ·rintro _ H ox ⟨j2,j3,j4,oy,rfl,rfl,j5,j6⟩ j7;refine AU (dF ds j7)<|AI (AL (H.1,H.2.1,H.2.2.1,()) rfl ⟨_,j2,j3,j4,sb,rfl,rfl,j5,j6.at2.at2.at2⟩)
         rintro r9 oz ⟨_,j8,j9,ja,p0,_,rfl,jb,jc⟩;obtain rfl:=iS m;exact FG (r9.2.1,r9.2.2.1,()) rfl ⟨j8,j9,ja,sb,rfl,jb,jc.at2.at2.at2⟩
        rintro s1 p1 ⟨jd,je,jf,p2,rfl,jg,jh⟩;obtain rfl:=iS bt;exact AZ ((wN E.1),s1.1,s1.2.1,()) _ rfl rfl ⟨jd,je,jf,sb,i7,rfl,jg,jh.at2.at2.at2⟩
       ·rintro _ E p3 ⟨ji,jj,jk,p4,rfl,rfl,jl,e9⟩ jm;refine AA e9.at2 rfl<|AU (dF P jm)<|AI (AL (E.1,E.2.1,E.2.2.1,()) rfl ⟨_,ji,jj,jk,sb,rfl,rfl,jl,e9.at2.at2.at2⟩)
       rintro s2 p5 ⟨_,jn,jo,jp,p6,_,rfl,jq,jr⟩;obtain rfl:=iS d;exact FG (s2.2.1,s2.2.2.1,()) rfl ⟨jn,jo,jp,sb,rfl,jq,jr.at1.tail.at1.at1⟩
     ·refine GJ f λu9 p7 p8 b1=>AN (jC (b:=A) (j:=1) b1.at1 rfl)<|AN (by rw[An];exact(AJ (jQ sb b1.sub) (W 1 _ rfl)))<|AN (jC (b:=A) (j:=0) b1.at1 rfl)<|AN (jC (b:=r1) (j:=2) b1.at3 rfl)<|GJ b1 λv0 p9 pa R=>AN (jC (b:=A) (j:=1) R.at2 rfl)<|AN (by rw[An];exact(AJ (jQ sb R.sub) (W 1 _ rfl)))<|AN (jC (b:=A) (j:=0) R.at2 rfl)<|AN (jC (b:=r1) (j:=2) R.at4 rfl) ?_;have⟨pb,js,jt⟩:=X.heap R.sub;have ju:=lF (r:=(jB .i64)) (l:=([]:gM)) (n:=0) R .nil rfl (by decide);have⟨pc,jv,d⟩:=bS d;refine AX (r:=(jB .i64)) (ms:=bl) B0 ju rfl jt js bn.symm jv ?_;intro v1 pd ea;have⟨pe,jw,d⟩:=bS d;refine AX (r:=(jB .i64)) (ms:=([c.2.2]:gM)) B0 ea.at1.tail rfl (jP ea.at1) (.cons (a:=[_]) rfl .nil) rfl jw ?_;intro s3 pf eb;refine Bk (t:=p_0) eb.at3 ?_;have⟨pg,ph,jx,jy⟩:=iG (t:=s3) eb;have⟨pi,jz,d⟩:=bS d;refine AK (Cn bg.up e.up jx jy jz) ?_;rintro _ pj ⟨ec,s4,pk,pl,rfl,rfl,ed,k1⟩;refine⟨s4,rfl,?_⟩;have ee:=ed.length;have⟨pm,k3,d⟩:=bS d;refine BM k3 (λk4 y w_ g=>∃ψ:AD,∃ef:List BH,∃eg:List BH,Sub ec ψ∧y.1=k4∧(ef,eg)=g∧Ro.SliceIs Bc ψ y.2.2.1 eg∧St ψ (cR 85 Bc y.2.1 ef::cW 85 A [.int .i64 c.1,.int .i64 c.2.1,.int .i64 c.2.2]::Wq2 r1 p_0::F) w_) ((0:Int),I.2.1,I.2.2.1,()) rfl ⟨ec,b5,U,sb,rfl,rfl,V.up,k1.at1.at2.at2.at2⟩ ?_ ?_ ?_
      ·rintro _ B pn _ _ ⟨bd,eh,ei,po,rfl,rfl,ej,b2⟩ c0 pp k5 k6;refine AA b2.at2 rfl<|Ac (dT P k5) ?_;have⟨k7,p,c0⟩:=bS c0;refine Ag (λy w_ g=>∃ψ:AD,∃ek:List BH,∃el:List BH,Sub bd ψ∧(ek,el)=g∧Ro.SliceIs Bc ψ y.2.1 el∧St ψ (cR 85 Bc y.1 ek::cW 85 A [.int .i64 c.1,.int .i64 c.2.1,.int .i64 c.2.2]::Wq2 r1 p_0::F) w_) (g:=k7) ?_ ?_
       ·refine AA b2.at2 rfl<|IS L8 e.k2 p b2 λpq p=>AH p rfl (λ_ p=> ?_) (λ_ p=> ?_)
        ·have k8:=b2.at2;obtain rfl:=iS p;exact AL (B.2.1,B.2.2.1,()) rfl ⟨bd,eh,ei,sb,rfl,ej,k8.at2.at2⟩
        have⟨pr,k9,p⟩:=bS p;refine BM k9 (λka y w_ g=>∃ψ:AD,∃em:List BH,∃en:List BH,Sub bd ψ∧y.1=ka∧(em,en)=g∧Ro.SliceIs Bc ψ y.2.2.1 en∧St ψ (cR 85 Bc y.2.1 em::cW 85 A [.int .i64 c.1,.int .i64 c.2.1,.int .i64 c.2.2]::Wq2 r1 p_0::F) w_) ((0:Int),B.2.1,B.2.2.1,()) rfl ⟨bd,eh,ei,sb,rfl,rfl,ej,b2.at2.at2.at2⟩ ?_ ?_ ?_
        ·rintro _ C ps _ _ ⟨eo,ep,kb,pt,rfl,rfl,er,c1⟩ b3 pu kc kd;refine Ac (dT ee kc)<|gx ed b3 c1 λpv b3=> ?_;have⟨ke,q,b3⟩:=bS b3;refine Aa (λy w_ g=>∃ψ:AD,∃es:List BH,∃eu:List BH,Sub eo ψ∧(es,eu)=g∧Ro.SliceIs Bc ψ y.2.1 eu∧St ψ (cR 85 Bc y.1 es::cW 85 A [.int .i64 c.1,.int .i64 c.2.1,.int .i64 c.2.2]::Wq2 r1 p_0::F) w_) (g:=ke) ?_ ?_
         ·refine AH q rfl (λ_ q=> ?_) (λ_ q=> ?_)
          ·refine AV (vs:=[.int .i64 (0:Int),.int .i64 (0:Int),.int .i64 (0:Int)]) c1 λs5 pw kf=>AQ kf rfl rfl λpx kg=>AQ kg rfl rfl λpy kh=>AQ kh rfl rfl λpz bf=>AA bf rfl<|AA (x:=(0:Int)) bf rfl<|AA bf rfl ?_;have⟨q0,ki,q⟩:=bS q;refine AK (DP (x_1:=(B.1,(0:Int),C.1,())) er bf ki) ?_;rintro _ q1 ⟨c2,J,kj,q2,rfl,rfl,kk,b4⟩;refine⟨J,rfl,?_⟩;have⟨kl,a0,q⟩:=bS q;refine Aa (λy w_ g=>∃ψ:AD,∃ev:List BH,Sub c2 ψ∧ev=g∧St ψ (cR 85 Bc y.1 ev::cW 85 s5 [.int .i64 B.1,.int .i64 (0:Int),.int .i64 C.1]::cW 85 A [.int .i64 c.1,.int .i64 c.2.1,.int .i64 c.2.2]::Wq2 r1 p_0::F) w_) (g:=kl) ?_ ?_
           ·refine AH a0 rfl (λ_ a0=> ?_) (λ_ a0=> ?_)
            ·refine AA b4 rfl<|AA (x:=(0:Int)) b4 rfl<|AA b4 rfl<|AV (vs:=[.int .i64 B.1,.int .i64 (0:Int),.int .i64 C.1]) b4 λu1 q3 ew=> ?_;have⟨km,kn,a0⟩:=bS a0;refine AX (r:=Bc) (ms:=([(B.1,(0:Int),C.1)]:List BH)) CO ew.tail.at1 rfl (jP ew) (.cons (a:=[_,_,_]) ⟨[_],_,rfl,rfl,⟨[_],_,rfl,rfl,rfl⟩⟩ .nil) rfl kn ?_;intro s6 q4 ko;obtain rfl:=iS a0;exact AO (s6,()) rfl ⟨c2,km,sb,rfl,ko.at3.at3.at3.at3⟩
            obtain rfl:=iS a0;exact AO (C.2.1,()) rfl ⟨c2,ep,sb,rfl,b4.at1.at3.at3.at3.at3⟩
           rintro s7 q5 ⟨kp,kq,q6,rfl,kr⟩;obtain rfl:=iS q;exact AO (s7.1,J.1,()) rfl ⟨kp,kq,kj,sb,rfl,kk.up,kr.at1.tail.at2.at2.at2⟩
          obtain rfl:=iS q;exact AO (C.2.1,C.2.2.1,()) rfl ⟨eo,ep,kb,sb,rfl,er,c1.at2.at2.at2⟩
         rintro K q7 ⟨ks,kt,ku,q8,rfl,kv,kw⟩;obtain rfl:=iS b3;exact AZ ((wN C.1),K.1,K.2.1,()) _ rfl rfl ⟨ks,kt,ku,sb,kd,rfl,kv,kw.at2.at2.at2⟩
        ·rintro _ C q9 ⟨kx,ky,kz,qa,rfl,rfl,l0,l1⟩ l2;refine AU (dF ee l2)<|AI (AL (C.1,C.2.1,C.2.2.1,()) rfl ⟨_,kx,ky,kz,sb,rfl,rfl,l0,l1.at2.at2.at2⟩)
        rintro L qb ⟨_,l3,l4,l5,qc,_,rfl,l6,l7⟩;obtain rfl:=iS p;exact FG (L.2.1,L.2.2.1,()) rfl ⟨l3,l4,l5,sb,rfl,l6,l7.at2.at2.at2⟩
       rintro M qd ⟨l8,l9,la,qe,rfl,lb,lc⟩;obtain rfl:=iS c0;exact AZ ((wN B.1),M.1,M.2.1,()) _ rfl rfl ⟨l8,l9,la,sb,k6,rfl,lb,lc.at2.at2.at2⟩
      ·rintro _ B qf ⟨ld,le,lf,qg,rfl,rfl,lg,ex⟩ lh;refine AA ex.at2 rfl<|AU (dF P lh)<|AI (AL (B.1,B.2.1,B.2.2.1,()) rfl ⟨_,ld,le,lf,sb,rfl,rfl,lg,ex.at2.at2.at2⟩)
      rintro N qh ⟨_,li,lj,lk,qi,_,rfl,ll,lm⟩;obtain rfl:=iS d;exact FG (N.2.1,N.2.2.1,()) rfl ⟨li,lj,lk,sb,rfl,ll,lm.at1.tail.at1.at1⟩
    rintro z8 qj ⟨ln,lo,lp,qk,rfl,lq,lr⟩;obtain rfl:=iS u;exact AZ ((wN I.1),z8.1,z8.2.1,()) _ rfl rfl ⟨ln,lo,lp,sb,rfl,lq,lr.at1.at1⟩
   obtain rfl:=iS u;obtain rfl:=fg _ rfl;exact AI (AL (I.1,I.2.1,I.2.2.1,()) rfl ⟨cl,U,sb,rfl,V,b6.tail⟩)
 rintro z6 ql ⟨ls,lt,qm,rfl,lu,lv⟩;obtain rfl:=iS hd;exact AC ⟨ls,z6.2.2.1,lt,sb,rfl,rfl,lu,lv.tail⟩
noncomputable def Cs (b:List BH) (e:List BH):Option Bool:=
 cond ((b.length:Int) !=(e.length:Int))
 (some false)
 ((DE (σ:=Unit) (β:=Bool) 0 (b.length:Int) () λa h=>
  (idx b a).bind λc=>
  (idx e a).bind λd=>
  cond (!(((c.1==d.1) && ((c.2.1==d.2.1) && true)) && ((c.2.2==d.2.2) && true)))
  (some (kU false))
  (some (kD ()))).bind λf=>match f with
  |.next i=>
   some true
  |.done g=>some g)
theorem Jp {A:Slc}{c:List BH}{B:Slc}{d:List BH}(f:Ro.SliceIs Bc φ A c) (i:Ro.SliceIs Bc φ B d) (D:St φ (F) h) {r:Bool}(hd:Cs c d=some r):
 CallsH iA 34 [(sv A),(sv B)] h (Ap λv h'=>∃ψ:AD,∃y:Bool,Sub φ ψ∧v=fR.val y∧y=r∧St ψ (F) h'):=by
 refine AY mixed Tryz.func34 (Jn ..) ?_;have e:A.2.1=kG c:=f.length;have k:B.2.1=kG d:=i.length;refine AH hd (by rw[e,k] <;>rfl) (λ_ hd=> ?_) (λ_ hd=> ?_)
 ·obtain rfl:=iS hd;exact AC ⟨φ,false,sb,rfl,rfl,D⟩
 have⟨z,l,hd⟩:=bS hd;refine BZ l (λm y w_ g=>∃ψ:AD,Sub φ ψ∧y.1=m∧()=g∧St ψ (F) w_) ((0:Int),false,()) rfl ⟨φ,sb,rfl,rfl,D⟩ ?_ ?_ ?_
 ·rintro _ C a0 _ _ ⟨j,E,rfl,rfl,b⟩ a G n o p;refine Ac (dT e n)<|Wn f a b λH a=>Wn i a b λI a=>AH a rfl (λ_ a=> ?_) (λ_ a=> ?_)
  ·obtain rfl:=iS a;obtain rfl:=p _ rfl;obtain rfl:=iS hd;exact Aj (Al (AC ⟨j,false,sb,rfl,rfl,b⟩))
  obtain rfl:=iS a;exact AZ ((wN C.1),C.2.1,()) _ rfl rfl ⟨j,sb,o,rfl,b⟩
 ·rintro _ C J _ ⟨q,K,rfl,rfl,s⟩ t u;subst u;refine AU (dF e t)<|AI (AL (C.1,C.2.1,()) rfl ⟨_,rfl,_,q,sb,rfl,rfl,s⟩)
 rintro L M ⟨_,rfl,_,w,N,_,rfl,x⟩;obtain rfl:=iS hd;exact AC ⟨w,true,sb,rfl,rfl,x⟩
noncomputable def Bw (b:LC) (a:Int):Option gM:=(cond (decide (a< 0)) (some true) (some (decide (a≥ (b.2.2.2.2.2.2.1.2.2.2.2.2.2.2.1.length:Int))))).bind λj=>cond j (some ([]:gM)) ((loop (σ:=(Int×gM)) (β:=gM) (0,([]:gM)) λd=>(idx b.2.2.2.2.2.2.1.2.2.2.2.2.2.2.1 a).bind λe=>cond (decide (d.1< (e.length:Int))) ((idx b.2.2.2.2.2.2.1.2.2.2.2.2.2.2.1 a).bind λf=>(idx f d.1).bind λc=>(idx b.2.2.1 c.1).bind λg=>(cond (c.2==(g.2.1.length:Int)) ((app d.2 ([c.1]:gM)).bind λh=>some h) (some d.2)).bind λi=>some (kD ((gP .i64 (d.1+1)),i))) (some (kU d.2))).bind λk=>some k)
theorem D8 {B:gL}{m:LC}{A:Int}(j:Pt SG φ B m) (C:St φ (F) h) {r:gM}(hd:Bw m A=some r):
 CallsH iA 14 [(.pointer B),(.int .i64 A)] h (Ap λv h'=>∃ψ:AD,∃y:Slc,∃n:gM,Sub φ ψ∧v=fP.val y∧n=r∧Ro.SliceIs (jB .i64) ψ y n∧St ψ (F) h'):=by
 refine AY mixed Tryz.func14 (GV ..) ?_;have⟨x,f,hd⟩:=bS hd;refine Aa (λy w_ g=>∃ψ:AD,Sub φ ψ∧y.1=g∧St ψ (F) w_) (g:=x) ?_ ?_
 ·refine AH f rfl (λ_ f=> ?_) (λ_ f=> ?_)
  ·obtain rfl:=iS f;exact AO (true,()) rfl ⟨φ,sb,rfl,C⟩
  refine pfR NV j C λbj z=>pfR Tp z C λa0 J=> ?_;have K:=J.length;obtain rfl:=iS f;exact AO ((decide (A≥ (a0.2.1:Int))),()) rfl ⟨φ,sb,(by rw[K]),C⟩
 rintro z1 bl ⟨i,bn,rfl,o⟩;refine AH hd rfl (λ_ hd=> ?_) (λ_ hd=> ?_)
 ·obtain rfl:=iS hd;exact AC ⟨i,((none,0,0):Slc),[],sb,rfl,rfl,(lN (jB .i64) i),o⟩
 have⟨L,M,hd⟩:=bS hd;refine Ag (λy w_ g=>∃ψ:AD,∃p:gM,Sub i ψ∧p=g∧St ψ (cR 3 (jB .i64) y.2.1 p::F) w_) (g:=L) ?_ ?_
 ·refine CA M (λy w_ g=>∃ψ:AD,∃q:gM,Sub i ψ∧(y.1,q)=g∧St ψ (cR 3 (jB .i64) y.2.1 q::F) w_) ((0:Int),((none,0,0):Slc),()) rfl ⟨i,[],sb,rfl,(o.nil 3 (jB .i64))⟩ ?_
  ·rintro D bp _ _ ⟨k,s,bq,rfl,c⟩ b N;refine pfR NV j c λbs O=>pfR Tp O c λbt P=>gxS P b c λbx bz Q b=> ?_;have R:=Q.length;refine AH b (by rw[R] <;>rfl) (λ_ b=> ?_) (λ_ b=> ?_)
   ·refine pfR NV j c λc0 ad=>pfR Tp ad c λc1 al=>gxS al b c λc2 c3 ap b=>OM ap b c λl b=>AV (vs:=[.int .i64 (0:Int),.int .i64 (0:Int)]) c λE c4 ax=>AQ ax rfl rfl λc5 S=>AQ S rfl rfl λc6 d=>AA d rfl<|pfR Tq j d λc7 T=>AA d rfl<|ixR HX T b d λc8 c9 U b=> ?_;have V:=U.length;have⟨W,e,b⟩:=bS b;refine Aa (λy w_ g=>∃ψ:AD,∃u:gM,Sub k ψ∧u=g∧St ψ (cR 3 (jB .i64) y.1 u::cW 73 E [.int .i64 l.1,.int .i64 l.2]::F) w_) (g:=W) ?_ ?_
    ·refine AH e (by rw[V] <;>rfl) (λ_ e=> ?_) (λ_ e=> ?_)
     ·refine AA d rfl<|AV (vs:=[.int .i64 l.1]) d λX ch w=> ?_;have⟨Y,Z,e⟩:=bS e;refine AX (r:=(jB .i64)) (ms:=([l.1]:gM)) B0 w.tail.at1 rfl (jP w) (.cons (a:=[_]) rfl .nil) rfl Z ?_;intro G cl b7;obtain rfl:=iS e;exact AO (G,()) rfl ⟨k,Y,sb,rfl,b7.at1.at1⟩
     obtain rfl:=iS e;exact AO (D.2.1,()) rfl ⟨k,s,sb,rfl,d.at1.at1.at1⟩
    rintro H cm ⟨b8,b9,cp,rfl,ba⟩;obtain rfl:=iS b;exact AZ ((wN D.1),H.1,()) _ rfl rfl ⟨b8,b9,sb,rfl,ba.at1.tail⟩
   obtain rfl:=iS b;obtain rfl:=N _ rfl;exact AI (AL (D.1,D.2.1,()) rfl ⟨k,s,sb,rfl,c⟩)
 rintro I cs ⟨cw,bb,cx,rfl,bd⟩;have⟨bf,d0,bg,bi⟩:=iG (t:=I.2.1) bd;obtain rfl:=iS hd;exact AC ⟨bf,I.2.1,bb,sb,rfl,rfl,bg,bi⟩
noncomputable def CG (c:LC) (a:Int) (b:Int):Option gM:=(cond (decide (a< 0)) (some true) (cond (decide (a≥ (c.2.2.2.2.2.2.2.length:Int))) (some true) (cond (decide (b< 0)) (some true) (some (decide (b≥ (c.2.2.1.length:Int))))))).bind λg=>cond g (some ([]:gM)) ((idx c.2.2.2.2.2.2.2 a).bind λd=>(idx d b).bind λe=>(DX e).bind λf=>some f)
theorem HC {D:gL}{d:LC}{B:Int}{A:Int}(c:Pt SG φ D d) (C:St φ (F) h) {r:gM}(hd:CG d B A=some r):
 CallsH iA 16 [(.pointer D),(.int .i64 B),(.int .i64 A)] h (Ap λv h'=>∃ψ:AD,∃y:Slc,∃e:gM,Sub φ ψ∧v=fP.val y∧e=r∧Ro.SliceIs (jB .i64) ψ y e∧St ψ (F) h'):=by
 refine AY mixed Tryz.func16 (HA ..) ?_;have⟨i,a,hd⟩:=bS hd;refine Aa (λy w_ g=>∃ψ:AD,Sub φ ψ∧y.1=g∧St ψ (F) w_) (g:=i) ?_ ?_
 ·refine AH a rfl (λ_ a=> ?_) (λ_ a=> ?_)
  ·obtain rfl:=iS a;exact AO (true,()) rfl ⟨φ,sb,rfl,C⟩
  refine pfR Ws c C λz j=> ?_;have k:=j.length;refine AH a (by rw[k] <;>rfl) (λ_ a=> ?_) (λ_ a=> ?_)
  ·obtain rfl:=iS a;exact AO (true,()) rfl ⟨φ,sb,rfl,C⟩
  refine AH a rfl (λ_ a=> ?_) (λ_ a=> ?_)
  ·obtain rfl:=iS a;exact AO (true,()) rfl ⟨φ,sb,rfl,C⟩
  refine pfR Tq c C λl m=> ?_;have n:=m.length;obtain rfl:=iS a;exact AO ((decide (A≥ (l.2.1:Int))),()) rfl ⟨φ,sb,(by rw[n]),C⟩
 rintro G a0 ⟨f,H,rfl,b⟩;refine AH hd rfl (λ_ hd=> ?_) (λ_ hd=> ?_)
 ·obtain rfl:=iS hd;exact AC ⟨f,((none,0,0):Slc),[],sb,rfl,rfl,(lN (jB .i64) f),b⟩
 refine pfR Ws c b λI o=>gxS o hd b λJ K p hd=>gxS p hd b λL M q hd=> ?_;have⟨N,s,hd⟩:=bS hd;refine AK (Jl q.up b s) ?_;rintro _ O ⟨t,E,u,P,rfl,rfl,w,x⟩;refine⟨E,rfl,?_⟩;obtain rfl:=iS hd;exact AC ⟨t,E,u,sb,rfl,rfl,w,x⟩
noncomputable def Bx (d:LC) (a:Int) (c:Int):Option (List C5):=(Bw d a).bind λt1=>(forS (σ:=Bool) 0 (t1.length:Int) false λf n=>(cond n (some true) ((idx t1 f).bind λh=>some (h==c))).bind λo=>some o).bind λp=>cond (!p) (some ([]:List C5)) ((idx d.2.2.1 c).bind λe=>(loop (σ:=(Int×List C5)) (β:=List C5) (0,([]:List C5)) λb=>cond (decide (b.1< (d.2.2.2.2.2.2.1.2.2.2.2.2.2.1.length:Int))) ((BP d.2.2.2.2.2.2.1 b.1 e.1).bind λg=>(cond (decide (g≥ 0)) ((Ca d.2.2.2.2.2.2.1 b.1 e.2.1).bind λi=>some (i==a)) (some false)).bind λj=>(cond j ((app b.2 ([(e.1,g)]:List C5)).bind λk=>some k) (some b.2)).bind λl=>some (kD ((gP .i64 (b.1+1)),l))) (some (kU b.2))).bind λm=>some m)
theorem GY {G:gL}{a0:LC}{A:Int}{B:Int}(l:Pt SG φ G a0) (V:St φ (F) h) {r:(List C5)}(hd:Bx a0 A B=some r):
 CallsH iA 19 [(.pointer G),(.int .i64 A),(.int .i64 B)] h (Ap λv h'=>∃ψ:AD,∃y:Slc,∃M:List C5,Sub φ ψ∧v=fP.val y∧M=r∧Ro.SliceIs DR ψ y M∧St ψ (F) h'):=by
 refine AY mixed Tryz.func19 (GW ..) ?_;have⟨d7,ad,hd⟩:=bS hd;refine AK (D8 l V ad) ?_;rintro _ d8 ⟨N,t1,d9,da,rfl,rfl,O,al⟩;refine⟨t1,rfl,?_⟩;have P:=O.length;have⟨db,ap,hd⟩:=bS hd;refine BM ap (λax y w_ g=>∃ψ:AD,Sub N ψ∧y.1=ax∧y.2.1=g∧St ψ (F) w_) ((0:Int),false,()) rfl ⟨N,sb,rfl,rfl,al⟩ ?_ ?_ ?_
 ·rintro _ J dc _ _ ⟨o,dd,rfl,rfl,p⟩ q de W X;refine Ac (dT P W) ?_;have⟨Y,d,q⟩:=bS q;refine Aa (λy w_ g=>∃ψ:AD,Sub o ψ∧y.1=g∧St ψ (F) w_) (g:=Y) ?_ ?_
  ·refine AH d rfl (λ_ d=> ?_) (λ_ d=> ?_)
   ·obtain rfl:=iS d;exact AO (true,()) rfl ⟨o,sb,rfl,p⟩
   refine gx O d p λZ d=> ?_;obtain rfl:=iS d;exact AO ((Z==B),()) rfl ⟨o,sb,rfl,p⟩
  rintro z4 df ⟨b4,dg,rfl,b5⟩;obtain rfl:=iS q;exact AZ ((wN J.1),z4.1,()) _ rfl rfl ⟨b4,sb,X,rfl,b5⟩
 ·rintro _ J dh ⟨b6,di,rfl,rfl,b7⟩ b8;refine AU (dF P b8)<|AI (AL (J.1,J.2.1,()) rfl ⟨_,b6,sb,rfl,rfl,b7⟩)
 rintro z2 dj ⟨_,i,dk,_,rfl,j⟩;refine AH hd rfl (λ_ hd=> ?_) (λ_ hd=> ?_)
 ·obtain rfl:=iS hd;exact AC ⟨i,((none,0,0):Slc),[],sb,rfl,rfl,(lN DR i),j⟩
 refine pfR Tq l j λdl b9=> ?_;have⟨b,ba,hd⟩:=bS hd;obtain⟨dm,dn,bb,bd,bf,s⟩:=(b9.up (ψ:=i)).get ba;refine AF _ bb (Ah bd ?_);obtain⟨_,_,rfl,rfl,⟨_,_,rfl,⟨m,rfl,bn⟩,rfl⟩⟩:=bf;refine AG (x:=b.1) (AJ (jQ sb j.sub) (s 0 _ rfl)) rfl<|AG (x:=m) (by rw[An];exact(AJ (jQ sb j.sub) (s 1 _ rfl))) rfl<|AG (x:=b.2.2) (by rw[An];exact(AJ (jQ sb j.sub) (s 2 _ rfl))) rfl<|AV (vs:=[.int .i64 (0:Int),.slice none 0 0,.int .i64 (0:Int)]) j λD dp bp=>AQ bp rfl rfl λdq bq=>AQ bq rfl rfl λdr bs=>AQ bs rfl rfl λds bt=> ?_;have⟨bx,bz,hd⟩:=bS hd;refine Ag (λy w_ g=>∃ψ:AD,∃Q:List C5,Sub i ψ∧Q=g∧St ψ (cR 79 DR y.2.1 Q::cW 95 D [.int .i64 b.1,sv m,.int .i64 b.2.2]::F) w_) (g:=bx) ?_ ?_
 ·refine CA bz (λy w_ g=>∃ψ:AD,∃R:List C5,Sub i ψ∧(y.1,R)=g∧St ψ (cR 79 DR y.2.1 R::cW 95 D [.int .i64 b.1,sv m,.int .i64 b.2.2]::F) w_) ((0:Int),((none,0,0):Slc),()) rfl ⟨i,[],sb,rfl,(((bt.nil 79 DR).at1).at1)⟩ ?_
  ·rintro C dt _ _ ⟨c0,u,du,rfl,k⟩ c c1;refine pfR NV l k λdv c2=>pfR To c2 k λdw c3=> ?_;have c4:=c3.length;refine AH c (by rw[c4] <;>rfl) (λ_ c=> ?_) (λ_ c=> ?_)
   ·refine pfR NV l k λdx c5=>AA k.at1 rfl ?_;have⟨dy,c6,c⟩:=bS c;refine AK (DU c5.up k c6) ?_;rintro _ dz ⟨S,E,e0,rfl,rfl,n⟩;refine⟨E,rfl,?_⟩;have⟨c7,e,c⟩:=bS c;refine Aa (λy w_ g=>∃ψ:AD,Sub S ψ∧y.1=g∧St ψ (cR 79 DR C.2.1 u::cW 95 D [.int .i64 b.1,sv m,.int .i64 b.2.2]::F) w_) (g:=c7) ?_ ?_
    ·refine AH e rfl (λ_ e=> ?_) (λ_ e=> ?_)
     ·refine pfR NV l n λe1 c8=>AA n.at1 rfl ?_;have⟨e2,c9,e⟩:=bS e;refine AK (G1 c8.up bn.up n c9) ?_;rintro _ e3 ⟨ch,H,e4,rfl,rfl,cl⟩;refine⟨H,rfl,?_⟩;obtain rfl:=iS e;exact AO ((H==A),()) rfl ⟨ch,sb,rfl,cl.at1.at1⟩
     obtain rfl:=iS e;exact AO (false,()) rfl ⟨S,sb,rfl,n.at1.at1⟩
    rintro f0 e5 ⟨w,e6,rfl,z⟩;have⟨cm,f,c⟩:=bS c;refine Aa (λy w_ g=>∃ψ:AD,∃T:List C5,Sub w ψ∧T=g∧St ψ (cR 79 DR y.1 T::cW 95 D [.int .i64 b.1,sv m,.int .i64 b.2.2]::F) w_) (g:=cm) ?_ ?_
    ·refine AH f rfl (λ_ f=> ?_) (λ_ f=> ?_)
     ·refine AA z.at1 rfl<|AV (vs:=[.int .i64 b.1,.int .i64 E]) z λf1 e7 U=> ?_;have⟨cp,cs,f⟩:=bS f;refine AX (r:=DR) (ms:=([(b.1,E)]:List C5)) PR U.tail rfl (jP U) (.cons (a:=[_,_]) ⟨[_],_,rfl,rfl,rfl⟩ .nil) rfl cs ?_;intro K e8 cw;obtain rfl:=iS f;exact AO (K,()) rfl ⟨w,cp,sb,rfl,cw.at1.at1⟩
     obtain rfl:=iS f;exact AO (C.2.1,()) rfl ⟨w,u,sb,rfl,z.at1.at1⟩
    rintro L e9 ⟨cx,d0,ea,rfl,d1⟩;obtain rfl:=iS c;exact AZ ((wN C.1),L.1,()) _ rfl rfl ⟨cx,d0,sb,rfl,d1.at1.at1⟩
   obtain rfl:=iS c;obtain rfl:=c1 _ rfl;exact AI (AL (C.1,C.2.1,()) rfl ⟨c0,u,sb,rfl,k.at1.at1⟩)
 rintro I eb ⟨ec,d2,ed,rfl,d3⟩;have⟨d4,ee,d5,d6⟩:=iG (t:=I.2.1) d3;obtain rfl:=iS hd;exact AC ⟨d4,I.2.1,d2,sb,rfl,rfl,d5,d6.tail⟩
end
end Go.Proofs.YtkfgeafgfeppfaaGreatDoor
namespace Go.Proofs.YtkfgeafgfeppfaaGreatDoor
open Go Go.Eng Dg
section
variable {φ ψ φ0:AD}{h:AE}{F:List Chk}{p_0:Slc×Slc×Slc×Slc×Slc×Slc×Unit}{d0:List gN}{d1:List gN}{d2:List Ax}{d3:gM}{d4:gM}{d5:List gN}
theorem dC (n:Chk) (B D G:List Chk):(D++(B++(n::G))).Perm (n::(B++(D++G))):=
 (iL _ _ _).trans ((iP B iU).trans iU)
theorem dD (n:Chk) (B D G:List Chk):(D++(n::(B++G))).Perm (n::(B++(D++G))):=
 List.perm_middle.trans (gU _ (iL _ _ _))
theorem dE (n:Chk) (B D G:List Chk):(n::(D++(B++G))).Perm (n::(B++(D++G))):=
 gU _ (iL _ _ _)
theorem WF (k0:Ro.SliceIs mM φ p_0.1 d0) (m:Ro.SliceIs mM φ p_0.2.1 d1) (E:Ro.SliceIs CI φ p_0.2.2.1 d2) (G:Ro.SliceIs (jB .i64) φ p_0.2.2.2.1 d3) (H:Ro.SliceIs (jB .i64) φ p_0.2.2.2.2.1 d4) (I:Ro.SliceIs mM φ p_0.2.2.2.2.2.1 d5) (J:St φ F h) {r:OI}(hd:Pq (d0,d1,d2,d3,d4,d5)=some r):
 CallsH iA 31 [.agg #[.slice p_0.1.1 p_0.1.2.1 p_0.1.2.2,.slice p_0.2.1.1 p_0.2.1.2.1 p_0.2.1.2.2,.slice p_0.2.2.1.1 p_0.2.2.1.2.1 p_0.2.2.1.2.2,.slice p_0.2.2.2.1.1 p_0.2.2.2.1.2.1 p_0.2.2.2.1.2.2,.slice p_0.2.2.2.2.1.1 p_0.2.2.2.2.1.2.1 p_0.2.2.2.2.1.2.2,.slice p_0.2.2.2.2.2.1.1 p_0.2.2.2.2.2.1.2.1 p_0.2.2.2.2.2.1.2.2]] h
  (Ap λv h'=>∃ψ:AD,∃y:gL,∃l:OI,Sub φ ψ∧v=fO.val y∧l=r∧Pt YR ψ y l∧St ψ F h'):=by
 have k:PlK φ p_0 (d0,d1,d2,d3,d4,d5):=⟨k0,m,E,G,H,I⟩;obtain⟨t,ht⟩:∃t,p_0=t:=⟨_,rfl⟩;rw[ht]at k ⊢;refine Av mixed Tryz.func31 ?_;rw[Ld];unfold HS;unfold Pq at hd;have⟨null,hn,hd⟩:=bS hd;have⟨O,c,hd⟩:=bS hd;refine AV (vs:=plV t) J ?_;intro r1 P A;have⟨K,o,cB,A⟩:=mJ A;have L:t.2.1.2.1=d1.length:=k.k1.length;have hc:∀ {ψ:AD} {Γ:List Chk} {h':AE},Sub K ψ→St ψ Γ h'→ ∀j v,(plV t)[j]? =some v→BW h' ⟨r1,j,none⟩=some v:=λ{ψ Γ h'} le st=>HT (cB.mono le) st;have u:=hc (iT _) A;have m:=k.mono o;refine AG (x:=t.2.1) (u 1 _ rfl) rfl<|Ek u<|Ek u ?_;have mk:Dh (gP .i64 ((t.2.1.2.1:Int)+1)) false=some null:=by rw[L];exact hn
 refine DY ?_ ?_
 ·refine Er (r:=gX) (x:=false) Iq A rfl rfl mk ?_;intro n B q;have d:=hc (iT _) q
  repeat refine AN (d _ _ rfl) ?_
  refine AK (II m q c) ?_;rintro _ M ⟨N,f,us,a,rfl,p,kf,z⟩;refine⟨f,rfl,?_⟩;have w:=hc a z
  repeat refine AN (w _ _ rfl) ?_
  refine AK (II (m.mono a) z c) ?_;rintro _ C ⟨D,g,vs,b,rfl,e,kg,s⟩;refine⟨g,rfl,?_⟩;have i:=hc (a.trans b) s
  repeat refine AN (i _ _ rfl) ?_
  exact YS (n:=n) (f:=f) (g:=g) (cB.mono (a.trans b)) (m.mono (a.trans b)) (o.trans (a.trans b)) (kf.mono b) kg p e hd (s.perm (dC _ _ _ _))
 ·refine AK (II m A c) ?_;rintro _ M ⟨N,f,us,a,rfl,p,kf,z⟩;refine⟨f,rfl,?_⟩;have w:=hc a z
  repeat refine AN (w _ _ rfl) ?_
  refine DY ?_ ?_
  ·refine Er (r:=gX) (x:=false) Iq z rfl rfl mk ?_;intro n B q;have d:=hc a q
   repeat refine AN (d _ _ rfl) ?_
   refine AK (II (m.mono a) q c) ?_;rintro _ C ⟨D,g,vs,b,rfl,e,kg,s⟩;refine⟨g,rfl,?_⟩;have i:=hc (a.trans b) s
   repeat refine AN (i _ _ rfl) ?_
   exact YS (n:=n) (f:=f) (g:=g) (cB.mono (a.trans b)) (m.mono (a.trans b)) (o.trans (a.trans b)) (kf.mono b) kg p e hd (s.perm (dD _ _ _ _))
  ·refine AK (II (m.mono a) z c) ?_;rintro _ C ⟨D,g,vs,b,rfl,e,kg,s⟩;refine⟨g,rfl,?_⟩;have i:=hc (a.trans b) s
   repeat refine AN (i _ _ rfl) ?_
   refine Er (r:=gX) (x:=false) Iq s rfl rfl mk ?_;intro n B q;have d:=hc (a.trans b) q
   repeat refine AN (d _ _ rfl) ?_
   exact YS (n:=n) (f:=f) (g:=g) (cB.mono (a.trans b)) (m.mono (a.trans b)) (o.trans (a.trans b)) (kf.mono b) kg p e hd (q.perm (dE _ _ _ _))
end
theorem dG:Fv iA 90 90 93 1:=⟨lZ,.inl lZ,⟨Tryz.t93,by kernel_rfl,rfl,⟨_,rfl,rfl⟩,by decide,by decide⟩,by decide⟩
abbrev One:Type:=BH
abbrev L3:Type:=List (List (List Bool))
noncomputable def Rr (nt nr:Int):Option (List (List Bool)):=forS 0 nr ([]:List (List Bool)) λ_ l=>(Dh nt false).bind λrow=>app l [row]
noncomputable def NL (nt nr nk:Int):Option L3:=forS 0 nk ([]:L3) λ_ L=>(Rr nt nr).bind λl=>app L [l]
noncomputable def Oc (rs:List Ax) (pl:gM) (i:Int) (x:One) (L:L3):Option L3:=(idx pl i).bind λq=>(cond (decide (q≥0)) ((idx rs x.1).bind λr=>some (x.2.1==(r.2.1.length:Int))) (some false)).bind λb=>cond b ((idx L q).bind λl=>(idx l x.1).bind λrow=>(DB row x.2.2 true).bind λrow'=>some (L.set q.toNat (l.set x.1.toNat row'))) (some L)
noncomputable def NM (rs:List Ax) (pl:gM) (al:List (List One)) (L:L3):Option L3:=forS 0 (al.length:Int) L λi L=>(idx al i).bind λrow=>forS 0 (row.length:Int) L λj L=>(idx row j).bind λx=>Oc rs pl i x L
noncomputable def NN (p:Au) (A:NU) (pl:gM) (al:List (List One)):Option (Option LC):=(NL (p.1.length:Int) (p.2.2.1.length:Int) (A.2.2.2.2.2.2.1.length:Int)).bind λL=>(NM p.2.2.1 pl al L).bind λL=>some (some (p.1,p.2.1,p.2.2.1,p.2.2.2.1,p.2.2.2.2.1,p.2.2.2.2.2,A,L))
def r3:List (List Slc)→L3→List Chk
 |u::us,l::L=>rB u l++r3 us L
 |_,_=>[]
theorem Zm:∀ {us:List (List Slc)}{L:L3},us.length=L.length→ ∀(u:List Slc) (l:List (List Bool)),r3 (us++ [u]) (L++ [l])=r3 us L++rB u l:=by
 intro us
 induction us with
 |nil=>intro L h u l;cases L with
  |nil=>simp[r3]
  |cons _ _=>cases h
 |cons a us ih=>intro L h u l;cases L with
  |nil=>cases h
  |cons b L=>show rB a b++r3 (us++ [u]) (L++ [l])=_;rw[ih (by simpa using h)];simp[r3]
theorem YY:∀ {us:List (List Slc)}{L:L3}{k:Nat}{u:List Slc}{l:List (List Bool)},us[k]? =some u→L[k]? =some l→ ∃rest,(r3 us L).Perm (rB u l++rest)∧ ∀l',(r3 us (L.set k l')).Perm (rB u l'++rest):=by
 intro us
 induction us with
 |nil=>intro L k u l h;simp at h
 |cons a us ih=>
  intro L k u l d c;cases L with
  |nil=>simp at c
  |cons b L=>
   cases k with
   |zero=>
    simp only[iI,Option.some.injEq]at d c;subst d c;exact⟨r3 us L,mG _,λl'=>mG _⟩
   |succ k=>
    obtain⟨rest,e,f⟩:=ih (by simpa using d) (by simpa using c);exact⟨rB a b++rest,(iP _ e).trans (iL _ _ _),λl'=>(iP (rB a b) (f l')).trans (iL _ _ _)⟩
theorem WG {us:List (List Slc)}{L:L3}{k j:Nat}{u:List Slc}{l:List (List Bool)}{s:Slc}{row:List Bool}(hu:us[k]? =some u) (hl:L[k]? =some l) (hs:u[j]? =some s) (hr:l[j]? =some row):∃rest,(r3 us L).Perm (cR 4 gX s row::rest)∧ ∀row',(r3 us (L.set k (l.set j row'))).Perm (cR 4 gX s row'::rest):=by
 have⟨r1,a,b⟩:=YY hu hl;have⟨c,d,e⟩:=Nx hs hr;exact⟨c++r1,a.trans (gW _ d),λrow'=>(b _).trans (gW _ (e row'))⟩
theorem St.freeze3:∀ {us:List (List Slc)}{L:L3}{φ:AD}{h:AE}{F:List Chk},us.length=L.length→(∀(k:Nat) u l,us[k]? =some u→L[k]? =some l→u.length=l.length)→St φ (r3 us L++F) h→
 ∃ψ,Sub φ ψ∧(∀(k:Nat) u l,us[k]? =some u→L[k]? =some l→ ∀(i:Nat) s r,u[i]? =some s→l[i]? =some r→Ro.SliceIs gX ψ s r)∧St ψ F h:=by
 intro us
 induction us with
 |nil=>
  intro L φ h F hl _ H;cases L with
  |nil=>exact⟨φ,iT _,λk u l h=>by simp at h,H⟩
  |cons _ _=>cases hl
 |cons a us ih=>
  intro L φ h F hl hk H;cases L with
  |nil=>cases hl
  |cons b L=>
   obtain⟨t,f,g,j⟩:=lQ (ts:=a) (ls:=b) (hk 0 a b rfl rfl) (by simpa[r3]using H);obtain⟨m,c,n,o⟩:=ih (by simpa using hl) (λk u l d e=>hk (k+1) u l (by simpa using d) (by simpa using e)) j;refine⟨m,f.trans c,λk u l d e=> ?_,o⟩;cases k with
   |zero=>
    simp only[iI,Option.some.injEq]at d e;subst d e;exact λi s r p q=>(g i s r p q).mono c
   |succ k=>exact n k u l (by simpa using d) (by simpa using e)
theorem WH {φ:AD}:∀ {us:List (List Slc)}{L:L3}{vs:List Value},us.length=L.length→(∀(k:Nat) u l,us[k]? =some u→L[k]? =some l→u.length=l.length∧ ∀(i:Nat) s r,u[i]? =some s→l[i]? =some r→Ro.SliceIs gX φ s r)→(jG jF).All φ vs us→(jG (jG gX)).All φ vs L:=by
 intro us
 induction us with
 |nil=>intro L vs hl _ H;cases L with
  |nil=>cases H;exact .nil
  |cons _ _=>cases hl
 |cons a us ih=>
  intro L vs hl hk H;cases L with
  |nil=>cases hl
  |cons b L=>
   cases H with
   | @cons x v _ _ hx hr=>
    obtain⟨s,rfl,ks⟩:=hx;have⟨e,kb⟩:=hk 0 a b rfl rfl;exact Ro.All.cons (a:=[_]) ⟨s,rfl,Ir e kb ks⟩ (ih (by simpa using hl) (λk u l c d=>hk (k+1) u l (by simpa using c) (by simpa using d)) hr)
theorem TG {φ:AD}{o:Slc}{us:List (List Slc)}{L:L3}(hl:us.length=L.length) (hk:∀(k:Nat) u l,us[k]? =some u→L[k]? =some l→u.length=l.length∧ ∀(i:Nat) s r,u[i]? =some s→l[i]? =some r→Ro.SliceIs gX φ s r) (H:Ro.SliceIs (jG jF) φ o us):Ro.SliceIs (jG (jG gX)) φ o L:=by
 obtain⟨a,b,c,d,vs,e,f⟩:=H;exact⟨hl.symm.trans a,b,c,λhp=>kV (by rw[←hl,d hp];rfl),vs,WH hl hk e,f⟩
section
variable {φ ψ φ0:AD}{h:AE}{F:List Chk}{t:Slc×Slc×Slc×Slc×Slc×Slc×Unit}{p:dtP}{r1:Nat}{a_1:gL}{A:NU}{pl al:Slc}{dpl:gM}{dal:List (List One)}
theorem WI (a4:Sub φ0 φ) (k:PlK φ t p) (ka:Pt Oq φ a_1 A) (kp:Ro.SliceIs (jB .i64) φ pl dpl) (kl:Ro.SliceIs (jG Bc) φ al dal) {r:Option LC}(s0:St φ (cW 32 r1 (plV t)::F) h) (hd:NN p A dpl dal=some r):
 (UQ r1 a_1 pl al).wp iA (Ln (Ap λv h'=>∃ψ:AD,∃y:gL,∃l:Option LC,Sub φ0 ψ∧v=fO.val y∧l=r∧Np SG ψ y l∧St ψ F h')) h:=by
 unfold UQ;unfold NN at hd;have⟨L0,U,hd⟩:=bS hd;have⟨L1,V,hd⟩:=bS hd;obtain rfl:=iS hd;have⟨φ1,K,cB,s1⟩:=mJ s0;have hc:∀ {ψ:AD} {Γ:List Chk} {h':AE},Sub φ1 ψ→St ψ Γ h'→ ∀j v,(plV t)[j]? =some v→BW h' ⟨r1,j,none⟩=some v:=λ{ψ Γ h'} le st=>HT (cB.mono le) st;have n0:t.1.2.1=p.1.length:=k.k0.length;have n2:t.2.2.1.2.1=p.2.2.1.length:=k.k2.length;refine Ek (hc (iT _) s1)<|AV (vs:=[sv t.1,sv t.2.1,sv t.2.2.1,sv t.2.2.2.1,sv t.2.2.2.2.1,sv t.2.2.2.2.2.1,.pointer a_1,.slice none 0 0]) s1 λC I s2=> ?_;obtain⟨aA,vA,eA,⟨_,_,rfl,⟨_,rfl,_⟩,_,_,rfl,⟨_,rfl,_⟩,_,_,rfl,⟨_,rfl,_⟩,_,_,rfl,⟨_,rfl,_⟩,_,_,rfl,⟨_,rfl,_⟩,_,_,rfl,⟨_,rfl,_⟩,_,_,rfl,⟨tK,rfl,kK⟩,_⟩,cA⟩:=ka.mono K;have s3:=(s2.nil 93 (jG jF)).at1;refine Ag (λ(z:Int×Unit) w (g:L3)=>∃(ψ:AD) (us:List (List Slc)) (o:Slc),Sub φ1 ψ∧us.length=g.length∧(∀(k:Nat) u l,us[k]? =some u→g[k]? =some l→u.length=l.length)∧St ψ (cW 92 C [sv t.1,sv t.2.1,sv t.2.2.1,sv t.2.2.2.1,sv t.2.2.2.2.1,sv t.2.2.2.2.2.1,.pointer a_1,sv o]::cR 93 (jG jF) o us::(r3 us g++F)) w) (g:=L0) ?_ ?_
 ·unfold NL at U;refine By U (λi (z:Int×Unit) w g=>z.1=i∧ ∃(ψ:AD) (us:List (List Slc)) (o:Slc),Sub φ1 ψ∧us.length=g.length∧(∀(k:Nat) u l,us[k]? =some u→g[k]? =some l→u.length=l.length)∧St ψ (cW 92 C [sv t.1,sv t.2.1,sv t.2.2.1,sv t.2.2.2.1,sv t.2.2.2.2.1,sv t.2.2.2.2.2.1,.pointer a_1,sv o]::cR 93 (jG jF) o us::(r3 us g++F)) w) ((0:Int),()) rfl ⟨rfl,φ1,[],Cv,iT _,rfl,λk u l h=>by simp at h,s3⟩ ?_ ?_
  ·rintro _ ⟨i,_⟩ w g e ⟨rfl,ψ,us,o,le,hlen,hrow,st⟩ he h0 hlt hw;dsimp only at hlen hrow st he h0 hlt hw ⊢;refine AF _ eA<|AG (x:=tK) (AJ (le.trans st.sub) (cA.at 6 rfl)) rfl<|Ac (by rw[kK.length];exact gC hlt) ?_;have⟨l0,W,he⟩:=bS he;refine Ag (λ(z:Int×Slc×Unit) w (l:List (List Bool))=>∃(ψ':AD) (ul:List Slc),Sub ψ ψ'∧ul.length=l.length∧St ψ' (cR 68 jF z.2.1 ul::(rB ul l++(cW 92 C [sv t.1,sv t.2.1,sv t.2.2.1,sv t.2.2.2.1,sv t.2.2.2.2.1,sv t.2.2.2.2.2.1,.pointer a_1,sv o]::cR 93 (jG jF) o us::(r3 us g++F)))) w) (g:=l0) ?_ ?_
   ·unfold Rr at W;refine By W (λi (z:Int×Slc×Unit) w l=>z.1=i∧ ∃(ψ':AD) (ul:List Slc),Sub ψ ψ'∧ul.length=l.length∧St ψ' (cR 68 jF z.2.1 ul::(rB ul l++(cW 92 C [sv t.1,sv t.2.1,sv t.2.2.1,sv t.2.2.2.1,sv t.2.2.2.2.1,sv t.2.2.2.2.2.1,.pointer a_1,sv o]::cR 93 (jG jF) o us::(r3 us g++F)))) w) ((0:Int),Cv,()) rfl ⟨rfl,ψ,[],iT _,rfl,St.nil _ _ st⟩ ?_ ?_
    ·rintro _ ⟨kk,zl,_⟩ X l e2 ⟨rfl,Y,ul,s,hul,m⟩ D b0 Z G;dsimp only at hul m D b0 Z G ⊢;refine AG (x:=t.2.2.1) (hc (le.trans s) m 2 _ rfl) rfl<|Ac (by rw[n2];exact gC Z)<|AG (x:=t.1) (hc (le.trans s) m 0 _ rfl) rfl ?_;have⟨row,a7,D⟩:=bS D;refine Er (r:=gX) (x:=false) Iq m rfl rfl (by rw[n0];exact a7) ?_;intro t6 h3 s3;refine AV (vs:=[sv t6]) s3 ?_;intro r7 h4 s4;obtain⟨hap,rfl⟩:=Gq D hul t6;refine AX (r:=jF) (ms:=[t6]) aL (s4.at2) rfl (jP s4) (.cons (a:=[_]) rfl .nil) rfl hap ?_;intro t8 h5 s5;refine AZ (gP .i64 (kk+(1:Int)),t8,()) _ rfl rfl ⟨G,Y,ul++ [t6],s,by simp[hul],?_⟩;dsimp only;rw[VL hul,iJ];exact s5.at1.tail.perm (gU _ (iU (l₁:=rB ul l)).symm)
    ·rintro _ ⟨kk,zl,_⟩ X ⟨rfl,Y,ul,s,hul,m⟩ hge;dsimp only at hul m hge ⊢;refine AG (x:=t.2.2.1) (hc (le.trans s) m 2 _ rfl) rfl<|AU (by rw[n2];exact gB (jL.2 hge))<|AI (AL (kk,zl,()) rfl ⟨Y,ul,s,hul,m⟩)
   ·rintro⟨zk,zl,_⟩ X ⟨Y,ul,s,hul,m⟩;dsimp only at hul m ⊢;have⟨O,P,kul,a8⟩:=iG (t:=zl) m;have a0:=a8.perm (iU (l₁:=rB ul l0));refine AA (x:=o) a0 rfl<|AV (vs:=[sv zl]) a0 ?_;intro a9 h5 s5;have s6:St O (cR 93 (jG jF) o us::cW 93 a9 [sv zl]::cW 92 C [sv t.1,sv t.2.1,sv t.2.2.1,sv t.2.2.2.1,sv t.2.2.2.2.1,sv t.2.2.2.2.2.1,.pointer a_1,sv o]::(rB ul l0++(r3 us g++F))) h5:=
     s5.perm ((gU _ (gU _ (iU (l₁:=rB ul l0)))).trans ((gU _ (iD _ _ _)).trans (iD _ _ _)))
    obtain⟨hap,rfl⟩:=Gq he hlen ul;refine AX (r:=jG jF) (ms:=[ul]) dG s6 rfl (jP s5) (.cons (a:=[_]) ⟨zl,rfl,kul⟩ .nil) rfl hap ?_;intro b2 h7 s7;refine AQ s7.at2 rfl rfl λh8 s8=>AZ (gP .i64 (i+(1:Int)),()) _ rfl rfl ⟨hw,O,us++ [ul],b2,(le.trans s).trans P,by simp[hlen],?_,?_⟩
    ·intro k u l J I;rcases jR k us.length with g' | g'
     ·rw[iC g']at J;rw[iC (by omega)]at I;exact hrow k u l J I
     ·rw[hQ g']at J;rw[hQ (by omega)]at I;obtain⟨q,hq⟩:∃q,k - us.length=q:=⟨_,rfl⟩;rw[hq]at J;rw[←hlen,hq]at I;cases q with
      |zero=>
       simp only[iI,Option.some.injEq]at J I;subst J I;exact hul
      |succ q=>simp at J
    ·rw[Zm hlen,iJ];refine(s8.at2.tail.perm ?_);exact gU _ (gU _ (iL _ _ _))
  ·rintro _ ⟨i,_⟩ w ⟨rfl,ψ,us,o,le,hlen,hrow,st⟩ hge;dsimp only at hlen hrow st hge ⊢;refine AF _ eA<|AG (x:=tK) (AJ (le.trans st.sub) (cA.at 6 rfl)) rfl<|AU (by rw[kK.length];exact gB (jL.2 hge))<|AI (AL (i,()) rfl ⟨ψ,us,o,le,hlen,hrow,st⟩)
 rintro⟨zi,_⟩ w ⟨ψ1,us,o,s,hlen,hrow,st⟩;have⟨Y,P,ko,b3⟩:=iG (t:=o) st.at1;have⟨O,Q,cL,m⟩:=mJ b3;have H:=(s.trans P).trans Q;have hcL:∀ {ψ:AD} {Γ:List Chk} {h':AE},Sub O ψ→St ψ Γ h'→BW h' ⟨C,7,none⟩=some (sv o):=λ{ψ Γ h'} le st=>by
  have:=AJ st.sub ((cL.mono le).at 7 rfl)
  rwa [Dt,Nat.zero_add]at this
 refine Ag (λ(z:Int×Unit) w (g:L3)=>∃ψ:AD,Sub O ψ∧us.length=g.length∧(∀(k:Nat) u l,us[k]? =some u→g[k]? =some l→u.length=l.length)∧St ψ (r3 us g++F) w) (g:=L1) ?_ ?_
 ·unfold NM at V;refine By V (λi (z:Int×Unit) w g=>z.1=i∧ ∃ψ:AD,Sub O ψ∧us.length=g.length∧(∀(k:Nat) u l,us[k]? =some u→g[k]? =some l→u.length=l.length)∧St ψ (r3 us g++F) w) ((0:Int),()) rfl ⟨rfl,O,iT _,hlen,hrow,m⟩ ?_ ?_
  ·rintro _ ⟨i,_⟩ w g e ⟨rfl,ψ,le,hlen,hrow,st⟩ he h0 hlt hw;dsimp only at hlen hrow st he h0 hlt hw ⊢;refine Ac (by rw[kl.length];exact gC hlt) ?_;have⟨row,hrw,he⟩:=bS he;refine Ag (λ(z:Int×Unit) w (g:L3)=>∃ψ':AD,Sub ψ ψ'∧us.length=g.length∧(∀(k:Nat) u l,us[k]? =some u→g[k]? =some l→u.length=l.length)∧St ψ' (r3 us g++F) w) (g:=e) ?_ ?_
   ·refine By he (λj (z:Int×Unit) w g=>z.1=j∧ ∃ψ':AD,Sub ψ ψ'∧us.length=g.length∧(∀(k:Nat) u l,us[k]? =some u→g[k]? =some l→u.length=l.length)∧St ψ' (r3 us g++F) w) ((0:Int),()) rfl ⟨rfl,ψ,iT _,hlen,hrow,st⟩ ?_ ?_
    ·rintro _ ⟨j,_⟩ X L e2 ⟨rfl,M,n,d,c,s5⟩ D b0 Z G;dsimp only at d c s5 D b0 Z G ⊢;have leA:=H.trans (le.trans n);have leB:=K.trans leA;obtain⟨a1,c1,e1,q1,⟨tr,rfl,kr⟩,E⟩:=(kl.mono leB).get hrw;refine AF _ e1 (Ah q1 ?_);refine AG (x:=tr) (AJ s5.sub (E 0 _ rfl)) rfl<|Ac (by rw[kr.length];exact gC Z)<|AF _ e1 (Ah q1 ?_);refine AG (x:=tr) (AJ s5.sub (E 0 _ rfl)) rfl ?_;have⟨x,hx,f⟩:=bS D;obtain⟨x1,x2,x3⟩:=x;obtain⟨a3,c3,e3,q3,⟨_,_,rfl,rfl,⟨_,_,rfl,rfl,rfl⟩⟩,R⟩:=kr.get hx;refine AF _ e3 (Ah q3 ?_);refine AG (x:=x1) (AJ s5.sub (R 0 _ rfl)) rfl<|AG (x:=x2) (by rw[An];exact AJ s5.sub (R 1 _ rfl)) rfl<|AG (x:=x3) (by rw[An];exact AJ s5.sub (R 2 _ rfl)) rfl<|AV (vs:=[.int .i64 (0:Int),.int .i64 (0:Int),.int .i64 (0:Int)]) s5 λa2 h6 s6=>AQ s6 rfl rfl λh7 s7=>AQ s7 rfl rfl λh8 s8=>AQ s8 rfl rfl λh9 S=> ?_;unfold Oc at f;have⟨q,hq,f⟩:=bS f;have⟨b,hb,f⟩:=bS f;refine Aa (λ(z:Bool×Unit) w g=>z.1=g∧St M (cW 85 a2 [.int .i64 x1,.int .i64 x2,.int .i64 x3]::(r3 us L++F)) w) (g:=b) ?_ ?_
     ·refine On (a:=.int .i64) (kp.mono leB) hq S.sub<|AH hb rfl (λ_ hb=> ?_) (λ_ hb=> ?_)
      ·have⟨ru,hru,hb⟩:=bS hb;obtain rfl:=iS hb;refine AA (x:=x2) S rfl<|AG (x:=t.2.2.1) (hc leA S 2 _ rfl) rfl<|AA (x:=x1) S rfl ?_;obtain⟨D1,b9,b4,b5,⟨_,_,rfl,q2,⟨_,_,rfl,⟨u,rfl,ku⟩,q5⟩⟩,E⟩:=(k.k2.mono leB).get hru;refine AF _ b4 (Ah b5 ?_);obtain rfl:=q2;refine AG (x:=u) (by rw[An];exact AJ S.sub (E 1 _ rfl)) rfl<|AO (_,()) rfl ⟨by rw[ku.length],S⟩
      ·obtain rfl:=iS hb;exact AO (false,()) rfl ⟨rfl,S⟩
     rintro⟨zb,_⟩ w3 ⟨rfl,B⟩;refine Aa (λ(z:Unit) w (g:L3)=>us.length=g.length∧(∀(k:Nat) u l,us[k]? =some u→g[k]? =some l→u.length=l.length)∧St M (r3 us g++F) w) (g:=e2) ?_ ?_
     ·refine AH f rfl (λ_ f=> ?_) (λ_ f=> ?_)
      ·have⟨l,hl,f⟩:=bS f;have⟨rw_,hrr,f⟩:=bS f;obtain⟨rw',hrr',f⟩:=bS f;obtain rfl:=iS f;dsimp only at hrr hrr' ⊢;have⟨y0,y1,y2⟩:=CC hl;have⟨y3,y4,y5⟩:=CC hrr;have hu:us[q.toNat]? =some us[q.toNat]:=gO (by omega);have hul:=c _ _ _ hu y2;have hs:us[q.toNat][x1.toNat]? =some us[q.toNat][x1.toNat]:=gO (by omega);have hqu:idx us q=some us[q.toNat]:=by unfold idx;rw[gF y0];exact hu
       have hqs:idx us[q.toNat] x1=some us[q.toNat][x1.toNat]:=by unfold idx;rw[gF y3];exact hs
       refine AG (x:=o) (hcL (le.trans n) B) rfl<|On (a:=.int .i64) (kp.mono leB) hq B.sub<|RA (ko.mono (Q.trans (le.trans n))) hqu B.sub λu ku=>AA (x:=x1) B rfl ?_;obtain⟨a5,c5,e5,q5,r5,b6⟩:=(ku.mono (iT _)).get hqs;refine AF _ e5 (Ah q5 ?_);obtain rfl:=r5;refine AG (x:=us[q.toNat][x1.toNat]) (AJ B.sub (b6 0 _ rfl)) rfl<|AA (x:=x3) B rfl ?_;have⟨rest,p1,p2⟩:=WG hu y2 hs y5;have N:=B.tail.perm (gW F p1);have⟨a6,e6,q6⟩:=mK N hrr';refine AF _ e6 (Ah q6 (Ef N hrr' rfl e6 ?_));intro c0 b7;exact AO () rfl ⟨by rw[iF];exact d,λk u l g1 L=>by
        rw[hZ]at L;split at L
        ·rename_i e
         subst e;rw[gF (by omega)]at L;rw[hu]at g1;cases g1;cases L;rw[iF];exact hul
        ·exact c k u l g1 L,b7.perm (gW F (p2 rw')).symm⟩
      ·obtain rfl:=iS f;exact AO () rfl ⟨d,c,B.tail⟩
     rintro _ w4 ⟨g1,L,N⟩;exact AZ (gP .i64 (j+(1:Int)),()) _ rfl rfl ⟨G,M,n,g1,L,N⟩
    ·rintro _ ⟨j,_⟩ X ⟨rfl,M,n,d,c,s5⟩ hge;dsimp only at d c s5 hge ⊢;have leB:=K.trans (H.trans (le.trans n));obtain⟨a1,c1,e1,q1,⟨tr,rfl,kr⟩,E⟩:=(kl.mono leB).get hrw;refine AF _ e1 (Ah q1 ?_);refine AG (x:=tr) (AJ s5.sub (E 0 _ rfl)) rfl<|AU (by rw[kr.length];exact gB (jL.2 hge))<|AI (AL (j,()) rfl ⟨M,n,d,c,s5⟩)
   ·rintro⟨zj,_⟩ X ⟨M,n,d,c,s5⟩;exact AZ (gP .i64 (i+(1:Int)),()) _ rfl rfl ⟨hw,M,le.trans n,d,c,s5⟩
  ·rintro _ ⟨i,_⟩ w ⟨rfl,ψ,le,hlen,hrow,st⟩ hge;refine AU (by rw[kl.length];exact gB (jL.2 hge))<|AI (AL (i,()) rfl ⟨ψ,le,hlen,hrow,st⟩)
 rintro⟨zi,_⟩ w ⟨ψ4,n,hlen,hrow,st⟩;have⟨M,T,kb,b8⟩:=St.freeze3 hlen hrow st;have leo:=Q.trans (n.trans T);have leB:=K.trans (H.trans (n.trans T));have k':=k.mono leB;have kL:=TG hlen (λk u l J I=>⟨hrow k u l J I,kb k u l J I⟩) (ko.mono leo);refine AC ⟨M,some ⟨C,0,none⟩,some _,a4.trans leB,rfl,rfl,⟨_,_,rfl,?_,cL.mono (n.trans T)⟩,b8⟩;exact⟨[_],_,rfl,⟨_,rfl,k'.k0⟩,[_],_,rfl,⟨_,rfl,k'.k1⟩,[_],_,rfl,⟨_,rfl,k'.k2⟩,[_],_,rfl,⟨_,rfl,k'.k3⟩,[_],_,rfl,⟨_,rfl,k'.k4⟩,[_],_,rfl,⟨_,rfl,k'.k5⟩,[_],_,rfl,⟨_,rfl,ka.mono leB⟩,_,rfl,kL⟩
end
def LtO (x y:One):Prop:=x.1<y.1∨x.1=y.1∧(x.2.1<y.2.1∨x.2.1=y.2.1∧x.2.2<y.2.2)
theorem LtO.irr (x:One):¬LtO x x:=by unfold LtO;omega
theorem LtO.tr {x y z:One}(a:LtO x y) (b:LtO y z):LtO x z:=by unfold LtO at *;omega
theorem LtO.tri (x y:One) (e:¬LtO x y) (d:x≠y):LtO y x:=by
 have:¬(x.1=y.1∧x.2.1=y.2.1∧x.2.2=y.2.2):=λ⟨a,b,c⟩=>d (mF a (mF b c))
 unfold LtO at *;omega
theorem dH (l m:List One) (h:l.length≤9223372036854775807):Cs l m=some (decide (l=m)):=by
 unfold Cs;refine Pb (α:=Int×Int×Int) (e:=λx y=>((x.1==y.1) && ((x.2.1==y.2.1) && true)) && ((x.2.2==y.2.2) && true)) ?_ ?_ ?_ l m h
 ·exact λx y=>by rw[lG,lG];simp[and_assoc]
 ·rfl
 ·exact λ_=>rfl
theorem dI {l:List One}(hl:l.Pairwise LtO) (hn:l.length≤1000000000) (x:One):Ok (CB l x) λr=>r.1.Pairwise LtO∧(∀y,y∈r.1↔y∈l∨y=x)∧((x∈l∧r.1=l∧r.2=false)∨(x∉l∧r.1.length=l.length+1∧r.2=true)):=by
 unfold CB;refine(VC LtO.irr (λc a=>LtO.tr c a) LtO.tri hl hn (x:=x) (λm b=>(m,b)) (λi=> ?_) λi=> ?_).mono λr hr=> ?_
 ·refine AR (λhc=> ?_) λhc=>AB ⟨by simp,λ⟨y,hy,_⟩=> ?_⟩
  ·have hg:=gO (show i<l.length by have:=gD hc;omega);obtain⟨z,hz⟩:∃z,l[i]'(gS.1 hg).1=z:=⟨_,rfl⟩;rw[hz]at hg;have e:(∃y,l[i]? =some y∧LtO y x)↔LtO z x:=⟨λ⟨y,c,a⟩=>by rw[hg]at c;cases c;exact a,λh=>⟨z,hg,h⟩⟩;rw[e];unfold LtO;refine AS hg (AR (λh=>AB ⟨λ_=>.inl (gD h),λ_=>rfl⟩) λh=>AS hg (AR (λa=>AS hg (AR (λd=>AB ⟨λ_=>.inr ⟨by simpa using a,.inl (gD d)⟩,λ_=>rfl⟩) λd=>AS hg (AR (λf=>AS hg (AB ?_)) λf=>AB ?_))) λa=>AB ?_)) <;>simp at *<;>omega
  ·have:=gE hc
   rw[iO (by omega)]at hy;cases hy
 ·refine AR (λhc=> ?_) λhc=>AB ⟨by simp,λe=> ?_⟩
  ·have hg:=gO (show i<l.length by have:=gD hc;omega);refine AS hg (AB ?_);rw[hg,Option.some.injEq,lG,lG];simp[and_assoc]
  ·have:=gE hc
   rw[iO (by omega)]at e;cases e
 ·obtain⟨m,b,rfl,c,a,d⟩:=hr;exact⟨c,a,d⟩
theorem YZ (f:Oo) (p:dtP) (seq:gM):CP f p seq=Kk (nT p) f.1 f.2.1 seq:=by
 unfold CP Kk;refine gH (kH (Dh (nT p) false)) (funext λo=>congr (gH kH (gH (DE (σ:=List Bool) (β:=List Bool×Bool) 0 (seq.length:Int) o) (funext λi=>funext λz=> ?_))) (funext λs=>by cases s<;>rfl))
 show _=(idx seq i).bind λs=>cond (decide (s≥0) && decide (s< (p.1.length:Int))) _ (cond (decide (gP .i64 (s - (p.1.length:Int)) <0) || _) _ ((idx f.2.1 (gP .i64 (s - (p.1.length:Int)))).bind _));cases idx seq i with
 |none=>rfl
 |some s=>
  have last:∀w:Int,∀k:Bool→Option (AW (List Bool) (List Bool×Bool)),(∀b,k b=cond b (some (kD z)) ((idx f.2.1 w).bind λrow=>(Ar z row).bind λr=>(idx f.1 w).bind λb=>cond (!b) (some (.done (r.2,false))) (some (.next r.2))))→(((cond (decide (w<0)) (some true) (some (decide (w≥ (f.1.length:Int))))).bind k).bind λe=>match e with
   |.next z=>some (kD z)
   |.done q=>some (kU q))=cond (decide (w<0) || decide (w≥ (f.1.length:Int))) (some (.next z)) ((idx f.2.1 w).bind λrow=>(Ar z row).bind λr=>(idx f.1 w).bind λb=>cond b (some (.next r.2)) (some (.done (r.2,false)))):=λw k hk=>by
   have hx:((k false).bind λe=>match e with
    |.next z=>some (kD z)
    |.done q=>some (kU q))=(idx f.2.1 w).bind λrow=>(Ar z row).bind λr=>(idx f.1 w).bind λb=>cond b (some (.next r.2)) (some (.done (r.2,false))):=by
    rw[hk];cases idx f.2.1 w with
    |none=>rfl
    |some row=>
     show((kH (Ar z row) _).bind _)=kH (Ar z row) _;cases Ar z row with
     |none=>rfl
     |some r=>
      show((kH (idx f.1 w) _).bind _)=kH (idx f.1 w) _;cases idx f.1 w with
      |none=>rfl
      |some b=>cases b<;>rfl
   have hy:((k true).bind λe=>match e with
    |.next z=>some (kD z)
    |.done q=>some (kU q))=some (.next z):=by rw[hk];rfl
   cases decide (w<0) with
   |true=>exact hy
   |false=>cases decide (w≥ (f.1.length:Int)) with
    |true=>exact hy
    |false=>exact hx
  show(((cond (decide (s≥0)) (some (decide (s< (p.1.length:Int)))) (some false)).bind _).bind _)=cond (decide (s≥0) && decide (s< (p.1.length:Int))) _ _;cases decide (s≥0) with
  |false=>exact last _ _ λb=>rfl
  |true=>
   cases decide (s< (p.1.length:Int)) with
   |false=>exact last _ _ λb=>rfl
   |true=>
    show((kH (DB z s true) _).bind _)=kH (DB z s true) _;cases DB z s true<;>rfl
end Go.Proofs.YtkfgeafgfeppfaaGreatDoor
namespace Go.Proofs.YtkfgeafgfeppfaaGreatDoor
open Go Go.Eng
structure GrK (R:Rl) (K o:List Item):Prop where
 up:o.Pairwise Lt
 has:∀x∈K,x∈o
 cl:∀x∈o,Cl R K x
theorem GrK.ok {R:Rl}{K o:List Item}(H:GrK R K o) (hK:∀x∈K,OkI R x):∀x∈o,OkI R x:=λx hx=>(H.cl x hx).ok hK
theorem OJ {p:RP}(V:VPp p) {K:List Item}(hG:Je p.2.2.1 K):BO p K=some (clo p K):=by
 have⟨_,hC,hCg,_⟩:=Fl V hG;have hlen:∀ {o:List Item},GrK p.2.2.1 K o→o.length≤10100:=λH=>Fk V (H.ok hG.ok) (Lt.nodup H.up);have hR:=V.few;have hK:=Fk V hG.ok (Lt.nodup hG.up);refine Ok.eq ?_;unfold BO;refine BI (by simp;omega) ?_;rw[List.nil_append];have fin:∀o:List Item,GrK p.2.2.1 K o→(∀(j:Nat) x,o[j]? =some x→ ∀(k:Nat) r,p.2.2.1[k]? =some r→r.1=beh p.2.2.1 x→((k:Int),(0:Int))∈o)→o=clo p K:=λo H hc=>by
  refine Pa Lt.irrefl (λf d=>Lt.trans f d) H.up hC.up λx=> ?_;rw[hC.mem];refine⟨H.cl x,λh=> ?_⟩
  induction h with
  |base h=>exact H.has _ h
  |step _ f d ih=>
   obtain⟨j,hj⟩:=gV ih;exact hc j _ hj _ _ f d
 refine Bq (λ(z:Bool×List Item)=>GrK p.2.2.1 K z.2∧(z.1=false→ ∀(j:Nat) x,z.2[j]? =some x→ ∀(k:Nat) r,p.2.2.1[k]? =some r→r.1=beh p.2.2.1 x→((k:Int),(0:Int))∈z.2)) (λz=>(10100 - z.2.length) *2+(if z.1 then 1 else 0)) (λo=>o=clo p K) ⟨⟨hG.up,λ_ h=>h,λ_ h=>.base h⟩,by simp⟩ (λz hz=> ?_) λo ho=>AB ho;obtain⟨more,o⟩:=z;obtain⟨H,hc⟩:=hz;dsimp only at H hc ⊢;refine AR (λhm=> ?_) λhm=>As (fin o H (hc hm));subst hm;have ho:=hlen H;refine Bq (λ(z:Int×Bool×List Item)=>∃i:Nat,z.1=(i:Int)∧GrK p.2.2.1 K z.2.2∧((z.2.1=true∧o.length<z.2.2.length)∨(z.2.1=false∧z.2.2=o∧i≤o.length∧ ∀(j:Nat) x,j<i→o[j]? =some x→ ∀(k:Nat) r,p.2.2.1[k]? =some r→r.1=beh p.2.2.1 x→((k:Int),(0:Int))∈o)))
  (λz=>if z.2.1 then 0 else o.length+1 - z.1.toNat) (λb=>GrK p.2.2.1 K b.2∧((b.1=true∧o.length<b.2.length)∨(b.1=false∧b.2=o∧ ∀(j:Nat) x,o[j]? =some x→ ∀(k:Nat) r,p.2.2.1[k]? =some r→r.1=beh p.2.2.1 x→((k:Int),(0:Int))∈o))) ⟨0,rfl,H,.inr ⟨rfl,rfl,kZ _,λj x h=>by omega⟩⟩ (λz hz=> ?_) λb hb=> ?_
 ·obtain⟨i',m,o2⟩:=z;obtain⟨i,f,H2,a⟩:=hz;dsimp only at f H2 a ⊢;subst f;have q:=hlen H2;rcases a with⟨rfl,a⟩|⟨rfl,rfl,hi,hcl⟩
  ·
   refine AM (Q:=λc=>c=false) (AR (λ_=>AB rfl) λ_=>AB rfl) λc hc=> ?_;subst hc;exact Af rfl (As ⟨H2,.inl ⟨rfl,a⟩⟩)
  ·rcases jR i o2.length with hlt | hge
   ·refine AM (Q:=λc=>c=true) (BK (gC (by omega)) (AB rfl)) λc hc=> ?_;subst hc;have hx:=gO hlt;obtain⟨x,hxe⟩:∃x,o2[i] =x:=⟨_,rfl⟩;rw[hxe]at hx;have hxm:=gQ hx;refine BK rfl (AS hx (AP (JE (H.ok hG.ok x hxm)) ?_));refine BV (λk (z:Bool×List Item)=>GrK p.2.2.1 K z.2∧((z.1=true∧o2.length<z.2.length)∨(z.1=false∧z.2=o2∧ ∀(k':Nat) r,k'<k→p.2.2.1[k']? =some r→r.1=beh p.2.2.1 x→((k':Int),(0:Int))∈o2))) (by omega) ⟨H,.inr ⟨rfl,rfl,λk' r h=>by omega⟩⟩ (λk z hk hz=> ?_) λz hz=> ?_
    ·obtain⟨m,s⟩:=z;obtain⟨H3,a⟩:=hz;dsimp only at H3 a ⊢;have w:=hlen H3;have hr:=gO hk;obtain⟨r,hre⟩:∃r,p.2.2.1[k] =r:=⟨_,rfl⟩;rw[hre]at hr;refine AS hr<|AM (Q:=λ(z:Bool×List Item)=>GrK p.2.2.1 K z.2∧((z.1=true∧o2.length<z.2.length)∨(z.1=false∧z.2=o2∧ ∀(k':Nat) r,k'<k+1→p.2.2.1[k']? =some r→r.1=beh p.2.2.1 x→((k':Int),(0:Int))∈o2))) (AR (λhc=> ?_) λhc=>AB ⟨H3,?_⟩) λz hz=>AB hz
     ·have hc:r.1=beh p.2.2.1 x:=by simpa using hc
      refine AM (VD H3.up (by omega) ((k:Int),(0:Int))) λl A=> ?_;obtain⟨B,u,v⟩:=A;have H4:GrK p.2.2.1 K l:=⟨B,λy hy=>(u y).2 (.inl (H3.has y hy)),λy hy=>((u y).1 hy).elim (H3.cl y) λe=>by rw[e];exact .step (H.cl x hxm) hr hc⟩;have C:s.length≤l.length:=by rcases v with⟨_,rfl⟩|⟨_,e⟩ <;>omega
      refine AM (Q:=λc=>c=true∧(o2.length<l.length)∨(c=false∧l=s∧m=false∧((k:Int),(0:Int))∈s)) (AR (λhm=>AB (.inl ⟨rfl,?_⟩)) λhm=>AB ?_) λc hc=>AB ?_
      ·rcases a with⟨_,h⟩|⟨h,_⟩
       ·omega
       ·rw[hm]at h;cases h
      ·rcases v with⟨hmem,rfl⟩|⟨_,e⟩
       ·exact .inr ⟨gB (by omega),rfl,hm,hmem⟩
       ·refine .inl ⟨gC (by omega),?_⟩;rcases a with⟨_,h⟩|⟨_,h,_⟩
        ·omega
        ·rw[←h];omega
      ·refine⟨H4,?_⟩;rcases hc with⟨hcc,h⟩|⟨hcc,D,t,hmem⟩
       ·exact .inl ⟨hcc,h⟩
       ·subst D;rcases a with⟨h,_⟩|⟨_,rfl,h⟩
        ·rw[t]at h;cases h
        ·refine .inr ⟨hcc,rfl,λk' r' hk' hr' hb=> ?_⟩;rcases iE.1 hk' with g | rfl
         ·exact h k' r' g hr' hb
         ·exact hmem
     ·have hc:r.1≠beh p.2.2.1 x:=by simpa using hc
      rcases a with h | ⟨h,h',h''⟩
      ·exact .inl h
      ·refine .inr ⟨h,h',λk' r' hk' hr' hb=> ?_⟩;rcases iE.1 hk' with g | rfl
       ·exact h'' k' r' g hr' hb
       ·rw[hr]at hr';cases hr';exact gI hb hc
    ·obtain⟨H3,a⟩:=hz;refine BJ ⟨⟨i+1,by rw[w64 (by omega) (by omega)];omega,H3,?_⟩,?_⟩
     ·rcases a with h | ⟨h,h',h''⟩
      ·exact .inl h
      ·refine .inr ⟨h,h',hlt,λj y hj hy k r hr hb=> ?_⟩;rcases iE.1 hj with g | rfl
       ·exact hcl j y g hy k r hr hb
       ·rw[hx]at hy;cases hy;exact h'' k r (gS.1 hr).1 hr hb
     ·dsimp only;rw[w64 (n:=(i:Int)+1) (by omega) (by omega)];rw[gG (show ¬((false:Bool)=true) from lS)]
      split<;>omega
   ·refine AM (Q:=λc=>c=false) (Af (gB (by omega)) (AB rfl)) λc hc=> ?_;subst hc;refine Af rfl (As ⟨H2,.inr ⟨rfl,rfl,λj y hj=>hcl j y (by have:=(gS.1 hj).1;omega) hj⟩⟩)
 ·obtain⟨m,o2⟩:=b;obtain⟨H2,d⟩:=hb;dsimp only at H2 d ⊢;have q:=hlen H2;refine BJ ⟨⟨H2,λhm=> ?_⟩,?_⟩
  ·rcases d with⟨h,_⟩|⟨_,rfl,h⟩
   ·have hm:m=false:=hm;rw[hm]at h;cases h
   ·exact h
  ·dsimp only;rw[gF rfl];rcases d with⟨rfl,h⟩|⟨rfl,rfl,_⟩
   ·rw[gF rfl];omega
   ·rw[gG (by simp)];omega
end Go.Proofs.YtkfgeafgfeppfaaGreatDoor
