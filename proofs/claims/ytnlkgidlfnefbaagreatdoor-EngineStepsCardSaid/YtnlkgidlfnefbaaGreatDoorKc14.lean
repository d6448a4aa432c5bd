/- The parts LookO to Build, put together. Conditions: each tells its own. -/
import Derived.Test.YtnlkgidlfnefbaaGreatDoorKc13
import Derived.Test.YtnlkgidlfnefbaaGreatDoorKc5
import Derived.Test.YtnlkgidlfnefbaaGreatDoorKc12
import Derived.Test.YtnlkgidlfnefbaaGreatDoorKc10
set_option linter.unusedVariables false
set_option maxRecDepth 100000
set_option maxHeartbeats 4000000
open List renaming getElem?_eq_getElem → bD,mem_of_getElem? → bO,append_assoc → hA,length_map → hC,getElem?_eq_some_iff → hM,getElem?_map → kF,perm_middle → kJ,mem_map → kK,getElem?_append_left → kL,map_append → kO,mem_append → kQ,take_of_length_le → kW,getElem?_of_mem → kZ,getElem?_set_ne → lA,mem_range → lD,getElem?_append_right → lF,take_add_one → lG,nodup_append → lH,getElem_mem → lJ,getElem?_set_self → lK,nil_append → lL,mem_filter → lN,length_singleton → lP,take_append_drop → lQ,filter_append → lS,mem_singleton → lT,length_append → lU,pairwise_map → lW,filter_cons → mA,mem_flatMap → mB,length_take → mC,range → mF
open Go.Eng.Ro renaming SliceIs → eE,int → kI,pt → lM,str → mE,list → mJ
open Int renaming toNat_natCast → kG,not_lt → mG
open Bool renaming not_eq_true' → kH,and_eq_true → kX,and_eq_false_iff → lO,or_eq_false_iff → lR
open List.Perm renaming cons → kT,append_right → kU,swap → mD
open Go.Eng.St renaming freezeRow → kV,shutR → mH,unpack → mI,cell → mK,openR → mL,pack → mM
open Nat renaming le_refl → kY,eq_zero_or_pos → lV,lt_or_ge → lX
open Go.Proofs.Tryz renaming prog → lB
open Go.Eng.Sub renaming refl → lC
open Option renaming bind_eq_some_iff → lI
open Go.IntKind renaming wrap → lY
open Go.Eng.T renaming call → lZ
open Go renaming Addr → mN
open Go.Proofs.Tryz
namespace Go.Proofs.YtnlkgidlfnefbaaGreatDoor
open Go Go.Eng Dg
structure LkD where
 p:dtP
 A:dtA
 fa:dtF
 steps:List Stp
 L:LkL
def LkL.at (φ:AD) (cs:List Value) (d:LkD) (Γ:List Chk):Prop:=
 ∃(a:mN) (t:Slc×Slc×Slc×Slc×Slc×Slc×Unit) (ap:Option mN) (fz:Slc×Slc×Slc×Int×Unit) (sl:Slc) (nm lm:Nat) (ps:List (Option mN)),
  cs= [.pointer (some a)] ∧LkK φ a t ap fz sl nm lm d.p d.A d.fa d.steps∧ps.length=d.L.length∧Γ=giC lm ps d.L []
def dK:Pk (Option LkD) where
 sz:=1
 L φ cs x Γ:=match x with
  |none=>cs= [.pointer none] ∧Γ= []
  |some d=>LkL.at φ cs d Γ
 len {φ cs x Γ} h:=by
  cases x with
  |none=>rw[h.1];rfl
  |some d=>obtain⟨a,t,ap,fz,sl,nm,lm,ps,b,_⟩:=h;rw[b];rfl
 mono {φ ψ cs x Γ} hs h:=by
  cases x with
  |none=>exact h
  |some d=>obtain⟨a,t,ap,fz,sl,nm,lm,ps,b,c,e,f⟩:=h;exact⟨a,t,ap,fz,sl,nm,lm,ps,b,c.mono hs,e,f⟩
 plain {φ cs x Γ} h v hv:=by
  cases x with
  |none=>rw[h.1]at hv;simp at hv;subst hv;rfl
  |some d=>obtain⟨a,t,ap,fz,sl,nm,lm,ps,b,_⟩:=h;rw[b]at hv;simp at hv;subst hv;rfl
abbrev GA:Rep (Option LkD):=Rep.pack dK
noncomputable def XU (p:dtP) (A:dtA):Option (Option LkD):=(RB p).bind λfa=>(Rs p A LT ([],[])).bind λst=>(PN p A fa st.1 st.2).bind λb=>(HT p A fa st.1 st.2).bind λa=>(IT b.2 b.1).bind λc=>(IT a c).bind λd=>(SU p A fa st.1 d).bind λL=>some (some ⟨p,A,fa,st.1,L⟩)
noncomputable def QK (d:Option LkD) (s:Int):Option (List Int):=d.bind λd=>EE (lkT d.p d.A d.fa d.steps none none) s
noncomputable def SW (d:Option LkD) (s r:Int):Option (List Int):=d.bind λd=>match BX (s,r) d.L with
 |none=>some []
 |some x=>Ju x
section
variable {φ ψ:AD}{h:AH}{F:List Chk}{a:mN}{t:Slc×Slc×Slc×Slc×Slc×Slc×Unit}{p:dtP}{ap:Option mN}{A:dtA}{fz:Slc×Slc×Slc×Int×Unit}{sl:Slc}{nm lm b:Nat}{fa:dtF}{steps:List Stp}
theorem fe {q:Option mN}{d:Option LkD}(H:St φ (⟨GA,[.pointer q],d⟩::F) h):Option.isNone q=Option.isNone d:=by
 have⟨Γ,b,_⟩:=mI H;cases d with
 |none=>cases b.1;rfl
 |some d=>obtain⟨a,t,ap,fz,sl,nm,lm,ps,b,_⟩:=b;cases b;rfl
theorem WW {q:Option mN}{d:Option LkD}{s:Int}(g:St φ (⟨GA,[.pointer q],d⟩::F) h) {r:List Int}(hd:QK d s=some r):
 CallsH lB 123 [.pointer q,.int .i64 s] h (Ae λv c=>∃ψ:AD,∃y:Slc,∃l:List Int,Sub φ ψ∧v=((.one aS):Sh).val y∧l=r∧eE (kI .i64) ψ y l∧St ψ (⟨GA,[.pointer q],d⟩::F) c):=by obtain⟨d,rfl,b⟩:=lI.1 hd;obtain⟨Γ,⟨a,t,ap,fz,sl,nm,lm,ps,i,f,j,m⟩,s1⟩:=mI g;cases i;refine(MY f.pt s1 (show EE (lkT d.p d.A d.fa d.steps (some nm) (some lm)) s=some r from b)).mono ?_;rintro e c ⟨v,rfl,ψ,y,l,le,rfl,rfl,k,n⟩;exact⟨_,rfl,ψ,y,l,le,rfl,rfl,k,mM (p:=dK) ⟨a,t,ap,fz,sl,nm,lm,ps,rfl,f.mono le,j,m⟩ n⟩
theorem aZ {q:Option mN}{d:Option LkD}{s k:Int}(w:Dg.Glob φ) (z:St φ (⟨GA,[.pointer q],d⟩::F) h) {r:List Int}(hd:SW d s k=some r):
 CallsH lB 125 [.pointer q,.int .i64 s,.int .i64 k] h (Ae λv e=>∃ψ:AD,∃y:Slc,∃l:List Int,Sub φ ψ∧v=((.one aS):Sh).val y∧l=r∧eE (kI .i64) ψ y l∧St ψ (⟨GA,[.pointer q],d⟩::F) e):=by
 obtain⟨d,rfl,b⟩:=lI.1 hd;obtain⟨Γ,⟨a,t,ap,fz,sl,nm,lm,ps,A,f,g,B⟩,s1⟩:=mI z;cases A;subst B;rw[Ti,lL]at s1;refine BF mixed func125 ?_;rw[OX];unfold Jy;refine AF _ rfl<|AL (x:=some lm) (f.at s1 (j:=13) rfl) rfl<|HR (kk:=DG) (a:=.pointer) (k:=(s,k)) (m:=mz ps d.L) (none:Option mN) underlying134 U9 (i:=t189) (by kernel_rfl) rfl s1 ?_;have back:∀ {ψ:AD} {e:AH},Sub φ ψ→St ψ (giC lm ps d.L F) e→St ψ (⟨GA,[.pointer (some a)],some d⟩::F) e:=λle st=>
  mM (p:=dK) (Γ:=giC lm ps d.L []) ⟨a,t,ap,fz,sl,nm,lm,ps,rfl,f.mono le,g,rfl⟩ (by rw[Ti,lL];exact st)
 cases hg:BX (s,k) d.L with
 |none=>
  rw[hg]at b;obtain rfl:=iS b;rw[XT hg];refine Ai rfl<|AB ⟨φ,(none,0,0),[],lC _,rfl,rfl,Ro.SliceIs.nil _ _,back (lC _) s1⟩
 |some x=>
  rw[hg]at b;have⟨i,C,D,E,G,K,M⟩:=QJ g hg;rw[G];have⟨rest,n,_⟩:=E0 D E;have o:St φ (Bc C x::(rest++(cM DG lM lm (mz ps d.L)::F))) h:=s1.perm ((kT _ (kU F n)).trans ((mD _ _ _).trans (kT _ (kJ (l₁:=rest)).symm)));refine AW (SV o)<|AE (OL w o b) ?_;rintro _ N ⟨H,u,c,rfl,I,J⟩;refine⟨u,rfl,?_⟩;refine AB ⟨H,u,r,c,rfl,rfl,I,back c ?_⟩;exact J.perm (((kT _ (kJ (l₁:=rest))).trans (mD _ _ _)).trans (kT _ (kU F n).symm))
noncomputable def aa (t2 t3 t4 t5 t6 t7:Slc) (ap:Option mN) (fz:Slc×Slc×Slc×Int×Unit) (nm lm:Nat):T:=iP #[(sv t2),(sv t3),(sv t4),(sv t5),(sv t6),(sv t7),(.pointer ap),(sv fz.1),(sv fz.2.1),(sv fz.2.2.1),(.int .i64 fz.2.2.2.1),(.slice none 0 0),(.map (some nm)),(.map (some lm))] 137 λa=>lZ 66 [(.pointer (jX a)),(.func (.func 67) #[(.pointer (jX a))] #[])] (.tuple []) λf=>lZ 68 [(.pointer (jX a))] (.tuple [aS,aS]) λb=>lZ 71 [(.pointer (jX a))] (.one aS) λc=>lZ 70 [(sv b.2.1),(sv b.1)] (.one aS) λd=>lZ 70 [(sv c),(sv d)] (.one aS) λe=>lZ 69 [(.pointer (jX a)),(sv e)] (.tuple []) λg=>T.ret (.pointer (jX a))
noncomputable def WX (p:dtP) (A:dtA) (fa:dtF):Option (Option LkD):=(Rs p A LT ([],[])).bind λst=>(PN p A fa st.1 st.2).bind λb=>(HT p A fa st.1 st.2).bind λa=>(IT b.2 b.1).bind λc=>(IT a c).bind λd=>(SU p A fa st.1 d).bind λL=>some (some ⟨p,A,fa,st.1,L⟩)
def OfS (φ:AD) (F:List Chk) (r:Option LkD) (v:Value) (a:AH):Prop:= ∃ψ:AD,∃y:Option mN,∃l:Option LkD,Sub φ ψ∧v=((.one aP):Sh).val y∧l=r∧St ψ (⟨GA,[.pointer y],l⟩::F) a
theorem HU {φ0:AD}(D:Sub φ0 φ) (C:Dg.Glob φ) (kP:PlK φ t p) (kA:Pt F4 φ ap A) (f0:eE Ro.bool φ fz.1 fa.1) (f1:eE (mJ (kI .i64)) φ fz.2.1 fa.2.1) (f2:eE (mJ (kI .i64)) φ fz.2.2.1 fa.2.2.1) (f3:fz.2.2.2.1=fa.2.2.2)
 {r:Option LkD} (hd:WX p A fa=some r) (s0:St φ (cM DG (kI .i64) nm []::cM DG lM lm []::F) h):
 (aa t.1 t.2.1 t.2.2.1 t.2.2.2.1 t.2.2.2.2.1 t.2.2.2.2.2.1 ap fz nm lm).wp lB (Kf (Ae (OfS φ0 F r))) h:=by
 unfold aa;unfold WX at hd;have⟨en,E,hd⟩:=bS hd;have⟨b,G,hd⟩:=bS hd;have⟨a0,v,hd⟩:=bS hd;have⟨g,H,hd⟩:=bS hd;have⟨c,I,hd⟩:=bS hd;have⟨L,hL,hd⟩:=bS hd;obtain rfl:=iS hd;refine AU (vs:=lkV t ap fz ((none,0,0):Slc) nm lm) s0 ?_;intro i h1 s1;have s2:St φ (enC i t ap fz nm lm ⟨((none,0,0):Slc),[],[]⟩ ++(cM DG lM lm []::F)) h1:=(St.nil 193 UU s1).at1;refine AE (aN kA kP (x:=⟨((none,0,0):Slc),[],[]⟩) E s2) ?_;rintro _ h2 ⟨rfl,ψ2,x,J,hx,s3⟩;refine⟨(),rfl,?_⟩;obtain⟨sl,steps,M⟩:=x;obtain rfl:=hx;have⟨ψ3,N,cB,s4⟩:=St.blk s3;have⟨ψ4,w,ks,s5⟩:=kV (t:=sl) s4;have a:=(J.trans N).trans w;have K:LkK ψ4 ⟨i,0,none⟩ t ap fz sl nm lm p A fa steps:=⟨cB.mono w,kP.mono a,kA.mono a,f0.mono a,f1.mono a,f2.mono a,f3,ks⟩;refine AE (Yb K G s5) ?_;rintro _ h5 ⟨ψ5,y1,y2,ps,q,rfl,O,k1,k2,s6⟩;refine⟨_,rfl,?_⟩;have k:=a.trans q;have s7:St ψ5 (cM DG (kI .i64) nm M::(AV ps b.1++(cM DG lM lm []::F))) h5:=s6.perm (kJ (l₁:=AV ps b.1));refine AE (Th (C.mono k) (K.mono q) v s7) ?_;rintro _ h6 ⟨ψ6,y3,j,rfl,k3,s8⟩;refine⟨_,rfl,?_⟩;have l:=k.trans j;refine AE (SL (C.mono l) (k2.mono j) (k1.mono j) O s8.tail H) ?_;rintro _ h7 ⟨ψ7,y4,qs,s,rfl,P,s9⟩;refine⟨_,rfl,?_⟩;have y:=l.trans s;have⟨ψ8,u,k4,Q⟩:=kV (t:=y4) s9;have m:=y.trans u;refine AE (SL (C.mono m) (k3.mono (s.trans u)) k4 P Q I) ?_;rintro _ h8 ⟨ψ9,y5,d,z,rfl,R,S⟩;refine⟨_,rfl,?_⟩;have⟨T,n,k5,U⟩:=kV (t:=y5) S;have e:=(m.trans z).trans n;have f:=(((((q.trans j).trans s).trans u).trans z).trans n);have V:St T (giC lm [] [] (AV d c++(AV qs g++(AV ps b.1++F)))) h8:=by
  refine U.perm ?_;show(AV d c++(AV qs g++(AV ps b.1++(cM DG lM lm []::F)))).Perm (cM DG lM lm []::(AV d c++(AV qs g++(AV ps b.1++F))));rw[←hA,←hA,←hA (AV d c),←hA (AV d c++AV qs g)];exact kJ
 refine AE (aY (C.mono e) (K.mono f) k5 R hL V) ?_;rintro _ h9 ⟨rfl,B,vs,o,W,Y⟩;refine⟨(),rfl,?_⟩;refine AB ⟨B,some ⟨i,0,none⟩,_,(D.trans e).trans o,rfl,rfl,?_⟩;refine mM (p:=dK) (Γ:=giC lm vs L []) ⟨⟨i,0,none⟩,t,ap,fz,sl,nm,lm,vs,rfl,K.mono (f.trans o),W,rfl⟩ ?_;rw[Ti,lL];have Z:St B ((AV d c++(AV qs g++AV ps b.1)) ++(giC lm vs L F)) h9:=by
  refine Y.perm ?_;show(cM DG lM lm (mz vs L)::(AV vs (L.map (·.2)) ++(AV d c++(AV qs g++(AV ps b.1++F))))).Perm ((AV d c++(AV qs g++AV ps b.1)) ++(cM DG lM lm (mz vs L)::(AV vs (L.map (·.2)) ++F)));rw[show AV d c++(AV qs g++(AV ps b.1++F))=(AV d c++(AV qs g++AV ps b.1)) ++F by simp[hA]]
  generalize AV d c++(AV qs g++AV ps b.1)=X
  refine(kT _ ?_).trans (kJ (l₁:=X)).symm;rw[←hA,←hA];exact kU F List.perm_append_comm
 exact St.drop _ Z
theorem ab {a:Slc×Slc×Slc×Slc×Slc×Slc×Unit}{z A:List ByteArray}{B:List BM}{C D:List Int}{E:List ByteArray}{H:dtA}{t:Option mN}(R:Dg.Glob φ)
 (k0:eE mE φ a.1 z) (S:eE mE φ a.2.1 A) (U:eE CB φ a.2.2.1 B) (V:eE (kI .i64) φ a.2.2.2.1 C) (W:eE (kI .i64) φ a.2.2.2.2.1 D) (X:eE mE φ a.2.2.2.2.2.1 E) (Y:Pt F4 φ t H) (Z:St φ F h) {r:Option LkD} (hd:XU (z,A,B,C,D,E) H=some r):
 CallsH lB 33 [.agg #[sv a.1,sv a.2.1,sv a.2.2.1,sv a.2.2.2.1,sv a.2.2.2.2.1,sv a.2.2.2.2.2.1],.pointer t] h (Ae (OfS φ F r)):=by
 refine BF mixed func33 ?_;rw[U7];unfold SS;have⟨fa,I,hd⟩:=bS hd;have hd:WX (z,A,B,C,D,E) H fa=some r:=hd;have kP:PlK φ a (z,A,B,C,D,E):=⟨k0,S,U,V,W,X⟩;refine AU (vs:=plV a) Z ?_;intro r1 h1 s1;have⟨J,e,cB,s1⟩:=St.blk s1;have o:∀ {ψ:AD} {Γ:List Chk} {h':AH},Sub J ψ→St ψ Γ h'→ ∀j v,(plV a)[j]? =some v→BJ h' ⟨r1,j,none⟩=some v:=λ{ψ Γ h'} le st j v hv=>by
  have:=AM st.sub ((cB.mono le).at j hv)
  rw[DB,Nat.zero_add]at this;exact this
 have u:=o (lC _) s1;refine LS u<|LS u ?_;have f:=R.mono e;have g:=kP.mono e;have i:=Y.mono e;have call:∀ {Γ:List Chk} {w:AH} {K:(Slc×Slc×Slc×Int×Unit)→T} {Q:Bs→AH→Prop},St J Γ w→
  (∀(ψ:AD) (fz:Slc×Slc×Slc×Int×Unit) (G:AH),Sub J ψ→eE Ro.bool ψ fz.1 fa.1→eE (mJ (kI .i64)) ψ fz.2.1 fa.2.1→eE (mJ (kI .i64)) ψ fz.2.2.1 fa.2.2.1→fz.2.2.2.1=fa.2.2.2→St ψ Γ G→(K fz).wp lB Q G)→
  (lZ 65 [(.agg #[(sv a.1),(sv a.2.1),(sv a.2.2.1),(sv a.2.2.2.1),(sv a.2.2.2.2.1),(sv a.2.2.2.2.2.1)])] (.one (.agg [.slice,.slice,.slice,(.int .i64)])) K).wp lB Q w:=by
  intro Γ w K Q st hk;refine AE (Te f g st I) ?_;rintro _ G ⟨ψ,y,le,rfl,k,l,m,n,L⟩;exact⟨y,rfl,hk ψ y G le k l m n L⟩
 refine Dk ?_ (Dk ?_ ?_)
 ·refine call s1 ?_;intro ψ fz w le k l m n st;have c:=λ{Γ:List Chk} {h':AH} (st:St ψ Γ h')=>o le st
  repeat refine AI (c st _ _ rfl) ?_
  refine Dk ?_ ?_
  ·refine Du DG (kI .i64) st ?_;intro M N d
   repeat refine AI (c d _ _ rfl) ?_
   refine Du DG lM d ?_;intro O x b
   repeat refine AI (c b _ _ rfl) ?_
   exact HU (e.trans le) (f.mono le) (g.mono le) (i.mono le) k l m n hd b.at1
  ·refine Du DG lM st ?_;intro M N d
   repeat refine AI (c d _ _ rfl) ?_
   refine Du DG (kI .i64) d ?_;intro O x b
   repeat refine AI (c b _ _ rfl) ?_
   exact HU (e.trans le) (f.mono le) (g.mono le) (i.mono le) k l m n hd b
 ·refine Du DG (kI .i64) s1 ?_;intro P N d;have p:=o (lC _) d
  repeat refine AI (p _ _ rfl) ?_
  refine Dk ?_ ?_
  ·refine call d ?_;intro ψ fz w le k l m n st;have c:=λ{Γ:List Chk} {h':AH} (st:St ψ Γ h')=>o le st
   repeat refine AI (c st _ _ rfl) ?_
   refine Du DG lM st ?_;intro q x b
   repeat refine AI (c b _ _ rfl) ?_
   exact HU (e.trans le) (f.mono le) (g.mono le) (i.mono le) k l m n hd b.at1
  ·refine Du DG lM d ?_;intro q x b;have s:=o (lC _) b
   repeat refine AI (s _ _ rfl) ?_
   refine call b ?_;intro ψ fz w le k l m n st;have c:=λ{Γ:List Chk} {h':AH} (st:St ψ Γ h')=>o le st
   repeat refine AI (c st _ _ rfl) ?_
   exact HU (e.trans le) (f.mono le) (g.mono le) (i.mono le) k l m n hd st.at1
 ·refine Du DG lM s1 ?_;intro P N d;have p:=o (lC _) d
  repeat refine AI (p _ _ rfl) ?_
  refine Dk ?_ ?_
  ·refine call d ?_;intro ψ fz w le k l m n st;have c:=λ{Γ:List Chk} {h':AH} (st:St ψ Γ h')=>o le st
   repeat refine AI (c st _ _ rfl) ?_
   refine Du DG (kI .i64) st ?_;intro q x b
   repeat refine AI (c b _ _ rfl) ?_
   exact HU (e.trans le) (f.mono le) (g.mono le) (i.mono le) k l m n hd b
  ·refine Du DG (kI .i64) d ?_;intro q x b;have s:=o (lC _) b
   repeat refine AI (s _ _ rfl) ?_
   refine call b ?_;intro ψ fz w le k l m n st;have c:=λ{Γ:List Chk} {h':AH} (st:St ψ Γ h')=>o le st
   repeat refine AI (c st _ _ rfl) ?_
   exact HU (e.trans le) (f.mono le) (g.mono le) (i.mono le) k l m n hd st
end
def trE (p:dtP) (n:Nat) (es:List Edge):List (Stp×Int):=(es.filter λe=> !(decide (0≤e.1) && decide (e.1<nT p))).map λe=>(((n:Int),e.1),e.2)
def trs (p:dtP) (E:List (List Edge)) (n:Nat):List (Stp×Int):=(mF n).flatMap λk=>trE p k (E[k]?.getD [])
theorem RG (p:dtP) (E:List (List Edge)) (n:Nat):trs p E (n+1)=trs p E n++trE p n (E[n]?.getD []):=by unfold trs;rw[List.range_succ,List.flatMap_append];simp
theorem ac (p:dtP) (E:List (List Edge)) {n m:Nat}(h:n≤m):trs p E n<+:trs p E m:=by
 induction h with
 |refl=>exact List.prefix_refl _
 |step _ a=>rw[RG];exact a.trans (List.prefix_append _ _)
theorem VC {p:dtP}{n:Nat}{es:List Edge}{j:Nat}{e:Edge}(h:es[j]? =some e):trE p n (es.take (j+1))=trE p n (es.take j) ++trE p n [e]:=by unfold trE;rw[lG,h,lS,kO];rfl
theorem dL (p:dtP) (n:Nat) (es:List Edge) (j:Nat):trE p n (es.take j) <+:trE p n es:=by unfold trE;have⟨r,a⟩:=List.take_prefix j es;refine⟨(r.filter λe=> !(decide (0≤e.1) && decide (e.1<nT p))).map λe=>(((n:Int),e.1),e.2),?_⟩;rw[←kO,←lS,a]
section
variable {p:dtP}{B:List dtK}{E:List (List Edge)}{tt:Int}
theorem XV (V:VPp p) (H:Fin p B E) (u:B.length≤1000000) {σ:Type}{f:σ→Stp→Int→Option σ}{s:σ}(I:List (Stp×Int)→σ→Prop) (m:I [] s)
 (o:∀pre x s,pre++ [x] <+:trs p E B.length→I pre s→Ok (f s x.1 x.2) (I (pre++ [x]))):Ok (Rs p (Be p B E tt) f s) (I (trs p E B.length)):=by
 unfold Rs;refine AJ (TX H)<|CF (n:=B.length) (λk s=>I (trs p E k) s) (by omega) m λk s i c=> ?_;have d:=bD i;have⟨es,g⟩:=H.edge d;refine AJ (Uz V H d g) ?_;have v:=H.edges_len V d g;have a:trs p E (k+1)=trs p E k++trE p k es:=by rw[RG,g];rfl
 have b:=ac p E (show k+1≤B.length from i);rw[a]at b;obtain⟨s',q,l⟩:=CF (f:=λj s=>(idx es j).bind λe=>(BU p e.1).bind λt=>cond (!t) (f s ((k:Int),e.1) e.2) (some s)) (n:=es.length) (λj s=>I (trs p E k++trE p k (es.take j)) s) (by omega) (s:=s) (by
  rw[List.take_zero];show I (trs p E k++ []) s;rw[List.append_nil];exact c) λj s r c=>by
   have h:=bD r;refine AX h (AJ (HJ p _) ?_);rw[VC h];cases hc:(decide (0≤es[j].1) && decide (es[j].1<nT p)) with
   |true=>
    have e:trE p k [es[j]] = []:=by unfold trE;rw[mA,hc];rfl
    rw[e,List.append_nil];refine AS ?_ (AC c);show(!(decide (0≤es[j].1) && decide (es[j].1<nT p)))=false;rw[hc];rfl
   |false=>
    have e:trE p k [es[j]] = [(((k:Int),es[j].1),es[j].2)]:=by unfold trE;rw[mA,hc];rfl
    rw[e];refine Ap ?_ ?_
    ·show(!(decide (0≤es[j].1) && decide (es[j].1<nT p)))=true;rw[hc];rfl
    ·rw[←hA];refine o _ (((k:Int),es[j].1),es[j].2) s ?_ c;rw[hA,←e,←VC h];exact((List.prefix_append_right_inj _).2 (dL p k es (j+1))).trans b
 refine⟨s',q,?_⟩;rw[kW (kY _)]at l;show I (trs p E (k+1)) s';rw[a];exact l
theorem ae (H:Fin p B E) {n:Nat}{b:dtK}{e:List Edge}(g:B[n]? =some b) (i:E[n]? =some e) {s t:Int}:(s,t)∈e↔JU p.2.2.1 B b e s t∧t≠-1:=by
 have hd:=H.done n b e g i;constructor
 ·intro h;have⟨q,c,d,a,j,f⟩:=hd.2 _ h;dsimp only at d f;exact⟨.inl ⟨by rw[←hd.1];exact kK.2 ⟨_,h,rfl⟩,q,c,d,a,j,f,h⟩,by omega⟩
 ·rintro⟨⟨_,q,c,_,_,_,_,h⟩|⟨_,h⟩,a⟩
  ·exact h
  ·exact absurd h a
theorem JX (H:Fin p B E) {n:Nat}{e:List Edge}(i:n<B.length) (d:E[n]? =some e) {s t:Int}:(s,t)∈e↔∃m:Nat,t=(m:Int)∧TrB p B E n s m:=by
 have f:=bD i;rw[ae H f d];constructor
 ·rintro⟨c,j⟩;have g:=c;rcases c with⟨_,q,l,k,_⟩|⟨_,h⟩
  ·subst k;exact⟨q,rfl,_,e,f,d,g⟩
  ·exact absurd h j
 ·rintro⟨m,rfl,o,r,a,b,c⟩;rw[f]at a;cases a;rw[d]at b;cases b;exact⟨c,by omega⟩
theorem L4 (V:VPp p) (H:Fin p B E) {x:Stp×Int}:x∈trs p E B.length↔∃(n:Nat) (s:Int) (m:Nat),x=(((n:Int),s),(m:Int))∧nT p≤s∧TrB p B E n s m:=by
 unfold trs trE;rw[mB];constructor
 ·rintro⟨n,a,d⟩;have a:=lD.1 a;have⟨e,c⟩:=H.edge (bD a);rw[c]at d;obtain⟨y,g,rfl⟩:=kK.1 d;have⟨h,i⟩:=lN.1 g;obtain⟨m,j,b⟩:=(JX H a c (s:=y.1) (t:=y.2)).1 h;have f:=((OQ V H).st b).2.2.2;refine⟨n,y.1,m,by rw[j],?_,b⟩;rw[decide_eq_true f,Bool.true_and,kH,decide_eq_false_iff_not]at i;omega
 ·rintro⟨n,s,m,rfl,k,b⟩;have a:n<B.length:=((OQ V H).st b).1;have⟨e,c⟩:=H.edge (bD a);have f:=((OQ V H).st b).2.2.2;refine⟨n,lD.2 a,?_⟩;rw[c];refine kK.2 ⟨(s,(m:Int)),lN.2 ⟨(JX H a c).2 ⟨m,rfl,b⟩,?_⟩,rfl⟩;rw[decide_eq_false (show ¬s<nT p by omega),Bool.and_false];rfl
theorem SX (V:VPp p) (H:Fin p B E):((trs p E B.length).map (·.1)).Nodup:=by
 have f:∀n,n≤B.length→((trs p E n).map (·.1)).Nodup∧ ∀x∈(trs p E n).map (·.1),x.1< (n:Int):=by
  intro n
  induction n with
  |zero=>intro _;exact⟨by simp[trs],by simp[trs]⟩
  |succ n o=>
   intro q;obtain⟨r,j⟩:=o (by omega);have d:=bD (show n<B.length from q);have⟨e,k⟩:=H.edge d;have hd:=(H.done n _ e d k).1;have l:=gY p.2.2.1 B[n].2.1;rw[←hd]at l;have m:∀x∈(trE p n e).map (·.1),x.1=(n:Int):=by
    intro x i;obtain⟨y,s,rfl⟩:=kK.1 i;obtain⟨z,_,rfl⟩:=kK.1 s;rfl
   have t:((trE p n e).map (·.1)).Nodup:=by
    unfold trE;rw[List.map_map];have c:((e.filter λe=> !(decide (0≤e.1) && decide (e.1<nT p))).map (·.1)).Pairwise (· < ·):=l.sublist (List.Sublist.map _ List.filter_sublist);rw[List.nodup_iff_pairwise_ne,lW];rw[lW]at c;exact c.imp λ{a b} h g=>by
     have:=(Prod.mk.inj g).2
     omega
   rw[RG,k];show((trs p E n++trE p n e).map (·.1)).Nodup∧ ∀x∈(trs p E n++trE p n e).map (·.1),x.1< ((n+1:Nat):Int);rw[kO];refine⟨lH.2 ⟨r,t,λa u b d g=> ?_⟩,λx i=> ?_⟩
   ·have:=j a u
    have:=m b d
    subst g;omega
   ·rcases kQ.1 i with h | h
    ·have:=j x h;omega
    ·have:=m x h;omega
 exact(f _ (kY _)).1
theorem dM (V:VPp p) (H:Fin p B E) (d:∀n s m,TrB p B E n s m→s<nT p+(p.2.1.length:Int)):(trs p E B.length).length≤B.length *p.2.1.length:=by
 have h:=List.Nodup.length_le_of_subset (l₂:=(mF B.length).flatMap λa=>(mF p.2.1.length).map λb=>(((a:Nat):Int),nT p+((b:Nat):Int))) (SX V H) λx e=>by
  obtain⟨y,f,rfl⟩:=kK.1 e;obtain⟨n,s,m,rfl,i,c⟩:=(L4 V H).1 f;have j:=d n s m c;have g:n<B.length:=((OQ V H).st c).1;refine mB.2 ⟨n,lD.2 g,kK.2 ⟨(s - nT p).toNat,lD.2 (by omega),Prod.ext rfl ?_⟩⟩;dsimp only;omega
 rw[hC,List.length_flatMap]at h;simp only[hC,List.length_range,List.map_const',List.sum_replicate_nat]at h;exact h
structure Num (st:List Stp) (nm:List (Stp×Int)):Prop where
 at_:∀(i:Nat) k,st[i]? =some k→BX k nm=some (i:Int)
 none:∀k,k∉st→BX k nm=none
theorem af (V:VPp p) (H:Fin p B E) (m:B.length≤1000000) (t:(trs p E B.length).length≤100000):Ok (Rs p (Be p B E tt) LT ([],[])) λst=>st.1=(trs p E B.length).map (·.1)∧Num st.1 st.2:=by
 have c:=SX V H;refine XV V H m (λa (st:EnS)=>st.1=a.map (·.1)∧Num st.1 st.2) ⟨rfl,λi k h=>by simp at h,λ_ _=>rfl⟩ λa x st b n=> ?_;obtain⟨o,nm⟩:=st;obtain⟨rfl,j⟩:=n;dsimp only at j ⊢;have l:a.length+1≤(trs p E B.length).length:=by
  have:=b.length_le
  simpa using this
 have d:x.1∉a.map (·.1):=by
  obtain⟨r,q⟩:=b;rw[←q,kO,kO]at c
  have:=(lH.1 (lH.1 c).1).2.2
  intro s;exact this _ s x.1 (by simp) rfl
 unfold LT;dsimp only;refine BL (by simp;omega) (AC ⟨by simp,λi k h=> ?_,λk f=> ?_⟩)
 ·dsimp only at h ⊢;rw[DD];rcases lX i a.length with g | g
  ·rw[kL (by simpa using g)]at h;rw[if_neg (λe=>d (by rw[←e];exact bO h))];exact j.at_ i k h
  ·rw[lF (by simpa using g),hC]at h
   have:i - a.length=0:=by
    have:=(hM.1 h).1
    simp at this;omega
   rw[this]at h;simp at h;rw[if_pos h.symm];congr 1;simp;omega
 ·dsimp only at f ⊢;rw[kQ]at f;rw[DD,if_neg λe=>f (.inr (by simp[e])),j.none k λh=>f (.inl h)]
end
structure EF (p:dtP) (B:List dtK) (E:List (List Edge)) (fa:dtF):Prop where
 vp:VPp p
 sy:Sy p
 fin:Fin p B E
 gr:Gr (nT p) p.2.2.1
 few:B.length≤300
 vars:p.2.1.length≤24
 fa:aK p fa
 zero:∃st,p.2.2.1[0]? =some (nT p+(p.2.1.length:Int),[st],0)
section
variable {p:dtP}{B:List dtK}{E:List (List Edge)}{fa:dtF}{tt:Int}{steps:List Stp}{o1 o2:Option Nat}
theorem EF.aut (H:EF p B E fa):Aut p.2.2.1 (SB B) (KB B) (TrB p B E):=OQ H.vp H.fin
theorem EF.sym (H:EF p B E fa) {n m:Nat}{s:Int}(h:TrB p B E n s m):0≤s∧s<nT p+(p.2.1.length:Int):=by have A:=H.aut;have⟨y,a,b⟩:=A.some_ h;obtain⟨k,d,rfl,_,_⟩:=A.form (A.st h).1 a;have⟨r,c,e⟩:=PH H.gr b (A.st h).2.2.2;exact H.sy.right r (bO c) s (bO e)
theorem EF.lens (H:EF p B E fa):(trs p E B.length).length≤7200:=by have h:=dM H.vp H.fin λn s m a=>(H.sym a).2;have b:=H.few;have c:=H.vars;have d:B.length *p.2.1.length≤300 *24:=Nat.mul_le_mul b c;omega
theorem XW (H:EF p B E fa) {n:Nat}(e:n<B.length) {k:Nat}{r:BM}(d:p.2.2.1[k]? =some r):
 Ok (CJ (lkT p (Be p B E tt) fa steps o1 o2) (n:Int) (k:Int)) λb=>b=true↔It p.2.2.1 (KB B) n k r.2.1.length:=by have g:=Bm d;have a:=bD e;have h:=(H.fin.good H.vp a).2.2.2.2;unfold CJ;refine AP (Q:=λc=>c=false) (AS (decide_eq_false (by omega)) (AC (decide_eq_false (by dsimp only;omega)))) λc f=> ?_;subst f;refine AS rfl (AX d (AJ (Uy H.vp H.fin a) (AJ (contains_ok (by omega)) (AC ?_))));rw[decide_eq_true_eq];exact GK H.vp H.fin a _
def Dir (p:dtP) (B:List dtK) (E:List (List Edge)) (m:Nat) (j:Int):Prop:=(j<nT p∧ ∃q,TrB p B E m j q)∨(j=0∧It p.2.2.1 (KB B) m 0 1)
structure RdI (p:dtP) (B:List dtK) (E:List (List Edge)) (num:List (Stp×Int)) (x:Stp×Int) (d:Aa) (l:List Int):Prop where
 ok:OkS d∧d.1=nT p
 mem:∀m:Nat,x.2=(m:Int)→ ∀j,Dg.mem d j=true↔Dir p B E m j
 few:l.length≤20000
 next:∀m:Nat,x.2=(m:Int)→ ∀k,k∈l↔∃c q,TrB p B E m c q∧nT p≤c∧Nul p.2.2.1 c∧(BX ((m:Int),c) num).getD 0=k
theorem BY {α:Type}{l:List α}{k:Nat}{x:α}(h:l[k]? =some x) {y:α}:y∈l.take (k+1)↔y∈l.take k∨y=x:=by rw[lG,h,kQ];simp
theorem ag (H:EF p B E fa) {J:List (Stp×Int)}{x:Stp×Int}{st:RdS}(o:x∈trs p E B.length) (a:st.1.length≤100000) (f:st.2.length≤100000):
 Ok (RF p (Be p B E tt) fa steps J st x.1 x.2) λV=>∃d l,V=(st.1++ [d],st.2++ [l])∧RdI p B E J x d l:=by
 obtain⟨n,s,m,rfl,hs,ht⟩:=(L4 H.vp H.fin).1 o;have A:=H.aut;have K:m<B.length:=(A.st ht).2.1;have hT:=H.sy.t1;have hV:=H.vars;have a7:nT p=(p.1.length:Int):=rfl;have W:=bD K;have⟨es,L⟩:=H.fin.edge W;have a8:=H.fin.edges_len H.vp W L;have X:=OS H.sy;obtain⟨z,S⟩:=H.zero;unfold RF;dsimp only;have⟨s0,e0,k1,Y,k3⟩:=Dg.new_ok (nT p);refine AJ e0 (AP (XW H K (k:=0) S) λb y=> ?_);have y:b=true↔It p.2.2.1 (KB B) m 0 1:=y;refine AP (Q:=λ(u:Aa)=>OkS u∧u.1=nT p∧ ∀j,mem u j=true↔(j=0∧It p.2.2.1 (KB B) m 0 1)) (Af (λM=> ?_) λM=>AC ⟨k1,Y.trans X,λj=> ?_⟩) λu hu=> ?_
 ·have⟨u,Z,a2,a3,a4⟩:=Dg.add_ok k1 0;refine AJ Z (AC ⟨a2,a3.trans (Y.trans X),λj=> ?_⟩);dsimp only;rw[a4,k3,Bool.false_or,decide_eq_true_eq];exact⟨λh=>⟨h.1,y.1 M⟩,λh=>⟨h.1,by omega,by rw[Y,X];omega⟩⟩
 ·rw[k3];constructor
  ·intro h;cases h
  ·intro h;have:=y.2 h.2;rw[M]at this;cases this
 obtain⟨u1,u2,u3⟩:=hu;refine AJ (Uz H.vp H.fin W L)<|B0 (λj (z:Aa×List Int)=>OkS z.1∧z.1.1=nT p∧(∀i,mem z.1 i=true↔(mem u i=true∨ ∃e∈es.take j,e.1=i∧e.1<nT p))∧z.2.length≤j∧ ∀k,k∈z.2↔∃e∈es.take j,nT p≤e.1∧Nul p.2.2.1 e.1∧(BX ((m:Int),e.1) J).getD 0=k) (by omega)
  ⟨u1,u2,λi=>by simp,by simp,λk=>by simp⟩ (λj z hj S=> ?_) λz S=> ?_
 ·obtain⟨zs,zl⟩:=z;obtain⟨N,C,O,z4,D⟩:=S;dsimp only at N C O z4 D ⊢;have o:=bD hj;obtain⟨e,a0⟩:∃e,es[j] =e:=⟨_,rfl⟩;rw[a0]at o;obtain⟨q,F,a5⟩:=(JX H.fin K L (s:=e.1) (t:=e.2)).1 (bO o);have⟨g0,g1⟩:=H.sym a5;refine AX o (AJ (HJ p _) (Af (λM=> ?_) λM=> ?_))
  ·rw[kX,decide_eq_true_eq,decide_eq_true_eq]at M;have⟨v,Z,a2,a3,a4⟩:=Dg.add_ok N e.1;refine AJ Z (AC ⟨a2,a3.trans C,λi=> ?_,by dsimp only;omega,λk=> ?_⟩)
   ·dsimp only;rw[a4,Bool.or_eq_true,O,decide_eq_true_eq,C];constructor
    ·rintro((h | ⟨g,a,f⟩)|h)
     ·exact .inl h
     ·exact .inr ⟨g,(BY o).2 (.inl a),f⟩
     ·exact .inr ⟨e,(BY o).2 (.inr rfl),h.1.symm,by omega⟩
    ·rintro(h | ⟨g,a,f,r⟩)
     ·exact .inl (.inl h)
     ·rcases(BY o).1 a with a | rfl
      ·exact .inl (.inr ⟨g,a,f,r⟩)
      ·exact .inr ⟨f.symm,g0,r⟩
   ·dsimp only;rw[D];constructor
    ·rintro⟨g,a,f⟩;exact⟨g,(BY o).2 (.inl a),f⟩
    ·rintro⟨g,a,f⟩;rcases(BY o).1 a with a | rfl
     ·exact⟨g,a,f⟩
     ·omega
  ·rw[lO,decide_eq_false_iff_not,decide_eq_false_iff_not]at M;have T:nT p≤e.1:=by omega
   have ee:lY .i64 (e.1 - nT p)=(((e.1 - nT p).toNat:Nat):Int):=by rw[w64 (by omega) (by omega)];omega
   have hn:=H.fa.len;have a6:(e.1 - nT p).toNat<fa.1.length:=by omega
   have U:=bD a6;have w:=H.fa.nul e.1 T;rw[U]at w;rw[ee];refine AX U ?_;have G:∀i,mem zs i=true↔(mem u i=true∨ ∃e∈es.take (j+1),e.1=i∧e.1<nT p):=λi=>by
    rw[O];constructor
    ·rintro(h | ⟨g,a,f⟩)
     ·exact .inl h
     ·exact .inr ⟨g,(BY o).2 (.inl a),f⟩
    ·rintro(h | ⟨g,a,f,r⟩)
     ·exact .inl h
     ·rcases(BY o).1 a with a | rfl
      ·exact .inr ⟨g,a,f,r⟩
      ·omega
   refine Af (λP=>BL (by simp;omega) (AC ⟨N,C,G,by simp;omega,λk=> ?_⟩)) λP=>AC ⟨N,C,G,by dsimp only;omega,λk=> ?_⟩
   ·dsimp only;rw[kQ,D,lT];constructor
    ·rintro(⟨g,a,f⟩|h)
     ·exact⟨g,(BY o).2 (.inl a),f⟩
     ·exact⟨e,(BY o).2 (.inr rfl),T,w.1 (by rw[P]),h.symm⟩
    ·rintro⟨g,a,f,r,I⟩;rcases(BY o).1 a with a | rfl
     ·exact .inl ⟨g,a,f,r,I⟩
     ·exact .inr I.symm
   ·dsimp only;rw[D];constructor
    ·rintro⟨g,a,f⟩;exact⟨g,(BY o).2 (.inl a),f⟩
    ·rintro⟨g,a,f,r,I⟩;rcases(BY o).1 a with a | rfl
     ·exact⟨g,a,f,r,I⟩
     ·have:=w.2 r
      rw[P]at this;cases this
 ·obtain⟨zs,zl⟩:=z;obtain⟨N,C,O,z4,D⟩:=S;dsimp only at N C O z4 D ⊢;rw[kW (kY _)]at O D;refine BL (by simp;omega) (BL (by simp;omega) (AC ⟨zs,zl,rfl,⟨⟨N,C⟩,λm' R j=> ?_,by omega,λm' R k=> ?_⟩⟩))
  ·have:m'=m:=by dsimp only at R;omega
   subst this;rw[O,u3];unfold Dir;constructor
   ·rintro(h | ⟨e,a,rfl,r⟩)
    ·exact .inr h
    ·obtain⟨q,_,F⟩:=(JX H.fin K L (s:=e.1) (t:=e.2)).1 a;exact .inl ⟨r,q,F⟩
   ·rintro(⟨a,q,F⟩|h)
    ·exact .inr ⟨(j,(q:Int)),(JX H.fin K L).2 ⟨q,rfl,F⟩,rfl,a⟩
    ·exact .inl h
  ·have:m'=m:=by dsimp only at R;omega
   subst this;rw[D];constructor
   ·rintro⟨e,a,f,r,I⟩;obtain⟨q,_,F⟩:=(JX H.fin K L (s:=e.1) (t:=e.2)).1 a;exact⟨e.1,q,F,f,r,I⟩
   ·rintro⟨c,q,F,f,r,I⟩;exact⟨(c,(q:Int)),(JX H.fin K L).2 ⟨q,rfl,F⟩,f,r,I⟩
theorem dN {α:Type}{l:List α}{i:Nat}{x y:α}(h:(l++ [x])[i]? =some y):(i<l.length∧l[i]? =some y)∨(i=l.length∧y=x):=by
 rcases lX i l.length with g | g
 ·rw[kL g]at h;exact .inl ⟨g,h⟩
 ·rw[lF g]at h
  have:i - l.length=0:=by
   have:=(hM.1 h).1
   simp at this;omega
  rw[this]at h;simp at h;exact .inr ⟨by omega,h.symm⟩
theorem SY {α:Type}(l:List α) (x:α):(l++ [x])[l.length]? =some x:=by simp
theorem ah (H:EF p B E fa) {c:List (Stp×Int)}:
 Ok (PN p (Be p B E tt) fa steps c) λr=>r.1.length=(trs p E B.length).length∧r.2.length=(trs p E B.length).length∧ ∀(i:Nat) x,(trs p E B.length)[i]? =some x→ ∃d l,r.1[i]? =some d∧r.2[i]? =some l∧RdI p B E c x d l:=by
 have v:=H.lens;unfold PN;refine XV H.vp H.fin (by have:=H.few;omega) (λa (r:RdS)=>r.1.length=a.length∧r.2.length=a.length∧ ∀(i:Nat) x,a[i]? =some x→ ∃d l,r.1[i]? =some d∧r.2[i]? =some l∧RdI p B E c x d l) ⟨rfl,rfl,λi x h=>by simp at h⟩ λa x st b m=> ?_;obtain⟨j,k,n⟩:=m;have e:=b.length_le;rw[lU,lP]at e;refine(ag H (b.mem (by simp)) (by omega) (by omega)).mono ?_;rintro _ ⟨d,l,rfl,o⟩;refine⟨by simp[j],by simp[k],λi y f=> ?_⟩;rcases dN f with⟨g,f⟩|⟨rfl,rfl⟩
 ·obtain⟨q,l',s,t,u⟩:=n i y f;exact⟨q,l',Ef s,Ef t,u⟩
 ·exact⟨d,l,by rw[←j];exact SY _ _,by rw[←k];exact SY _ _,o⟩
theorem OZ {ll:List (List Int)}{n x y:Int}:y∈DA ll x n↔x< (ll.length:Int)∧y∈ll[x.toNat]?.getD [] ∧0≤y∧y<n:=by
 unfold DA LD;split
 ·constructor
  ·intro h;cases h
  ·intro h;omega
 ·rw[lN];constructor
  ·rintro⟨b,a⟩;rw[kH,lR,decide_eq_false_iff_not,decide_eq_false_iff_not]at a;exact⟨by omega,b,by omega,by omega⟩
  ·rintro⟨b,a,c,d⟩;refine⟨a,?_⟩;rw[kH,lR,decide_eq_false_iff_not,decide_eq_false_iff_not];omega
theorem RH (H:EF p B E fa) {a:List (Stp×Int)}(c:Num ((trs p E B.length).map (·.1)) a) {n m:Nat}{s:Int}(d:nT p≤s) (e:TrB p B E n s m):∃i:Nat,(trs p E B.length)[i]? =some (((n:Int),s),(m:Int))∧BX ((n:Int),s) a=some (i:Int):=by obtain⟨i,b⟩:=kZ ((L4 H.vp H.fin).2 ⟨n,s,m,rfl,d,e⟩);exact⟨i,b,c.at_ i _ (by rw[kF,b];rfl)⟩
theorem RI {a:List Aa}{i:Nat}{d:Aa}(h:a[i]? =some d) (j:Int):mem (gv a (i:Int)) j=mem d j:=by rw[XP h]
theorem ff (H:EF p B E fa) {F:List (Stp×Int)}(N:Num ((trs p E B.length).map (·.1)) F) {o:List Aa}{es:List (List Int)}(T:o.length=(trs p E B.length).length) (h2:es.length=(trs p E B.length).length)
 (u:∀(i:Nat) x,(trs p E B.length)[i]? =some x→ ∃d l,o[i]? =some d∧es[i]? =some l∧RdI p B E F x d l):
 Ok (IT es o) λr=>r.length=(trs p E B.length).length∧ ∀(i:Nat) (n:Int) (s:Int) (m:Nat),(trs p E B.length)[i]? =some ((n,s),(m:Int))→ ∃d,r[i]? =some d∧(OkS d∧d.1=nT p)∧ ∀j,mem d j=true↔Rdd (nT p) p.2.2.1 (KB B) (TrB p B E) m j:=by
 have hT:=H.sy.t1;have O:=H.lens;have U:nT p=(p.1.length:Int):=rfl;have A:=H.aut;obtain⟨r,V,W,X⟩:=U3 (ll:=es) (B:=o) (wide:=nT p) (by omega) (by omega) (by omega) (λl O=>by
  obtain⟨i,a⟩:=kZ O;have G:=Bm a;obtain⟨d,l',_,C,b⟩:=u i _ (bD (by omega));rw[a]at C;cases C
  have:=b.few
  omega) (λk s P=>by
  have G:=Bm P;obtain⟨d,l',g,_,b⟩:=u k _ (bD (by omega));rw[P]at g;cases g;exact b.ok)
 refine⟨r,V,W.trans T,λi n s m a=> ?_⟩;have G:=Bm a;have Q:=bD (l:=r) (i:=i) (by omega);have⟨Y,Z,k3⟩:=X i _ Q;refine⟨_,Q,⟨Y,Z⟩,λj=> ?_⟩;rw[k3];constructor
 ·rintro⟨z,hz,D⟩;have w:∀(v z:Int),Dg.Reach es (o.length:Int) v z→mem (gv o z) j=true→ ∀(i:Nat) (n s:Int) (m:Nat),v=(i:Int)→(trs p E B.length)[i]? =some ((n,s),(m:Int))→Rdd (nT p) p.2.2.1 (KB B) (TrB p B E) m j:=by
   intro v z I
   induction I with
   |refl v=>
    intro D i n s m I a;have⟨d,l,g,_,b⟩:=u i _ a;subst I;rw[RI g]at D;rcases(b.mem m rfl j).1 D with⟨e,q,f⟩|⟨rfl,f⟩
    ·exact .term f e
    ·exact .fin f
   | @step x y z hy _ J=>
    intro D i n s m I a;subst I;have⟨d,l,g,C,b⟩:=u i _ a;have⟨f1,R,f3,f4⟩:=OZ.1 hy;rw[kG,C]at R;obtain⟨c,q,e,f,K,S⟩:=(b.next m rfl y).1 R;obtain⟨L,b1,M⟩:=RH H N f e;rw[M]at S;exact .next e f K (J D L _ _ q S.symm b1)
  exact w _ _ hz D i n s m rfl a
 ·intro h;have w:∀ {m:Nat} {j:Int},Rdd (nT p) p.2.2.1 (KB B) (TrB p B E) m j→ ∀(i:Nat) (n s:Int),(trs p E B.length)[i]? =some ((n,s),(m:Int))→M9 es (o.length:Int) o (i:Int) j:=by
   intro m j h
   induction h with
   |term e f=>
    intro i n s a;have⟨d,l,g,_,b⟩:=u i _ a;exact⟨_,.refl _,by rw[RI g];exact(b.mem _ rfl _).2 (.inl ⟨f,_,e⟩)⟩
   |fin e=>
    intro i n s a;have⟨d,l,g,_,b⟩:=u i _ a;exact⟨_,.refl _,by rw[RI g];exact(b.mem _ rfl _).2 (.inr ⟨rfl,e⟩)⟩
   | @next m q c t e f K _ J=>
    intro i n s a;have⟨d,l,g,C,b⟩:=u i _ a;obtain⟨L,b1,M⟩:=RH H N f e;refine M9.back (.step (OZ.2 ⟨by have:=Bm a;omega,?_,by omega,by have:=Bm b1;omega⟩) (.refl _)) (J L _ _ b1);rw[kG,C];exact(b.next m rfl _).2 ⟨c,q,e,f,K,by rw[M];rfl⟩
  exact w h i n s a
end
section
variable {p:dtP}{B:List dtK}{E:List (List Edge)}{fa:dtF}{tt:Int}{steps:List Stp}{o1 o2:Option Nat}
theorem dO (H:EF p B E fa) {s:Int}(h:s<nT p):¬Nul p.2.2.1 s:=λg=>by have:=g.var H.gr;omega
theorem Yc {s o:Aa}(H:OkS s) (K:OkS o):Ok (TP s o) λr=>OkS r.2:=by unfold TP;exact Bn ⟨H,K⟩ (AC (OH H K).1)
theorem RJ {s:Aa}(H:OkS s):Ok (SM s) λ_=>True:=by unfold SM;rw[LG H];exact AC trivial
theorem fg (H:EF p B E fa) {seq:List Int}(I:∀s∈seq,0≤s∧s<nT p+(p.2.1.length:Int)) (T:seq.length≤1000):Ok (ED fa p seq) λr=>r.2=true↔∀s∈seq,Nul p.2.2.1 s:=by
 have U:=H.sy.t1;have V:=H.vars;have J:nT p=(p.1.length:Int):=rfl;have m:=H.fa;have W:=OS H.sy;unfold ED;have⟨X,K,L,Y,_⟩:=Dg.new_ok (nT p);refine AJ K<|Il (λk (z:Aa)=>OkS z∧ ∀s∈seq.take k,Nul p.2.2.1 s) (λb=>b.2=false∧ ¬ ∀s∈seq,Nul p.2.2.1 s) (by omega) ⟨L,by simp⟩ (λk z C t=> ?_) (λz t=> ?_) λb g=>AC ⟨λh=>(by rw[g.1]at h;cases h),λh=>absurd h g.2⟩
 ·obtain⟨n,q⟩:=t;have j:=bD C;have d:=lJ C;have⟨Z,b1⟩:=I _ d;refine AP (Q:=λ(e:AY Aa (List Int×Bool))=>(∃s',e= .next s'∧OkS s'∧ ∀s∈seq.take (k+1),Nul p.2.2.1 s)∨ ∃b,e= .done b∧b.2=false∧ ¬ ∀s∈seq,Nul p.2.2.1 s) ?_ λe M=> ?_
  ·refine AX j (AJ (HJ p seq[k]) (Af (λw=> ?_) λw=> ?_))
   ·rw[kX,decide_eq_true_eq,decide_eq_true_eq]at w;have⟨v,N,O,_⟩:=Dg.add_ok n seq[k];refine AJ N (AP (RJ O) λl _=>AC (.inr ⟨_,rfl,rfl,λh=>dO H (by omega) (h _ d)⟩))
   ·rw[lO,decide_eq_false_iff_not,decide_eq_false_iff_not]at w;have P:lY .i64 (seq[k] - (p.1.length:Int))=(((seq[k] - nT p).toNat:Nat):Int):=by rw[w64 (by omega) (by omega)];omega
    rw[P];have hn:=m.len;have R:=m.flen;refine AP (Q:=λc=>c=false) (AS (decide_eq_false (by omega)) (AC (decide_eq_false (by omega)))) λc a=> ?_;subst a;refine AS rfl ?_;have D:=bD (l:=fa.2.1) (i:=(seq[k] - nT p).toNat) (by omega);have F:=m.few _ (bO D);obtain⟨o,S,o1,_⟩:=Dg.of_ok (nT p) fa.2.1[(seq[k] - nT p).toNat] (by omega);have g:=bD (l:=fa.1) (i:=(seq[k] - nT p).toNat) (by omega);have f:=m.nul seq[k] (by omega);rw[g]at f;refine AX D (AJ S (AP (Yc n o1) λu G=>AX g (Af (λa=>AP (RJ G) λl _=>AC (.inr ⟨_,rfl,rfl,λh=> ?_⟩)) λa=>AC (.inl ⟨_,rfl,G,λs x=> ?_⟩))))
    ·have:=f.2 (h _ d)
     rw[kH]at a;rw[a]at this;cases this
    ·rcases(BY j).1 x with h | rfl
     ·exact q s h
     ·refine f.1 ?_;rw[Bool.not_eq_false']at a;rw[a]
  ·rcases M with⟨s',rfl,y,A⟩|⟨b,rfl,y,A⟩
   ·exact Ck ⟨y,A⟩
   ·exact B9 ⟨y,A⟩
 ·obtain⟨n,q⟩:=t;rw[kW (kY _)]at q;exact AP (RJ n) λl _=>AC ⟨λ_=>q,λ_=>rfl⟩
def Hit (p:dtP) (B:List dtK) (E:List (List Edge)) (a:List (Stp×Int)) (n k i:Nat) (kk:Nat):Prop:=
 ∃(q m':Nat) (r:BM) (c:Int),((trs p E B.length).map (·.1))[n]? =some ((q:Int),r.1)∧p.2.2.1[k]? =some r∧r.2.1[i]? =some c∧(∀s∈r.2.1.drop (i+1),Nul p.2.2.1 s)∧nT p≤c∧Pth (TrB p B E) q (r.2.1.take i) m'∧BX ((m':Int),c) a=some (kk:Int)
def Bef (n k i a b c:Nat):Prop:=a<n∨(a=n∧(b<k∨(b=k∧c<i)))
structure RK (p:dtP) (B:List dtK) (E:List (List Edge)) (num:List (Stp×Int)) (n k i:Nat) (X:List (List Int)):Prop where
 len:X.length=(trs p E B.length).length
 few:∀l∈X,l.length≤(n *100+k) *100+i
 mem:∀(kk:Nat) l,X[kk]? =some l→ ∀z,z∈l↔∃n' k' i',z=((n':Nat):Int)∧Bef n k i n' k' i'∧Hit p B E num n' k' i' kk
theorem RK.same {a:List (Stp×Int)}{n k i f g j:Nat}{X:List (List Int)}(h:RK p B E a n k i X) (s:(n *100+k) *100+i≤(f *100+g) *100+j) (r:∀b c d kk,Hit p B E a b c d kk→(Bef n k i b c d↔Bef f g j b c d)):RK p B E a f g j X:=
 ⟨h.len,λl m=>Nat.le_trans (h.few l m) s,λkk l m z=>by
  rw[h.mem kk l m z];constructor
  ·rintro⟨b,c,d,o,q,e⟩;exact⟨b,c,d,o,(r _ _ _ _ e).1 q,e⟩
  ·rintro⟨b,c,d,o,q,e⟩;exact⟨b,c,d,o,(r _ _ _ _ e).2 q,e⟩⟩
theorem L5 (H:EF p B E fa) {n:Nat}(a:n< (trs p E B.length).length):∃(q m:Nat) (s:Int),(trs p E B.length)[n]? =some (((q:Int),s),(m:Int))∧((trs p E B.length).map (·.1))[n]? =some ((q:Int),s)∧nT p≤s∧TrB p B E q s m:=by obtain⟨q,s,m,b,c,d⟩:=(L4 H.vp H.fin).1 (lJ a);exact⟨q,m,s,by rw[bD a,b],by rw[kF,bD a,b];rfl,c,d⟩
theorem gi (H:EF p B E fa) {n m:Nat}{s:Int}(h:TrB p B E n s m):Ay (Be p B E tt) (n:Int) s=some (m:Int):=by obtain⟨b,e,a,c,d⟩:=h;have⟨x,f,g⟩:=XN (t:=tt) H.vp H.fin a c s;rw[f,JU.unique H.fin g d]
theorem Iy {n k i a b c:Nat}:Bef n k (i+1) a b c↔Bef n k i a b c∨(a=n∧b=k∧c=i):=by unfold Bef;omega
theorem dP (H:EF p B E fa) {a:List (Stp×Int)}(hN:Num ((trs p E B.length).map (·.1)) a) {n k:Nat}{q:Nat}{r:BM}{m:Nat}(P:((trs p E B.length).map (·.1))[n]? =some ((q:Int),r.1)) (j:p.2.2.1[k]? =some r) (Z:TrB p B E q r.1 m)
 {i:Nat} {c:Int} (o:r.2.1[i]? =some c) {R:Nat} (I:Pth (TrB p B E) q (r.2.1.take i) R) {X:List (List Int)} (C:RK p B E a n k i X) (hn:n≤7200):
 Ok (aQ p (Be p B E tt) fa a (n:Int) r.2.1 (i:Int) ((R:Int),X)) λz=>∃G:Nat,z.1=(G:Int)∧Pth (TrB p B E) q (r.2.1.take (i+1)) G∧RK p B E a n k (i+1) z.2:=by
 have A:=H.aut;have hi:=Bm o;have d:=bO j;have hk:=Bm j;have a0:=H.vp.few;have a1:=H.vp.short r d;have⟨a2,S⟩:=A.starts H.gr j Z;have hq:SB B q:=(A.st Z).1;have J:=A.part H.gr hq j S (l:=r.2.1.take i) (l':=r.2.1.drop i) (lQ _ _).symm I;rw[mC,Nat.min_eq_left (by omega)]at J;have⟨G,T,g2⟩:=A.step H.gr (A.at0 hq I) J j o;unfold aQ;have e1:((i:Int)+1).toNat=i+1:=by omega
 rw[e1];refine AX o (Bn ⟨by omega,by omega⟩ (AP (fg H (seq:=r.2.1.drop (i+1)) (λs P=>H.sy.right r d s (List.mem_of_mem_drop P)) (by simp;omega)) λsq K=> ?_));refine AP (Q:=λb=>b=true↔(∀s∈r.2.1.drop (i+1),Nul p.2.2.1 s)∧nT p≤c) (Af (λh=>AJ (HJ p c) (AC ?_)) λh=>AC ?_) λb hb=> ?_
 ·have h0:=(H.sy.right r d c (bO o)).1;rw[decide_eq_true h0,Bool.true_and,kH,decide_eq_false_iff_not];exact⟨λg=>⟨K.1 h,mG.1 g⟩,λg=>mG.2 g.2⟩
 ·constructor
  ·intro g;cases g
  ·intro g;rw[K.2 g.1]at h;cases h
 have next:Pth (TrB p B E) q (r.2.1.take (i+1)) G:=by
  rw[lG,o];exact Pth.app.2 ⟨R,I,G,T,rfl⟩
 refine AP (Q:=λX'=>RK p B E a n k (i+1) X') (Af (λh=> ?_) λh=>AC ?_) λX' U=> ?_
 ·have⟨ha,L⟩:=hb.1 h;have⟨kk,b1,V⟩:=RH H hN L T;rw[V];have D:kk<X.length:=by rw[C.len];exact Bm b1
  have t:=bD D;have a3:=C.few _ (lJ D);refine AX (i:=kk) t (BL (by simp;omega) ?_);show Ok (Ea X ((kk:Nat):Int) (X[kk] ++ [(n:Int)])) _;rw[IA (by omega) (by omega),kG];refine AC ⟨by simp[C.len],λl F=> ?_,λk3 l F z=> ?_⟩
  ·rcases List.mem_or_eq_of_mem_set F with h | rfl
   ·have:=C.few l h;omega
   ·rw[lU,lP];omega
  ·have M:Hit p B E a n k i kk:=⟨q,R,r,c,P,j,o,ha,L,I,V⟩;rw[List.getElem?_set]at F;split at F
   ·rename_i e
    subst e;try rw[if_pos D]at F
    cases F;rw[kQ,C.mem kk _ t,lT];constructor
    ·rintro(⟨u,v,w,x,f,y⟩|rfl)
     ·exact⟨u,v,w,x,Iy.2 (.inl f),y⟩
     ·exact⟨n,k,i,rfl,Iy.2 (.inr ⟨rfl,rfl,rfl⟩),M⟩
    ·rintro⟨u,v,w,x,f,y⟩;rcases Iy.1 f with f | ⟨rfl,rfl,rfl⟩
     ·exact .inl ⟨u,v,w,x,f,y⟩
     ·exact .inr x
   ·rename_i e
    rw[C.mem k3 l F];constructor
    ·rintro⟨u,v,w,x,f,y⟩;exact⟨u,v,w,x,Iy.2 (.inl f),y⟩
    ·rintro⟨u,v,w,x,f,y⟩;rcases Iy.1 f with f | ⟨rfl,rfl,rfl⟩
     ·exact⟨u,v,w,x,f,y⟩
     ·exfalso;obtain⟨q2,m3,r2,c2,W,N,O,_,_,j6,j7⟩:=y;rw[j]at N;cases N;rw[o]at O;cases O;rw[P]at W;have Y:q=q2:=by have:=(Prod.mk.inj (Option.some.inj W)).1;omega
      subst Y
      have:=Pth.fn A I j6
      subst this;rw[V]at j7
      have:=Option.some.inj j7
      omega
 ·refine C.same (by omega) λu v w kk hh=> ?_;rw[Iy];constructor
  ·exact λg=>.inl g
  ·rintro(g | ⟨rfl,rfl,rfl⟩)
   ·exact g
   ·exfalso;obtain⟨q2,m3,r2,c2,W,N,O,j4,j5,_,_⟩:=hh;rw[j]at N;cases N;rw[o]at O;cases O
    have:=hb.2 ⟨j4,j5⟩
    rw[h]at this;cases this
 ·refine AJ (gi H T) (AC ⟨G,rfl,next,U⟩)
theorem VD (H:EF p B E fa) {a:List (Stp×Int)}(N:Num ((trs p E B.length).map (·.1)) a):
 Ok (HT p (Be p B E tt) fa ((trs p E B.length).map (·.1)) a) λX=>RK p B E a (trs p E B.length).length 0 0 X:=by
 have b:=H.lens;have A:=H.aut;have O:=H.vp.few;unfold HT;rw[hC];refine AJ (x:=List.replicate (trs p E B.length).length []) (by unfold GW;rw[if_pos ⟨by omega,by omega⟩,kG])<|CF (n:=(trs p E B.length).length) (λn X=>RK p B E a n 0 0 X) (by omega) ⟨by simp,λl b=>by rw[(List.mem_replicate.1 b).2];simp,λkk l b z=> ?_⟩ λn X P v=> ?_
 ·rw[List.getElem?_replicate]at b;split at b
  ·cases b;constructor
   ·intro h;cases h
   ·rintro⟨j,o,C,_,t,_⟩;unfold Bef at t;omega
  ·cases b
 have⟨q,m,s,Z,t,h3,Q⟩:=L5 H P;refine AX t ?_;obtain⟨X',R,S⟩:=CF (f:=λk X=>(idx p.2.2.1 k).bind λr=>cond (r.1 !=s) (some X) ((forS (σ:=Int×List (List Int)) 0 (r.2.1.length:Int) ((q:Int),X) (aQ p (Be p B E tt) fa a (n:Int) r.2.1)).bind λz=>some z.2)) (n:=p.2.2.1.length) (λk X=>RK p B E a n k 0 X) (by omega) (s:=X) v λk X T v=>by
  have d:=bD T;obtain⟨r,D⟩:∃r,p.2.2.1[k] =r:=⟨_,rfl⟩;rw[D]at d;have U:=H.vp.short r (bO d);refine AX d (Af (λw=>AC ?_) λw=> ?_)
  ·refine v.same (by omega) λj o C kk u=> ?_;constructor
   ·unfold Bef;omega
   ·intro g;by_cases e:j=n∧o=k
    ·obtain⟨rfl,rfl⟩:=e;exfalso;obtain⟨J,K,L,c2,M,c,_⟩:=u;rw[d]at c;cases c;rw[t]at M
     have:=(Prod.mk.inj (Option.some.inj M)).2
     rw[this]at w;simp at w
    ·unfold Bef at g ⊢;omega
  ·have F:r.1=s:=by simpa using w
   subst F;refine B0 (λi (z:Int×List (List Int))=>∃y:Nat,z.1=(y:Int)∧Pth (TrB p B E) q (r.2.1.take i) y∧RK p B E a n k i z.2) (by omega) ⟨q,rfl,by rw[List.take_zero];rfl,v⟩ (λi z V G=> ?_) λz G=> ?_
   ·obtain⟨z1,z2⟩:=z;obtain⟨y,rfl,W,I⟩:=G;exact dP H N t d Q (bD V) W I (by omega)
   ·obtain⟨y,_,_,I⟩:=G;refine AC (I.same (by omega) λj o C kk u=> ?_);constructor
    ·unfold Bef;omega
    ·intro g;by_cases e:j=n∧o=k
     ·obtain⟨rfl,rfl⟩:=e;obtain⟨J,K,L,c2,_,c,Y,_⟩:=u;rw[d]at c;cases c
      have:=Bm Y
      unfold Bef;omega
     ·unfold Bef at g ⊢;omega
 refine⟨X',R,S.same (by omega) λj o C kk u=> ?_⟩;obtain⟨J,K,L,c2,_,c,_⟩:=u
 have:=Bm c
 unfold Bef;omega
theorem fh (H:EF p B E fa) {K:List (Stp×Int)}(Y:Num ((trs p E B.length).map (·.1)) K) {u:List (List Int)}(L:RK p B E K (trs p E B.length).length 0 0 u) {D:List Aa}(h1:D.length=(trs p E B.length).length)
 (Z:∀(i:Nat) (n:Int) (s:Int) (m:Nat),(trs p E B.length)[i]? =some ((n,s),(m:Int))→ ∃d,D[i]? =some d∧(OkS d∧d.1=nT p)∧ ∀j,mem d j=true↔Rdd (nT p) p.2.2.1 (KB B) (TrB p B E) m j):
 Ok (IT u D) λr=>r.length=(trs p E B.length).length∧ ∀(i:Nat) (n:Nat) (s:Int) (m:Nat),(trs p E B.length)[i]? =some (((n:Int),s),(m:Int))→ ∃d,r[i]? =some d∧(OkS d∧d.1=nT p)∧ ∀j,mem d j=true↔Fol (nT p) p.2.2.1 (KB B) (TrB p B E) n s j:=by
 have hT:=H.sy.t1;have hl:=H.lens;have a9:nT p=(p.1.length:Int):=rfl;have A:=H.aut;obtain⟨r,T,e2,e3⟩:=U3 (ll:=u) (B:=D) (wide:=nT p) (by omega) (by omega) (by omega) (λl hl=>by have:=L.few l hl;omega) (λk s hk=>by
  obtain⟨q,m,s',C,_⟩:=L5 H (n:=k) (by have:=Bm hk;omega);have⟨d,U,F,_⟩:=Z k _ _ _ C;rw[hk]at U;cases U;exact F)
 refine⟨r,T,e2.trans h1,λi n s m f=> ?_⟩;have b0:=Bm f;have hr:=bD (l:=r) (i:=i) (by omega);have⟨k1,k2,k3⟩:=e3 i _ hr;refine⟨_,hr,⟨k1,k2⟩,λj=> ?_⟩;rw[k3];have tr:∀ {i n m:Nat} {s:Int},(trs p E B.length)[i]? =some (((n:Int),s),(m:Int))→nT p≤s∧TrB p B E n s m:=λ{i n m s} h=>by
  obtain⟨V,s',m',C,U,F⟩:=(L4 H.vp H.fin).1 (bO h);have M:=(Prod.mk.inj (Prod.mk.inj C).1).1;have w:=(Prod.mk.inj (Prod.mk.inj C).1).2;have N:=(Prod.mk.inj C).2
  have:n=V:=by omega
  subst this
  have:m=m':=by omega
  subst this;subst w;exact⟨U,F⟩
 constructor
 ·rintro⟨z,hz,J⟩;have G:∀(v z:Int),Dg.Reach u (D.length:Int) v z→mem (gv D z) j=true→ ∀(i n:Nat) (s:Int) (m:Nat),v=(i:Int)→(trs p E B.length)[i]? =some (((n:Int),s),(m:Int))→Fol (nT p) p.2.2.1 (KB B) (TrB p B E) n s j:=by
   intro v z O
   induction O with
   |refl v=>
    intro J i n s m O f;subst O;have⟨d,C,_,F⟩:=Z i _ _ _ f;rw[RI C]at J;exact .read (tr f).2 ((F j).1 J)
   | @step x y z hy _ ih=>
    intro J i n s m O f;subst O;have⟨w1,w2,w3,w4⟩:=OZ.1 hy;have I:i<u.length:=by omega
    have o:=bD I;rw[kG,o]at w2;obtain⟨V,k',P,rfl,_,q,m',r,c,j1,W,j3,j4,j5,j6,j7⟩:=(L.mem i _ o y).1 w2;have a0:V< (trs p E B.length).length:=by have:=Bm j1;rwa [hC]at this
    have⟨q2,m2,s2,M,w,N,X⟩:=L5 H a0;rw[j1]at w;have b1:=(Prod.mk.inj (Option.some.inj w)).1;have b2:=(Prod.mk.inj (Option.some.inj w)).2
    have:q=q2:=by omega
    subst this;subst b2;have⟨b3,Q⟩:=A.starts H.gr W X;have hq:SB B q:=(A.st X).1;have R:=A.part H.gr hq W Q (l:=r.2.1.take P) (l':=r.2.1.drop P) (lQ _ _).symm j6;rw[mC,Nat.min_eq_left (by have:=Bm j3;omega)]at R;have⟨mm,c1,c2⟩:=A.step H.gr (A.at0 hq j6) R W j3;have⟨kk,S,d2⟩:=RH H Y j5 c1;rw[j7]at d2
    have:kk=i:=by have:=Option.some.inj d2;omega
    subst this;rw[f]at S;have S:=Option.some.inj S;have T:=(Prod.mk.inj (Prod.mk.inj S).1).1;have e2:=(Prod.mk.inj (Prod.mk.inj S).1).2;have T:n=m':=by omega
    subst T;subst e2;exact .incl (tr f).2 W (Is j3) j4 Q j6 (ih J V q r.1 m2 rfl M)
  exact G _ _ hz J i n s m rfl f
 ·intro h;have G:∀ {n:Nat} {s j:Int},Fol (nT p) p.2.2.1 (KB B) (TrB p B E) n s j→ ∀(i m:Nat),(trs p E B.length)[i]? =some (((n:Int),s),(m:Int))→M9 u (D.length:Int) D (i:Int) j:=by
   intro n s j h
   induction h with
   |read M w=>
    intro i m f
    have:=A.fn M (tr f).2
    subst this;have⟨d,C,_,F⟩:=Z i _ _ _ f;exact⟨_,.refl _,by rw[RI C];exact(F _).2 w⟩
   | @incl n m0 q k a t r b g M w N X a5 a6 a7 ih=>
    intro i m f;obtain⟨m2,a8⟩:=a7.tr;have hL:nT p≤r.1:=(H.sy.left r (bO w)).1;obtain⟨P,b1,b2⟩:=RH H Y hL a8;refine M9.back (.step (OZ.2 ⟨by have:=Bm f;have:=L.len;omega,?_,by omega,by have:=Bm b1;omega⟩) (.refl _)) (ih P m2 b1);have I:i<u.length:=by have:=Bm f;have:=L.len;omega
    have o:=bD I;rw[kG,o];refine(L.mem i _ o _).2 ⟨P,k,b.length,rfl,.inl (Bm b1),q,n,r,a,by rw[kF,b1];rfl,w,by rw[N];simp,λs hs=>X s ?_,(tr f).1,by rw[N];simpa using a6,?_⟩
    ·rw[N]at hs;have e:(b++a::g).drop (b.length+1)=g:=by simp
     rwa [e]at hs
    ·exact Y.at_ i _ (by rw[kF,f];rfl)
  exact G h i m f
end
section
variable {p:dtP}{B:List dtK}{E:List (List Edge)}{fa:dtF}{tt:Int}{steps:List Stp}{o1 o2:Option Nat}
theorem ai (H:Fin p B E) {l:List Int}{n m:Nat}(a:n<B.length) (h:Pth (TrB p B E) n l m):Walk p.2.2.1 B E (n:Int) l (m:Int):=(aA H a).2 h
theorem dQ (H:EF p B E fa) {n m:Nat}{l:List Int}(a:n<B.length) (b:l.length≤1000000) (h:Pth (TrB p B E) n l m):C1 (Be p B E tt) (n:Int) l=some (m:Int):=by have⟨x,c,d,_⟩:=ck (t:=tt) H.vp H.fin a b;rw[c,Walk.unique H.fin d (ai H.fin a h)]
def Rr (p:dtP) (B:List dtK) (E:List (List Edge)) (n k:Nat) (a:At) (q:Nat) (r:BM):Prop:=
 ((trs p E B.length).map (·.1))[n]? =some ((q:Int),r.1)∧p.2.2.1[k]? =some r∧ ∃w:Nat,Pth (TrB p B E) q r.2.1 w∧a=((w:Int),(k:Int))
structure GiI (p:dtP) (B:List dtK) (E:List (List Edge)) (n k:Nat) (L:LkL):Prop where
 some_:∀key d,BX key L=some d→(OkS d∧d.1=nT p)∧(∃n' k' q r,Bef n k 0 n' k' 0∧Rr p B E n' k' key q r)∧ ∀j,mem d j=true↔∃n' k' q r,Bef n k 0 n' k' 0∧Rr p B E n' k' key q r∧Fol (nT p) p.2.2.1 (KB B) (TrB p B E) q r.1 j
 none_:∀key,BX key L=none→ ∀n' k' q r,Bef n k 0 n' k' 0→ ¬Rr p B E n' k' key q r
theorem Fq {n k a b:Nat}:Bef n (k+1) 0 a b 0↔Bef n k 0 a b 0∨(a=n∧b=k):=by unfold Bef;omega
theorem GiI.same {n k o s:Nat}{L:LkL}(h:GiI p B E n k L) (i:∀e f g q r,Rr p B E e f g q r→(Bef n k 0 e f 0↔Bef o s 0 e f 0)):GiI p B E o s L:=by
 refine⟨λg d l=> ?_,λg l e f q r m t=>h.none_ g l e f q r ((i _ _ _ _ _ t).2 m) t⟩;obtain⟨v,⟨e,f,q,r,w,u⟩,x⟩:=h.some_ g d l;refine⟨v,⟨e,f,q,r,(i _ _ _ _ _ u).1 w,u⟩,λj=> ?_⟩;rw[x];constructor
 ·rintro⟨e,f,q,r,a,b,c⟩;exact⟨e,f,q,r,(i _ _ _ _ _ b).1 a,b,c⟩
 ·rintro⟨e,f,q,r,a,b,c⟩;exact⟨e,f,q,r,(i _ _ _ _ _ b).2 a,b,c⟩
theorem aj (H:EF p B E fa) {Z:List Aa}(hf:∀(i:Nat) (n:Nat) (s:Int) (m:Nat),(trs p E B.length)[i]? =some (((n:Int),s),(m:Int))→ ∃d,Z[i]? =some d∧(OkS d∧d.1=nT p)∧ ∀j,mem d j=true↔Fol (nT p) p.2.2.1 (KB B) (TrB p B E) n s j)
 {n k q m:Nat} {s:Int} (hn:(trs p E B.length)[n]? =some (((q:Int),s),(m:Int))) (ht:TrB p B E q s m) (hk:k<p.2.2.1.length) {L:LkL} (I:GiI p B E n k L):
 Ok (VB p (Be p B E tt) Z (n:Int) ((q:Int),s) (k:Int) L) (GiI p B E n (k+1)):=by
 have A:=H.aut;have hT:=H.sy.t1;have a0:nT p=(p.1.length:Int):=rfl;have cl:=OS H.sy;have D:=bD hk;obtain⟨r,N⟩:∃r,p.2.2.1[k] =r:=⟨_,rfl⟩;rw[N]at D;have G:((trs p E B.length).map (·.1))[n]? =some ((q:Int),s):=by rw[kF,hn];rfl
 unfold VB;refine AX D (Af (λJ=>AC ?_) λJ=> ?_)
 ·refine I.same λv x e t u z=> ?_;rw[Fq];constructor
  ·exact λg=>.inl g
  ·rintro(g | ⟨rfl,rfl⟩)
   ·exact g
   ·exfalso;obtain⟨K,M,_⟩:=z;rw[D]at M;cases M;rw[G]at K
    have:=(Prod.mk.inj (Option.some.inj K)).2
    dsimp only at J;rw[this]at J;simp at J
 ·have O:r.1=s:=by simpa using J
  subst O;have⟨a5,P⟩:=A.starts H.gr D ht;have hq:SB B q:=(A.st ht).1;have⟨w,R,_⟩:=A.along H.gr D hq P (l:=r.2.1) rfl;have a6:=H.sy.short r (bO D);refine AJ (dQ H hq (by omega) R) ?_;obtain⟨o,ho,⟨o1,o2⟩,o3⟩:=hf n q r.1 m hn;have F:Rr p B E n k ((w:Int),(k:Int)) q r:=⟨G,D,w,R,rfl⟩;have y:∀e t u,Rr p B E n k e t u→e=((w:Int),(k:Int))∧t=q∧u=r:=λe t u z=>by
   obtain⟨K,M,w',j3,j4⟩:=z;rw[D]at M;cases M;rw[G]at K;have S:q=t:=by have:=(Prod.mk.inj (Option.some.inj K)).1;omega
   subst S
   have:=Pth.fn A R j3
   subst this;exact⟨j4,rfl,rfl⟩
  refine AP (Q:=λT=>∃d,BX ((w:Int),(k:Int)) T=some d∧(OkS d∧d.1=nT p)∧(∀j,mem d j=true↔∃v x t u,Bef n k 0 v x 0∧Rr p B E v x ((w:Int),(k:Int)) t u∧Fol (nT p) p.2.2.1 (KB B) (TrB p B E) t u.1 j)∧ ∀e,e≠((w:Int),(k:Int))→BX e T=BX e L) ?_ λT U=> ?_
  ·cases z:BX ((w:Int),(k:Int)) L with
   |none=>
    have⟨s0,e0,k1,k2,k3⟩:=Dg.new_ok (nT p);refine Ap rfl (AJ e0 (AC ⟨s0,by rw[DD,if_pos rfl],⟨k1,k2.trans cl⟩,λj=> ?_,λe V=>by rw[DD,if_neg V]⟩));rw[k3];constructor
    ·intro h;cases h
    ·rintro⟨v,x,t,u,a,b,_⟩;exact absurd b (I.none_ _ z v x t u a)
   |some d=>
    have⟨W,a2,X⟩:=I.some_ _ d z;exact AS rfl (AC ⟨d,z,W,X,λ_ _=>rfl⟩)
  ·obtain⟨d,b1,⟨b2,b3⟩,b4,b5⟩:=U;refine AX ho (AJ b1 (Bn ⟨b2,o1⟩ (AC ?_)));have⟨u1,u2,u3⟩:=OH b2 o1;refine⟨λe dd f=> ?_,λe f v x t u Y z=> ?_⟩
   ·rw[DD]at f;by_cases C:e=((w:Int),(k:Int))
    ·subst C;rw[if_pos rfl]at f;cases f;refine⟨⟨u1,u2.trans b3⟩,⟨n,k,q,r,Fq.2 (.inr ⟨rfl,rfl⟩),F⟩,λj=> ?_⟩;rw[u3,Bool.or_eq_true,kX,b4,o3,b3];constructor
     ·rintro(⟨v,x,t,u,a,b,c⟩|⟨h,_⟩)
      ·exact⟨v,x,t,u,Fq.2 (.inl a),b,c⟩
      ·exact⟨n,k,q,r,Fq.2 (.inr ⟨rfl,rfl⟩),F,h⟩
     ·rintro⟨v,x,t,u,a,b,c⟩;rcases Fq.1 a with a | ⟨rfl,rfl⟩
      ·exact .inl ⟨v,x,t,u,a,b,c⟩
      ·have⟨_,e2,e3⟩:=y _ _ _ b;subst e2 e3;refine .inr ⟨c,decide_eq_true ?_⟩
       have:=O8 o1 ((o3 j).2 c)
       omega
    ·rw[if_neg C,b5 e C]at f;obtain⟨W,⟨v,x,t,u,a2,X⟩,a4⟩:=I.some_ e dd f;refine⟨W,⟨v,x,t,u,Fq.2 (.inl a2),X⟩,λj=> ?_⟩;rw[a4];constructor
     ·rintro⟨v,x,t,u,a,b,c⟩;exact⟨v,x,t,u,Fq.2 (.inl a),b,c⟩
     ·rintro⟨v,x,t,u,a,b,c⟩;rcases Fq.1 a with a | ⟨rfl,rfl⟩
      ·exact⟨v,x,t,u,a,b,c⟩
      ·exact absurd (y _ _ _ b).1 C
   ·rw[DD]at f;by_cases C:e=((w:Int),(k:Int))
    ·rw[if_pos C]at f;cases f
    ·rw[if_neg C,b5 e C]at f;rcases Fq.1 Y with Y | ⟨rfl,rfl⟩
     ·exact I.none_ e f v x t u Y z
     ·exact C (y _ _ _ z).1
structure fi (p:dtP) (B:List dtK) (E:List (List Edge)) (L:LkL):Prop where
 some_:∀key d,BX key L=some d→OkS d∧d.1=nT p∧ ∃s k:Nat,key=((s:Int),(k:Int))∧s<B.length∧k<p.2.2.1.length∧ ∀j,mem d j=true↔Lk (nT p) p.2.2.1 (KB B) (TrB p B E) s k j
 none_:∀(s k:Nat) j,BX ((s:Int),(k:Int)) L=none→k<p.2.2.1.length→ ¬Lk (nT p) p.2.2.1 (KB B) (TrB p B E) s k j
theorem dR (H:EF p B E fa) {Z:List Aa}(hf:∀(i:Nat) (n:Nat) (s:Int) (m:Nat),(trs p E B.length)[i]? =some (((n:Int),s),(m:Int))→ ∃d,Z[i]? =some d∧(OkS d∧d.1=nT p)∧ ∀j,mem d j=true↔Fol (nT p) p.2.2.1 (KB B) (TrB p B E) n s j):
 Ok (SU p (Be p B E tt) fa ((trs p E B.length).map (·.1)) Z) (fi p B E):=by
 have hl:=H.lens;have A:=H.aut;have a0:=H.sy.few;have a5:=H.few;have hT:=H.sy.t1;have a6:nT p=(p.1.length:Int):=rfl;have cl:=OS H.sy;obtain⟨z0,Q⟩:=H.zero;unfold SU;rw[hC];refine B0 (λn L=>GiI p B E n 0 L) (by omega) ⟨(λa d h=>by cases h),λa _ l c q r N=>(by unfold Bef at N;omega)⟩ (λn L t v=> ?_) λL v=> ?_
 ·have⟨q,m,s,h1,h2,h3,h4⟩:=L5 H t;refine AX h2 ?_;obtain⟨y,e1,e2⟩:=CF (f:=λk L=>VB p (Be p B E tt) Z (n:Int) ((q:Int),s) k L) (n:=p.2.2.1.length) (λk L=>GiI p B E n k L) (by omega) (s:=L) v λk L u v=>aj H hf h1 h4 u v;refine⟨y,e1,e2.same λl c a q r G=> ?_⟩
  have:=Bm G.2.1
  unfold Bef;omega
 ·refine AJ (TX H.fin) ?_;have I:∀(w k:Nat) j,0<k→((∃l c q r,Bef (trs p E B.length).length 0 0 l c 0∧Rr p B E l c ((w:Int),(k:Int)) q r∧Fol (nT p) p.2.2.1 (KB B) (TrB p B E) q r.1 j)↔Lk (nT p) p.2.2.1 (KB B) (TrB p B E) w k j):=λw k j u=>by
   constructor
   ·rintro⟨l,c,q,r,_,⟨z,K,w',R,J⟩,h⟩;have e1:w=w':=by have:=(Prod.mk.inj J).1;omega
    have e2:k=c:=by have:=(Prod.mk.inj J).2;omega
    subst e1 e2;obtain⟨m,hm⟩:=h.tr;exact .inr ⟨u,q,m,r,K,hm,R,h⟩
   ·rintro(⟨e,_⟩|⟨_,q,m,r,z,K,R,J⟩)
    ·omega
    ·have v:nT p≤r.1:=(H.sy.left r (bO z)).1;obtain⟨i,S⟩:=kZ ((L4 H.vp H.fin).2 ⟨q,r.1,m,rfl,v,K⟩);exact⟨i,k,q,r,.inl (Bm S),⟨by rw[kF,S];rfl,z,w,R,rfl⟩,J⟩
  have pos:∀ {l c:Nat} {a:At} {q:Nat} {r:BM},Rr p B E l c a q r→0<c:=λ{l c a q r} G=>by
   obtain⟨z,K,_⟩:=G;have M:l< (trs p E B.length).length:=by have:=Bm z;rwa [hC]at this
   have⟨q2,m2,s2,O,C,X,a4⟩:=L5 H M;rw[z]at C;have b1:=(Prod.mk.inj (Option.some.inj C)).1;have P:=(Prod.mk.inj (Option.some.inj C)).2
   have:q=q2:=by omega
   subst this;subst P;exact(A.starts H.gr K a4).1
  refine CF (n:=B.length) (λi (y:LkL)=>(∀(w k:Nat),0<k→BX ((w:Int),(k:Int)) y=BX ((w:Int),(k:Int)) L)∧(∀a d,BX a y=some d→OkS d∧d.1=nT p∧ ∃s k:Nat,a=((s:Int),(k:Int))∧s<B.length∧k<p.2.2.1.length)∧
   (∀w:Nat,(∀d,BX ((w:Int),(0:Int)) y=some d→(w<i∧It p.2.2.1 (KB B) w 0 1)∧ ∀j,mem d j=true↔j=0)∧(BX ((w:Int),(0:Int)) y=none→w<i→ ¬It p.2.2.1 (KB B) w 0 1))) (by omega) (s:=L) ⟨λ_ _ _=>rfl,λa d u=> ?_,λw=>⟨λd hd=> ?_,λ_ h=>by omega⟩⟩ (λi y S D=> ?_) |>.elim λy D=>⟨y,D.1,?_⟩
  ·obtain⟨⟨O,C⟩,⟨l,c,q,r,_,G⟩,_⟩:=v.some_ a d u;obtain⟨z,K,w,R,J⟩:=G;have M:l< (trs p E B.length).length:=by have:=Bm z;rwa [hC]at this
   have⟨q2,m2,s2,b1,P,b3,b4⟩:=L5 H M;rw[z]at P;have c1:=(Prod.mk.inj (Option.some.inj P)).1
   have:q=q2:=by omega
   subst this;exact⟨O,C,w,c,J,A.at0 (A.st b4).1 R,Bm K⟩
  ·obtain⟨_,⟨l,c,q,r,_,G⟩,_⟩:=v.some_ _ d hd;have h0:=pos G;obtain⟨_,_,w',_,J⟩:=G
   have:=(Prod.mk.inj J).2
   omega
  ·obtain⟨T,Y,F⟩:=D;refine AP (XW (tt:=tt) (steps:=(trs p E B.length).map (·.1)) (o1:=none) (o2:=none) H S (k:=0) Q) λb N=> ?_;have N:b=true↔It p.2.2.1 (KB B) i 0 1:=N;refine Af (λhc=> ?_) λhc=>AC ⟨T,Y,λw=>⟨λd hd=>⟨⟨by have:=((F w).1 d hd).1.1;omega,((F w).1 d hd).1.2⟩,((F w).1 d hd).2⟩,λt hw U=> ?_⟩⟩
   ·obtain⟨o,e,O,C,X⟩:=Dg.of_ok (nT p) [0] (by simp);refine AJ e (AC ⟨λw k u=> ?_,λa d hd=> ?_,λw=>⟨λd hd=> ?_,λt hw=> ?_⟩⟩)
    ·rw[DD,if_neg (λe=>by have:=(Prod.mk.inj e).2;omega)];exact T w k u
    ·rw[DD]at hd;split at hd
     ·rename_i V
      cases hd;exact⟨O,C.trans cl,i,0,V,S,Bm Q⟩
     ·exact Y a d hd
    ·rw[DD]at hd;split at hd
     ·rename_i V
      cases hd
      have:w=i:=by have:=(Prod.mk.inj V).1;omega
      subst this;refine⟨⟨by omega,N.1 hc⟩,λj=> ?_⟩;rw[X,cl,kX,decide_eq_true_eq];constructor
      ·rintro⟨_,h⟩;simpa using h
      ·rintro rfl;exact⟨by omega,by simp⟩
     ·obtain⟨⟨g1,g2⟩,g3⟩:=(F w).1 d hd;exact⟨⟨by omega,g2⟩,g3⟩
    ·rw[DD]at t;split at t
     ·cases t
     ·rename_i V
      have:w≠i:=λe=>V (by rw[e])
      exact(F w).2 t (by omega)
   ·by_cases e:w=i
    ·subst e
     have:=N.2 U
     rw[hc]at this;cases this
    ·exact(F w).2 t (by omega) U
  ·obtain⟨_,T,Y,F⟩:=D;refine⟨λa d hd=> ?_,λs k j t u=> ?_⟩
   ·obtain⟨O,C,s,k,rfl,X,a4⟩:=Y a d hd;refine⟨O,C,s,k,rfl,X,a4,λj=> ?_⟩;rcases lV k with rfl | u
    ·obtain⟨⟨_,g2⟩,g3⟩:=(F s).1 d hd;rw[g3];constructor
     ·rintro rfl;exact .inl ⟨rfl,rfl,g2⟩
     ·exact XO
    ·rw[T s k u]at hd;rw[((v.some_ _ d hd).2.2 j),I s k j u]
   ·rcases lV k with rfl | W
    ·rintro(⟨_,_,h⟩|⟨h,_⟩)
     ·have hs:s<B.length:=by
       rcases lX s B.length with g | g
       ·exact g
       ·exfalso
        have:KB B s= []:=by unfold KB;rw[List.getElem?_eq_none g]
        unfold It at h;rw[this]at h;have a:∀x,Cl p.2.2.1 [] x→False:=λx hx=>by
         induction hx with
         |base h=>cases h
         |step _ _ _ ih=>exact ih
        exact a _ h
      exact(F s).2 t hs h
     ·omega
    ·rw[T s k W]at t;intro h;obtain⟨l,c,q,r,b1,P,_⟩:=(I s k j W).2 h
     exact v.none_ _ t l c q r b1 P
theorem dS {p:dtP}{B:List dtK}{E:List (List Edge)}{tt:Int}(H:∀fa,aK p fa→EF p B E fa) (S:Sy p):Ok (XU p (Be p B E tt)) λr=>∃d,r=some d∧d.p=p∧d.A=Be p B E tt∧aK p d.fa∧fi p B E d.L:=by unfold XU;refine AP (aL S) λfa a=> ?_;have H:=H fa a;have s:=H.lens;have i:=H.few;refine AP (af (tt:=tt) H.vp H.fin (by omega) (by omega)) λst f=> ?_;obtain⟨j,k⟩:=st;obtain⟨rfl,e⟩:=f;dsimp only at e ⊢;refine AP (ah (tt:=tt) H) λt g=> ?_;obtain⟨l,m,n⟩:=g;refine AP (VD (tt:=tt) H e) λo b=>AP (ff H e l m n) λu c=>AP (fh H e b c.1 c.2) λv h=>AP (dR (tt:=tt) H h.2) λL q=>AC ⟨_,rfl,rfl,rfl,a,q⟩
end
end Go.Proofs.YtnlkgidlfnefbaaGreatDoor
namespace Go.Proofs.YtnlkgidlfnefbaaGreatDoor
open Go Go.Eng
section
variable {φ:AD}{h:AH}{F:List Chk}
theorem XX {φ:AD}{S S':List Slc}{E:List (List Edge)}{B a:List dtK}{c i:Nat}(d:S.length=B.length) (f:E.length=B.length) (H:EC φ S E c) (g:Ir S E i) (h:(a=B∧S'=S)∨ ∃x,a=B++ [x] ∧S'=S++ [Gi]):
 S'.length=a.length∧(Gj E B.length a.length).length=a.length∧EC φ S' (Gj E B.length a.length) c∧Ir S' (Gj E B.length a.length) i∧(∀(j:Nat) s,S[j]? =some s→S'[j]? =some s)∧(∀(j:Nat) e,E[j]? =some e→(Gj E B.length a.length)[j]? =some e)∧ ∀(j:Nat) b,B[j]? =some b→a[j]? =some b:=by
 rcases h with⟨rfl,rfl⟩|⟨x,rfl,rfl⟩
 ·unfold Gj;rw[if_pos rfl];exact⟨d,f,H,g,λ_ _ h=>h,λ_ _ h=>h,λ_ _ h=>h⟩
 ·unfold Gj;rw[if_neg (by simp)];have ap:∀ {α:Type} {l:List α} {x y:α} {j:Nat},l[j]? =some y→(l++ [x])[j]? =some y:=λ{α l x y j} h=>by
   rw[kL (hM.1 h).1];exact h
  exact⟨by simp[d],by simp[f],H.snoc (by omega),g.snoc,λ_ _ h=>ap h,λ_ _ h=>ap h,λ_ _ h=>ap h⟩
theorem ak {S:List Slc}{E:List (List Edge)}{i:Nat}(H:Ir S E i) (c:i<S.length) (d:i<E.length):S[i]? =some Gi∧E[i]? =some []:=by have a:=bD c;have b:=bD d;exact⟨by rw[a,(H i (kY _)).1 _ a],by rw[b,(H i (kY _)).2 _ b]⟩
theorem Ir.mono {S:List Slc}{E:List (List Edge)}{i a:Nat}(H:Ir S E i) (h:i≤a):Ir S E a:=λj b=>H j (Nat.le_trans h b)
theorem fj {φ:AD}{S:List Slc}{E:List (List Edge)}{i:Nat}{s:Slc}{e:List Edge}(H:EC φ S E i) (c:Ir S E (i+1)):EC φ (S.set i s) (E.set i e) i∧Ir (S.set i s) (E.set i e) (i+1):=by
 refine⟨λj s' b a d f=> ?_,λj a=>⟨λs' h=> ?_,λb h=> ?_⟩⟩
 ·rw[lA (by omega)]at d f;exact H j s' b a d f
 ·rw[lA (by omega)]at h;exact(c j a).1 s' h
 ·rw[lA (by omega)]at h;exact(c j a).2 b h
theorem fk {φ:AD}{S:List Slc}{E:List (List Edge)}{i:Nat}{s:Slc}{e:List Edge}(H:EC φ S E i) (d:S[i]? =some s) (f:E[i]? =some e) (k:eE HX φ s e):EC φ S E (i+1):=by
 intro j s' g h b c;by_cases a:j=i
 ·subst a;rw[d]at b;rw[f]at c;cases b;cases c;exact k
 ·exact H j s' g a b c
theorem St.to9' {e a0 a b c d f g i j:Chk}(H:St φ (e::d::a0::a::b::c::f::g::i::j::F) h):St φ (a0::a::b::c::d::f::g::i::j::e::F) h:=
 H.at9.at9.at9.at9.at5.at9.at9.at9.at9
def eI (φ:AD) (b c d e m a f g:Nat) (p:As) (G:List Chk) (i:Nat) (y:BSt) (w:AH):Prop:= ∃(ψ:AD) (ls:Slc) (S:List Slc),Sub φ ψ∧S.length=y.2.1.length∧y.2.2.1.length=y.2.1.length∧EC ψ S y.2.2.1 i∧Ir S y.2.2.1 i∧St ψ (bC b c d e m a f g y.1 p ls 0 (FL y.2.1 S) y.2.2.2.1 y.2.2.2.2 G) w
def gm (φ:AD) (c d f g m a h j:Nat) (p:As) (G:List Chk) (i:Nat) (b:dtK) (y:BSt) (w:AH):Prop:= ∃(ψ:AD) (ls:Slc) (S:List Slc) (s:Slc) (e:List Edge),Sub φ ψ∧S.length=y.2.1.length∧y.2.2.1.length=y.2.1.length∧EC ψ S y.2.2.1 i∧Ir S y.2.2.1 (i+1)∧S[i]? =some s∧y.2.2.1[i]? =some e∧y.2.1[i]? =some b∧St ψ (bC c d f g m a h j y.1 p ls 0 (FL y.2.1 S) y.2.2.2.1 y.2.2.2.2 (cR 128 HX s e::G)) w
theorem Yd {d:Slc×Slc×Slc×Slc×Slc×Slc×Unit}{d0:List ByteArray}{d1:List ByteArray}{d2:List BM}{d3:List Int}{d4:List Int}{d5:List ByteArray}{st it:Int}
 (gk:Glob φ) (k0:eE mE φ d.1 d0) (k1:eE mE φ d.2.1 d1) (k2:eE CB φ d.2.2.1 d2) (k3:eE (kI .i64) φ d.2.2.2.1 d3) (k4:eE (kI .i64) φ d.2.2.2.2.1 d4) (k5:eE mE φ d.2.2.2.2.2.1 d5) (s0:St φ F h) {r:Option D5×Int} (hd:Q3 (d0,d1,d2,d3,d4,d5) st it=some r):
 CallsH lB 31 [(.agg #[.slice d.1.1 d.1.2.1 d.1.2.2,.slice d.2.1.1 d.2.1.2.1 d.2.1.2.2,.slice d.2.2.1.1 d.2.2.1.2.1 d.2.2.1.2.2,.slice d.2.2.2.1.1 d.2.2.2.1.2.1 d.2.2.2.1.2.2,.slice d.2.2.2.2.1.1 d.2.2.2.2.1.2.1 d.2.2.2.2.1.2.2,.slice d.2.2.2.2.2.1.1 d.2.2.2.2.2.1.2.1 d.2.2.2.2.2.1.2.2]),.int .i64 st,.int .i64 it] h (Ae λv h'=>∃ψ:AD,∃y:Option mN×Int×Unit,∃l1:Option D5,Sub φ ψ∧v=((.tuple [.atom .pointer,.atom (.int .i64)]):Sh).val y∧(l1,y.2.1)=r∧Np F4 ψ y.1 l1∧St ψ F h'):=by
 refine BF mixed func31 ?_;rw[O1];unfold Kp;unfold Q3 at hd;have⟨rm,f4,M⟩:=bS hd;clear hd;have⟨cl,f5,b8⟩:=bS M;clear M;have⟨ra,f6,hd⟩:=bS b8;clear b8;refine AU (vs:=[sv d.1,sv d.2.1,sv d.2.2.1,sv d.2.2.2.1,sv d.2.2.2.2.1,sv d.2.2.2.2.2.1]) s0 λb1 h1 s1=>AA (x:=d.1) s1 rfl<|AA (x:=d.2.1) s1 rfl<|AA (x:=d.2.2.1) s1 rfl<|AA (x:=d.2.2.2.1) s1 rfl<|AA (x:=d.2.2.2.2.1) s1 rfl<|AA (x:=d.2.2.2.2.2.1) s1 rfl<|AU (vs:=[sv d.1,sv d.2.1,sv d.2.2.1,sv d.2.2.2.1,sv d.2.2.2.2.1,sv d.2.2.2.2.2.1,.slice none 0 0,.int .i64 (0:Int)]) s1 λa h2 s2=>AU (vs:=[.pointer none]) s2 λc4 h3 s3=>AG s3 rfl rfl λh4 s4=>AE (CC s4 f4) ?_;rintro _ h5 ⟨ψ1,f7,_,f8,rfl,rfl,s5⟩;refine⟨f7,rfl,?_⟩;refine AE (CC s5 f5) ?_;rintro _ h6 ⟨ψ2,f9,_,g0,rfl,rfl,V⟩;refine⟨f9,rfl,?_⟩;obtain⟨r2,m8,rfl,q2,V⟩:=mL V;have V:=(mH V q2).at1;obtain⟨r1,m9,rfl,q1,V⟩:=mL V;have V:=(mH V q1).at1;refine AU (vs:=[.pointer none]) V λc5 h7 s7=>AU (vs:=[.pointer none]) s7 λc6 h8 s8=>AG s8.at1 rfl rfl λh9 s9=>AG s9.at1 rfl rfl λn0 g8=>Du kyS (kI .i64) g8 λm n1 g9=>AU (vs:=[.map none]) g9 λc3 n2 h0=>AG h0 rfl rfl λn3 i0=>AU (vs:=[.int .i64 (0:Int),.int .i64 (0:Int)]) i0 λi1 n4 i2=> ?_;have i3:=St.lit (r:=Bx) (l:=[((0:Int),(0:Int))]) (n:=1) i2 (.cons (a:=[_,_]) ⟨[_],_,rfl,rfl,rfl⟩ .nil) rfl (by decide);have⟨ψ3,i4,kk,i5⟩:=kV (t:=(some ⟨i1,0,none⟩,1,1)) i3;have o:=(f8.trans g0).trans i4;have i6:=mH (r:=Ca) (x:=qA (d0,d1,d2,d3,d4,d5) Gi 0) i5.at7 ⟨[_],_,rfl,⟨_,rfl,k0.mono o⟩,[_],_,rfl,⟨_,rfl,k1.mono o⟩,[_],_,rfl,⟨_,rfl,k2.mono o⟩,[_],_,rfl,⟨_,rfl,k3.mono o⟩,[_],_,rfl,⟨_,rfl,k4.mono o⟩,[_],_,rfl,⟨_,rfl,k5.mono o⟩,[_],_,rfl,rfl,rfl⟩;have i7:=(i6.nil 120 roB).at6.at5.at7.at7.at4.at5.at8.at8.at8;refine AE (XD (B:=[]) (S:=[]) (ls:=Gi) (gk.mono o) kk rfl i7 f6) ?_;rintro _ n5 ⟨ψ4,b9,i8,S0,i9,rfl,e1,e2,j0,c0⟩;refine⟨b9,rfl,?_⟩;have a0:=o.trans i9;refine kD hd (by rw[e2]) (λhd=>?_) (λhd=>?_)
 ·obtain rfl:=iS hd;exact AB ⟨ψ4,(none,b9.2.1,()),none,a0,rfl,by rw[e2],rfl,(St.tail9 c0).tail⟩
 have⟨g,hg,hd⟩:=bS hd;refine Av (λ(z:Int×Int×Option mN×Unit) w (g:AY BSt Int)=>∃y i,g=AY.next y∧y.2.1.length≤i∧eI φ c3 c4 c5 c6 m a r1 r2 (d0,d1,d2,d3,d4,d5) (cW 32 b1 [sv d.1,sv d.2.1,sv d.2.2.1,sv d.2.2.2.1,sv d.2.2.2.2.1,sv d.2.2.2.2.2.1]::F) i y w) (g:=g) ?_ ?_
 ·unfold QH at hg;refine FF hg (λ(z:Int×Int×Option mN×Unit) w (x:Int×BSt)=>z.1=x.1∧0≤x.1∧eI φ c3 c4 c5 c6 m a r1 r2 (d0,d1,d2,d3,d4,d5) (cW 32 b1 [sv d.1,sv d.2.1,sv d.2.2.1,sv d.2.2.2.1,sv d.2.2.2.2.1,sv d.2.2.2.2.2.1]::F) x.1.toNat x.2 w) ((0:Int),(0:Int),none,()) rfl ⟨rfl,Int.le_refl _,?_⟩ ?_
  ·obtain⟨g1,g2,g3,g4,_⟩:=XX (E:=[]) (c:=0) (i:=0) (φ:=ψ4) (S:=[]) (B:=[]) rfl rfl (λj s e _ h _=>by simp at h) (λj _=>⟨λs h=>by simp at h,λe h=>by simp at h⟩) j0;exact⟨ψ4,i8,S0,a0,g1,g2,g3,g4,c0⟩
  rintro⟨i,z2,z3,_⟩ w ⟨_,fd,B,E,j1,j2⟩ eo ⟨rfl,b0,ψ,ls,S,le,hS,hE,I,J,s⟩ p hbo;dsimp only at b0 hS hE I J s p ⊢;have nL:=St.rowLen s.at4;have nM:=St.rowMax s.at4;rw[EV hS]at nL nM;refine AA (x:=some ⟨a,0,none⟩) s.at2 rfl<|AF _ rfl<|M7 ls (WG s)<|AK p (by rw[nL]) (λc1 p=> ?_) (λW p=> ?_)
  ·have c1:=of_decide_eq_true c1;have⟨b,hb,M⟩:=bS p;clear p;obtain⟨es,N,p⟩:=bS M;clear M;refine AA (x:=some ⟨a,0,none⟩) s.at2 rfl<|AF _ rfl<|M7 ls (WG s) ?_;obtain⟨f1,f2⟩:=ak J (by omega) (by omega);have⟨n6,m4,c2,c7,j3,c8⟩:=St.get s.at4 (Q4 hb f1);refine AF _ c2 (Am c7 ?_);obtain⟨_,_,rfl,⟨t0,rfl,q0⟩,_,_,rfl,⟨t1,rfl,q1⟩,_,_,rfl,rfl,_,_,rfl,rfl,rfl⟩:=j3;refine AL (x:=t1) (by rw[Ac];exact c8 1 _ rfl) rfl<|AA (x:=some ⟨a,0,none⟩) s.at2 rfl ?_;unfold TQ at N;have⟨m5,j4,a1⟩:=bS N;clear N;have N:=a1;clear a1;refine AE (Ip q1 s.at3 (by rw[Us];exact j4)) ?_;rintro _ w2 ⟨ψ5,j5,_,C,rfl,rfl,c9,K⟩;refine⟨j5,rfl,?_⟩;have d6:=c9.length;have K:=(St.back3 K);have b2:=St.to9 (K.nil 128 HX);refine Av (λ(z:Int×Int×Option mN×Unit) w (g:AY BSt Int)=>∃y,g=AY.next y∧gm ψ5 c3 c4 c5 c6 m a r1 r2 (d0,d1,d2,d3,d4,d5) (cW 32 b1 [sv d.1,sv d.2.1,sv d.2.2.1,sv d.2.2.2.1,sv d.2.2.2.2.1,sv d.2.2.2.2.2.1]::F) i.toNat b y w) (g:=es) ?_ ?_
   ·refine Kh N (λj (z:Int×Int×Option mN×Unit) w (y:BSt)=>z.1=j∧gm ψ5 c3 c4 c5 c6 m a r1 r2 (d0,d1,d2,d3,d4,d5) (cW 32 b1 [sv d.1,sv d.2.1,sv d.2.2.1,sv d.2.2.2.1,sv d.2.2.2.2.1,sv d.2.2.2.2.2.1]::F) i.toNat b y w) ((0:Int),z2,z3,()) rfl ⟨rfl,ψ5,ls,S,Gi,[],lC _,hS,hE,I.mono C,J.mono (by omega),f1,f2,(CU hb).2.2,b2⟩ ?_ ?_
    ·rintro _ ⟨j,u2,u3,_⟩ w3 ⟨j6,B3,E3,j7,j8⟩ e3 ⟨rfl,ψ6,d7,S3,s_,e_,f,L,O,D,G,b3,P,X,q⟩ k j9 d8 hw hbi;dsimp only at L O D G P X q k j9 d8 hw ⊢;refine Ai (by rw[d6];exact decide_eq_true d8) ?_;have⟨sym,d9,Q⟩:=bS k;clear k;unfold XE at Q;have⟨kn,k6,a2⟩:=bS Q;clear Q;have⟨r3,Y,k⟩:=bS a2;clear a2;dsimp only at k Y;obtain⟨n7,m6,e0,e4,k7,e5⟩:=(c9.mono f).get d9;refine AF _ e0 (Am e4 ?_);obtain rfl:=k7;refine AL (x:=sym) (AM q.sub (e5 0 _ rfl)) rfl<|AA (x:=some ⟨a,0,none⟩) q.at2 rfl<|AE (LI (q1.mono (C.trans f)) q.at3 (by rw[Zu];exact k6)) ?_;rintro _ w4 ⟨ψ7,k8,_,u,rfl,rfl,k9,R⟩;refine⟨k8,rfl,?_⟩;refine AE (XD (gk.mono (((le.trans C).trans f).trans u)) k9 L (St.back3 R) Y) ?_;rintro _ w5 ⟨ψ8,Z,b4,S4,b5,rfl,l0,e6,hG,A⟩;refine⟨Z,rfl,?_⟩;refine kD k (by rw[e6]) (λk=>?_) (λk=>?_)
     ·obtain rfl:=iS k;obtain rfl:=hbi _ rfl;obtain rfl:=iS p;obtain rfl:=hbo _ rfl;obtain rfl:=iS hd;exact Ak (Al (Ak (Al (AB ⟨ψ8,(none,Z.2.1,()),none,((((le.trans C).trans f).trans u).trans b5),rfl,by rw[e6],rfl,(St.tail9 A).tail.tail⟩))))
     have⟨el,l2,a3⟩:=bS k;clear k;obtain⟨e7,a4,a5⟩:=bS a3;clear a3;obtain⟨E',l3,k⟩:=bS a5;clear a5;obtain rfl:=iS k;have⟨g1,g2,g3,g4,g5,g6,g7⟩:=XX L O ((D.mono u).mono b5) G hG;have e8:=g5 _ _ b3;have l4:=g6 _ _ P;have b6:=g7 _ _ X;have⟨_,n8,a6⟩:=CU l2;rw[l4]at a6;obtain rfl:=Option.some.inj a6;rw[←l0]at a4;have a7:idx r3.2.2.2.1 i=some b:=by unfold idx;rw[if_pos b0];exact b6
     refine AA (x:=some ⟨a,0,none⟩) A.at2 rfl<|AF _ rfl<|M7 b4 (WG A)<|AA (x:=some ⟨a,0,none⟩) A.at2 rfl<|AF _ rfl<|M7 b4 (WG A) ?_;have⟨n9,m7,T,a8,l5,a9⟩:=St.get A.at4 (Q4 a7 e8);refine AF _ T (Am a8 ?_);obtain⟨_,_,rfl,⟨v0,rfl,p0⟩,_,_,rfl,⟨v1,rfl,p1⟩,_,_,rfl,rfl,_,_,rfl,rfl,rfl⟩:=l5;refine AL (x:=s_) (by rw[Ac];exact a9 2 _ rfl) rfl<|Kl (vs:=[.int .i64 sym,.int .i64 Z.1]) A λo2 w6 keep H=>AI (keep _ _ (by rw[Ac];exact a9 2 _ rfl))<|AI (WG H.tail)<|AI (mK H.tail.at2 rfl)<|AI (WG H.tail)<|AI (mK H.tail.at2 rfl)<|AZ (r:=HX) (ms:=[(sym,Z.1)]) gW H.tail.at9 rfl (St.cells H) (.cons (a:=[_,_]) ⟨[_],_,rfl,rfl,rfl⟩ .nil) rfl a4 λU w7 b7=>AI (WG b7.tail)<|AI (mK b7.tail.at2 rfl)<|AF _ T (Am a8 ?_);have e9:Ea (FL r3.2.2.2.1 S4) i (Mx b U)=some (FL r3.2.2.2.1 (S4.set i.toNat U)):=by
      unfold Ea;rw[if_pos ⟨b0,by rw[EV g1];omega⟩,Zv _ b6]
     refine Qb (j:=2) b7.at5 (Q4 a7 e8) e9 (λcs hq=> ?_) rfl rfl T (Ac _ _ _) λw8 l6=> ?_
     ·obtain⟨_,_,rfl,⟨x0,rfl,o0⟩,_,_,rfl,⟨x1,rfl,o1⟩,_,_,rfl,rfl,_,_,rfl,rfl,rfl⟩:=hq;exact⟨[_],_,rfl,⟨x0,rfl,o0⟩,[_],_,rfl,⟨x1,rfl,o1⟩,[_],_,rfl,rfl,[_],_,rfl,rfl,rfl⟩
     obtain⟨_,_,rfl⟩:=Eb l3;have⟨w1,w2⟩:=fj (s:=U) (e:=e7) g3 g4;have l7:=St.to9' l6.at1;exact jZ rfl rfl ⟨hw,ψ8,b4,S4.set i.toNat U,U,e7,(f.trans u).trans b5,by rw[List.length_set];exact g1,by rw[List.length_set];exact g2,w1,w2,by rw[lK (by omega)],by rw[lK (by omega)],b6,l7⟩
    ·rintro _ ⟨j,u2,u3,_⟩ w3 y3 ⟨rfl,hI⟩ W Y;refine AW (by rw[d6];exact decide_eq_false (mG.2 W))<|AO (kB rfl ⟨y3,Y,hI⟩)
   rintro⟨z1,u2,u3,_⟩ w3 ⟨⟨j6,B3,E3,j7,j8⟩,rfl,ψ6,d7,S3,s_,e_,f,L,O,D,G,b3,P,X,q⟩;dsimp only at L O D G P X q;obtain rfl:=iS p;have⟨ψ7,u,kE,R⟩:=kV q.at9;have hw:lY .i64 (i+1)=i+1:=w64 (by omega) (by unfold maxLen at nM;omega);have f0:(i+1).toNat=i.toNat+1:=by omega
   refine jZ rfl rfl ⟨rfl,by rw[hw];omega,ψ7,d7,S3,((le.trans C).trans f).trans u,L,O,?_,?_,R⟩
   ·rw[hw,f0];exact fk (D.mono u) b3 P kE
   ·rw[hw,f0];exact G
  ·have W:=of_decide_eq_false W;obtain rfl:=iS p;obtain rfl:=hbo _ rfl;exact AO (kB rfl ⟨_,i.toNat,rfl,by dsimp only;omega,ψ,ls,S,le,hS,hE,I,J,s⟩)
 rintro⟨z1,z2,z3,_⟩ w ⟨⟨fd,B,E,j1,j2⟩,i,rfl,hi,ψ,ls,S,le,hS,hE,I,J,s⟩;dsimp only at hd hi hS hE I J s;have⟨tot,ht,hd⟩:=bS hd;obtain rfl:=iS hd;refine AA (x:=some ⟨a,0,none⟩) s.at2 rfl<|AA (x:=some ⟨r2,0,none⟩) s.at7 rfl<|AE (Ga s.at8 ht) ?_;rintro _ w1 ⟨ψ5,f3,C,rfl,rfl,K⟩;refine⟨f3,rfl,?_⟩;refine AI (mK K.at3 rfl)<|AF _ rfl ?_;obtain⟨b,vs,e,⟨_,_,rfl,⟨u0,rfl,l8⟩,_,_,rfl,⟨u1,rfl,l9⟩,_,_,rfl,⟨u2,rfl,m0⟩,_,_,rfl,⟨u3,rfl,m1⟩,_,_,rfl,⟨u4,rfl,m2⟩,_,_,rfl,⟨u5,rfl,m3⟩,_,_,rfl,rfl,rfl⟩,b2⟩:=mL K.at4;obtain rfl:a=b:=by simpa using e
 refine AG b2 rfl rfl λw2 q=>AA (x:=some ⟨a,0,none⟩) q.at4 rfl ?_;have⟨ψ6,f,kR,R⟩:=kV q.at5;have kS:=YQ hS hE (λj s e h1 h2=>(I j s e (by have:=(hM.1 h1).1;omega) h1 h2).mono (C.trans f)) kR;have A:=mH (r:=F4) (x:=(d0,d1,d2,d3,d4,d5,FL B E,f3)) R ⟨[_],_,rfl,⟨u0,rfl,l8.mono f⟩,[_],_,rfl,⟨u1,rfl,l9.mono f⟩,[_],_,rfl,⟨u2,rfl,m0.mono f⟩,[_],_,rfl,⟨u3,rfl,m1.mono f⟩,[_],_,rfl,⟨u4,rfl,m2.mono f⟩,[_],_,rfl,⟨u5,rfl,m3.mono f⟩,[_],_,rfl,⟨ls,rfl,kS⟩,rfl⟩;have⟨ψ7,u,kP,H⟩:=St.freezeR (NB _) A;exact AB ⟨ψ7,(some ⟨a,0,none⟩,(0:Int),()),some _,(((le.trans C).trans f).trans u),rfl,rfl,kP,H.tail.tail.tail.tail.tail.tail.tail.tail⟩
end
end Go.Proofs.YtnlkgidlfnefbaaGreatDoor
