/-
  LookH, LookO, F3, F4, F5, F6, Build, DenR, DenW, SimR, M1, M2, SimUa, Aw, M3, ResMin, SimV, Aw14, SimVd, R2, C1, C2, C3, put together.
  Conditions: none; each part tells its own.
-/
import Derived.Test.YteolcjbobmpdiaaGreatDoorKh4
import Derived.Test.YteolcjbobmpdiaaGreatDoorKh3
import Derived.Test.YteolcjbobmpdiaaGreatDoorKh1
import Derived.Test.YteolcjbobmpdiaaGreatDoorProg
import Derived.KernelRfl
import Derived.Test.YteolcjbobmpdiaaGreatDoorKh2
open List renaming getElem?_eq_getElem → bR,mem_of_getElem? → cC,length → cE,append_assoc → cH,take_of_length_le → cN,length_map → cV,getElem_mem → cZ,getElem?_append_left → dE,map_append → dG,take_add_one → dH,getElem?_of_mem → dI,getElem?_map → dJ,length_append → dL,getElem?_append_right → dO,perm_middle → dQ,mem_append → dR,range → dS,filter_append → dU,length_filter_le → dX,getElem?_set_ne → dZ,length_take → eD,getElem?_replicate → eF,getElem?_set_self → eJ,nil_append → eK,append_nil → eL,length_singleton → eN,take_append_drop → eO,replicate → eR,mem_singleton → eW,pairwise_map → eZ,getElem?_set → fB,filter_cons → fH
open Go.Eng.Sub renaming refl → bT,trans → cT
open Go.Proofs.Tryz renaming prog → bU,underlying136 → eV,underlying157 → eX,underlying163 → eY,underlying84 → fD,underlying97 → fE
open Go.Eng.T renaming out → bV,call → bY,ret → cI,join → cQ,block → cS,loop → dK,brk → dM,sem → eG,store → fJ
open Go.Eng.Ro renaming int → bW,list → cA,str → cF,bool → dB,pt → eC
open Go.Eng.St renaming unpair → bX,freezeRow → cD,unro → cG,cell → cJ,cells → dP,lit → eP,openR → eS,shutR → fC,shut → fF,unpack → fN,pack → fO
open Go.IntKind renaming wrap → bZ
open Go.Builtin renaming append_ → cK
open Int renaming toNat_natCast → cL,toNat → eH,toNat_of_nonneg → eU
open Option renaming bind_some → cP,isNone → dD
open Nat renaming le_refl → cU,eq_zero_or_pos → eB,le_trans → eI,zero_le → eT,lt_or_ge → fA
open Go.Eng.AY renaming next → cY,done → dC
open Bool renaming not_eq_true' → dN,and_eq_true → dY,and_eq_false_iff → eM,or_eq_false_iff → eQ
open List.Perm renaming cons → dV,append_right → dW,swap → fL
open Go.Eng.Ro.SliceIs renaming nil → eA
open Go.Eng.Np renaming none → fG
open Go.Instr renaming makeSlice → fI
open Go.Proofs.YteolcjbobmpdiaaGreatDoor.St renaming blk → fK
open Go.Eng.Rep renaming ro → fM
open Go.Eng.Ok renaming eq → fP
namespace Go.Proofs.YteolcjbobmpdiaaGreatDoor
open Go Go.Eng Dg
set_option linter.unusedVariables false
set_option maxRecDepth 100000
section
variable {φ ψ:AE}{h:AH}{F:List Chk}{a:Addr}{t:Slc×Slc×Slc×Slc×Slc×Slc×Unit}{p:dtP}{ap:Option Addr}{A:dtA}{fz:Slc×Slc×Slc×Int×Unit}{sl:Slc}{nm lm b:Nat}{fa:dtF}{steps:List Stp}
theorem QO (lm:Nat) (ps:List (Option Addr)) (L:LkL) (Δ M:List Chk):giC lm ps L Δ++M=giC lm ps L (Δ++M):=by
 unfold giC;rw [List.cons_append,cH]
set_option maxHeartbeats 4000000 in
theorem WG (gk:Dg.Glob φ) (K:LkK φ a t ap fz sl nm lm p A fa steps) {fs:Slc}{qs:List (Option Addr)}{fo:List AX}(kf:Ro.SliceIs eC φ fs qs) (hq:qs.length=fo.length) {r:LkL}(hd:PV p A fa steps fo=some r) (s0:St φ (giC lm [] [] (AS qs fo++F)) h):
 CallsH bU 110 [.pointer (some a),sv fs] h (Ap fun v h'=>v= .tuple #[] ∧ ∃(ψ:AE) (ps:List (Option Addr)),Sub φ ψ∧ps.length=r.length∧St ψ (giC lm ps r (AS qs fo++F)) h'):=by
 refine AR mixed Tryz.func110 ?_;rw [Km];unfold HY;unfold PV at hd;obtain ⟨L1,hL1,hd⟩:=bS hd;obtain ⟨mm,hmm,hd⟩:=bS hd;have nS:sl.2.1=steps.length:=K.ks.length;have nR:t.2.2.1.2.1=p.2.2.1.length:=K.pl.k2.length;have n0:t.1.2.1=p.1.length:=K.pl.k0.length;refine AG _ rfl<|AF (x:=sl) (K.at s0 (j:=11) rfl) rfl<|Av (fun (y:Int×Unit) w L=>∃ψ ps,Sub φ ψ∧ps.length=cE L∧St ψ (giC lm ps L (AS qs fo++F)) w) (g:=L1) ?_ ?_
 ·refine Co hL1 (fun i (y:Int×Unit) w L=>y.1=i∧ ∃ψ ps,Sub φ ψ∧ps.length=cE L∧St ψ (giC lm ps L (AS qs fo++F)) w) ((0:Int),()) rfl ⟨rfl,φ,[],bT _,rfl,s0⟩ ?_ ?_
  ·rintro i z w L e ⟨rfl,ψ,ps,le,hl,st⟩ he h0 hlt hw;refine Aj (by rw [nS];exact decide_eq_true hlt) ?_;obtain ⟨s,hs,he⟩:=bS he;obtain ⟨A1,cs1,ea1,hi1,q1,cl1⟩:=(K.ks.mono le).get hs;refine AG _ ea1 (Ab hi1 ?_);obtain ⟨_,_,rfl,rfl,rfl⟩:=q1;refine AF (x:=s.1) (AC st.sub (cl1 0 _ rfl)) rfl<|AF (x:=s.2) (by rw [AV];exact AC st.sub (cl1 1 _ rfl)) rfl<|AT (vs:=[.int .i64 0,.int .i64 0]) st ?_;intro r8 h3 s3;refine Cj (b:=r8) (j:=0) (v:=.int .i64 s.1) s3 rfl (by simp) ?_;intro h4 s4;refine Cj (b:=r8) (j:=1) (v:=.int .i64 s.2) s4 rfl (by simp) ?_;intro h5 s5;obtain ⟨ψ1,le1,cB,s6⟩:=fK s5;have le01:=le.trans le1;refine AG _ rfl<|AF (x:=t.2.2.1) ((K.mono le01).at s6 (j:=2) rfl) rfl<|Av (fun (y:Int×Unit) w L=>∃ψ ps,Sub φ ψ∧ps.length=cE L∧St ψ (giC lm ps L (AS qs fo++F)) w) (g:=e) ?_ ?_
   ·refine Co he (fun i (y:Int×Unit) w L=>y.1=i∧ ∃ψ ps,Sub ψ1 ψ∧ps.length=cE L∧St ψ (giC lm ps L (AS qs fo++F)) w) ((0:Int),()) rfl ⟨rfl,ψ1,ps,bT _,hl,s6⟩ ?_ ?_
    ·rintro i2 z2 w2 L2 e2 ⟨rfl,ψ2,ps2,le2,hl2,st2⟩ he2 h02 hlt2 hw2;have le02:=le01.trans le2;unfold RY at he2;refine Aj (by rw [nR];exact decide_eq_true hlt2) ?_;obtain ⟨ru,hr1,he2⟩:=bS he2;refine Av (fun (_:Unit) w (_:Unit)=>∃ψ ps,Sub ψ1 ψ∧ps.length=cE e2∧St ψ (giC lm ps e2 (AS qs fo++F)) w) (g:=()) ?_ ?_
     ·refine NO (K.pl.k2.mono le02) hr1 st2 ?_;intro r18 u h7 ku s7;obtain ⟨ψ3,le3,cR1,s8⟩:=fK s7;have ku:=ku.mono le3;have le03:=le02.trans le3;have le13:=le2.trans le3;have cB3:=cB.mono le13;have K3:=K.mono le03;refine AF (x:=ru.1) (CF cR1 s8 (j:=0) rfl) rfl<|AF (x:=s.2) (CF cB3 s8 (j:=1) rfl) rfl<|AI he2 rfl (fun _ he2=> ?_) (fun _ he2=> ?_)
      ·obtain rfl:=iS he2;exact R8 () rfl ⟨ψ3,ps2,le13,hl2,s8⟩
      ·obtain ⟨wk,hwk,he2⟩:=bS he2;obtain ⟨L',hL',he2⟩:=bS he2;obtain ⟨o,ho,he2⟩:=bS he2;obtain ⟨s',hs',he2⟩:=bS he2;obtain ⟨ok,he2⟩:=Bq he2;obtain rfl:=iS he2;refine AG _ rfl<|AF (x:=ap) (K3.at s8 (j:=6) rfl) rfl<|AF (x:=s.1) (CF cB3 s8 (j:=0) rfl) rfl<|AF (x:=u) (CF cR1 s8 (j:=1) rfl) rfl ?_;have fin:∀ {ψ5:AE} {h9:AH} {r26:Nat},Sub ψ3 ψ5→DO ψ5 (some ⟨r26,0,none⟩) [.int .i64 wk,.int .i64 z2.1] →St ψ5 (giC lm ps2 L2 (AS qs fo++F)) h9→ ∀ {P:Bv→AH→Prop},
        (∀(ψ:AE) (ps':List (Option Addr)) (h':AH),Sub ψ1 ψ→ps'.length=cE (CB (wk,z2.1) (BS s' o) L')→St ψ (giC lm ps' (CB (wk,z2.1) (BS s' o) L') (AS qs fo++F)) h'→P (.out []) h')→
        (WE (some a) fs.1 fs.2.1 z.1 r26).wp bU P h9:=by
        intro ψ5 h9 r26 le5 cX st9 P hP;refine WF (gk.mono (le03.trans le5)) (K3.mono le5) (kf.mono (le03.trans le5)) hq cX hL' ho hs' ok hl2 st9 ?_;intro ψ6 ps' h10 le6 hl6 st10;exact hP ψ6 ps' h10 ((le13.trans le5).trans le6) hl6 st10
       refine Ey ?_ ?_
       ·refine AJ (D6 K3.kA ku s8 hwk) ?_;rintro _ h9 ⟨ψ4,y4,le4,rfl,rfl,s9⟩;refine ⟨y4,rfl,?_⟩;refine AT (vs:=[.int .i64 0,.int .i64 0]) s9 ?_;intro r26 h10 s10;refine Cj (b:=r26) (j:=0) (v:=.int .i64 y4) s10 rfl (by simp) ?_;intro h11 s11;refine Cj (b:=r26) (j:=1) (v:=.int .i64 z2.1) s11 rfl (by simp) ?_;intro h12 s12;obtain ⟨ψ5,le5,cX,s13⟩:=fK s12;refine fin (le4.trans le5) cX s13 ?_;intro ψ6 ps' h13 le6 hl6 s14;exact ⟨(),rfl,ψ6,ps',le6,hl6,s14⟩
       ·refine AT (vs:=[.int .i64 0,.int .i64 0]) s8 ?_;intro r49 h9 s9;refine AM (CF cR1 s9 (j:=1) rfl)<|AM (CF cB3 s9 (j:=0) rfl)<|AM (K3.at s9 (j:=6) rfl)<|AJ (D6 K3.kA ku s9 hwk) ?_;rintro _ h10 ⟨ψ4,y4,le4,rfl,rfl,s10⟩;refine ⟨y4,rfl,?_⟩;refine Cj (b:=r49) (j:=0) (v:=.int .i64 y4) s10 rfl (by simp) ?_;intro h11 s11;refine Cj (b:=r49) (j:=1) (v:=.int .i64 z2.1) s11 rfl (by simp) ?_;intro h12 s12;obtain ⟨ψ5,le5,cX,s13⟩:=fK s12;refine fin (le4.trans le5) cX s13 ?_;intro ψ6 ps' h13 le6 hl6 s14;exact ⟨(),rfl,ψ6,ps',le6,hl6,s14⟩
     ·rintro _ h9 H;exact Ag (bZ .i64 (z2.1+(1:Int)),()) _ rfl rfl ⟨hw2,H⟩
    ·rintro i2 z2 w2 ⟨rfl,ψ2,ps2,le2,H⟩ hge;refine Aa (by rw [nR];exact decide_eq_false (Int.not_lt.2 hge))<|AO (AQ z2 rfl ⟨ψ2,ps2,le01.trans le2,H⟩)
   ·rintro _ h9 H;exact Ag (bZ .i64 (z.1+(1:Int)),()) _ rfl rfl ⟨hw,H⟩
  ·rintro i z w ⟨rfl,H⟩ hge;refine Aa (by rw [nS];exact decide_eq_false (Int.not_lt.2 hge))<|AO (AQ z rfl H)
 ·rintro _ h1 ⟨ψ1,ps1,le1,hl1,st1⟩;have K1:=K.mono le1;refine AG _ rfl<|AF (x:=ap) (K1.at st1 (j:=6) rfl) rfl<|AJ (Cm K1.kA st1 hmm) ?_;rintro _ h2 ⟨ψ2,y2,le2,rfl,rfl,st2⟩;refine ⟨y2,rfl,?_⟩;have le02:=le1.trans le2;refine Av (fun (y:Int×Unit) w L=>∃ψ ps,Sub φ ψ∧ps.length=cE L∧St ψ (giC lm ps L (AS qs fo++F)) w) (g:=r) ?_ ?_
  ·refine Co hd (fun i (y:Int×Unit) w L=>y.1=i∧ ∃ψ ps,Sub φ ψ∧ps.length=cE L∧St ψ (giC lm ps L (AS qs fo++F)) w) ((0:Int),()) rfl ⟨rfl,ψ2,ps1,le02,hl1,st2⟩ ?_ ?_
   ·rintro i z w L e ⟨rfl,ψ,ps,le,hl,st⟩ he h0 hlt hw;refine Aj (decide_eq_true hlt) ?_;obtain ⟨bd,hbd,he⟩:=bS he;have K3:=K.mono le;refine AJ (GQ K3.pt st (show Bx (lkT p A fa steps (some nm) (some lm)) z.1 0=some bd from hbd)) ?_;rintro _ h3 ⟨ψ3,y3,le3,rfl,rfl,st3⟩;refine ⟨y3,rfl,?_⟩;have le03:=le.trans le3;refine Af (fun (_:Unit) w L=>∃ψ ps,Sub φ ψ∧ps.length=cE L∧St ψ (giC lm ps L (AS qs fo++F)) w) (g:=e) ?_ ?_
    ·refine AI he rfl (fun _ he=> ?_) (fun _ he=> ?_)
     ·obtain ⟨sn,hsn,he⟩:=bS he;obtain rfl:=iS he;refine AG _ rfl<|AF (x:=some lm) ((K.mono le03).at st3 (j:=13) rfl) rfl<|AG _ rfl<|AF (x:=t.1) (by have:=(K.mono le03).at st3 (j:=0) rfl;rwa [add_zero]at this) rfl<|AT (vs:=[.int .i64 0]) st3 ?_;intro r84 h4 st4;refine AM (by have:=(K.mono le03).at st4 (j:=0) rfl;rwa [add_zero]at this)<|AM ((K.mono le03).at st4 (j:=13) rfl) ?_;have st5:=eP (r:=bW .i64) (l:=[(0:Int)]) (n:=1) st4 (.cons (a:=[_]) rfl .nil) rfl (by decide);obtain ⟨ψ5,le5,k5,st6⟩:=cD (t:=(some ⟨r84,0,none⟩,1,1)) st5;rw [n0];refine AJ (EV k5 st6 hsn) ?_;rintro _ h6 ⟨ψ6,q,l6,le6,rfl,rfl,st7⟩;refine ⟨q,rfl,?_⟩;have le06:=(le03.trans le5).trans le6;refine AM ((K.mono le06).at st7 (j:=13) rfl)<|Ja (kk:=DA) (k:=(z.1,(0:Int))) (y:=q) eV RW st7.at1 rfl ?_;intro h8 st8;obtain ⟨ps',g1,g2⟩:=WD hl st8;exact AN () rfl ⟨ψ6,ps',le06,g1,g2⟩
     ·obtain rfl:=iS he;exact AN () rfl ⟨ψ3,ps,le03,hl,st3⟩
    ·rintro _ h9 H;exact Ag (bZ .i64 (z.1+(1:Int)),()) _ rfl rfl ⟨hw,H⟩
   ·rintro i z w ⟨rfl,H⟩ hge;refine Aa (decide_eq_false (Int.not_lt.2 hge))<|AO (AQ z rfl H)
  ·rintro _ h9 ⟨ψ9,ps9,le9,hl9,st9⟩;exact AB ⟨rfl,ψ9,ps9,le9,hl9,st9⟩
end
structure LkD where
 p:dtP
 A:dtA
 fa:dtF
 steps:List Stp
 L:LkL
def LkL.at (φ:AE) (cs:List Value) (d:LkD) (Γ:List Chk):Prop:=
 ∃(a:Addr) (t:Slc×Slc×Slc×Slc×Slc×Slc×Unit) (ap:Option Addr) (fz:Slc×Slc×Slc×Int×Unit) (sl:Slc) (nm lm:Nat) (ps:List (Option Addr)),
  cs= [.pointer (some a)] ∧LkK φ a t ap fz sl nm lm d.p d.A d.fa d.steps∧ps.length=d.L.length∧Γ=giC lm ps d.L []
def WH:Pk (Option LkD) where
 sz:=1
 L φ cs x Γ:=match x with
  |none=>cs= [.pointer none] ∧Γ= []
  |some d=>LkL.at φ cs d Γ
 len {φ cs x Γ} h:=by
  cases x with
  |none=>rw [h.1];rfl
  |some d=>obtain ⟨a,t,ap,fz,sl,nm,lm,ps,h1,_⟩:=h;rw [h1];rfl
 mono {φ ψ cs x Γ} hs h:=by
  cases x with
  |none=>exact h
  |some d=>obtain ⟨a,t,ap,fz,sl,nm,lm,ps,h1,h2,h3,h4⟩:=h;exact ⟨a,t,ap,fz,sl,nm,lm,ps,h1,h2.mono hs,h3,h4⟩
 plain {φ cs x Γ} h v hv:=by
  cases x with
  |none=>rw [h.1]at hv;simp at hv;subst hv;rfl
  |some d=>obtain ⟨a,t,ap,fz,sl,nm,lm,ps,h1,_⟩:=h;rw [h1]at hv;simp at hv;subst hv;rfl
abbrev BV:Rep (Option LkD):=Rep.pack WH
noncomputable def TX (p:dtP) (A:dtA):Option (Option LkD):=(OG p).bind fun fa=>(Oz p A KC ([],[])).bind fun st=>(Mp p A fa st.1 st.2).bind fun rd=>(Gj p A fa st.1 st.2).bind fun inc=>(Ho rd.2 rd.1).bind fun f1=>(Ho inc f1).bind fun f2=>(PV p A fa st.1 f2).bind fun L=>some (some ⟨p,A,fa,st.1,L⟩)
noncomputable def MK (d:Option LkD) (s:Int):Option (List Int):=d.bind fun d=>DG (lkT d.p d.A d.fa d.steps none none) s
noncomputable def OM (d:Option LkD) (s r:Int):Option (List Int):=d.bind fun d=>match BY (s,r) d.L with
 |none=>some []
 |some x=>I1 x
section
variable {φ ψ:AE}{h:AH}{F:List Chk}{a:Addr}{t:Slc×Slc×Slc×Slc×Slc×Slc×Unit}{p:dtP}{ap:Option Addr}{A:dtA}{fz:Slc×Slc×Slc×Int×Unit}{sl:Slc}{nm lm b:Nat}{fa:dtF}{steps:List Stp}
theorem QP (H:St φ F h):St φ (⟨BV,[.pointer none],none⟩::F) h:=fO (p:=WH) (Γ:=[]) ⟨rfl,rfl⟩ H
theorem Yl {q:Option Addr}{d:Option LkD}(H:St φ (⟨BV,[.pointer q],d⟩::F) h):dD q=dD d:=by
 obtain ⟨Γ,h1,_⟩:=fN H;cases d with
 |none=>cases h1.1;rfl
 |some d=>obtain ⟨a,t,ap,fz,sl,nm,lm,ps,h1,_⟩:=h1;cases h1;rfl
theorem ON {q:Option Addr}{d:Option LkD}{s:Int}(s0:St φ (⟨BV,[.pointer q],d⟩::F) h) {r:List Int}(hd:MK d s=some r):
 CallsH bU 22 [.pointer q,.int .i64 s] h (Ap fun v h'=>∃ψ:AE,∃y:Slc,∃l:List Int,Sub φ ψ∧v=((.one aS):Sh).val y∧l=r∧Ro.SliceIs (bW .i64) ψ y l∧St ψ (⟨BV,[.pointer q],d⟩::F) h'):=by
 obtain ⟨d,rfl,hd1⟩:=Option.bind_eq_some_iff.1 hd;obtain ⟨Γ,⟨a,t,ap,fz,sl,nm,lm,ps,h1,h2,h3,h4⟩,s1⟩:=fN s0;cases h1;refine (Kq h2.pt s1 (show DG (lkT d.p d.A d.fa d.steps (some nm) (some lm)) s=some r from hd1)).mono ?_;rintro e h' ⟨v,rfl,ψ,y,l,le,rfl,rfl,k,s2⟩;exact ⟨_,rfl,ψ,y,l,le,rfl,rfl,k,fO (p:=WH) ⟨a,t,ap,fz,sl,nm,lm,ps,rfl,h2.mono le,h3,h4⟩ s2⟩
theorem RZ {q:Option Addr}{d:Option LkD}{s k:Int}(gk:Dg.Glob φ) (s0:St φ (⟨BV,[.pointer q],d⟩::F) h) {r:List Int}(hd:OM d s k=some r):
 CallsH bU 24 [.pointer q,.int .i64 s,.int .i64 k] h (Ap fun v h'=>∃ψ:AE,∃y:Slc,∃l:List Int,Sub φ ψ∧v=((.one aS):Sh).val y∧l=r∧Ro.SliceIs (bW .i64) ψ y l∧St ψ (⟨BV,[.pointer q],d⟩::F) h'):=by
 obtain ⟨d,rfl,hd1⟩:=Option.bind_eq_some_iff.1 hd;obtain ⟨Γ,⟨a,t,ap,fz,sl,nm,lm,ps,h1,h2,h3,h4⟩,s1⟩:=fN s0;cases h1;subst h4;rw [QO,eK]at s1;refine AR mixed Tryz.func24 ?_;rw [MI];unfold I3;refine AG _ rfl<|AF (x:=some lm) (h2.at s1 (j:=13) rfl) rfl<|Gh (kk:=DA) (a:=.pointer) (k:=(s,k)) (m:=mz ps d.L) (none:Option Addr) eV RW (i:=Tryz.t139) (by kernel_rfl) rfl s1 ?_;have back:∀ {ψ:AE} {h':AH},Sub φ ψ→St ψ (giC lm ps d.L F) h'→St ψ (⟨BV,[.pointer (some a)],some d⟩::F) h':=fun le st=>
  fO (p:=WH) (Γ:=giC lm ps d.L []) ⟨a,t,ap,fz,sl,nm,lm,ps,rfl,h2.mono le,h3,rfl⟩ (by rw [QO,eK];exact st)
 cases hg:BY (s,k) d.L with
 |none=>
  rw [hg]at hd1;obtain rfl:=iS hd1;rw [TW hg];refine Aj rfl<|AB ⟨φ,(none,0,0),[],bT _,rfl,rfl,eA _ _,back (bT _) s1⟩
 |some x=>
  rw [hg]at hd1;obtain ⟨i,p0,g1,g2,g3,g4,g5⟩:=NP h3 hg;rw [g3];obtain ⟨rest,r1,_⟩:=EW g1 g2;have s2:St φ (Bc p0 x::(rest++(cM DA eC lm (mz ps d.L)::F))) h:=s1.perm ((dV _ (dW F r1)).trans ((fL _ _ _).trans (dV _ (dQ (l₁:=rest)).symm)));refine Aa (PW s2)<|AJ (L8 gk s2 hd1) ?_;rintro _ h5 ⟨ψ5,y5,le5,rfl,k5,s5⟩;refine ⟨y5,rfl,?_⟩;refine AB ⟨ψ5,y5,r,le5,rfl,rfl,k5,back le5 ?_⟩;exact s5.perm (((dV _ (dQ (l₁:=rest))).trans (fL _ _ _)).trans (dV _ (dW F r1).symm))
noncomputable def WI (t2 t3 t4 t5 t6 t7:Slc) (ap:Option Addr) (fz:Slc×Slc×Slc×Int×Unit) (nm lm:Nat):T:=aD #[(sv t2),(sv t3),(sv t4),(sv t5),(sv t6),(sv t7),(.pointer ap),(sv fz.1),(sv fz.2.1),(sv fz.2.2.1),(.int .i64 fz.2.2.2.1),(.slice none 0 0),(.map (some nm)),(.map (some lm))] 138 fun r17=>bY 107 [(.pointer (some ⟨r17,0,none⟩)),(.func (.func 108) #[(.pointer (some ⟨r17,0,none⟩))] #[])] (.tuple []) fun (t18:Unit)=>bY 109 [(.pointer (some ⟨r17,0,none⟩))] (.tuple [aS,aS]) fun (t19:Slc×Slc×Unit)=>bY 112 [(.pointer (some ⟨r17,0,none⟩))] (.one aS) fun (t20:Slc)=>bY 111 [(sv t19.2.1),(sv t19.1)] (.one aS) fun (t21:Slc)=>bY 111 [(sv t20),(sv t21)] (.one aS) fun (t22:Slc)=>bY 110 [(.pointer (some ⟨r17,0,none⟩)),(sv t22)] (.tuple []) fun (t23:Unit)=>cI (.pointer (some ⟨r17,0,none⟩))
noncomputable def Sq (p:dtP) (A:dtA) (fa:dtF):Option (Option LkD):=(Oz p A KC ([],[])).bind fun st=>(Mp p A fa st.1 st.2).bind fun rd=>(Gj p A fa st.1 st.2).bind fun inc=>(Ho rd.2 rd.1).bind fun f1=>(Ho inc f1).bind fun f2=>(PV p A fa st.1 f2).bind fun L=>some (some ⟨p,A,fa,st.1,L⟩)
def OfS (φ:AE) (F:List Chk) (r:Option LkD) (v:Value) (h':AH):Prop:= ∃ψ:AE,∃y:Option Addr,∃l:Option LkD,Sub φ ψ∧v=((.one aP):Sh).val y∧l=r∧St ψ (⟨BV,[.pointer y],l⟩::F) h'
set_option maxHeartbeats 2000000 in
theorem Gk {φ0:AE}(le0:Sub φ0 φ) (gk:Dg.Glob φ) (kP:PlK φ t p) (kA:Pt Fq φ ap A) (f0:Ro.SliceIs dB φ fz.1 fa.1) (f1:Ro.SliceIs (cA (bW .i64)) φ fz.2.1 fa.2.1) (f2:Ro.SliceIs (cA (bW .i64)) φ fz.2.2.1 fa.2.2.1) (f3:fz.2.2.2.1=fa.2.2.2)
 {r:Option LkD} (hd:Sq p A fa=some r) (s0:St φ (cM DA (bW .i64) nm []::cM DA eC lm []::F) h):
 (WI t.1 t.2.1 t.2.2.1 t.2.2.2.1 t.2.2.2.2.1 t.2.2.2.2.2.1 ap fz nm lm).wp bU (Na (Ap (OfS φ0 F r))) h:=by
 unfold WI;unfold Sq at hd;obtain ⟨en,hen,hd⟩:=bS hd;obtain ⟨rd,hrd,hd⟩:=bS hd;obtain ⟨inc,hinc,hd⟩:=bS hd;obtain ⟨g1,hg1,hd⟩:=bS hd;obtain ⟨g2,hg2,hd⟩:=bS hd;obtain ⟨L,hL,hd⟩:=bS hd;obtain rfl:=iS hd;refine AT (vs:=lkV t ap fz ((none,0,0):Slc) nm lm) s0 ?_;intro r17 h1 s1;have s2:St φ (enC r17 t ap fz nm lm ⟨((none,0,0):Slc),[],[]⟩ ++(cM DA eC lm []::F)) h1:=(St.nil 224 Qu s1).at1;refine AJ (V7 kA kP (x:=⟨((none,0,0):Slc),[],[]⟩) hen s2) ?_;rintro _ h2 ⟨rfl,ψ2,x,le2,hx,s3⟩;refine ⟨(),rfl,?_⟩;obtain ⟨sl,steps,num⟩:=x;obtain rfl:=hx;obtain ⟨ψ3,le3,cB,s4⟩:=fK s3;obtain ⟨ψ4,le4,ks,s5⟩:=cD (t:=sl) s4;have le04:=(le2.trans le3).trans le4;have K:LkK ψ4 ⟨r17,0,none⟩ t ap fz sl nm lm p A fa steps:=⟨cB.mono le4,kP.mono le04,kA.mono le04,f0.mono le04,f1.mono le04,f2.mono le04,f3,ks⟩;refine AJ (UV K hrd s5) ?_;rintro _ h5 ⟨ψ5,y1,y2,ps,le5,rfl,hps,k1,k2,s6⟩;refine ⟨_,rfl,?_⟩;have le05:=le04.trans le5;have s7:St ψ5 (cM DA (bW .i64) nm num::(AS ps rd.1++(cM DA eC lm []::F))) h5:=s6.perm (dQ (l₁:=AS ps rd.1));refine AJ (QN (gk.mono le05) (K.mono le5) hinc s7) ?_;rintro _ h6 ⟨ψ6,y3,le6,rfl,k3,s8⟩;refine ⟨_,rfl,?_⟩;have le06:=le05.trans le6;refine AJ (PK (gk.mono le06) (k2.mono le6) (k1.mono le6) hps s8.tail hg1) ?_;rintro _ h7 ⟨ψ7,y4,qs,le7,rfl,hqs,s9⟩;refine ⟨_,rfl,?_⟩;have le07:=le06.trans le7;obtain ⟨ψ8,le8,k4,s10⟩:=cD (t:=y4) s9;have le08:=le07.trans le8;refine AJ (PK (gk.mono le08) (k3.mono (le7.trans le8)) k4 hqs s10 hg2) ?_;rintro _ h8 ⟨ψ9,y5,us,le9,rfl,hus,s11⟩;refine ⟨_,rfl,?_⟩;obtain ⟨ψ10,le10,k5,s12⟩:=cD (t:=y5) s11;have le010:=(le08.trans le9).trans le10;have le410:=(((((le5.trans le6).trans le7).trans le8).trans le9).trans le10);have s13:St ψ10 (giC lm [] [] (AS us g2++(AS qs g1++(AS ps rd.1++F)))) h8:=by
  refine s12.perm ?_;show (AS us g2++(AS qs g1++(AS ps rd.1++(cM DA eC lm []::F)))).Perm (cM DA eC lm []::(AS us g2++(AS qs g1++(AS ps rd.1++F))));rw [←cH,←cH,←cH (AS us g2),←cH (AS us g2++AS qs g1)];exact dQ
 refine AJ (WG (gk.mono le010) (K.mono le410) k5 hus hL s13) ?_;rintro _ h9 ⟨rfl,ψ11,vs,le11,hvs,s14⟩;refine ⟨(),rfl,?_⟩;refine AB ⟨ψ11,some ⟨r17,0,none⟩,_,(le0.trans le010).trans le11,rfl,rfl,?_⟩;refine fO (p:=WH) (Γ:=giC lm vs L []) ⟨⟨r17,0,none⟩,t,ap,fz,sl,nm,lm,vs,rfl,K.mono (le410.trans le11),hvs,rfl⟩ ?_;rw [QO,eK];have s15:St ψ11 ((AS us g2++(AS qs g1++AS ps rd.1)) ++(giC lm vs L F)) h9:=by
  refine s14.perm ?_;show (cM DA eC lm (mz vs L)::(AS vs (L.map (·.2)) ++(AS us g2++(AS qs g1++(AS ps rd.1++F))))).Perm ((AS us g2++(AS qs g1++AS ps rd.1)) ++(cM DA eC lm (mz vs L)::(AS vs (L.map (·.2)) ++F)));rw [show AS us g2++(AS qs g1++(AS ps rd.1++F))=(AS us g2++(AS qs g1++AS ps rd.1)) ++F by simp [cH]]
  generalize AS us g2++(AS qs g1++AS ps rd.1)=X
  refine (dV _ ?_).trans (dQ (l₁:=X)).symm;rw [←cH,←cH];exact dW F List.perm_append_comm
 exact St.drop _ s15
set_option maxHeartbeats 4000000 in
theorem WJ {p_0:Slc×Slc×Slc×Slc×Slc×Slc×Unit}{d0 d1:List ByteArray}{d2:List BP}{d3 d4:List Int}{d5:List ByteArray}{d6:dtA}{a_1:Option Addr}(gk:Dg.Glob φ)
 (k0:Ro.SliceIs cF φ p_0.1 d0) (k1:Ro.SliceIs cF φ p_0.2.1 d1) (k2:Ro.SliceIs B4 φ p_0.2.2.1 d2) (k3:Ro.SliceIs (bW .i64) φ p_0.2.2.2.1 d3) (k4:Ro.SliceIs (bW .i64) φ p_0.2.2.2.2.1 d4) (k5:Ro.SliceIs cF φ p_0.2.2.2.2.2.1 d5) (kA:Pt Fq φ a_1 d6) (s0:St φ F h) {r:Option LkD} (hd:TX (d0,d1,d2,d3,d4,d5) d6=some r):
 CallsH bU 69 [.agg #[sv p_0.1,sv p_0.2.1,sv p_0.2.2.1,sv p_0.2.2.2.1,sv p_0.2.2.2.2.1,sv p_0.2.2.2.2.2.1],.pointer a_1] h (Ap (OfS φ F r)):=by
 refine AR mixed Tryz.func69 ?_;rw [RU];unfold PT;obtain ⟨fa,hfa,hd⟩:=bS hd;have hd:Sq (d0,d1,d2,d3,d4,d5) d6 fa=some r:=hd;have kP:PlK φ p_0 (d0,d1,d2,d3,d4,d5):=⟨k0,k1,k2,k3,k4,k5⟩;refine AT (vs:=plV p_0) s0 ?_;intro r1 h1 s1;obtain ⟨φ1,le1,cB,s1⟩:=fK s1;have hc:∀ {ψ:AE} {Γ:List Chk} {h':AH},Sub φ1 ψ→St ψ Γ h'→ ∀j v,(plV p_0)[j]? =some v→Bg h' ⟨r1,j,none⟩=some v:=fun {ψ Γ h'} le st j v hv=>by
  have:=AC st.sub ((cB.mono le).at j hv)
  rw [EL,Nat.zero_add]at this;exact this
 have hc1:=hc (bT _) s1;refine KA hc1<|KA hc1 ?_;have gk1:=gk.mono le1;have kP1:=kP.mono le1;have kA1:=kA.mono le1;have call:∀ {Γ:List Chk} {w:AH} {K:(Slc×Slc×Slc×Int×Unit)→T} {Q:Bv→AH→Prop},St φ1 Γ w→
  (∀(ψ:AE) (fz:Slc×Slc×Slc×Int×Unit) (w':AH),Sub φ1 ψ→Ro.SliceIs dB ψ fz.1 fa.1→Ro.SliceIs (cA (bW .i64)) ψ fz.2.1 fa.2.1→Ro.SliceIs (cA (bW .i64)) ψ fz.2.2.1 fa.2.2.1→fz.2.2.2.1=fa.2.2.2→St ψ Γ w'→(K fz).wp bU Q w')→
  (bY 106 [(.agg #[(sv p_0.1),(sv p_0.2.1),(sv p_0.2.2.1),(sv p_0.2.2.2.1),(sv p_0.2.2.2.2.1),(sv p_0.2.2.2.2.2.1)])] (.one (.agg [.slice,.slice,.slice,(.int .i64)])) K).wp bU Q w:=by
  intro Γ w K Q st hk;refine AJ (QK gk1 kP1 st hfa) ?_;rintro _ w' ⟨ψ,y,le,rfl,g0,g1,g2,g3,st'⟩;exact ⟨y,rfl,hk ψ y w' le g0 g1 g2 g3 st'⟩
 refine Ey ?_ (Ey ?_ ?_)
 ·refine call s1 ?_;intro ψ fz w le g0 g1 g2 g3 st;have hcc:=fun {Γ:List Chk} {h':AH} (st:St ψ Γ h')=>hc le st
  repeat refine AM (hcc st _ _ rfl) ?_
  refine Ey ?_ ?_
  ·refine Db DA (bW .i64) st ?_;intro r15 w2 st2
   repeat refine AM (hcc st2 _ _ rfl) ?_
   refine Db DA eC st2 ?_;intro r16 w3 st3
   repeat refine AM (hcc st3 _ _ rfl) ?_
   exact Gk (le1.trans le) (gk1.mono le) (kP1.mono le) (kA1.mono le) g0 g1 g2 g3 hd st3.at1
  ·refine Db DA eC st ?_;intro r15 w2 st2
   repeat refine AM (hcc st2 _ _ rfl) ?_
   refine Db DA (bW .i64) st2 ?_;intro r16 w3 st3
   repeat refine AM (hcc st3 _ _ rfl) ?_
   exact Gk (le1.trans le) (gk1.mono le) (kP1.mono le) (kA1.mono le) g0 g1 g2 g3 hd st3
 ·refine Db DA (bW .i64) s1 ?_;intro r33 w2 st2;have hc2:=hc (bT _) st2
  repeat refine AM (hc2 _ _ rfl) ?_
  refine Ey ?_ ?_
  ·refine call st2 ?_;intro ψ fz w le g0 g1 g2 g3 st;have hcc:=fun {Γ:List Chk} {h':AH} (st:St ψ Γ h')=>hc le st
   repeat refine AM (hcc st _ _ rfl) ?_
   refine Db DA eC st ?_;intro r35 w3 st3
   repeat refine AM (hcc st3 _ _ rfl) ?_
   exact Gk (le1.trans le) (gk1.mono le) (kP1.mono le) (kA1.mono le) g0 g1 g2 g3 hd st3.at1
  ·refine Db DA eC st2 ?_;intro r35 w3 st3;have hc3:=hc (bT _) st3
   repeat refine AM (hc3 _ _ rfl) ?_
   refine call st3 ?_;intro ψ fz w le g0 g1 g2 g3 st;have hcc:=fun {Γ:List Chk} {h':AH} (st:St ψ Γ h')=>hc le st
   repeat refine AM (hcc st _ _ rfl) ?_
   exact Gk (le1.trans le) (gk1.mono le) (kP1.mono le) (kA1.mono le) g0 g1 g2 g3 hd st.at1
 ·refine Db DA eC s1 ?_;intro r33 w2 st2;have hc2:=hc (bT _) st2
  repeat refine AM (hc2 _ _ rfl) ?_
  refine Ey ?_ ?_
  ·refine call st2 ?_;intro ψ fz w le g0 g1 g2 g3 st;have hcc:=fun {Γ:List Chk} {h':AH} (st:St ψ Γ h')=>hc le st
   repeat refine AM (hcc st _ _ rfl) ?_
   refine Db DA (bW .i64) st ?_;intro r35 w3 st3
   repeat refine AM (hcc st3 _ _ rfl) ?_
   exact Gk (le1.trans le) (gk1.mono le) (kP1.mono le) (kA1.mono le) g0 g1 g2 g3 hd st3
  ·refine Db DA (bW .i64) st2 ?_;intro r35 w3 st3;have hc3:=hc (bT _) st3
   repeat refine AM (hc3 _ _ rfl) ?_
   refine call st3 ?_;intro ψ fz w le g0 g1 g2 g3 st;have hcc:=fun {Γ:List Chk} {h':AH} (st:St ψ Γ h')=>hc le st
   repeat refine AM (hcc st _ _ rfl) ?_
   exact Gk (le1.trans le) (gk1.mono le) (kP1.mono le) (kA1.mono le) g0 g1 g2 g3 hd st
end
def trE (p:dtP) (n:Nat) (es:List Edge):List (Stp×Int):=(es.filter fun e=> !(decide (0≤e.1) && decide (e.1<nT p))).map fun e=>(((n:Int),e.1),e.2)
def trs (p:dtP) (E:List (List Edge)) (n:Nat):List (Stp×Int):=(dS n).flatMap fun k=>trE p k (E[k]?.getD [])
theorem OO (p:dtP) (E:List (List Edge)) (n:Nat):trs p E (n+1)=trs p E n++trE p n (E[n]?.getD []):=by
 unfold trs;rw [List.range_succ,List.flatMap_append];simp
theorem WK (p:dtP) (E:List (List Edge)) {n m:Nat}(h:n≤m):trs p E n<+:trs p E m:=by
 induction h with
 |refl=>exact List.prefix_refl _
 |step _ ih=>rw [OO];exact ih.trans (List.prefix_append _ _)
theorem Ra {p:dtP}{n:Nat}{es:List Edge}{j:Nat}{e:Edge}(h:es[j]? =some e):trE p n (es.take (j+1))=trE p n (es.take j) ++trE p n [e]:=by
 unfold trE;rw [dH,h,dU,dG];rfl
theorem XW (p:dtP) (n:Nat) (es:List Edge) (j:Nat):trE p n (es.take j) <+:trE p n es:=by
 unfold trE;obtain ⟨r,hr⟩:=List.take_prefix j es;refine ⟨(r.filter fun e=> !(decide (0≤e.1) && decide (e.1<nT p))).map fun e=>(((n:Int),e.1),e.2),?_⟩;rw [←dG,←dU,hr]
section
variable {p:dtP}{B:List dtK}{E:List (List Edge)}{tt:Int}
theorem TY (V:VPp p) (H:Fin p B E) (hB:B.length≤1000000) {σ:Type}{f:σ→Stp→Int→Option σ}{s:σ}(I:List (Stp×Int)→σ→Prop) (h0:I [] s)
 (hs:∀pre x s,pre++ [x] <+:trs p E B.length→I pre s→Ok (f s x.1 x.2) (I (pre++ [x]))):Ok (Oz p (Au p B E tt) f s) (I (trs p E B.length)):=by
 unfold Oz;refine AL (LR H)<|CR (n:=B.length) (fun k s=>I (trs p E k) s) (by omega) h0 fun k s hk hI=> ?_;have hb:=bR hk;obtain ⟨es,he⟩:=H.edge hb;refine AL (RN V H hb he) ?_;have hl:=H.edges_len V hb he;have hsucc:trs p E (k+1)=trs p E k++trE p k es:=by rw [OO,he];rfl
 have hpre:=WK p E (show k+1≤B.length from hk);rw [hsucc]at hpre;obtain ⟨s',e1,e2⟩:=CR (f:=fun j s=>(idx es j).bind fun e=>(BT p e.1).bind fun t=>cond (!t) (f s ((k:Int),e.1) e.2) (some s)) (n:=es.length) (fun j s=>I (trs p E k++trE p k (es.take j)) s) (by omega) (s:=s) (by
  rw [List.take_zero];show I (trs p E k++ []) s;rw [eL];exact hI) fun j s hj hI=>by
   have hx:=bR hj;refine AW hx (AL (HV p _) ?_);rw [Ra hx];cases hc:(decide (0≤es[j].1) && decide (es[j].1<nT p)) with
   |true=>
    have e:trE p k [es[j]] = []:=by unfold trE;rw [fH,hc];rfl
    rw [e,eL];refine AU ?_ (AD hI);show (!(decide (0≤es[j].1) && decide (es[j].1<nT p)))=false;rw [hc];rfl
   |false=>
    have e:trE p k [es[j]] = [(((k:Int),es[j].1),es[j].2)]:=by unfold trE;rw [fH,hc];rfl
    rw [e];refine Bd ?_ ?_
    ·show (!(decide (0≤es[j].1) && decide (es[j].1<nT p)))=true;rw [hc];rfl
    ·rw [←cH];refine hs _ (((k:Int),es[j].1),es[j].2) s ?_ hI;rw [cH,←e,←Ra hx];exact ((List.prefix_append_right_inj _).2 (XW p k es (j+1))).trans hpre
 refine ⟨s',e1,?_⟩;rw [cN (cU _)]at e2;show I (trs p E (k+1)) s';rw [hsucc];exact e2
theorem WL (H:Fin p B E) {n:Nat}{b:dtK}{e:List Edge}(hb:B[n]? =some b) (he:E[n]? =some e) {s t:Int}:(s,t)∈e↔JH p.2.2.1 B b e s t∧t≠-1:=by
 have hd:=H.done n b e hb he;constructor
 ·intro h;obtain ⟨q,bt,h1,h2,h3,h4⟩:=hd.2 _ h;dsimp only at h1 h4;exact ⟨.inl ⟨by rw [←hd.1];exact List.mem_map.2 ⟨_,h,rfl⟩,q,bt,h1,h2,h3,h4,h⟩,by omega⟩
 ·rintro ⟨⟨_,q,bt,_,_,_,_,h⟩|⟨_,h⟩,h2⟩
  ·exact h
  ·exact absurd h h2
theorem Im (H:Fin p B E) {n:Nat}{e:List Edge}(hn:n<B.length) (he:E[n]? =some e) {s t:Int}:(s,t)∈e↔∃m:Nat,t=(m:Int)∧TrB p B E n s m:=by
 have hb:=bR hn;rw [WL H hb he];constructor
 ·rintro ⟨hg,h2⟩;have hg':=hg;rcases hg with ⟨_,q,bt,h3,_⟩|⟨_,h⟩
  ·subst h3;exact ⟨q,rfl,_,e,hb,he,hg'⟩
  ·exact absurd h h2
 ·rintro ⟨m,rfl,b',e',hb',he',hg⟩;rw [hb]at hb';cases hb';rw [he]at he';cases he';exact ⟨hg,by omega⟩
theorem KX (V:VPp p) (H:Fin p B E) {x:Stp×Int}:x∈trs p E B.length↔∃(n:Nat) (s:Int) (m:Nat),x=(((n:Int),s),(m:Int))∧nT p≤s∧TrB p B E n s m:=by
 unfold trs trE;rw [List.mem_flatMap];constructor
 ·rintro ⟨n,hn,hx⟩;have hn:=List.mem_range.1 hn;obtain ⟨e,he⟩:=H.edge (bR hn);rw [he]at hx;obtain ⟨y,hy,rfl⟩:=List.mem_map.1 hx;obtain ⟨h1,h2⟩:=List.mem_filter.1 hy;obtain ⟨m,hm,ht⟩:=(Im H hn he (s:=y.1) (t:=y.2)).1 h1;have h0:=((ME V H).st ht).2.2.2;refine ⟨n,y.1,m,by rw [hm],?_,ht⟩;rw [decide_eq_true h0,Bool.true_and,dN,decide_eq_false_iff_not]at h2;omega
 ·rintro ⟨n,s,m,rfl,hs,ht⟩;have hn:n<B.length:=((ME V H).st ht).1;obtain ⟨e,he⟩:=H.edge (bR hn);have h0:=((ME V H).st ht).2.2.2;refine ⟨n,List.mem_range.2 hn,?_⟩;rw [he];refine List.mem_map.2 ⟨(s,(m:Int)),List.mem_filter.2 ⟨(Im H hn he).2 ⟨m,rfl,ht⟩,?_⟩,rfl⟩;rw [decide_eq_false (show ¬s<nT p by omega),Bool.and_false];rfl
theorem PX (V:VPp p) (H:Fin p B E):((trs p E B.length).map (·.1)).Nodup:=by
 have key:∀n,n≤B.length→((trs p E n).map (·.1)).Nodup∧ ∀x∈(trs p E n).map (·.1),x.1< (n:Int):=by
  intro n
  induction n with
  |zero=>intro _;exact ⟨by simp [trs],by simp [trs]⟩
  |succ n ih=>
   intro hn;obtain ⟨h1,h2⟩:=ih (by omega);have hb:=bR (show n<B.length from hn);obtain ⟨e,he⟩:=H.edge hb;have hd:=(H.done n _ e hb he).1;have hu:=ZD p.2.2.1 B[n].2.1;rw [←hd]at hu;have h3:∀x∈(trE p n e).map (·.1),x.1=(n:Int):=by
    intro x hx;obtain ⟨y,hy,rfl⟩:=List.mem_map.1 hx;obtain ⟨z,_,rfl⟩:=List.mem_map.1 hy;rfl
   have h4:((trE p n e).map (·.1)).Nodup:=by
    unfold trE;rw [List.map_map];have hsub:((e.filter fun e=> !(decide (0≤e.1) && decide (e.1<nT p))).map (·.1)).Pairwise (· < ·):=hu.sublist (List.Sublist.map _ List.filter_sublist);rw [List.nodup_iff_pairwise_ne,eZ];rw [eZ]at hsub;exact hsub.imp fun {a b} h g=>by
     have:=(Prod.mk.inj g).2
     omega
   rw [OO,he];show ((trs p E n++trE p n e).map (·.1)).Nodup∧ ∀x∈(trs p E n++trE p n e).map (·.1),x.1< ((n+1:Nat):Int);rw [dG];refine ⟨List.nodup_append.2 ⟨h1,h4,fun a ha b hb g=> ?_⟩,fun x hx=> ?_⟩
   ·have:=h2 a ha
    have:=h3 b hb
    subst g;omega
   ·rcases List.mem_append.1 hx with h | h
    ·have:=h2 x h;omega
    ·have:=h3 x h;omega
 exact (key _ (cU _)).1
theorem XX (V:VPp p) (H:Fin p B E) (hV:∀n s m,TrB p B E n s m→s<nT p+(p.2.1.length:Int)):(trs p E B.length).length≤B.length *p.2.1.length:=by
 have h:=List.Nodup.length_le_of_subset (l₂:=(dS B.length).flatMap fun a=>(dS p.2.1.length).map fun b=>(((a:Nat):Int),nT p+((b:Nat):Int))) (PX V H) fun x hx=>by
  obtain ⟨y,hy,rfl⟩:=List.mem_map.1 hx;obtain ⟨n,s,m,rfl,hs,ht⟩:=(KX V H).1 hy;have h1:=hV n s m ht;have hn:n<B.length:=((ME V H).st ht).1;refine List.mem_flatMap.2 ⟨n,List.mem_range.2 hn,List.mem_map.2 ⟨(s - nT p).toNat,List.mem_range.2 (by omega),Prod.ext rfl ?_⟩⟩;dsimp only;omega
 rw [cV,List.length_flatMap]at h;simp only [cV,List.length_range,List.map_const',List.sum_replicate_nat]at h;exact h
structure Num (st:List Stp) (nm:List (Stp×Int)):Prop where
 at_:∀(i:Nat) k,st[i]? =some k→BY k nm=some (i:Int)
 none:∀k,k∉st→BY k nm=none
theorem WM (V:VPp p) (H:Fin p B E) (hB:B.length≤1000000) (hl:(trs p E B.length).length≤100000):Ok (Oz p (Au p B E tt) KC ([],[])) fun st=>st.1=(trs p E B.length).map (·.1)∧Num st.1 st.2:=by
 have hnd:=PX V H;refine TY V H hB (fun pre (st:EnS)=>st.1=pre.map (·.1)∧Num st.1 st.2) ⟨rfl,fun i k h=>by simp at h,fun _ _=>rfl⟩ fun pre x st hpre hI=> ?_;obtain ⟨st1,nm⟩:=st;obtain ⟨rfl,hN⟩:=hI;dsimp only at hN ⊢;have hlen:pre.length+1≤(trs p E B.length).length:=by
  have:=hpre.length_le
  simpa using this
 have hnew:x.1∉pre.map (·.1):=by
  obtain ⟨r,hr⟩:=hpre;rw [←hr,dG,dG]at hnd
  have:=(List.nodup_append.1 (List.nodup_append.1 hnd).1).2.2
  intro hm;exact this _ hm x.1 (by simp) rfl
 unfold KC;dsimp only;refine Bk (by simp;omega) (AD ⟨by simp,fun i k h=> ?_,fun k hk=> ?_⟩)
 ·dsimp only at h ⊢;rw [C7];rcases fA i pre.length with g | g
  ·rw [dE (by simpa using g)]at h;rw [if_neg (fun e=>hnew (by rw [←e];exact cC h))];exact hN.at_ i k h
  ·rw [dO (by simpa using g),cV]at h
   have:i - pre.length=0:=by
    have:=(List.getElem?_eq_some_iff.1 h).1
    simp at this;omega
   rw [this]at h;simp at h;rw [if_pos h.symm];congr 1;simp;omega
 ·dsimp only at hk ⊢;rw [dR]at hk;rw [C7,if_neg fun e=>hk (.inr (by simp [e])),hN.none k fun h=>hk (.inl h)]
end
structure Dr (p:dtP) (B:List dtK) (E:List (List Edge)) (fa:dtF):Prop where
 vp:VPp p
 sy:Sy p
 fin:Fin p B E
 gr:Gr (nT p) p.2.2.1
 few:B.length≤300
 vars:p.2.1.length≤24
 fa:V4 p fa
 zero:∃st,p.2.2.1[0]? =some (nT p+(p.2.1.length:Int),[st],0)
section
variable {p:dtP}{B:List dtK}{E:List (List Edge)}{fa:dtF}{tt:Int}{steps:List Stp}{o1 o2:Option Nat}
theorem Dr.aut (H:Dr p B E fa):Aut p.2.2.1 (SB B) (KB B) (TrB p B E):=ME H.vp H.fin
theorem Dr.sym (H:Dr p B E fa) {n m:Nat}{s:Int}(h:TrB p B E n s m):0≤s∧s<nT p+(p.2.1.length:Int):=by
 have A:=H.aut;obtain ⟨y,h1,h2⟩:=A.some_ h;obtain ⟨k,d,rfl,_,_⟩:=A.form (A.st h).1 h1;obtain ⟨r,h3,h4⟩:=Vw H.gr h2 (A.st h).2.2.2;exact H.sy.right r (cC h3) s (cC h4)
theorem Dr.lens (H:Dr p B E fa):(trs p E B.length).length≤7200:=by
 have h:=XX H.vp H.fin fun n s m ht=>(H.sym ht).2;have h1:=H.few;have h2:=H.vars;have h3:B.length *p.2.1.length≤300 *24:=Nat.mul_le_mul h1 h2;omega
theorem TZ (H:Dr p B E fa) {n:Nat}(hn:n<B.length) {k:Nat}{r:BP}(hr:p.2.2.1[k]? =some r):
 Ok (Bx (lkT p (Au p B E tt) fa steps o1 o2) (n:Int) (k:Int)) fun b=>b=true↔It p.2.2.1 (KB B) n k r.2.1.length:=by
 have hk:=Bo hr;have hb:=bR hn;have hg:=(H.fin.good H.vp hb).2.2.2.2;unfold Bx;refine AP (Q:=fun c=>c=false) (AU (decide_eq_false (by omega)) (AD (decide_eq_false (by dsimp only;omega)))) fun c hc=> ?_;subst hc;refine AU rfl (AW hr (AL (RM H.vp H.fin hb) (AL (contains_ok (by omega)) (AD ?_))));rw [decide_eq_true_eq];exact Fg H.vp H.fin hb _
def Dir (p:dtP) (B:List dtK) (E:List (List Edge)) (m:Nat) (j:Int):Prop:=(j<nT p∧ ∃q,TrB p B E m j q)∨(j=0∧It p.2.2.1 (KB B) m 0 1)
structure RdI (p:dtP) (B:List dtK) (E:List (List Edge)) (num:List (Stp×Int)) (x:Stp×Int) (d:AX) (l:List Int):Prop where
 ok:OkS d∧d.1=nT p
 mem:∀m:Nat,x.2=(m:Int)→ ∀j,Dg.mem d j=true↔Dir p B E m j
 few:l.length≤20000
 next:∀m:Nat,x.2=(m:Int)→ ∀k,k∈l↔∃c q,TrB p B E m c q∧nT p≤c∧Nul p.2.2.1 c∧(BY ((m:Int),c) num).getD 0=k
theorem BZ {α:Type}{l:List α}{k:Nat}{x:α}(h:l[k]? =some x) {y:α}:y∈l.take (k+1)↔y∈l.take k∨y=x:=by
 rw [dH,h,dR];simp
theorem WN (H:Dr p B E fa) {num:List (Stp×Int)}{x:Stp×Int}{st:RdS}(hx:x∈trs p E B.length) (h1:st.1.length≤100000) (h2:st.2.length≤100000):
 Ok (OL p (Au p B E tt) fa steps num st x.1 x.2) fun st'=>∃d l,st'=(st.1++ [d],st.2++ [l])∧RdI p B E num x d l:=by
 obtain ⟨n,s,m,rfl,hs,ht⟩:=(KX H.vp H.fin).1 hx;have A:=H.aut;have hm:m<B.length:=(A.st ht).2.1;have hT:=H.sy.t1;have hV:=H.vars;have hnT:nT p=(p.1.length:Int):=rfl;have hb:=bR hm;obtain ⟨es,he⟩:=H.fin.edge hb;have hel:=H.fin.edges_len H.vp hb he;have cl:=MG H.sy;obtain ⟨z,hz⟩:=H.zero;unfold OL;dsimp only;obtain ⟨s0,e0,k1,k2,k3⟩:=Dg.new_ok (nT p);refine AL e0 (AP (TZ H hm (k:=0) hz) fun b hbd=> ?_);have hbd:b=true↔It p.2.2.1 (KB B) m 0 1:=hbd;refine AP (Q:=fun (u:AX)=>OkS u∧u.1=nT p∧ ∀j,mem u j=true↔(j=0∧It p.2.2.1 (KB B) m 0 1)) (Ac (fun hc=> ?_) fun hc=>AD ⟨k1,k2.trans cl,fun j=> ?_⟩) fun u hu=> ?_
 ·obtain ⟨u,a1,a2,a3,a4⟩:=Dg.add_ok k1 0;refine AL a1 (AD ⟨a2,a3.trans (k2.trans cl),fun j=> ?_⟩);dsimp only;rw [a4,k3,Bool.false_or,decide_eq_true_eq];exact ⟨fun h=>⟨h.1,hbd.1 hc⟩,fun h=>⟨h.1,by omega,by rw [k2,cl];omega⟩⟩
 ·rw [k3];constructor
  ·intro h;cases h
  ·intro h;have:=hbd.2 h.2;rw [hc]at this;cases this
 obtain ⟨u1,u2,u3⟩:=hu;refine AL (RN H.vp H.fin hb he)<|CN (fun j (z:AX×List Int)=>OkS z.1∧z.1.1=nT p∧(∀i,mem z.1 i=true↔(mem u i=true∨ ∃e∈es.take j,e.1=i∧e.1<nT p))∧z.2.length≤j∧ ∀k,k∈z.2↔∃e∈es.take j,nT p≤e.1∧Nul p.2.2.1 e.1∧(BY ((m:Int),e.1) num).getD 0=k) (by omega)
  ⟨u1,u2,fun i=>by simp,by simp,fun k=>by simp⟩ (fun j z hj hz=> ?_) fun z hz=> ?_
 ·obtain ⟨zs,zl⟩:=z;obtain ⟨z1,z2,z3,z4,z5⟩:=hz;dsimp only at z1 z2 z3 z4 z5 ⊢;have hx:=bR hj;obtain ⟨e,hee⟩:∃e,es[j] =e:=⟨_,rfl⟩;rw [hee]at hx;obtain ⟨q,hq,htq⟩:=(Im H.fin hm he (s:=e.1) (t:=e.2)).1 (cC hx);obtain ⟨g0,g1⟩:=H.sym htq;refine AW hx (AL (HV p _) (Ac (fun hc=> ?_) fun hc=> ?_))
  ·rw [dY,decide_eq_true_eq,decide_eq_true_eq]at hc;obtain ⟨v,a1,a2,a3,a4⟩:=Dg.add_ok z1 e.1;refine AL a1 (AD ⟨a2,a3.trans z2,fun i=> ?_,by dsimp only;omega,fun k=> ?_⟩)
   ·dsimp only;rw [a4,Bool.or_eq_true,z3,decide_eq_true_eq,z2];constructor
    ·rintro ((h | ⟨e',h1,h2⟩)|h)
     ·exact .inl h
     ·exact .inr ⟨e',(BZ hx).2 (.inl h1),h2⟩
     ·exact .inr ⟨e,(BZ hx).2 (.inr rfl),h.1.symm,by omega⟩
    ·rintro (h | ⟨e',h1,h2,h3⟩)
     ·exact .inl (.inl h)
     ·rcases (BZ hx).1 h1 with h1 | rfl
      ·exact .inl (.inr ⟨e',h1,h2,h3⟩)
      ·exact .inr ⟨h2.symm,g0,h3⟩
   ·dsimp only;rw [z5];constructor
    ·rintro ⟨e',h1,h2⟩;exact ⟨e',(BZ hx).2 (.inl h1),h2⟩
    ·rintro ⟨e',h1,h2⟩;rcases (BZ hx).1 h1 with h1 | rfl
     ·exact ⟨e',h1,h2⟩
     ·omega
  ·rw [eM,decide_eq_false_iff_not,decide_eq_false_iff_not]at hc;have hge:nT p≤e.1:=by omega
   have ee:bZ .i64 (e.1 - nT p)=(((e.1 - nT p).toNat:Nat):Int):=by rw [w64 (by omega) (by omega)];omega
   have hn:=H.fa.len;have hlt:(e.1 - nT p).toNat<fa.1.length:=by omega
   have hbb:=bR hlt;have hnul:=H.fa.nul e.1 hge;rw [hbb]at hnul;rw [ee];refine AW hbb ?_;have sets:∀i,mem zs i=true↔(mem u i=true∨ ∃e∈es.take (j+1),e.1=i∧e.1<nT p):=fun i=>by
    rw [z3];constructor
    ·rintro (h | ⟨e',h1,h2⟩)
     ·exact .inl h
     ·exact .inr ⟨e',(BZ hx).2 (.inl h1),h2⟩
    ·rintro (h | ⟨e',h1,h2,h3⟩)
     ·exact .inl h
     ·rcases (BZ hx).1 h1 with h1 | rfl
      ·exact .inr ⟨e',h1,h2,h3⟩
      ·omega
   refine Ac (fun hc2=>Bk (by simp;omega) (AD ⟨z1,z2,sets,by simp;omega,fun k=> ?_⟩)) fun hc2=>AD ⟨z1,z2,sets,by dsimp only;omega,fun k=> ?_⟩
   ·dsimp only;rw [dR,z5,eW];constructor
    ·rintro (⟨e',h1,h2⟩|h)
     ·exact ⟨e',(BZ hx).2 (.inl h1),h2⟩
     ·exact ⟨e,(BZ hx).2 (.inr rfl),hge,hnul.1 (by rw [hc2]),h.symm⟩
    ·rintro ⟨e',h1,h2,h3,h4⟩;rcases (BZ hx).1 h1 with h1 | rfl
     ·exact .inl ⟨e',h1,h2,h3,h4⟩
     ·exact .inr h4.symm
   ·dsimp only;rw [z5];constructor
    ·rintro ⟨e',h1,h2⟩;exact ⟨e',(BZ hx).2 (.inl h1),h2⟩
    ·rintro ⟨e',h1,h2,h3,h4⟩;rcases (BZ hx).1 h1 with h1 | rfl
     ·exact ⟨e',h1,h2,h3,h4⟩
     ·have:=hnul.2 h3
      rw [hc2]at this;cases this
 ·obtain ⟨zs,zl⟩:=z;obtain ⟨z1,z2,z3,z4,z5⟩:=hz;dsimp only at z1 z2 z3 z4 z5 ⊢;rw [cN (cU _)]at z3 z5;refine Bk (by simp;omega) (Bk (by simp;omega) (AD ⟨zs,zl,rfl,⟨⟨z1,z2⟩,fun m' hm' j=> ?_,by omega,fun m' hm' k=> ?_⟩⟩))
  ·have:m'=m:=by dsimp only at hm';omega
   subst this;rw [z3,u3];unfold Dir;constructor
   ·rintro (h | ⟨e,h1,rfl,h3⟩)
    ·exact .inr h
    ·obtain ⟨q,_,hq⟩:=(Im H.fin hm he (s:=e.1) (t:=e.2)).1 h1;exact .inl ⟨h3,q,hq⟩
   ·rintro (⟨h1,q,hq⟩|h)
    ·exact .inr ⟨(j,(q:Int)),(Im H.fin hm he).2 ⟨q,rfl,hq⟩,rfl,h1⟩
    ·exact .inl h
  ·have:m'=m:=by dsimp only at hm';omega
   subst this;rw [z5];constructor
   ·rintro ⟨e,h1,h2,h3,h4⟩;obtain ⟨q,_,hq⟩:=(Im H.fin hm he (s:=e.1) (t:=e.2)).1 h1;exact ⟨e.1,q,hq,h2,h3,h4⟩
   ·rintro ⟨c,q,hq,h2,h3,h4⟩;exact ⟨(c,(q:Int)),(Im H.fin hm he).2 ⟨q,rfl,hq⟩,h2,h3,h4⟩
theorem XY {α:Type}{l:List α}{i:Nat}{x y:α}(h:(l++ [x])[i]? =some y):(i<l.length∧l[i]? =some y)∨(i=l.length∧y=x):=by
 rcases fA i l.length with g | g
 ·rw [dE g]at h;exact .inl ⟨g,h⟩
 ·rw [dO g]at h
  have:i - l.length=0:=by
   have:=(List.getElem?_eq_some_iff.1 h).1
   simp at this;omega
  rw [this]at h;simp at h;exact .inr ⟨by omega,h.symm⟩
theorem PY {α:Type}(l:List α) (x:α):(l++ [x])[l.length]? =some x:=by simp
theorem WO (H:Dr p B E fa) {num:List (Stp×Int)}:
 Ok (Mp p (Au p B E tt) fa steps num) fun r=>r.1.length=(trs p E B.length).length∧r.2.length=(trs p E B.length).length∧ ∀(i:Nat) x,(trs p E B.length)[i]? =some x→ ∃d l,r.1[i]? =some d∧r.2[i]? =some l∧RdI p B E num x d l:=by
 have hl:=H.lens;unfold Mp;refine TY H.vp H.fin (by have:=H.few;omega) (fun pre (r:RdS)=>r.1.length=pre.length∧r.2.length=pre.length∧ ∀(i:Nat) x,pre[i]? =some x→ ∃d l,r.1[i]? =some d∧r.2[i]? =some l∧RdI p B E num x d l) ⟨rfl,rfl,fun i x h=>by simp at h⟩ fun pre x st hpre hI=> ?_;obtain ⟨h1,h2,h3⟩:=hI;have hlen:=hpre.length_le;rw [dL,eN]at hlen;refine (WN H (hpre.mem (by simp)) (by omega) (by omega)).mono ?_;rintro _ ⟨d,l,rfl,hR⟩;refine ⟨by simp [h1],by simp [h2],fun i y hy=> ?_⟩;rcases XY hy with ⟨g,hy⟩|⟨rfl,rfl⟩
 ·obtain ⟨d',l',a1,a2,a3⟩:=h3 i y hy;exact ⟨d',l',EF a1,EF a2,a3⟩
 ·exact ⟨d,l,by rw [←h1];exact PY _ _,by rw [←h2];exact PY _ _,hR⟩
theorem ML {ll:List (List Int)}{n x y:Int}:y∈C4 ll x n↔x< (ll.length:Int)∧y∈ll[x.toNat]?.getD [] ∧0≤y∧y<n:=by
 unfold C4 Jt;split
 ·constructor
  ·intro h;cases h
  ·intro h;omega
 ·rw [List.mem_filter];constructor
  ·rintro ⟨h1,h2⟩;rw [dN,eQ,decide_eq_false_iff_not,decide_eq_false_iff_not]at h2;exact ⟨by omega,h1,by omega,by omega⟩
  ·rintro ⟨h1,h2,h3,h4⟩;refine ⟨h2,?_⟩;rw [dN,eQ,decide_eq_false_iff_not,decide_eq_false_iff_not];omega
theorem OP (H:Dr p B E fa) {num:List (Stp×Int)}(hN:Num ((trs p E B.length).map (·.1)) num) {n m:Nat}{s:Int}(hs:nT p≤s) (ht:TrB p B E n s m):∃i:Nat,(trs p E B.length)[i]? =some (((n:Int),s),(m:Int))∧BY ((n:Int),s) num=some (i:Int):=by
 obtain ⟨i,hi⟩:=dI ((KX H.vp H.fin).2 ⟨n,s,m,rfl,hs,ht⟩);exact ⟨i,hi,hN.at_ i _ (by rw [dJ,hi];rfl)⟩
theorem OQ {a:List AX}{i:Nat}{d:AX}(h:a[i]? =some d) (j:Int):mem (gv a (i:Int)) j=mem d j:=by rw [TR h]
theorem Ym (H:Dr p B E fa) {num:List (Stp×Int)}(hN:Num ((trs p E B.length).map (·.1)) num) {ds:List AX}{es:List (List Int)}(h1:ds.length=(trs p E B.length).length) (h2:es.length=(trs p E B.length).length)
 (h3:∀(i:Nat) x,(trs p E B.length)[i]? =some x→ ∃d l,ds[i]? =some d∧es[i]? =some l∧RdI p B E num x d l):
 Ok (Ho es ds) fun r=>r.length=(trs p E B.length).length∧ ∀(i:Nat) (n:Int) (s:Int) (m:Nat),(trs p E B.length)[i]? =some ((n,s),(m:Int))→ ∃d,r[i]? =some d∧(OkS d∧d.1=nT p)∧ ∀j,mem d j=true↔Rdd (nT p) p.2.2.1 (KB B) (TrB p B E) m j:=by
 have hT:=H.sy.t1;have hl:=H.lens;have hnT:nT p=(p.1.length:Int):=rfl;have A:=H.aut;obtain ⟨r,e1,e2,e3⟩:=RQ (ll:=es) (B:=ds) (wide:=nT p) (by omega) (by omega) (by omega) (fun l hl=>by
  obtain ⟨i,hi⟩:=dI hl;have hlt:=Bo hi;obtain ⟨d,l',_,g2,g3⟩:=h3 i _ (bR (by omega));rw [hi]at g2;cases g2
  have:=g3.few
  omega) (fun k s hk=>by
  have hlt:=Bo hk;obtain ⟨d,l',g1,_,g3⟩:=h3 k _ (bR (by omega));rw [hk]at g1;cases g1;exact g3.ok)
 refine ⟨r,e1,e2.trans h1,fun i n s m hi=> ?_⟩;have hlt:=Bo hi;have hr:=bR (l:=r) (i:=i) (by omega);obtain ⟨k1,k2,k3⟩:=e3 i _ hr;refine ⟨_,hr,⟨k1,k2⟩,fun j=> ?_⟩;rw [k3];constructor
 ·rintro ⟨z,hz,hj⟩;have key:∀(v z:Int),Dg.Reach es (ds.length:Int) v z→mem (gv ds z) j=true→ ∀(i:Nat) (n s:Int) (m:Nat),v=(i:Int)→(trs p E B.length)[i]? =some ((n,s),(m:Int))→Rdd (nT p) p.2.2.1 (KB B) (TrB p B E) m j:=by
   intro v z hv
   induction hv with
   |refl v=>
    intro hj i n s m hv hi;obtain ⟨d,l,g1,_,g3⟩:=h3 i _ hi;subst hv;rw [OQ g1]at hj;rcases (g3.mem m rfl j).1 hj with ⟨a1,q,a2⟩|⟨rfl,a2⟩
    ·exact .term a2 a1
    ·exact .fin a2
   | @step x y z hy _ ih=>
    intro hj i n s m hv hi;subst hv;obtain ⟨d,l,g1,g2,g3⟩:=h3 i _ hi;obtain ⟨f1,f2,f3,f4⟩:=ML.1 hy;rw [cL,g2]at f2;obtain ⟨c,q,a1,a2,a3,a4⟩:=(g3.next m rfl y).1 f2;obtain ⟨i',b1,b2⟩:=OP H hN a2 a1;rw [b2]at a4;exact .next a1 a2 a3 (ih hj i' _ _ q a4.symm b1)
  exact key _ _ hz hj i n s m rfl hi
 ·intro h;have key:∀ {m:Nat} {j:Int},Rdd (nT p) p.2.2.1 (KB B) (TrB p B E) m j→ ∀(i:Nat) (n s:Int),(trs p E B.length)[i]? =some ((n,s),(m:Int))→LC es (ds.length:Int) ds (i:Int) j:=by
   intro m j h
   induction h with
   |term a1 a2=>
    intro i n s hi;obtain ⟨d,l,g1,_,g3⟩:=h3 i _ hi;exact ⟨_,.refl _,by rw [OQ g1];exact (g3.mem _ rfl _).2 (.inl ⟨a2,_,a1⟩)⟩
   |fin a1=>
    intro i n s hi;obtain ⟨d,l,g1,_,g3⟩:=h3 i _ hi;exact ⟨_,.refl _,by rw [OQ g1];exact (g3.mem _ rfl _).2 (.inr ⟨rfl,a1⟩)⟩
   | @next m q c t a1 a2 a3 _ ih=>
    intro i n s hi;obtain ⟨d,l,g1,g2,g3⟩:=h3 i _ hi;obtain ⟨i',b1,b2⟩:=OP H hN a2 a1;refine LC.back (.step (ML.2 ⟨by have:=Bo hi;omega,?_,by omega,by have:=Bo b1;omega⟩) (.refl _)) (ih i' _ _ b1);rw [cL,g2];exact (g3.next m rfl _).2 ⟨c,q,a1,a2,a3,by rw [b2];rfl⟩
  exact key h i n s hi
end
section
variable {p:dtP}{B:List dtK}{E:List (List Edge)}{fa:dtF}{tt:Int}{steps:List Stp}{o1 o2:Option Nat}
theorem XZ (H:Dr p B E fa) {s:Int}(h:s<nT p):¬Nul p.2.2.1 s:=fun g=>by have:=g.var H.gr;omega
theorem UW {s o:AX}(H:OkS s) (K:OkS o):Ok (P7 s o) fun r=>OkS r.2:=by
 unfold P7;exact Bt ⟨H,K⟩ (AD (L3 H K).1)
theorem OR {s:AX}(H:OkS s):Ok (PL s) fun _=>True:=by
 unfold PL;rw [Jv H];exact AD trivial
theorem Yn (H:Dr p B E fa) {seq:List Int}(hs:∀s∈seq,0≤s∧s<nT p+(p.2.1.length:Int)) (hq:seq.length≤1000):Ok (DF fa p seq) fun r=>r.2=true↔∀s∈seq,Nul p.2.2.1 s:=by
 have hT:=H.sy.t1;have hV:=H.vars;have hnT:nT p=(p.1.length:Int):=rfl;have hF:=H.fa;have cl:=MG H.sy;unfold DF;obtain ⟨s0,e0,k1,k2,_⟩:=Dg.new_ok (nT p);refine AL e0<|H9 (fun k (z:AX)=>OkS z∧ ∀s∈seq.take k,Nul p.2.2.1 s) (fun b=>b.2=false∧ ¬ ∀s∈seq,Nul p.2.2.1 s) (by omega) ⟨k1,by simp⟩ (fun k z hk hz=> ?_) (fun z hz=> ?_) fun b hb=>AD ⟨fun h=>(by rw [hb.1]at h;cases h),fun h=>absurd h hb.2⟩
 ·obtain ⟨z1,z2⟩:=hz;have hsk:=bR hk;have hmem:=cZ hk;obtain ⟨b0,b1⟩:=hs _ hmem;refine AP (Q:=fun (e:AY AX (List Int×Bool))=>(∃s',e= .next s'∧OkS s'∧ ∀s∈seq.take (k+1),Nul p.2.2.1 s)∨ ∃b,e= .done b∧b.2=false∧ ¬ ∀s∈seq,Nul p.2.2.1 s) ?_ fun e he=> ?_
  ·refine AW hsk (AL (HV p seq[k]) (Ac (fun hc=> ?_) fun hc=> ?_))
   ·rw [dY,decide_eq_true_eq,decide_eq_true_eq]at hc;obtain ⟨v,a1,a2,_⟩:=Dg.add_ok z1 seq[k];refine AL a1 (AP (OR a2) fun l _=>AD (.inr ⟨_,rfl,rfl,fun h=>XZ H (by omega) (h _ hmem)⟩))
   ·rw [eM,decide_eq_false_iff_not,decide_eq_false_iff_not]at hc;have ee:bZ .i64 (seq[k] - (p.1.length:Int))=(((seq[k] - nT p).toNat:Nat):Int):=by rw [w64 (by omega) (by omega)];omega
    rw [ee];have hn:=hF.len;have hfl:=hF.flen;refine AP (Q:=fun c=>c=false) (AU (decide_eq_false (by omega)) (AD (decide_eq_false (by omega)))) fun c hc2=> ?_;subst hc2;refine AU rfl ?_;have hf:=bR (l:=fa.2.1) (i:=(seq[k] - nT p).toNat) (by omega);have hfew:=hF.few _ (cC hf);obtain ⟨o,e1,o1,_⟩:=Dg.of_ok (nT p) fa.2.1[(seq[k] - nT p).toNat] (by omega);have hb:=bR (l:=fa.1) (i:=(seq[k] - nT p).toNat) (by omega);have hnul:=hF.nul seq[k] (by omega);rw [hb]at hnul;refine AW hf (AL e1 (AP (UW z1 o1) fun u hu=>AW hb (Ac (fun hc2=>AP (OR hu) fun l _=>AD (.inr ⟨_,rfl,rfl,fun h=> ?_⟩)) fun hc2=>AD (.inl ⟨_,rfl,hu,fun s hs'=> ?_⟩))))
    ·have:=hnul.2 (h _ hmem)
     rw [dN]at hc2;rw [hc2]at this;cases this
    ·rcases (BZ hsk).1 hs' with h | rfl
     ·exact z2 s h
     ·refine hnul.1 ?_;rw [Bool.not_eq_false']at hc2;rw [hc2]
  ·rcases he with ⟨s',rfl,h1,h2⟩|⟨b,rfl,h1,h2⟩
   ·exact Cw ⟨h1,h2⟩
   ·exact CE ⟨h1,h2⟩
 ·obtain ⟨z1,z2⟩:=hz;rw [cN (cU _)]at z2;exact AP (OR z1) fun l _=>AD ⟨fun _=>z2,fun _=>rfl⟩
def Hit (p:dtP) (B:List dtK) (E:List (List Edge)) (num:List (Stp×Int)) (n k i:Nat) (kk:Nat):Prop:=
 ∃(q m':Nat) (r:BP) (c:Int),((trs p E B.length).map (·.1))[n]? =some ((q:Int),r.1)∧p.2.2.1[k]? =some r∧r.2.1[i]? =some c∧(∀s∈r.2.1.drop (i+1),Nul p.2.2.1 s)∧nT p≤c∧Pth (TrB p B E) q (r.2.1.take i) m'∧BY ((m':Int),c) num=some (kk:Int)
def Bef (n k i n' k' i':Nat):Prop:=n'<n∨(n'=n∧(k'<k∨(k'=k∧i'<i)))
structure OS (p:dtP) (B:List dtK) (E:List (List Edge)) (num:List (Stp×Int)) (n k i:Nat) (X:List (List Int)):Prop where
 len:X.length=(trs p E B.length).length
 few:∀l∈X,l.length≤(n *100+k) *100+i
 mem:∀(kk:Nat) l,X[kk]? =some l→ ∀z,z∈l↔∃n' k' i',z=((n':Nat):Int)∧Bef n k i n' k' i'∧Hit p B E num n' k' i' kk
theorem OS.same {num:List (Stp×Int)}{n k i n2 k2 i2:Nat}{X:List (List Int)}(h:OS p B E num n k i X) (hc:(n *100+k) *100+i≤(n2 *100+k2) *100+i2) (hb:∀n' k' i' kk,Hit p B E num n' k' i' kk→(Bef n k i n' k' i'↔Bef n2 k2 i2 n' k' i')):OS p B E num n2 k2 i2 X:=
 ⟨h.len,fun l hl=>eI (h.few l hl) hc,fun kk l hl z=>by
  rw [h.mem kk l hl z];constructor
  ·rintro ⟨n',k',i',h1,h2,h3⟩;exact ⟨n',k',i',h1,(hb _ _ _ _ h3).1 h2,h3⟩
  ·rintro ⟨n',k',i',h1,h2,h3⟩;exact ⟨n',k',i',h1,(hb _ _ _ _ h3).2 h2,h3⟩⟩
theorem KY (H:Dr p B E fa) {n:Nat}(hn:n< (trs p E B.length).length):∃(q m:Nat) (s:Int),(trs p E B.length)[n]? =some (((q:Int),s),(m:Int))∧((trs p E B.length).map (·.1))[n]? =some ((q:Int),s)∧nT p≤s∧TrB p B E q s m:=by
 obtain ⟨q,s,m,h1,h2,h3⟩:=(KX H.vp H.fin).1 (cZ hn);exact ⟨q,m,s,by rw [bR hn,h1],by rw [dJ,bR hn,h1];rfl,h2,h3⟩
theorem ZJ (H:Dr p B E fa) {n m:Nat}{s:Int}(h:TrB p B E n s m):BM (Au p B E tt) (n:Int) s=some (m:Int):=by
 obtain ⟨b,e,hb,he,hg⟩:=h;obtain ⟨x,h1,h2⟩:=Vv (t:=tt) H.vp H.fin hb he s;rw [h1,JH.unique H.fin h2 hg]
theorem IK {n k i n' k' i':Nat}:Bef n k (i+1) n' k' i'↔Bef n k i n' k' i'∨(n'=n∧k'=k∧i'=i):=by
 unfold Bef;omega
set_option maxHeartbeats 1000000 in
theorem Xa (H:Dr p B E fa) {num:List (Stp×Int)}(hN:Num ((trs p E B.length).map (·.1)) num) {n k:Nat}{q:Nat}{r:BP}{m:Nat}(hs:((trs p E B.length).map (·.1))[n]? =some ((q:Int),r.1)) (hr:p.2.2.1[k]? =some r) (ht:TrB p B E q r.1 m)
 {i:Nat} {c:Int} (hc:r.2.1[i]? =some c) {m':Nat} (hp:Pth (TrB p B E) q (r.2.1.take i) m') {X:List (List Int)} (hX:OS p B E num n k i X) (hn:n≤7200):
 Ok (V9 p (Au p B E tt) fa num (n:Int) r.2.1 (i:Int) ((m':Int),X)) fun z=>∃m2:Nat,z.1=(m2:Int)∧Pth (TrB p B E) q (r.2.1.take (i+1)) m2∧OS p B E num n k (i+1) z.2:=by
 have A:=H.aut;have hi:=Bo hc;have hmem:=cC hr;have hk:=Bo hr;have hkf:=H.vp.few;have hsh:=H.vp.short r hmem;obtain ⟨hk0,hit⟩:=A.starts H.gr hr ht;have hq:SB B q:=(A.st ht).1;have hm':=A.part H.gr hq hr hit (l:=r.2.1.take i) (l':=r.2.1.drop i) (eO _ _).symm hp;rw [eD,Nat.min_eq_left (by omega)]at hm';obtain ⟨m2,g1,g2⟩:=A.step H.gr (A.at0 hq hp) hm' hr hc;unfold V9;have e1:((i:Int)+1).toNat=i+1:=by omega
 rw [e1];refine AW hc (Bt ⟨by omega,by omega⟩ (AP (Yn H (seq:=r.2.1.drop (i+1)) (fun s hs=>H.sy.right r hmem s (List.mem_of_mem_drop hs)) (by simp;omega)) fun sq hsq=> ?_));refine AP (Q:=fun b=>b=true↔(∀s∈r.2.1.drop (i+1),Nul p.2.2.1 s)∧nT p≤c) (Ac (fun h=>AL (HV p c) (AD ?_)) fun h=>AD ?_) fun b hb=> ?_
 ·have h0:=(H.sy.right r hmem c (cC hc)).1;rw [decide_eq_true h0,Bool.true_and,dN,decide_eq_false_iff_not];exact ⟨fun g=>⟨hsq.1 h,Int.not_lt.1 g⟩,fun g=>Int.not_lt.2 g.2⟩
 ·constructor
  ·intro g;cases g
  ·intro g;rw [hsq.2 g.1]at h;cases h
 have next:Pth (TrB p B E) q (r.2.1.take (i+1)) m2:=by
  rw [dH,hc];exact Pth.app.2 ⟨m',hp,m2,g1,rfl⟩
 refine AP (Q:=fun X'=>OS p B E num n k (i+1) X') (Ac (fun h=> ?_) fun h=>AD ?_) fun X' hX'=> ?_
 ·obtain ⟨ha,hc0⟩:=hb.1 h;obtain ⟨kk,b1,b2⟩:=OP H hN hc0 g1;rw [b2];have hkk:kk<X.length:=by rw [hX.len];exact Bo b1
  have hrow:=bR hkk;have hrf:=hX.few _ (cZ hkk);refine AW (i:=kk) hrow (Bk (by simp;omega) ?_);show Ok (EM X ((kk:Nat):Int) (X[kk] ++ [(n:Int)])) _;rw [HS (by omega) (by omega),cL];refine AD ⟨by simp [hX.len],fun l hl=> ?_,fun k3 l hl z=> ?_⟩
  ·rcases List.mem_or_eq_of_mem_set hl with h | rfl
   ·have:=hX.few l h;omega
   ·rw [dL,eN];omega
  ·have hit1:Hit p B E num n k i kk:=⟨q,m',r,c,hs,hr,hc,ha,hc0,hp,b2⟩;rw [fB]at hl;split at hl
   ·rename_i e
    subst e;try rw [if_pos hkk]at hl
    cases hl;rw [dR,hX.mem kk _ hrow,eW];constructor
    ·rintro (⟨n',k',i',h1,h2,h3⟩|rfl)
     ·exact ⟨n',k',i',h1,IK.2 (.inl h2),h3⟩
     ·exact ⟨n,k,i,rfl,IK.2 (.inr ⟨rfl,rfl,rfl⟩),hit1⟩
    ·rintro ⟨n',k',i',h1,h2,h3⟩;rcases IK.1 h2 with h2 | ⟨rfl,rfl,rfl⟩
     ·exact .inl ⟨n',k',i',h1,h2,h3⟩
     ·exact .inr h1
   ·rename_i e
    rw [hX.mem k3 l hl];constructor
    ·rintro ⟨n',k',i',h1,h2,h3⟩;exact ⟨n',k',i',h1,IK.2 (.inl h2),h3⟩
    ·rintro ⟨n',k',i',h1,h2,h3⟩;rcases IK.1 h2 with h2 | ⟨rfl,rfl,rfl⟩
     ·exact ⟨n',k',i',h1,h2,h3⟩
     ·exfalso;obtain ⟨q2,m3,r2,c2,j1,j2,j3,_,_,j6,j7⟩:=h3;rw [hr]at j2;cases j2;rw [hc]at j3;cases j3;rw [hs]at j1;have hqq:q=q2:=by have:=(Prod.mk.inj (Option.some.inj j1)).1;omega
      subst hqq
      have:=Pth.fn A hp j6
      subst this;rw [b2]at j7
      have:=Option.some.inj j7
      omega
 ·refine hX.same (by omega) fun n' k' i' kk hh=> ?_;rw [IK];constructor
  ·exact fun g=>.inl g
  ·rintro (g | ⟨rfl,rfl,rfl⟩)
   ·exact g
   ·exfalso;obtain ⟨q2,m3,r2,c2,j1,j2,j3,j4,j5,_,_⟩:=hh;rw [hr]at j2;cases j2;rw [hc]at j3;cases j3
    have:=hb.2 ⟨j4,j5⟩
    rw [h]at this;cases this
 ·refine AL (ZJ H g1) (AD ⟨m2,rfl,next,hX'⟩)
set_option maxHeartbeats 1000000 in
theorem Rb (H:Dr p B E fa) {num:List (Stp×Int)}(hN:Num ((trs p E B.length).map (·.1)) num):
 Ok (Gj p (Au p B E tt) fa ((trs p E B.length).map (·.1)) num) fun X=>OS p B E num (trs p E B.length).length 0 0 X:=by
 have hl:=H.lens;have A:=H.aut;have hkf:=H.vp.few;unfold Gj;rw [cV];refine AL (x:=eR (trs p E B.length).length []) (by unfold Fp;rw [if_pos ⟨by omega,by omega⟩,cL])<|CR (n:=(trs p E B.length).length) (fun n X=>OS p B E num n 0 0 X) (by omega) ⟨by simp,fun l hl=>by rw [(List.mem_replicate.1 hl).2];simp,fun kk l hl z=> ?_⟩ fun n X hn hX=> ?_
 ·rw [eF]at hl;split at hl
  ·cases hl;constructor
   ·intro h;cases h
   ·rintro ⟨n',k',i',_,h2,_⟩;unfold Bef at h2;omega
  ·cases hl
 obtain ⟨q,m,s,h1,h2,h3,h4⟩:=KY H hn;refine AW h2 ?_;obtain ⟨X',e1,e2⟩:=CR (f:=fun k X=>(idx p.2.2.1 k).bind fun r=>cond (r.1 !=s) (some X) ((forS (σ:=Int×List (List Int)) 0 (r.2.1.length:Int) ((q:Int),X) (V9 p (Au p B E tt) fa num (n:Int) r.2.1)).bind fun z=>some z.2)) (n:=p.2.2.1.length) (fun k X=>OS p B E num n k 0 X) (by omega) (s:=X) hX fun k X hk hX=>by
  have hr:=bR hk;obtain ⟨r,hre⟩:∃r,p.2.2.1[k] =r:=⟨_,rfl⟩;rw [hre]at hr;have hsh:=H.vp.short r (cC hr);refine AW hr (Ac (fun hc=>AD ?_) fun hc=> ?_)
  ·refine hX.same (by omega) fun n' k' i' kk hh=> ?_;constructor
   ·unfold Bef;omega
   ·intro g;by_cases e:n'=n∧k'=k
    ·obtain ⟨rfl,rfl⟩:=e;exfalso;obtain ⟨q2,m3,r2,c2,j1,j2,_⟩:=hh;rw [hr]at j2;cases j2;rw [h2]at j1
     have:=(Prod.mk.inj (Option.some.inj j1)).2
     rw [this]at hc;simp at hc
    ·unfold Bef at g ⊢;omega
  ·have hsr:r.1=s:=by simpa using hc
   subst hsr;refine CN (fun i (z:Int×List (List Int))=>∃m':Nat,z.1=(m':Int)∧Pth (TrB p B E) q (r.2.1.take i) m'∧OS p B E num n k i z.2) (by omega) ⟨q,rfl,by rw [List.take_zero];rfl,hX⟩ (fun i z hi hz=> ?_) fun z hz=> ?_
   ·obtain ⟨z1,z2⟩:=z;obtain ⟨m',rfl,g1,g2⟩:=hz;exact Xa H hN h2 hr h4 (bR hi) g1 g2 (by omega)
   ·obtain ⟨m',_,_,g2⟩:=hz;refine AD (g2.same (by omega) fun n' k' i' kk hh=> ?_);constructor
    ·unfold Bef;omega
    ·intro g;by_cases e:n'=n∧k'=k
     ·obtain ⟨rfl,rfl⟩:=e;obtain ⟨q2,m3,r2,c2,_,j2,j3,_⟩:=hh;rw [hr]at j2;cases j2
      have:=Bo j3
      unfold Bef;omega
     ·unfold Bef at g ⊢;omega
 refine ⟨X',e1,e2.same (by omega) fun n' k' i' kk hh=> ?_⟩;obtain ⟨q2,m3,r2,c2,_,j2,_⟩:=hh
 have:=Bo j2
 unfold Bef;omega
theorem Yo (H:Dr p B E fa) {num:List (Stp×Int)}(hN:Num ((trs p E B.length).map (·.1)) num) {inc:List (List Int)}(hI:OS p B E num (trs p E B.length).length 0 0 inc) {f1:List AX}(h1:f1.length=(trs p E B.length).length)
 (h3:∀(i:Nat) (n:Int) (s:Int) (m:Nat),(trs p E B.length)[i]? =some ((n,s),(m:Int))→ ∃d,f1[i]? =some d∧(OkS d∧d.1=nT p)∧ ∀j,mem d j=true↔Rdd (nT p) p.2.2.1 (KB B) (TrB p B E) m j):
 Ok (Ho inc f1) fun r=>r.length=(trs p E B.length).length∧ ∀(i:Nat) (n:Nat) (s:Int) (m:Nat),(trs p E B.length)[i]? =some (((n:Int),s),(m:Int))→ ∃d,r[i]? =some d∧(OkS d∧d.1=nT p)∧ ∀j,mem d j=true↔Fol (nT p) p.2.2.1 (KB B) (TrB p B E) n s j:=by
 have hT:=H.sy.t1;have hl:=H.lens;have hnT:nT p=(p.1.length:Int):=rfl;have A:=H.aut;obtain ⟨r,e1,e2,e3⟩:=RQ (ll:=inc) (B:=f1) (wide:=nT p) (by omega) (by omega) (by omega) (fun l hl=>by have:=hI.few l hl;omega) (fun k s hk=>by
  obtain ⟨q,m,s',g1,_⟩:=KY H (n:=k) (by have:=Bo hk;omega);obtain ⟨d,g2,g3,_⟩:=h3 k _ _ _ g1;rw [hk]at g2;cases g2;exact g3)
 refine ⟨r,e1,e2.trans h1,fun i n s m hi=> ?_⟩;have hlt:=Bo hi;have hr:=bR (l:=r) (i:=i) (by omega);obtain ⟨k1,k2,k3⟩:=e3 i _ hr;refine ⟨_,hr,⟨k1,k2⟩,fun j=> ?_⟩;rw [k3];have tr:∀ {i n m:Nat} {s:Int},(trs p E B.length)[i]? =some (((n:Int),s),(m:Int))→nT p≤s∧TrB p B E n s m:=fun {i n m s} h=>by
  obtain ⟨n',s',m',g1,g2,g3⟩:=(KX H.vp H.fin).1 (cC h);have a1:=(Prod.mk.inj (Prod.mk.inj g1).1).1;have a2:=(Prod.mk.inj (Prod.mk.inj g1).1).2;have a3:=(Prod.mk.inj g1).2
  have:n=n':=by omega
  subst this
  have:m=m':=by omega
  subst this;subst a2;exact ⟨g2,g3⟩
 constructor
 ·rintro ⟨z,hz,hj⟩;have key:∀(v z:Int),Dg.Reach inc (f1.length:Int) v z→mem (gv f1 z) j=true→ ∀(i n:Nat) (s:Int) (m:Nat),v=(i:Int)→(trs p E B.length)[i]? =some (((n:Int),s),(m:Int))→Fol (nT p) p.2.2.1 (KB B) (TrB p B E) n s j:=by
   intro v z hv
   induction hv with
   |refl v=>
    intro hj i n s m hv hi;subst hv;obtain ⟨d,g1,_,g3⟩:=h3 i _ _ _ hi;rw [OQ g1]at hj;exact .read (tr hi).2 ((g3 j).1 hj)
   | @step x y z hy _ ih=>
    intro hj i n s m hv hi;subst hv;obtain ⟨w1,w2,w3,w4⟩:=ML.1 hy;have hil:i<inc.length:=by omega
    have hrow:=bR hil;rw [cL,hrow]at w2;obtain ⟨n',k',i',rfl,_,q,m',r,c,j1,j2,j3,j4,j5,j6,j7⟩:=(hI.mem i _ hrow y).1 w2;have hn':n'< (trs p E B.length).length:=by have:=Bo j1;rwa [cV]at this
    obtain ⟨q2,m2,s2,a1,a2,a3,a4⟩:=KY H hn';rw [j1]at a2;have b1:=(Prod.mk.inj (Option.some.inj a2)).1;have b2:=(Prod.mk.inj (Option.some.inj a2)).2
    have:q=q2:=by omega
    subst this;subst b2;obtain ⟨hk0,hit⟩:=A.starts H.gr j2 a4;have hq:SB B q:=(A.st a4).1;have hpt:=A.part H.gr hq j2 hit (l:=r.2.1.take i') (l':=r.2.1.drop i') (eO _ _).symm j6;rw [eD,Nat.min_eq_left (by have:=Bo j3;omega)]at hpt;obtain ⟨mm,c1,c2⟩:=A.step H.gr (A.at0 hq j6) hpt j2 j3;obtain ⟨kk,d1,d2⟩:=OP H hN j5 c1;rw [j7]at d2
    have:kk=i:=by have:=Option.some.inj d2;omega
    subst this;rw [hi]at d1;have d1:=Option.some.inj d1;have e1:=(Prod.mk.inj (Prod.mk.inj d1).1).1;have e2:=(Prod.mk.inj (Prod.mk.inj d1).1).2;have e1:n=m':=by omega
    subst e1;subst e2;exact .incl (tr hi).2 j2 (IF j3) j4 hit j6 (ih hj n' q r.1 m2 rfl a1)
  exact key _ _ hz hj i n s m rfl hi
 ·intro h;have key:∀ {n:Nat} {s j:Int},Fol (nT p) p.2.2.1 (KB B) (TrB p B E) n s j→ ∀(i m:Nat),(trs p E B.length)[i]? =some (((n:Int),s),(m:Int))→LC inc (f1.length:Int) f1 (i:Int) j:=by
   intro n s j h
   induction h with
   |read a1 a2=>
    intro i m hi
    have:=A.fn a1 (tr hi).2
    subst this;obtain ⟨d,g1,_,g3⟩:=h3 i _ _ _ hi;exact ⟨_,.refl _,by rw [OQ g1];exact (g3 _).2 a2⟩
   | @incl n m0 q k a t r b g a1 a2 a3 a4 a5 a6 a7 ih=>
    intro i m hi;obtain ⟨m2,a8⟩:=a7.tr;have hL:nT p≤r.1:=(H.sy.left r (cC a2)).1;obtain ⟨i',b1,b2⟩:=OP H hN hL a8;refine LC.back (.step (ML.2 ⟨by have:=Bo hi;have:=hI.len;omega,?_,by omega,by have:=Bo b1;omega⟩) (.refl _)) (ih i' m2 b1);have hil:i<inc.length:=by have:=Bo hi;have:=hI.len;omega
    have hrow:=bR hil;rw [cL,hrow];refine (hI.mem i _ hrow _).2 ⟨i',k,b.length,rfl,.inl (Bo b1),q,n,r,a,by rw [dJ,b1];rfl,a2,by rw [a3];simp,fun s hs=>a4 s ?_,(tr hi).1,by rw [a3];simpa using a6,?_⟩
    ·rw [a3]at hs;have e:(b++a::g).drop (b.length+1)=g:=by simp
     rwa [e]at hs
    ·exact hN.at_ i _ (by rw [dJ,hi];rfl)
  exact key h i m hi
end
section
variable {p:dtP}{B:List dtK}{E:List (List Edge)}{fa:dtF}{tt:Int}{steps:List Stp}{o1 o2:Option Nat}
theorem WP (H:Fin p B E) {l:List Int}{n m:Nat}(hn:n<B.length) (h:Pth (TrB p B E) n l m):Walk p.2.2.1 B E (n:Int) l (m:Int):=(Vy H hn).2 h
theorem Xb (H:Dr p B E fa) {n m:Nat}{l:List Int}(hn:n<B.length) (hl:l.length≤1000000) (h:Pth (TrB p B E) n l m):B8 (Au p B E tt) (n:Int) l=some (m:Int):=by
 obtain ⟨x,h1,h2,_⟩:=XF (t:=tt) H.vp H.fin hn hl;rw [h1,Walk.unique H.fin h2 (WP H.fin hn h)]
def Oy (p:dtP) (B:List dtK) (E:List (List Edge)) (n k:Nat) (key:At) (q:Nat) (r:BP):Prop:=
 ((trs p E B.length).map (·.1))[n]? =some ((q:Int),r.1)∧p.2.2.1[k]? =some r∧ ∃w:Nat,Pth (TrB p B E) q r.2.1 w∧key=((w:Int),(k:Int))
structure GiI (p:dtP) (B:List dtK) (E:List (List Edge)) (n k:Nat) (L:LkL):Prop where
 some_:∀key d,BY key L=some d→(OkS d∧d.1=nT p)∧(∃n' k' q r,Bef n k 0 n' k' 0∧Oy p B E n' k' key q r)∧ ∀j,mem d j=true↔∃n' k' q r,Bef n k 0 n' k' 0∧Oy p B E n' k' key q r∧Fol (nT p) p.2.2.1 (KB B) (TrB p B E) q r.1 j
 none_:∀key,BY key L=none→ ∀n' k' q r,Bef n k 0 n' k' 0→ ¬Oy p B E n' k' key q r
theorem FF {n k n' k':Nat}:Bef n (k+1) 0 n' k' 0↔Bef n k 0 n' k' 0∨(n'=n∧k'=k):=by
 unfold Bef;omega
theorem GiI.same {n k n2 k2:Nat}{L:LkL}(h:GiI p B E n k L) (hb:∀n' k' key q r,Oy p B E n' k' key q r→(Bef n k 0 n' k' 0↔Bef n2 k2 0 n' k' 0)):GiI p B E n2 k2 L:=by
 refine ⟨fun key d hk=> ?_,fun key hk n' k' q r hb' hg=>h.none_ key hk n' k' q r ((hb _ _ _ _ _ hg).2 hb') hg⟩;obtain ⟨h1,⟨n',k',q,r,h2,h3⟩,h4⟩:=h.some_ key d hk;refine ⟨h1,⟨n',k',q,r,(hb _ _ _ _ _ h3).1 h2,h3⟩,fun j=> ?_⟩;rw [h4];constructor
 ·rintro ⟨n',k',q,r,a,b,c⟩;exact ⟨n',k',q,r,(hb _ _ _ _ _ b).1 a,b,c⟩
 ·rintro ⟨n',k',q,r,a,b,c⟩;exact ⟨n',k',q,r,(hb _ _ _ _ _ b).2 a,b,c⟩
theorem WQ (H:Dr p B E fa) {fo:List AX}(hf:∀(i:Nat) (n:Nat) (s:Int) (m:Nat),(trs p E B.length)[i]? =some (((n:Int),s),(m:Int))→ ∃d,fo[i]? =some d∧(OkS d∧d.1=nT p)∧ ∀j,mem d j=true↔Fol (nT p) p.2.2.1 (KB B) (TrB p B E) n s j)
 {n k q m:Nat} {s:Int} (hn:(trs p E B.length)[n]? =some (((q:Int),s),(m:Int))) (ht:TrB p B E q s m) (hk:k<p.2.2.1.length) {L:LkL} (hL:GiI p B E n k L):
 Ok (RY p (Au p B E tt) fo (n:Int) ((q:Int),s) (k:Int) L) (GiI p B E n (k+1)):=by
 have A:=H.aut;have hT:=H.sy.t1;have hnT:nT p=(p.1.length:Int):=rfl;have cl:=MG H.sy;have hr:=bR hk;obtain ⟨r,hre⟩:∃r,p.2.2.1[k] =r:=⟨_,rfl⟩;rw [hre]at hr;have hst:((trs p E B.length).map (·.1))[n]? =some ((q:Int),s):=by rw [dJ,hn];rfl
 unfold RY;refine AW hr (Ac (fun hc=>AD ?_) fun hc=> ?_)
 ·refine hL.same fun n' k' key q' r' hg=> ?_;rw [FF];constructor
  ·exact fun g=>.inl g
  ·rintro (g | ⟨rfl,rfl⟩)
   ·exact g
   ·exfalso;obtain ⟨j1,j2,_⟩:=hg;rw [hr]at j2;cases j2;rw [hst]at j1
    have:=(Prod.mk.inj (Option.some.inj j1)).2
    dsimp only at hc;rw [this]at hc;simp at hc
 ·have hsr:r.1=s:=by simpa using hc
  subst hsr;obtain ⟨hk0,hit⟩:=A.starts H.gr hr ht;have hq:SB B q:=(A.st ht).1;obtain ⟨w,hw,_⟩:=A.along H.gr hr hq hit (l:=r.2.1) rfl;have hsh:=H.sy.short r (cC hr);refine AL (Xb H hq (by omega) hw) ?_;obtain ⟨o,ho,⟨o1,o2⟩,o3⟩:=hf n q r.1 m hn;have hget:Oy p B E n k ((w:Int),(k:Int)) q r:=⟨hst,hr,w,hw,rfl⟩;have uniq:∀key q' r',Oy p B E n k key q' r'→key=((w:Int),(k:Int))∧q'=q∧r'=r:=fun key q' r' hg=>by
   obtain ⟨j1,j2,w',j3,j4⟩:=hg;rw [hr]at j2;cases j2;rw [hst]at j1;have hqq:q=q':=by have:=(Prod.mk.inj (Option.some.inj j1)).1;omega
   subst hqq
   have:=Pth.fn A hw j3
   subst this;exact ⟨j4,rfl,rfl⟩
  refine AP (Q:=fun L'=>∃d,BY ((w:Int),(k:Int)) L'=some d∧(OkS d∧d.1=nT p)∧(∀j,mem d j=true↔∃n' k' q' r',Bef n k 0 n' k' 0∧Oy p B E n' k' ((w:Int),(k:Int)) q' r'∧Fol (nT p) p.2.2.1 (KB B) (TrB p B E) q' r'.1 j)∧ ∀key,key≠((w:Int),(k:Int))→BY key L'=BY key L) ?_ fun L' hL'=> ?_
  ·cases hg:BY ((w:Int),(k:Int)) L with
   |none=>
    obtain ⟨s0,e0,k1,k2,k3⟩:=Dg.new_ok (nT p);refine Bd rfl (AL e0 (AD ⟨s0,by rw [C7,if_pos rfl],⟨k1,k2.trans cl⟩,fun j=> ?_,fun key hne=>by rw [C7,if_neg hne]⟩));rw [k3];constructor
    ·intro h;cases h
    ·rintro ⟨n',k',q',r',a,b,_⟩;exact absurd b (hL.none_ _ hg n' k' q' r' a)
   |some d=>
    obtain ⟨a1,a2,a3⟩:=hL.some_ _ d hg;exact AU rfl (AD ⟨d,hg,a1,a3,fun _ _=>rfl⟩)
  ·obtain ⟨d,b1,⟨b2,b3⟩,b4,b5⟩:=hL';refine AW ho (AL b1 (Bt ⟨b2,o1⟩ (AD ?_)));obtain ⟨u1,u2,u3⟩:=L3 b2 o1;refine ⟨fun key dd hkey=> ?_,fun key hkey n' k' q' r' hb hg=> ?_⟩
   ·rw [C7]at hkey;by_cases he:key=((w:Int),(k:Int))
    ·subst he;rw [if_pos rfl]at hkey;cases hkey;refine ⟨⟨u1,u2.trans b3⟩,⟨n,k,q,r,FF.2 (.inr ⟨rfl,rfl⟩),hget⟩,fun j=> ?_⟩;rw [u3,Bool.or_eq_true,dY,b4,o3,b3];constructor
     ·rintro (⟨n',k',q',r',a,b,c⟩|⟨h,_⟩)
      ·exact ⟨n',k',q',r',FF.2 (.inl a),b,c⟩
      ·exact ⟨n,k,q,r,FF.2 (.inr ⟨rfl,rfl⟩),hget,h⟩
     ·rintro ⟨n',k',q',r',a,b,c⟩;rcases FF.1 a with a | ⟨rfl,rfl⟩
      ·exact .inl ⟨n',k',q',r',a,b,c⟩
      ·obtain ⟨_,e2,e3⟩:=uniq _ _ _ b;subst e2 e3;refine .inr ⟨c,decide_eq_true ?_⟩
       have:=Mc o1 ((o3 j).2 c)
       omega
    ·rw [if_neg he,b5 key he]at hkey;obtain ⟨a1,⟨n',k',q',r',a2,a3⟩,a4⟩:=hL.some_ key dd hkey;refine ⟨a1,⟨n',k',q',r',FF.2 (.inl a2),a3⟩,fun j=> ?_⟩;rw [a4];constructor
     ·rintro ⟨n',k',q',r',a,b,c⟩;exact ⟨n',k',q',r',FF.2 (.inl a),b,c⟩
     ·rintro ⟨n',k',q',r',a,b,c⟩;rcases FF.1 a with a | ⟨rfl,rfl⟩
      ·exact ⟨n',k',q',r',a,b,c⟩
      ·exact absurd (uniq _ _ _ b).1 he
   ·rw [C7]at hkey;by_cases he:key=((w:Int),(k:Int))
    ·rw [if_pos he]at hkey;cases hkey
    ·rw [if_neg he,b5 key he]at hkey;rcases FF.1 hb with hb | ⟨rfl,rfl⟩
     ·exact hL.none_ key hkey n' k' q' r' hb hg
     ·exact he (uniq _ _ _ hg).1
structure Yp (p:dtP) (B:List dtK) (E:List (List Edge)) (L:LkL):Prop where
 some_:∀key d,BY key L=some d→OkS d∧d.1=nT p∧ ∃s k:Nat,key=((s:Int),(k:Int))∧s<B.length∧k<p.2.2.1.length∧ ∀j,mem d j=true↔Lk (nT p) p.2.2.1 (KB B) (TrB p B E) s k j
 none_:∀(s k:Nat) j,BY ((s:Int),(k:Int)) L=none→k<p.2.2.1.length→ ¬Lk (nT p) p.2.2.1 (KB B) (TrB p B E) s k j
theorem Xc (H:Dr p B E fa) {fo:List AX}(hf:∀(i:Nat) (n:Nat) (s:Int) (m:Nat),(trs p E B.length)[i]? =some (((n:Int),s),(m:Int))→ ∃d,fo[i]? =some d∧(OkS d∧d.1=nT p)∧ ∀j,mem d j=true↔Fol (nT p) p.2.2.1 (KB B) (TrB p B E) n s j):
 Ok (PV p (Au p B E tt) fa ((trs p E B.length).map (·.1)) fo) (Yp p B E):=by
 have hl:=H.lens;have A:=H.aut;have hkf:=H.sy.few;have hBf:=H.few;have hT:=H.sy.t1;have hnT:nT p=(p.1.length:Int):=rfl;have cl:=MG H.sy;obtain ⟨z0,hz0⟩:=H.zero;unfold PV;rw [cV];refine CN (fun n L=>GiI p B E n 0 L) (by omega) ⟨(fun key d h=>by cases h),fun key _ n' k' q r hb=>(by unfold Bef at hb;omega)⟩ (fun n L hn hL=> ?_) fun L hL=> ?_
 ·obtain ⟨q,m,s,h1,h2,h3,h4⟩:=KY H hn;refine AW h2 ?_;obtain ⟨L',e1,e2⟩:=CR (f:=fun k L=>RY p (Au p B E tt) fo (n:Int) ((q:Int),s) k L) (n:=p.2.2.1.length) (fun k L=>GiI p B E n k L) (by omega) (s:=L) hL fun k L hk hL=>WQ H hf h1 h4 hk hL;refine ⟨L',e1,e2.same fun n' k' key q r hg=> ?_⟩
  have:=Bo hg.2.1
  unfold Bef;omega
 ·refine AL (LR H.fin) ?_;have conv:∀(w k:Nat) j,0<k→((∃n' k' q r,Bef (trs p E B.length).length 0 0 n' k' 0∧Oy p B E n' k' ((w:Int),(k:Int)) q r∧Fol (nT p) p.2.2.1 (KB B) (TrB p B E) q r.1 j)↔Lk (nT p) p.2.2.1 (KB B) (TrB p B E) w k j):=fun w k j hk=>by
   constructor
   ·rintro ⟨n',k',q,r,_,⟨j1,j2,w',j3,j4⟩,h⟩;have e1:w=w':=by have:=(Prod.mk.inj j4).1;omega
    have e2:k=k':=by have:=(Prod.mk.inj j4).2;omega
    subst e1 e2;obtain ⟨m,hm⟩:=h.tr;exact .inr ⟨hk,q,m,r,j2,hm,j3,h⟩
   ·rintro (⟨e,_⟩|⟨_,q,m,r,j1,j2,j3,j4⟩)
    ·omega
    ·have hL:nT p≤r.1:=(H.sy.left r (cC j1)).1;obtain ⟨i,hi⟩:=dI ((KX H.vp H.fin).2 ⟨q,r.1,m,rfl,hL,j2⟩);exact ⟨i,k,q,r,.inl (Bo hi),⟨by rw [dJ,hi];rfl,j1,w,j3,rfl⟩,j4⟩
  have pos:∀ {n' k':Nat} {key:At} {q:Nat} {r:BP},Oy p B E n' k' key q r→0<k':=fun {n' k' key q r} hg=>by
   obtain ⟨j1,j2,_⟩:=hg;have hn':n'< (trs p E B.length).length:=by have:=Bo j1;rwa [cV]at this
   obtain ⟨q2,m2,s2,a1,a2,a3,a4⟩:=KY H hn';rw [j1]at a2;have b1:=(Prod.mk.inj (Option.some.inj a2)).1;have b2:=(Prod.mk.inj (Option.some.inj a2)).2
   have:q=q2:=by omega
   subst this;subst b2;exact (A.starts H.gr j2 a4).1
  refine CR (n:=B.length) (fun i (L':LkL)=>(∀(w k:Nat),0<k→BY ((w:Int),(k:Int)) L'=BY ((w:Int),(k:Int)) L)∧(∀key d,BY key L'=some d→OkS d∧d.1=nT p∧ ∃s k:Nat,key=((s:Int),(k:Int))∧s<B.length∧k<p.2.2.1.length)∧
   (∀w:Nat,(∀d,BY ((w:Int),(0:Int)) L'=some d→(w<i∧It p.2.2.1 (KB B) w 0 1)∧ ∀j,mem d j=true↔j=0)∧(BY ((w:Int),(0:Int)) L'=none→w<i→ ¬It p.2.2.1 (KB B) w 0 1))) (by omega) (s:=L) ⟨fun _ _ _=>rfl,fun key d hk=> ?_,fun w=>⟨fun d hd=> ?_,fun _ h=>by omega⟩⟩ (fun i L' hi hL'=> ?_) |>.elim fun L' hL'=>⟨L',hL'.1,?_⟩
  ·obtain ⟨⟨a1,a2⟩,⟨n',k',q,r,_,hg⟩,_⟩:=hL.some_ key d hk;obtain ⟨j1,j2,w,j3,j4⟩:=hg;have hn':n'< (trs p E B.length).length:=by have:=Bo j1;rwa [cV]at this
   obtain ⟨q2,m2,s2,b1,b2,b3,b4⟩:=KY H hn';rw [j1]at b2;have c1:=(Prod.mk.inj (Option.some.inj b2)).1
   have:q=q2:=by omega
   subst this;exact ⟨a1,a2,w,k',j4,A.at0 (A.st b4).1 j3,Bo j2⟩
  ·obtain ⟨_,⟨n',k',q,r,_,hg⟩,_⟩:=hL.some_ _ d hd;have h0:=pos hg;obtain ⟨_,_,w',_,j4⟩:=hg
   have:=(Prod.mk.inj j4).2
   omega
  ·obtain ⟨i1,i2,i3⟩:=hL';refine AP (TZ (tt:=tt) (steps:=(trs p E B.length).map (·.1)) (o1:=none) (o2:=none) H hi (k:=0) hz0) fun b hb=> ?_;have hb:b=true↔It p.2.2.1 (KB B) i 0 1:=hb;refine Ac (fun hc=> ?_) fun hc=>AD ⟨i1,i2,fun w=>⟨fun d hd=>⟨⟨by have:=((i3 w).1 d hd).1.1;omega,((i3 w).1 d hd).1.2⟩,((i3 w).1 d hd).2⟩,fun hn hw hit=> ?_⟩⟩
   ·obtain ⟨o,e,a1,a2,a3⟩:=Dg.of_ok (nT p) [0] (by simp);refine AL e (AD ⟨fun w k hk=> ?_,fun key d hd=> ?_,fun w=>⟨fun d hd=> ?_,fun hn hw=> ?_⟩⟩)
    ·rw [C7,if_neg (fun e=>by have:=(Prod.mk.inj e).2;omega)];exact i1 w k hk
    ·rw [C7]at hd;split at hd
     ·rename_i he
      cases hd;exact ⟨a1,a2.trans cl,i,0,he,hi,Bo hz0⟩
     ·exact i2 key d hd
    ·rw [C7]at hd;split at hd
     ·rename_i he
      cases hd
      have:w=i:=by have:=(Prod.mk.inj he).1;omega
      subst this;refine ⟨⟨by omega,hb.1 hc⟩,fun j=> ?_⟩;rw [a3,cl,dY,decide_eq_true_eq];constructor
      ·rintro ⟨_,h⟩;simpa using h
      ·rintro rfl;exact ⟨by omega,by simp⟩
     ·obtain ⟨⟨g1,g2⟩,g3⟩:=(i3 w).1 d hd;exact ⟨⟨by omega,g2⟩,g3⟩
    ·rw [C7]at hn;split at hn
     ·cases hn
     ·rename_i he
      have:w≠i:=fun e=>he (by rw [e])
      exact (i3 w).2 hn (by omega)
   ·by_cases e:w=i
    ·subst e
     have:=hb.2 hit
     rw [hc]at this;cases this
    ·exact (i3 w).2 hn (by omega) hit
  ·obtain ⟨_,i1,i2,i3⟩:=hL';refine ⟨fun key d hd=> ?_,fun s k j hn hk=> ?_⟩
   ·obtain ⟨a1,a2,s,k,rfl,a3,a4⟩:=i2 key d hd;refine ⟨a1,a2,s,k,rfl,a3,a4,fun j=> ?_⟩;rcases eB k with rfl | hk
    ·obtain ⟨⟨_,g2⟩,g3⟩:=(i3 s).1 d hd;rw [g3];constructor
     ·rintro rfl;exact .inl ⟨rfl,rfl,g2⟩
     ·exact XG
    ·rw [i1 s k hk]at hd;rw [((hL.some_ _ d hd).2.2 j),conv s k j hk]
   ·rcases eB k with rfl | hk0
    ·rintro (⟨_,_,h⟩|⟨h,_⟩)
     ·have hs:s<B.length:=by
       rcases fA s B.length with g | g
       ·exact g
       ·exfalso
        have:KB B s= []:=by unfold KB;rw [List.getElem?_eq_none g]
        unfold It at h;rw [this]at h;have key:∀x,Cl p.2.2.1 [] x→False:=fun x hx=>by
         induction hx with
         |base h=>cases h
         |step _ _ _ ih=>exact ih
        exact key _ h
      exact (i3 s).2 hn hs h
     ·omega
    ·rw [i1 s k hk0]at hn;intro h;obtain ⟨n',k',q,r,b1,b2,_⟩:=(conv s k j hk0).2 h
     exact hL.none_ _ hn n' k' q r b1 b2
theorem Ta {p:dtP}{B:List dtK}{E:List (List Edge)}{tt:Int}(H:∀fa,V4 p fa→Dr p B E fa) (S:Sy p):Ok (TX p (Au p B E tt)) fun r=>∃d,r=some d∧d.p=p∧d.A=Au p B E tt∧V4 p d.fa∧Yp p B E d.L:=by
 unfold TX;refine AP (V5 S) fun fa hfa=> ?_;have H:=H fa hfa;have hl:=H.lens;have hBf:=H.few;refine AP (WM (tt:=tt) H.vp H.fin (by omega) (by omega)) fun st hst=> ?_;obtain ⟨st1,num⟩:=st;obtain ⟨rfl,hN⟩:=hst;dsimp only at hN ⊢;refine AP (WO (tt:=tt) H) fun rd hrd=> ?_;obtain ⟨r1,r2,r3⟩:=hrd;refine AP (Rb (tt:=tt) H hN) fun inc hinc=>AP (Ym H hN r1 r2 r3) fun f1 hf1=>AP (Yo H hN hinc hf1.1 hf1.2) fun f2 hf2=>AP (Xc (tt:=tt) H hf2.2) fun L hL=>AD ⟨_,rfl,rfl,rfl,hfa,hL⟩
end
end Go.Proofs.YteolcjbobmpdiaaGreatDoor
namespace Go.Proofs.YteolcjbobmpdiaaGreatDoor
open Go Go.Eng
set_option linter.unusedVariables false
set_option maxRecDepth 100000
section
variable {φ:AE}{h:AH}{F:List Chk}
theorem Tb {φ:AE}{S S':List Slc}{E:List (List Edge)}{B B':List dtK}{c i:Nat}(hS:S.length=B.length) (hE:E.length=B.length) (H:Dq φ S E c) (hf:IE S E i) (h:(B'=B∧S'=S)∨ ∃x,B'=B++ [x] ∧S'=S++ [DM]):
 S'.length=B'.length∧(F8 E B.length B'.length).length=B'.length∧Dq φ S' (F8 E B.length B'.length) c∧IE S' (F8 E B.length B'.length) i∧(∀(j:Nat) s,S[j]? =some s→S'[j]? =some s)∧(∀(j:Nat) e,E[j]? =some e→(F8 E B.length B'.length)[j]? =some e)∧ ∀(j:Nat) b,B[j]? =some b→B'[j]? =some b:=by
 rcases h with ⟨rfl,rfl⟩|⟨x,rfl,rfl⟩
 ·unfold F8;rw [if_pos rfl];exact ⟨hS,hE,H,hf,fun _ _ h=>h,fun _ _ h=>h,fun _ _ h=>h⟩
 ·unfold F8;rw [if_neg (by simp)];have ap:∀ {α:Type} {l:List α} {x y:α} {j:Nat},l[j]? =some y→(l++ [x])[j]? =some y:=fun {α l x y j} h=>by
   rw [dE (List.getElem?_eq_some_iff.1 h).1];exact h
  exact ⟨by simp [hS],by simp [hE],H.snoc (by omega),hf.snoc,fun _ _ h=>ap h,fun _ _ h=>ap h,fun _ _ h=>ap h⟩
theorem WR {S:List Slc}{E:List (List Edge)}{i:Nat}(H:IE S E i) (h1:i<S.length) (h2:i<E.length):S[i]? =some DM∧E[i]? =some []:=by
 have a:=bR h1;have b:=bR h2;exact ⟨by rw [a,(H i (cU _)).1 _ a],by rw [b,(H i (cU _)).2 _ b]⟩
theorem IE.mono {S:List Slc}{E:List (List Edge)}{i i':Nat}(H:IE S E i) (h:i≤i'):IE S E i':=fun j hj=>H j (eI h hj)
theorem Yq {φ:AE}{S:List Slc}{E:List (List Edge)}{i:Nat}{s:Slc}{e:List Edge}(H:Dq φ S E i) (hf:IE S E (i+1)):Dq φ (S.set i s) (E.set i e) i∧IE (S.set i s) (E.set i e) (i+1):=by
 refine ⟨fun j s' e' hj h1 h2=> ?_,fun j hj=>⟨fun s' h=> ?_,fun e' h=> ?_⟩⟩
 ·rw [dZ (by omega)]at h1 h2;exact H j s' e' hj h1 h2
 ·rw [dZ (by omega)]at h;exact (hf j hj).1 s' h
 ·rw [dZ (by omega)]at h;exact (hf j hj).2 e' h
theorem Yr {φ:AE}{S:List Slc}{E:List (List Edge)}{i:Nat}{s:Slc}{e:List Edge}(H:Dq φ S E i) (hs:S[i]? =some s) (he:E[i]? =some e) (k:Ro.SliceIs LF φ s e):Dq φ S E (i+1):=by
 intro j s' e' hj h1 h2;by_cases hji:j=i
 ·subst hji;rw [hs]at h1;rw [he]at h2;cases h1;cases h2;exact k
 ·exact H j s' e' hji h1 h2
theorem St.to9' {e a0 a1 a2 a3 a4 a5 a6 a7 a8:Chk}(H:St φ (e::a4::a0::a1::a2::a3::a5::a6::a7::a8::F) h):St φ (a0::a1::a2::a3::a4::a5::a6::a7::a8::e::F) h:=
 H.at9.at9.at9.at9.at5.at9.at9.at9.at9
def X6 (φ:AE) (c3 c4 c5 c6 m a r1 r2:Nat) (p:A9) (G:List Chk) (i:Nat) (y:BSt) (w:AH):Prop:= ∃(ψ:AE) (ls:Slc) (S:List Slc),Sub φ ψ∧S.length=y.2.1.length∧y.2.2.1.length=y.2.1.length∧Dq ψ S y.2.2.1 i∧IE S y.2.2.1 i∧St ψ (bC c3 c4 c5 c6 m a r1 r2 y.1 p ls 0 (Ek y.2.1 S) y.2.2.2.1 y.2.2.2.2 G) w
def ZK (φ:AE) (c3 c4 c5 c6 m a r1 r2:Nat) (p:A9) (G:List Chk) (i:Nat) (b:dtK) (y:BSt) (w:AH):Prop:= ∃(ψ:AE) (ls:Slc) (S:List Slc) (s:Slc) (e:List Edge),Sub φ ψ∧S.length=y.2.1.length∧y.2.2.1.length=y.2.1.length∧Dq ψ S y.2.2.1 i∧IE S y.2.2.1 (i+1)∧S[i]? =some s∧y.2.2.1[i]? =some e∧y.2.1[i]? =some b∧St ψ (bC c3 c4 c5 c6 m a r1 r2 y.1 p ls 0 (Ek y.2.1 S) y.2.2.2.1 y.2.2.2.2 (cR 73 LF s e::G)) w
set_option maxHeartbeats 4000000 in
theorem UX {p_0:Slc×Slc×Slc×Slc×Slc×Slc×Unit}{d0:List ByteArray}{d1:List ByteArray}{d2:List BP}{d3:List Int}{d4:List Int}{d5:List ByteArray}{st it:Int}
 (gk:Glob φ) (k0:Ro.SliceIs cF φ p_0.1 d0) (k1:Ro.SliceIs cF φ p_0.2.1 d1) (k2:Ro.SliceIs B4 φ p_0.2.2.1 d2) (k3:Ro.SliceIs (bW .i64) φ p_0.2.2.2.1 d3) (k4:Ro.SliceIs (bW .i64) φ p_0.2.2.2.2.1 d4) (k5:Ro.SliceIs cF φ p_0.2.2.2.2.2.1 d5) (s0:St φ F h) {r:Option DQ×Int} (hd:J2 (d0,d1,d2,d3,d4,d5) st it=some r):
 CallsH bU 68 [(.agg #[.slice p_0.1.1 p_0.1.2.1 p_0.1.2.2,.slice p_0.2.1.1 p_0.2.1.2.1 p_0.2.1.2.2,.slice p_0.2.2.1.1 p_0.2.2.1.2.1 p_0.2.2.1.2.2,.slice p_0.2.2.2.1.1 p_0.2.2.2.1.2.1 p_0.2.2.2.1.2.2,.slice p_0.2.2.2.2.1.1 p_0.2.2.2.2.1.2.1 p_0.2.2.2.2.1.2.2,.slice p_0.2.2.2.2.2.1.1 p_0.2.2.2.2.2.1.2.1 p_0.2.2.2.2.2.1.2.2]),.int .i64 st,.int .i64 it] h (Ap fun v h'=>∃ψ:AE,∃y:Option Addr×Int×Unit,∃l1:Option DQ,Sub φ ψ∧v=((.tuple [.atom .pointer,.atom (.int .i64)]):Sh).val y∧(l1,y.2.1)=r∧Np Fq ψ y.1 l1∧St ψ F h'):=by
 refine AR mixed Tryz.func68 ?_;rw [MY];unfold Jf;unfold J2 at hd;obtain ⟨rm,hrm,hd1⟩:=bS hd;clear hd;obtain ⟨cl,hcl,hd2⟩:=bS hd1;clear hd1;obtain ⟨ra,hra,hd⟩:=bS hd2;clear hd2;refine AT (vs:=[sv p_0.1,sv p_0.2.1,sv p_0.2.2.1,sv p_0.2.2.2.1,sv p_0.2.2.2.2.1,sv p_0.2.2.2.2.2.1]) s0 fun b1 h1 s1=>AA (x:=p_0.1) s1 rfl<|AA (x:=p_0.2.1) s1 rfl<|AA (x:=p_0.2.2.1) s1 rfl<|AA (x:=p_0.2.2.2.1) s1 rfl<|AA (x:=p_0.2.2.2.2.1) s1 rfl<|AA (x:=p_0.2.2.2.2.2.1) s1 rfl<|AT (vs:=[sv p_0.1,sv p_0.2.1,sv p_0.2.2.1,sv p_0.2.2.2.1,sv p_0.2.2.2.2.1,sv p_0.2.2.2.2.2.1,.slice none 0 0,.int .i64 (0:Int)]) s1 fun a h2 s2=>AT (vs:=[.pointer none]) s2 fun c4 h3 s3=>AK s3 rfl rfl fun h4 s4=>AJ (Kw s4 hrm) ?_;rintro _ h5 ⟨ψ1,y10,_,le1,rfl,rfl,s5⟩;refine ⟨y10,rfl,?_⟩;refine AJ (Kw s5 hcl) ?_;rintro _ h6 ⟨ψ2,y11,_,le2,rfl,rfl,s6⟩;refine ⟨y11,rfl,?_⟩;obtain ⟨r2,vs2,rfl,q2,s6⟩:=eS s6;have s6:=(fC s6 q2).at1;obtain ⟨r1,vs1,rfl,q1,s6⟩:=eS s6;have s6:=(fC s6 q1).at1;refine AT (vs:=[.pointer none]) s6 fun c5 h7 s7=>AT (vs:=[.pointer none]) s7 fun c6 h8 s8=>AK s8.at1 rfl rfl fun h9 s9=>AK s9.at1 rfl rfl fun h10 s10=>Db kyS (bW .i64) s10 fun m h11 s11=>AT (vs:=[.map none]) s11 fun c3 h12 s12=>AK s12 rfl rfl fun h13 s13=>AT (vs:=[.int .i64 (0:Int),.int .i64 (0:Int)]) s13 fun k16 h14 s14=> ?_;have s15:=eP (r:=C6) (l:=[((0:Int),(0:Int))]) (n:=1) s14 (.cons (a:=[_,_]) ⟨[_],_,rfl,rfl,rfl⟩ .nil) rfl (by decide);obtain ⟨ψ3,le3,kk,s16⟩:=cD (t:=(some ⟨k16,0,none⟩,1,1)) s15;have le13:=(le1.trans le2).trans le3;have s17:=fC (r:=Ca) (x:=qA (d0,d1,d2,d3,d4,d5) DM 0) s16.at7 ⟨[_],_,rfl,⟨_,rfl,k0.mono le13⟩,[_],_,rfl,⟨_,rfl,k1.mono le13⟩,[_],_,rfl,⟨_,rfl,k2.mono le13⟩,[_],_,rfl,⟨_,rfl,k3.mono le13⟩,[_],_,rfl,⟨_,rfl,k4.mono le13⟩,[_],_,rfl,⟨_,rfl,k5.mono le13⟩,[_],_,rfl,rfl,rfl⟩;have s18:=(s17.nil 150 roB).at6.at5.at7.at7.at4.at5.at8.at8.at8;refine AJ (TI (B:=[]) (S:=[]) (ls:=DM) (gk.mono le13) kk rfl s18 hra) ?_;rintro _ h15 ⟨ψ4,y17,ls0,S0,le4,rfl,e1,e2,hG0,s19⟩;refine ⟨y17,rfl,?_⟩;have le14:=le13.trans le4;refine AI hd (by rw [e2]) (fun _ hd=> ?_) (fun _ hd=> ?_)
 ·obtain rfl:=iS hd;exact AB ⟨ψ4,(none,y17.2.1,()),none,le14,rfl,by rw [e2],rfl,(St.tail9 s19).tail⟩
 obtain ⟨g,hg,hd⟩:=bS hd;refine Av (fun (z:Int×Int×Option Addr×Unit) w (g:AY BSt Int)=>∃y i,g=cY y∧y.2.1.length≤i∧X6 φ c3 c4 c5 c6 m a r1 r2 (d0,d1,d2,d3,d4,d5) (cW 32 b1 [sv p_0.1,sv p_0.2.1,sv p_0.2.2.1,sv p_0.2.2.2.1,sv p_0.2.2.2.2.1,sv p_0.2.2.2.2.2.1]::F) i y w) (g:=g) ?_ ?_
 ·unfold NN at hg;refine Ez hg (fun (z:Int×Int×Option Addr×Unit) w (x:Int×BSt)=>z.1=x.1∧0≤x.1∧X6 φ c3 c4 c5 c6 m a r1 r2 (d0,d1,d2,d3,d4,d5) (cW 32 b1 [sv p_0.1,sv p_0.2.1,sv p_0.2.2.1,sv p_0.2.2.2.1,sv p_0.2.2.2.2.1,sv p_0.2.2.2.2.2.1]::F) x.1.toNat x.2 w) ((0:Int),(0:Int),none,()) rfl ⟨rfl,Int.le_refl _,?_⟩ ?_
  ·obtain ⟨g1,g2,g3,g4,_⟩:=Tb (E:=[]) (c:=0) (i:=0) (φ:=ψ4) (S:=[]) (B:=[]) rfl rfl (fun j s e _ h _=>by simp at h) (fun j _=>⟨fun s h=>by simp at h,fun e h=>by simp at h⟩) hG0;exact ⟨ψ4,ls0,S0,le14,g1,g2,g3,g4,s19⟩
  rintro ⟨i,z2,z3,_⟩ w ⟨_,fd,B,E,rm',cl'⟩ eo ⟨rfl,hi0,ψ,ls,S,le,hS,hE,hok,hfr,s⟩ hd' hbo;dsimp only at hi0 hS hE hok hfr s hd' ⊢;have nL:=St.rowLen s.at4;have nM:=St.rowMax s.at4;rw [EX hS]at nL nM;refine AA (x:=some ⟨a,0,none⟩) s.at2 rfl<|AG _ rfl<|MW ls (SW s)<|AI hd' (by rw [nL]) (fun hlt hd'=> ?_) (fun hge hd'=> ?_)
  ·have hlt:=of_decide_eq_true hlt;obtain ⟨b,hb,hd1⟩:=bS hd';clear hd';obtain ⟨es,hes,hd'⟩:=bS hd1;clear hd1;refine AA (x:=some ⟨a,0,none⟩) s.at2 rfl<|AG _ rfl<|MW ls (SW s) ?_;obtain ⟨f1,f2⟩:=WR hfr (by omega) (by omega);obtain ⟨a26,cs26,ea26,hi26,q26,cl26⟩:=St.get s.at4 (N8 hb f1);refine AG _ ea26 (Ab hi26 ?_);obtain ⟨_,_,rfl,⟨t0,rfl,q0⟩,_,_,rfl,⟨t1,rfl,q1⟩,_,_,rfl,rfl,_,_,rfl,rfl,rfl⟩:=q26;refine AF (x:=t1) (by rw [AV];exact cl26 1 _ rfl) rfl<|AA (x:=some ⟨a,0,none⟩) s.at2 rfl ?_;unfold P9 at hes;obtain ⟨syms,hsy,hes1⟩:=bS hes;clear hes;have hes:=hes1;clear hes1;refine AJ (IC q1 s.at3 (by rw [RG];exact hsy)) ?_;rintro _ w2 ⟨ψ5,y29,_,le5,rfl,rfl,k29,s20⟩;refine ⟨y29,rfl,?_⟩;have n29:=k29.length;have s20:=(St.back3 s20);have s21:=St.to9 (s20.nil 73 LF);refine Av (fun (z:Int×Int×Option Addr×Unit) w (g:AY BSt Int)=>∃y,g=cY y∧ZK ψ5 c3 c4 c5 c6 m a r1 r2 (d0,d1,d2,d3,d4,d5) (cW 32 b1 [sv p_0.1,sv p_0.2.1,sv p_0.2.2.1,sv p_0.2.2.2.1,sv p_0.2.2.2.2.1,sv p_0.2.2.2.2.2.1]::F) i.toNat b y w) (g:=es) ?_ ?_
   ·refine Nc hes (fun j (z:Int×Int×Option Addr×Unit) w (y:BSt)=>z.1=j∧ZK ψ5 c3 c4 c5 c6 m a r1 r2 (d0,d1,d2,d3,d4,d5) (cW 32 b1 [sv p_0.1,sv p_0.2.1,sv p_0.2.2.1,sv p_0.2.2.2.1,sv p_0.2.2.2.2.1,sv p_0.2.2.2.2.2.1]::F) i.toNat b y w) ((0:Int),z2,z3,()) rfl ⟨rfl,ψ5,ls,S,DM,[],bT _,hS,hE,hok.mono le5,hfr.mono (by omega),f1,f2,(Ci hb).2.2,s21⟩ ?_ ?_
    ·rintro _ ⟨j,u2,u3,_⟩ w3 ⟨fd3,B3,E3,rm3,cl3⟩ e3 ⟨rfl,ψ6,ls3,S3,s_,e_,le6,hS3,hE3,hok3,hfr3,hs3,he3,hb3,s22⟩ hd3 hj1 hj2 hw hbi;dsimp only at hS3 hE3 hok3 hfr3 he3 hb3 s22 hd3 hj1 hj2 hw ⊢;refine Aj (by rw [n29];exact decide_eq_true hj2) ?_;obtain ⟨sym,hsym,hd31⟩:=bS hd3;clear hd3;unfold TJ at hd31;obtain ⟨kn,hkn,hd32⟩:=bS hd31;clear hd31;obtain ⟨r3,hr3,hd3⟩:=bS hd32;clear hd32;dsimp only at hd3 hr3;obtain ⟨a32,cs32,ea32,hi32,q32,cl32⟩:=(k29.mono le6).get hsym;refine AG _ ea32 (Ab hi32 ?_);obtain rfl:=q32;refine AF (x:=sym) (AC s22.sub (cl32 0 _ rfl)) rfl<|AA (x:=some ⟨a,0,none⟩) s22.at2 rfl<|AJ (Jy (q1.mono (le5.trans le6)) s22.at3 (by rw [Ve];exact hkn)) ?_;rintro _ w4 ⟨ψ7,y35,_,le7,rfl,rfl,k35,s23⟩;refine ⟨y35,rfl,?_⟩;refine AJ (TI (gk.mono (((le.trans le5).trans le6).trans le7)) k35 hS3 (St.back3 s23) hr3) ?_;rintro _ w5 ⟨ψ8,y36,ls4,S4,le8,rfl,e31,e32,hG,s24⟩;refine ⟨y36,rfl,?_⟩;refine AI hd3 (by rw [e32]) (fun _ hd3=> ?_) (fun _ hd3=> ?_)
     ·obtain rfl:=iS hd3;obtain rfl:=hbi _ rfl;obtain rfl:=iS hd';obtain rfl:=hbo _ rfl;obtain rfl:=iS hd;exact Ak (Ai (Ak (Ai (AB ⟨ψ8,(none,y36.2.1,()),none,((((le.trans le5).trans le6).trans le7).trans le8),rfl,by rw [e32],rfl,(St.tail9 s24).tail.tail⟩))))
     obtain ⟨el,hel,hd34⟩:=bS hd3;clear hd3;obtain ⟨el',hel',hd35⟩:=bS hd34;clear hd34;obtain ⟨E',hE',hd3⟩:=bS hd35;clear hd35;obtain rfl:=iS hd3;obtain ⟨g1,g2,g3,g4,g5,g6,g7⟩:=Tb hS3 hE3 ((hok3.mono le7).mono le8) hfr3 hG;have hs4:=g5 _ _ hs3;have he4:=g6 _ _ he3;have hb4:=g7 _ _ hb3;obtain ⟨_,hlE,helx⟩:=Ci hel;rw [he4]at helx;obtain rfl:=Option.some.inj helx;rw [←e31]at hel';have hbi4:idx r3.2.2.2.1 i=some b:=by unfold idx;rw [if_pos hi0];exact hb4
     refine AA (x:=some ⟨a,0,none⟩) s24.at2 rfl<|AG _ rfl<|MW ls4 (SW s24)<|AA (x:=some ⟨a,0,none⟩) s24.at2 rfl<|AG _ rfl<|MW ls4 (SW s24) ?_;obtain ⟨a43,cs43,ea43,hi43,q43,cl43⟩:=St.get s24.at4 (N8 hbi4 hs4);refine AG _ ea43 (Ab hi43 ?_);obtain ⟨_,_,rfl,⟨v0,rfl,p0⟩,_,_,rfl,⟨v1,rfl,p1⟩,_,_,rfl,rfl,_,_,rfl,rfl,rfl⟩:=q43;refine AF (x:=s_) (by rw [AV];exact cl43 2 _ rfl) rfl<|Jd (vs:=[.int .i64 sym,.int .i64 y36.1]) s24 fun r45 w6 keep s25=>AM (keep _ _ (by rw [AV];exact cl43 2 _ rfl))<|AM (SW s25.tail)<|AM (cJ s25.tail.at2 rfl)<|AM (SW s25.tail)<|AM (cJ s25.tail.at2 rfl)<|Ah (r:=LF) (ms:=[(sym,y36.1)]) ZB s25.tail.at9 rfl (dP s25) (.cons (a:=[_,_]) ⟨[_],_,rfl,rfl,rfl⟩ .nil) rfl hel' fun s46 w7 s26=>AM (SW s26.tail)<|AM (cJ s26.tail.at2 rfl)<|AG _ ea43 (Ab hi43 ?_);have hset:EM (Ek r3.2.2.2.1 S4) i (MC b s46)=some (Ek r3.2.2.2.1 (S4.set i.toNat s46)):=by
      unfold EM;rw [if_pos ⟨hi0,by rw [EX g1];omega⟩,Vf _ hb4]
     refine Pw (j:=2) s26.at5 (N8 hbi4 hs4) hset (fun cs hq=> ?_) rfl rfl ea43 (AV _ _ _) fun w8 s27=> ?_
     ·obtain ⟨_,_,rfl,⟨x0,rfl,o0⟩,_,_,rfl,⟨x1,rfl,o1⟩,_,_,rfl,rfl,_,_,rfl,rfl,rfl⟩:=hq;exact ⟨[_],_,rfl,⟨x0,rfl,o0⟩,[_],_,rfl,⟨x1,rfl,o1⟩,[_],_,rfl,rfl,[_],_,rfl,rfl,rfl⟩
     obtain ⟨_,_,rfl⟩:=EA hE';obtain ⟨w1,w2⟩:=Yq (s:=s46) (e:=el') g3 g4;have s28:=St.to9' s27.at1;exact Ag ((bZ .i64 (j+(1:Int))),u2,u3,()) _ rfl rfl ⟨hw,ψ8,ls4,S4.set i.toNat s46,s46,el',(le6.trans le7).trans le8,by rw [List.length_set];exact g1,by rw [List.length_set];exact g2,w1,w2,by rw [eJ (by omega)],by rw [eJ (by omega)],hb4,s28⟩
    ·rintro _ ⟨j,u2,u3,_⟩ w3 y3 ⟨rfl,hI⟩ hge hr3;refine Aa (by rw [n29];exact decide_eq_false (Int.not_lt.2 hge))<|AO (AQ (j,u2,u3,()) rfl ⟨y3,hr3,hI⟩)
   rintro ⟨z1,u2,u3,_⟩ w3 ⟨⟨fd3,B3,E3,rm3,cl3⟩,rfl,ψ6,ls3,S3,s_,e_,le6,hS3,hE3,hok3,hfr3,hs3,he3,hb3,s22⟩;dsimp only at hS3 hE3 hok3 hfr3 he3 hb3 s22;obtain rfl:=iS hd';obtain ⟨ψ7,le7,kE,s23⟩:=cD s22.at9;have hw:bZ .i64 (i+1)=i+1:=w64 (by omega) (by unfold maxLen at nM;omega);have hi1:(i+1).toNat=i.toNat+1:=by omega
   refine Ag ((bZ .i64 (i+(1:Int))),u2,u3,()) _ rfl rfl ⟨rfl,by rw [hw];omega,ψ7,ls3,S3,((le.trans le5).trans le6).trans le7,hS3,hE3,?_,?_,s23⟩
   ·rw [hw,hi1];exact Yr (hok3.mono le7) hs3 he3 kE
   ·rw [hw,hi1];exact hfr3
  ·have hge:=of_decide_eq_false hge;obtain rfl:=iS hd';obtain rfl:=hbo _ rfl;exact AO (AQ (i,z2,z3,()) rfl ⟨_,i.toNat,rfl,by dsimp only;omega,ψ,ls,S,le,hS,hE,hok,hfr,s⟩)
 rintro ⟨z1,z2,z3,_⟩ w ⟨⟨fd,B,E,rm',cl'⟩,i,rfl,hi,ψ,ls,S,le,hS,hE,hok,hfr,s⟩;dsimp only at hd hi hS hE hok hfr s;obtain ⟨tot,ht,hd⟩:=bS hd;obtain rfl:=iS hd;refine AA (x:=some ⟨a,0,none⟩) s.at2 rfl<|AA (x:=some ⟨r2,0,none⟩) s.at7 rfl<|AJ (Jp s.at8 ht) ?_;rintro _ w1 ⟨ψ5,y50,le5,rfl,rfl,s20⟩;refine ⟨y50,rfl,?_⟩;refine AM (cJ s20.at3 rfl)<|AG _ rfl ?_;obtain ⟨b,vs,e,⟨_,_,rfl,⟨u0,rfl,kk0⟩,_,_,rfl,⟨u1,rfl,kk1⟩,_,_,rfl,⟨u2,rfl,kk2⟩,_,_,rfl,⟨u3,rfl,kk3⟩,_,_,rfl,⟨u4,rfl,kk4⟩,_,_,rfl,⟨u5,rfl,kk5⟩,_,_,rfl,rfl,rfl⟩,s21⟩:=eS s20.at4;obtain rfl:a=b:=by simpa using e
 refine AK s21 rfl rfl fun w2 s22=>AA (x:=some ⟨a,0,none⟩) s22.at4 rfl ?_;obtain ⟨ψ6,le6,kR,s23⟩:=cD s22.at5;have kS:=UK hS hE (fun j s e h1 h2=>(hok j s e (by have:=(List.getElem?_eq_some_iff.1 h1).1;omega) h1 h2).mono (le5.trans le6)) kR;have s24:=fC (r:=Fq) (x:=(d0,d1,d2,d3,d4,d5,Ek B E,y50)) s23 ⟨[_],_,rfl,⟨u0,rfl,kk0.mono le6⟩,[_],_,rfl,⟨u1,rfl,kk1.mono le6⟩,[_],_,rfl,⟨u2,rfl,kk2.mono le6⟩,[_],_,rfl,⟨u3,rfl,kk3.mono le6⟩,[_],_,rfl,⟨u4,rfl,kk4.mono le6⟩,[_],_,rfl,⟨u5,rfl,kk5.mono le6⟩,[_],_,rfl,⟨ls,rfl,kS⟩,rfl⟩;obtain ⟨ψ7,le7,kP,s25⟩:=St.freezeR (LE _) s24;exact AB ⟨ψ7,(some ⟨a,0,none⟩,(0:Int),()),some _,(((le.trans le5).trans le6).trans le7),rfl,rfl,kP,s25.tail.tail.tail.tail.tail.tail.tail.tail⟩
end
noncomputable def DV (small_0:Int×Int×Slc×Slc×Slc×Slc×Slc×Unit):T:=aD #[(.int .u8 small_0.1),(.int .u8 small_0.2.1),(sv small_0.2.2.1),(sv small_0.2.2.2.1),(sv small_0.2.2.2.2.1),(sv small_0.2.2.2.2.2.1),(sv small_0.2.2.2.2.2.2.1)] 25 fun r1=>bY 36 [] (.one aB) fun (t2:Bool)=>aE r1 0 fun t3=>aE r1 1 fun t4=>aA r1 2 fun t5=>aA r1 3 fun t6=>aA r1 4 fun t7=>aA r1 5 fun t8=>aA r1 6 fun t9=>bY 14 [(.agg #[(.int .u8 t3),(.int .u8 t4),(sv t5),(sv t6),(sv t7),(sv t8),(sv t9)]),(.int .i64 12),(.int .i64 5)] (.one aB) fun (t10:Bool)=>cond (!t10) (cI (.bool t2)) (aE r1 0 fun t11=>aE r1 1 fun t12=>aA r1 2 fun t13=>aA r1 3 fun t14=>aA r1 4 fun t15=>aA r1 5 fun t16=>aA r1 6 fun t17=>bY 39 [(.agg #[(.int .u8 t11),(.int .u8 t12),(sv t13),(sv t14),(sv t15),(sv t16),(sv t17)])] (.tuple [(.agg [.slice,.slice,.slice,.slice,.slice,.slice]),aP,aP,aP,aB]) fun (t18:(Pl6)×(Option Addr)×(Option Addr)×(Option Addr)×Bool×Unit)=>aD #[(.slice none 0 0),(.slice none 0 0),(.slice none 0 0),(.slice none 0 0),(.slice none 0 0),(.slice none 0 0)] 32 fun r19=>aF r19 0 t18.1.1<|aF r19 1 t18.1.2.1<|aF r19 2 t18.1.2.2.1<|aF r19 3 t18.1.2.2.2.1<|aF r19 4 t18.1.2.2.2.2.1<|aF r19 5 t18.1.2.2.2.2.2.1<|cond (!t18.2.2.2.2.1) (cI (.bool t2)) (bY 40 [(.pointer t18.2.2.2.1)] (.one aS) fun (t20:Slc)=>cS 0 [aI,aI,aB] (dK [aI,aI,aB] [(.int .i64 0),(.int .i64 0),(.bool false)] fun (z22:Int×Int×Bool×Unit)=>bY 20 [(.pointer t18.2.1)] (.one aI) fun (t23:Int)=>cond (decide (z22.1<t23)) (bY 22 [(.pointer t18.2.2.1),(.int .i64 z22.1)] (.one aS) fun (t24:Slc)=>cS 2 [aI,aI,aB] (dK [aI,aI,aB] [(.int .i64 0),(.int .i64 z22.2.1),(.bool z22.2.2.1)] fun (z26:Int×Int×Bool×Unit)=>aA r19 0 fun t27=>cond (decide (z26.1< (t27.2.1:Int))) (cS 3 [aI,aB] (cS 4 [aI,aS] (dK [aI,aS] [(.int .i64 0),(.slice none 0 0)] fun (z30:Int×Slc×Unit)=>cond (decide (z30.1< (t24.2.1:Int))) (deref t24.1 fun a31=>chk (0≤z30.1∧z30.1< (t24.2.1:Nat))<|aJ a31 z30.1 1 fun t32=>bY 24 [(.pointer t18.2.2.1),(.int .i64 z22.1),(.int .i64 t32)] (.one aS) fun (t33:Slc)=>bY 31 [(sv t33),(.int .i64 z26.1)] (.one aB) fun (t34:Bool)=>cQ [aS] (cond t34 (deref t24.1 fun a36=>chk (0≤z30.1∧z30.1< (t24.2.1:Nat))<|aJ a36 z30.1 1 fun t37=>aD #[(.int .i64 t37)] 3 fun r38=>eG (cK #[30,30] 30 #[(sv z30.2.1),(.slice (some ⟨r38,0,none⟩) 1 1)]) (.one aS) fun (t39:Slc)=>bV [(sv t39)]) (bV [(sv z30.2.1)])) fun (z35:Slc×Unit)=>bV [(.int .i64 (wN z30.1)),(sv z35.1)]) (dM 4 [(.int .i64 z30.1),(sv z30.2.1)])) fun (z29:Int×Slc×Unit)=>bY 41 [(.pointer t18.2.1),(.int .i64 z22.1),(.int .i64 z26.1)] (.one aI) fun (t40:Int)=>bY 42 [(.pointer t18.2.2.2.1),(.int .i64 z22.1),(.int .i64 z26.1)] (.one (.agg [(.int .i64),(.int .i64)])) fun (t41:Int×Int×Unit)=>aD #[(.int .i64 0),(.int .i64 0)] 77 fun r42=>aT r42 0 t41.1<|aT r42 1 t41.2.1<|cQ [aB] (aR r42 0 fun t44=>cond (t44==(1:Int)) (aR r42 1 fun t45=>cond (t45==t40) (cond (decide (t40≥ 0)) (bV [(.bool true)]) (aR r42 0 fun t46=>cond (t46==(2:Int)) (aR r42 1 fun t47=>bY 31 [(sv z29.2.1),(.int .i64 t47)] (.one aB) fun (t48:Bool)=>cond t48 (aR r42 1 fun t49=>cond (decide (t49>(0:Int))) (bV [(.bool true)]) (aR r42 0 fun t50=>cond (t50==(3:Int)) (bY 31 [(sv z29.2.1),(.int .i64 0)] (.one aB) fun (t51:Bool)=>bV [(.bool t51)]) (bV [(.bool false)]))) (aR r42 0 fun t52=>cond (t52==(3:Int)) (bY 31 [(sv z29.2.1),(.int .i64 0)] (.one aB) fun (t53:Bool)=>bV [(.bool t53)]) (bV [(.bool false)]))) (aR r42 0 fun t54=>cond (t54==(3:Int)) (bY 31 [(sv z29.2.1),(.int .i64 0)] (.one aB) fun (t55:Bool)=>bV [(.bool t55)]) (bV [(.bool false)])))) (aR r42 0 fun t56=>cond (t56==(2:Int)) (aR r42 1 fun t57=>bY 31 [(sv z29.2.1),(.int .i64 t57)] (.one aB) fun (t58:Bool)=>cond t58 (aR r42 1 fun t59=>cond (decide (t59>(0:Int))) (bV [(.bool true)]) (aR r42 0 fun t60=>cond (t60==(3:Int)) (bY 31 [(sv z29.2.1),(.int .i64 0)] (.one aB) fun (t61:Bool)=>bV [(.bool t61)]) (bV [(.bool false)]))) (aR r42 0 fun t62=>cond (t62==(3:Int)) (bY 31 [(sv z29.2.1),(.int .i64 0)] (.one aB) fun (t63:Bool)=>bV [(.bool t63)]) (bV [(.bool false)]))) (aR r42 0 fun t64=>cond (t64==(3:Int)) (bY 31 [(sv z29.2.1),(.int .i64 0)] (.one aB) fun (t65:Bool)=>bV [(.bool t65)]) (bV [(.bool false)])))) (aR r42 0 fun t66=>cond (t66==(2:Int)) (aR r42 1 fun t67=>bY 31 [(sv z29.2.1),(.int .i64 t67)] (.one aB) fun (t68:Bool)=>cond t68 (aR r42 1 fun t69=>cond (decide (t69>(0:Int))) (bV [(.bool true)]) (aR r42 0 fun t70=>cond (t70==(3:Int)) (bY 31 [(sv z29.2.1),(.int .i64 0)] (.one aB) fun (t71:Bool)=>bV [(.bool t71)]) (bV [(.bool false)]))) (aR r42 0 fun t72=>cond (t72==(3:Int)) (bY 31 [(sv z29.2.1),(.int .i64 0)] (.one aB) fun (t73:Bool)=>bV [(.bool t73)]) (bV [(.bool false)]))) (aR r42 0 fun t74=>cond (t74==(3:Int)) (bY 31 [(sv z29.2.1),(.int .i64 0)] (.one aB) fun (t75:Bool)=>bV [(.bool t75)]) (bV [(.bool false)])))) fun (z43:Bool×Unit)=>cQ [aB] (cond (decide ((z29.2.1.2.1:Int) >(1:Int))) (bV [(.bool true)]) (cond ((z29.2.1.2.1:Int)==(1:Int)) (bV [(.bool (decide (t40≥ 0)))]) (bV [(.bool false)]))) fun (z76:Bool×Unit)=>cond z76.1 (cQ [aB] (cond (decide (z26.2.1≥ (t20.2.1:Int))) (bV [(.bool true)]) (deref t20.1 fun a78=>chk (0≤z26.2.1∧z26.2.1< (t20.2.1:Nat))<|aJ a78 z26.2.1 7 fun t79=>cond (t79 !=z22.1) (bV [(.bool true)]) (deref t20.1 fun a80=>chk (0≤z26.2.1∧z26.2.1< (t20.2.1:Nat))<|aQ a80 z26.2.1 7 1 fun t81=>cond (t81 !=z26.1) (bV [(.bool true)]) (deref t20.1 fun a82=>chk (0≤z26.2.1∧z26.2.1< (t20.2.1:Nat))<|aQ a82 z26.2.1 7 2 fun t83=>cond (t83 !=t40) (bV [(.bool true)]) (deref t20.1 fun a84=>chk (0≤z26.2.1∧z26.2.1< (t20.2.1:Nat))<|aQ a84 z26.2.1 7 4 fun t85=>bE (((a84.add (eH z26.2.1 *7)).add 4).add 1) fun t86=>aR r42 0 fun t87=>aR r42 1 fun t88=>cond (!((t85==t87) && ((t86==t88) && true))) (bV [(.bool true)]) (deref t20.1 fun a89=>chk (0≤z26.2.1∧z26.2.1< (t20.2.1:Nat))<|aM a89 z26.2.1 7 3 fun t90=>bY 21 [(sv t90),(sv z29.2.1)] (.one aB) fun (t91:Bool)=>cond (!t91) (bV [(.bool true)]) (cond (!z43.1) (aR r42 0 fun t92=>aR r42 1 fun t93=>cond (!((t92==(0:Int)) && ((t93==(0:Int)) && true))) (bV [(.bool true)]) (deref t20.1 fun a94=>chk (0≤z26.2.1∧z26.2.1< (t20.2.1:Nat))<|bH a94 z26.2.1 7 6 fun t95=>bV [(.bool t95)])) (bV [(.bool false)])))))))) fun (z77:Bool×Unit)=>cond z77.1 (cI (.bool false)) (dM 3 [(.int .i64 (wN z26.2.1)),(.bool z26.2.2.1)])) (cQ [aB] (cond (!z43.1) (aR r42 0 fun t97=>aR r42 1 fun t98=>cond (!((t97==(0:Int)) && ((t98==(0:Int)) && true))) (bV [(.bool true)]) (cond (decide (t40≥ 0)) (bV [(.bool true)]) (bV [(.bool (decide ((z29.2.1.2.1:Int) >(0:Int))))]))) (bV [(.bool false)])) fun (z96:Bool×Unit)=>cond z96.1 (cI (.bool false)) (bV [(.int .i64 z26.2.1),(.bool z26.2.2.1)]))) fun (z28:Int×Bool×Unit)=>bV [(.int .i64 (wN z26.1)),(.int .i64 z28.1),(.bool z28.2.1)]) (dM 2 [(.int .i64 z26.1),(.int .i64 z26.2.1),(.bool z26.2.2.1)])) fun (z25:Int×Int×Bool×Unit)=>bV [(.int .i64 (wN z22.1)),(.int .i64 z25.2.1),(.bool z25.2.2.1)]) (dM 0 [(.int .i64 z22.1),(.int .i64 z22.2.1),(.bool z22.2.2.1)])) fun (z21:Int×Int×Bool×Unit)=>cQ [aB] (cond t2 (bV [(.bool (z21.2.1==(t20.2.1:Int)))]) (bV [(.bool false)])) fun (z99:Bool×Unit)=>cI (.bool z99.1)))
theorem FN (small_0:Int×Int×Slc×Slc×Slc×Slc×Slc×Unit):AZ bU Tryz.f9 [(.agg #[(.int .u8 small_0.1),(.int .u8 small_0.2.1),(sv small_0.2.2.1),(sv small_0.2.2.2.1),(sv small_0.2.2.2.2.1),(sv small_0.2.2.2.2.2.1),(sv small_0.2.2.2.2.2.2.1)])] =DV small_0:=by kernel_rfl
noncomputable def Dh (small_0:Int×Int×Slc×Slc×Slc×Slc×Slc×Unit):T:=aD #[(.int .u8 small_0.1),(.int .u8 small_0.2.1),(sv small_0.2.2.1),(sv small_0.2.2.2.1),(sv small_0.2.2.2.2.1),(sv small_0.2.2.2.2.2.1),(sv small_0.2.2.2.2.2.2.1)] 25 fun r1=>bY 36 [] (.one aB) fun (t2:Bool)=>aE r1 0 fun t3=>aE r1 1 fun t4=>aA r1 2 fun t5=>aA r1 3 fun t6=>aA r1 4 fun t7=>aA r1 5 fun t8=>aA r1 6 fun t9=>bY 14 [(.agg #[(.int .u8 t3),(.int .u8 t4),(sv t5),(sv t6),(sv t7),(sv t8),(sv t9)]),(.int .i64 12),(.int .i64 5)] (.one aB) fun (t10:Bool)=>cond (!t10) (cI (.bool t2)) (aE r1 0 fun t11=>aE r1 1 fun t12=>aA r1 2 fun t13=>aA r1 3 fun t14=>aA r1 4 fun t15=>aA r1 5 fun t16=>aA r1 6 fun t17=>bY 39 [(.agg #[(.int .u8 t11),(.int .u8 t12),(sv t13),(sv t14),(sv t15),(sv t16),(sv t17)])] (.tuple [(.agg [.slice,.slice,.slice,.slice,.slice,.slice]),aP,aP,aP,aB]) fun (t18:(Pl6)×(Option Addr)×(Option Addr)×(Option Addr)×Bool×Unit)=>aD #[(.slice none 0 0),(.slice none 0 0),(.slice none 0 0),(.slice none 0 0),(.slice none 0 0),(.slice none 0 0)] 32 fun r19=>aF r19 0 t18.1.1<|aF r19 1 t18.1.2.1<|aF r19 2 t18.1.2.2.1<|aF r19 3 t18.1.2.2.2.1<|aF r19 4 t18.1.2.2.2.2.1<|aF r19 5 t18.1.2.2.2.2.2.1<|aU r1 5<|aE r1 0 fun t20=>aE r1 1 fun t21=>aA r1 2 fun t22=>aA r1 3 fun t23=>aA r1 4 fun t24=>aA r1 5 fun t25=>aA r1 6 fun t26=>bY 39 [(.agg #[(.int .u8 t20),(.int .u8 t21),(sv t22),(sv t23),(sv t24),(sv t25),(sv t26)])] (.tuple [(.agg [.slice,.slice,.slice,.slice,.slice,.slice]),aP,aP,aP,aB]) fun (t27:(Pl6)×(Option Addr)×(Option Addr)×(Option Addr)×Bool×Unit)=>aD #[(.slice none 0 0),(.slice none 0 0),(.slice none 0 0),(.slice none 0 0),(.slice none 0 0),(.slice none 0 0)] 32 fun r28=>aF r28 0 t27.1.1<|aF r28 1 t27.1.2.1<|aF r28 2 t27.1.2.2.1<|aF r28 3 t27.1.2.2.2.1<|aF r28 4 t27.1.2.2.2.2.1<|aF r28 5 t27.1.2.2.2.2.2.1<|cQ [aB] (cond (!t18.2.2.2.2.1) (bV [(.bool true)]) (bV [(.bool (!t27.2.2.2.2.1))])) fun (z29:Bool×Unit)=>cond z29.1 (cQ [aB] (cond t2 (bV [(.bool (t18.2.2.2.2.1==t27.2.2.2.2.1))]) (bV [(.bool false)])) fun (z30:Bool×Unit)=>cI (.bool z30.1)) (bY 40 [(.pointer t18.2.2.2.1)] (.one aS) fun (t31:Slc)=>bY 40 [(.pointer t27.2.2.2.1)] (.one aS) fun (t32:Slc)=>cond ((t31.2.1:Int) !=(t32.2.1:Int)) (cI (.bool false)) (cS 0 [aI,aB,aB] (dK [aI,aB,aB] [(.int .i64 0),(.bool true),(.bool false)] fun (z34:Int×Bool×Bool×Unit)=>cond (decide (z34.1< (t31.2.1:Int))) (cQ [aB] (cond z34.2.1 (deref t31.1 fun a36=>chk (0≤z34.1∧z34.1< (t31.2.1:Nat))<|bH a36 z34.1 7 6 fun t37=>bV [(.bool (!t37))]) (bV [(.bool false)])) fun (z35:Bool×Unit)=>cQ [aB] (deref t31.1 fun a39=>chk (0≤z34.1∧z34.1< (t31.2.1:Nat))<|aJ a39 z34.1 7 fun t40=>deref t32.1 fun a41=>chk (0≤z34.1∧z34.1< (t32.2.1:Nat))<|aJ a41 z34.1 7 fun t42=>cond (t40 !=t42) (bV [(.bool true)]) (deref t31.1 fun a43=>chk (0≤z34.1∧z34.1< (t31.2.1:Nat))<|aQ a43 z34.1 7 1 fun t44=>deref t32.1 fun a45=>chk (0≤z34.1∧z34.1< (t32.2.1:Nat))<|aQ a45 z34.1 7 1 fun t46=>cond (t44 !=t46) (bV [(.bool true)]) (deref t32.1 fun a47=>chk (0≤z34.1∧z34.1< (t32.2.1:Nat))<|bH a47 z34.1 7 6 fun t48=>cond (!t48) (bV [(.bool true)]) (deref t32.1 fun a49=>chk (0≤z34.1∧z34.1< (t32.2.1:Nat))<|aQ a49 z34.1 7 2 fun t50=>cond (decide (t50≥ 0)) (deref t32.1 fun a51=>chk (0≤z34.1∧z34.1< (t32.2.1:Nat))<|aQ a51 z34.1 7 4 fun t52=>bE (((a51.add (eH z34.1 *7)).add 4).add 1) fun t53=>deref t32.1 fun a54=>chk (0≤z34.1∧z34.1< (t32.2.1:Nat))<|aQ a54 z34.1 7 2 fun t55=>bV [(.bool (!((t52==(1:Int)) && ((t53==t55) && true))))]) (bV [(.bool false)]))))) fun (z38:Bool×Unit)=>cond z38.1 (cI (.bool false)) (cQ [aB] (deref t31.1 fun a57=>chk (0≤z34.1∧z34.1< (t31.2.1:Nat))<|aM a57 z34.1 7 3 fun t58=>cond (decide ((t58.2.1:Int) >(1:Int))) (deref t31.1 fun a59=>chk (0≤z34.1∧z34.1< (t31.2.1:Nat))<|bH a59 z34.1 7 6 fun t60=>bV [(.bool (!t60))]) (bV [(.bool false)])) fun (z56:Bool×Unit)=>cond z56.1 (cI (.bool false)) (bV [(.int .i64 (wN z34.1)),(.bool z35.1),(.bool z34.2.2.1)]))) (dM 0 [(.int .i64 z34.1),(.bool z34.2.1),(.bool z34.2.2.1)])) fun (z33:Int×Bool×Bool×Unit)=>cQ [aB] (cond t2 (bY 43 [(.pointer t18.2.2.2.1)] (.one aB) fun (t62:Bool)=>cond (t62==z33.2.1) (bY 43 [(.pointer t27.2.2.2.1)] (.one aB) fun (t63:Bool)=>bV [(.bool (t63==((t32.2.1:Int)==(0:Int))))]) (bV [(.bool false)])) (bV [(.bool false)])) fun (z61:Bool×Unit)=>cI (.bool z61.1))))
theorem Fh (small_0:Int×Int×Slc×Slc×Slc×Slc×Slc×Unit):AZ bU Tryz.f10 [(.agg #[(.int .u8 small_0.1),(.int .u8 small_0.2.1),(sv small_0.2.2.1),(sv small_0.2.2.2.1),(sv small_0.2.2.2.2.1),(sv small_0.2.2.2.2.2.1),(sv small_0.2.2.2.2.2.2.1)])] =Dh small_0:=by kernel_rfl
noncomputable def GB:T:=aD #[(.int .u8 0),(.int .u8 0)] 5 fun r1=>aD #[(.int .u8 2),(.int .u8 0),(.int .u8 2)] 5 fun r2=>aD #[(.int .u8 1)] 5 fun r3=>aD #[(.slice (some ⟨r2,0,none⟩) 3 3),(.slice (some ⟨r3,0,none⟩) 1 1)] 22 fun r4=>aD #[(.int .u8 0)] 5 fun r5=>aD #[(.int .u8 1)] 5 fun r6=>aD #[(.int .u8 0),(.int .u8 0),(.slice none 0 0),(.slice none 0 0),(.slice none 0 0),(.slice none 0 0),(.slice none 0 0)] 25 fun r7=>aN r7 0 (.int .u8 1)<|aN r7 1 (.int .u8 0)<|aN r7 2 (.slice (some ⟨r1,0,none⟩) 2 2)<|aN r7 3 (.slice (some ⟨r4,0,none⟩) 2 2)<|aU r7 4<|aN r7 5 (.slice (some ⟨r5,0,none⟩) 1 1)<|aN r7 6 (.slice (some ⟨r6,0,none⟩) 1 1)<|aE r7 0 fun t8=>aE r7 1 fun t9=>aA r7 2 fun t10=>aA r7 3 fun t11=>aA r7 4 fun t12=>aA r7 5 fun t13=>aA r7 6 fun t14=>bY 39 [(.agg #[(.int .u8 t8),(.int .u8 t9),(sv t10),(sv t11),(sv t12),(sv t13),(sv t14)])] (.tuple [(.agg [.slice,.slice,.slice,.slice,.slice,.slice]),aP,aP,aP,aB]) fun (t15:(Pl6)×(Option Addr)×(Option Addr)×(Option Addr)×Bool×Unit)=>aD #[(.slice none 0 0),(.slice none 0 0),(.slice none 0 0),(.slice none 0 0),(.slice none 0 0),(.slice none 0 0)] 32 fun r16=>aF r16 0 t15.1.1<|aF r16 1 t15.1.2.1<|aF r16 2 t15.1.2.2.1<|aF r16 3 t15.1.2.2.2.1<|aF r16 4 t15.1.2.2.2.2.1<|aF r16 5 t15.1.2.2.2.2.2.1<|aU r7 6<|aE r7 0 fun t17=>aE r7 1 fun t18=>aA r7 2 fun t19=>aA r7 3 fun t20=>aA r7 4 fun t21=>aA r7 5 fun t22=>aA r7 6 fun t23=>bY 39 [(.agg #[(.int .u8 t17),(.int .u8 t18),(sv t19),(sv t20),(sv t21),(sv t22),(sv t23)])] (.tuple [(.agg [.slice,.slice,.slice,.slice,.slice,.slice]),aP,aP,aP,aB]) fun (t24:(Pl6)×(Option Addr)×(Option Addr)×(Option Addr)×Bool×Unit)=>aD #[(.slice none 0 0),(.slice none 0 0),(.slice none 0 0),(.slice none 0 0),(.slice none 0 0),(.slice none 0 0)] 32 fun r25=>aF r25 0 t24.1.1<|aF r25 1 t24.1.2.1<|aF r25 2 t24.1.2.2.1<|aF r25 3 t24.1.2.2.2.1<|aF r25 4 t24.1.2.2.2.2.1<|aF r25 5 t24.1.2.2.2.2.2.1<|cQ [aB] (cond (!t15.2.2.2.2.1) (bV [(.bool true)]) (bV [(.bool (!t24.2.2.2.2.1))])) fun (z26:Bool×Unit)=>cond z26.1 (cI (.bool false)) (aD #[(.int .i64 3),(.int .i64 1),(.int .i64 3)] 3 fun r27=>bY 72 [(.pointer t15.2.1),(.int .i64 0),(.slice (some ⟨r27,0,none⟩) 3 3)] (.one aI) fun (t28:Int)=>bY 40 [(.pointer t15.2.2.2.1)] (.one aS) fun (t29:Slc)=>bY 40 [(.pointer t24.2.2.2.1)] (.one aS) fun (t30:Slc)=>cQ [aB] (cond (decide (t28>(0:Int))) (cond ((t29.2.1:Int)==(1:Int)) (cond ((t30.2.1:Int)==(1:Int)) (bY 42 [(.pointer t15.2.2.2.1),(.int .i64 t28),(.int .i64 1)] (.one (.agg [(.int .i64),(.int .i64)])) fun (t32:Int×Int×Unit)=>cond ((t32.1==(2:Int)) && ((t32.2.1==(1:Int)) && true)) (bY 42 [(.pointer t24.2.2.2.1),(.int .i64 t28),(.int .i64 1)] (.one (.agg [(.int .i64),(.int .i64)])) fun (t33:Int×Int×Unit)=>cond (t33.1==(1:Int)) (deref t29.1 fun a34=>chk (0≤(0:Int)∧(0:Int) < (t29.2.1:Nat))<|bH a34 0 7 6 fun t35=>cond (!t35) (deref t30.1 fun a36=>chk (0≤(0:Int)∧(0:Int) < (t30.2.1:Nat))<|bH a36 0 7 6 fun t37=>cond t37 (bY 43 [(.pointer t15.2.2.2.1)] (.one aB) fun (t38:Bool)=>cond t38 (bY 43 [(.pointer t24.2.2.2.1)] (.one aB) fun (t39:Bool)=>bV [(.bool (!t39))]) (bV [(.bool false)])) (bV [(.bool false)])) (bV [(.bool false)])) (bV [(.bool false)])) (bV [(.bool false)])) (bV [(.bool false)])) (bV [(.bool false)])) (bV [(.bool false)])) fun (z31:Bool×Unit)=>cI (.bool z31.1))
theorem Io:AZ bU Tryz.f36 [] =GB:=by kernel_rfl
noncomputable def GS (small_0:Int×Int×Slc×Slc×Slc×Slc×Slc×Unit):T:=aD #[(.int .u8 small_0.1),(.int .u8 small_0.2.1),(sv small_0.2.2.1),(sv small_0.2.2.2.1),(sv small_0.2.2.2.2.1),(sv small_0.2.2.2.2.2.1),(sv small_0.2.2.2.2.2.2.1)] 25 fun r1=>aD #[(.slice none 0 0),(.slice none 0 0),(.slice none 0 0),(.slice none 0 0),(.slice none 0 0),(.slice none 0 0)] 32 fun r2=>aE r1 0 fun t3=>aE r1 1 fun t4=>aA r1 2 fun t5=>aA r1 3 fun t6=>aA r1 4 fun t7=>aA r1 5 fun t8=>aA r1 6 fun t9=>bY 15 [(.agg #[(.int .u8 t3),(.int .u8 t4),(sv t5),(sv t6),(sv t7),(sv t8),(sv t9)])] (.one (.agg [.slice,.slice,.slice,.slice,.slice,.slice])) fun (t10:Pl6)=>aD #[(.slice none 0 0),(.slice none 0 0),(.slice none 0 0),(.slice none 0 0),(.slice none 0 0),(.slice none 0 0)] 32 fun r11=>aF r11 0 t10.1<|aF r11 1 t10.2.1<|aF r11 2 t10.2.2.1<|aF r11 3 t10.2.2.2.1<|aF r11 4 t10.2.2.2.2.1<|aF r11 5 t10.2.2.2.2.2.1<|L6 r11 fun t12 t13 t14 t15 t16 t17=>bY 16 [(aH t12 t13 t14 t15 t16 t17)] (.tuple [aI,aI]) fun (t18:Int×Int×Unit)=>cond (t18.2.1 !=(0:Int)) (L6 r11 fun t19 t20 t21 t22 t23 t24=>aF r2 0 t19<|aF r2 1 t20<|aF r2 2 t21<|aF r2 3 t22<|aF r2 4 t23<|aF r2 5 t24<|L6 r2 fun res25 res26 res27 res28 res29 res30=>cI (.tuple #[(aH res25 res26 res27 res28 res29 res30),(.pointer none),(.pointer none),(.pointer none),(.bool false)])) (L6 r11 fun t31 t32 t33 t34 t35 t36=>bY 68 [(aH t31 t32 t33 t34 t35 t36),(.int .i64 300),(.int .i64 9000)] (.tuple [aP,aI]) fun (t37:(Option Addr)×Int×Unit)=>cQ [aB] (cond (dD t37.1) (bV [(.bool true)]) (bY 20 [(.pointer t37.1)] (.one aI) fun (t39:Int)=>bV [(.bool (t39==(0:Int)))])) fun (z38:Bool×Unit)=>cond z38.1 (L6 r11 fun t40 t41 t42 t43 t44 t45=>aF r2 0 t40<|aF r2 1 t41<|aF r2 2 t42<|aF r2 3 t43<|aF r2 4 t44<|aF r2 5 t45<|L6 r2 fun res46 res47 res48 res49 res50 res51=>cI (.tuple #[(aH res46 res47 res48 res49 res50 res51),(.pointer none),(.pointer none),(.pointer none),(.bool false)])) (L6 r11 fun t52 t53 t54 t55 t56 t57=>bY 69 [(aH t52 t53 t54 t55 t56 t57),(.pointer t37.1)] (.one aP) fun (t58:Option Addr)=>cond (dD t58) (L6 r11 fun t59 t60 t61 t62 t63 t64=>aF r2 0 t59<|aF r2 1 t60<|aF r2 2 t61<|aF r2 3 t62<|aF r2 4 t63<|aF r2 5 t64<|L6 r2 fun res65 res66 res67 res68 res69 res70=>cI (.tuple #[(aH res65 res66 res67 res68 res69 res70),(.pointer none),(.pointer none),(.pointer none),(.bool false)])) (L6 r11 fun t71 t72 t73 t74 t75 t76=>bY 83 [(aH t71 t72 t73 t74 t75 t76),(.pointer t37.1),(.pointer t58)] (.one aP) fun (t77:Option Addr)=>L6 r11 fun t78 t79 t80 t81 t82 t83=>aF r2 0 t78<|aF r2 1 t79<|aF r2 2 t80<|aF r2 3 t81<|aF r2 4 t82<|aF r2 5 t83<|L6 r2 fun res84 res85 res86 res87 res88 res89=>cI (.tuple #[(aH res84 res85 res86 res87 res88 res89),(.pointer t37.1),(.pointer t58),(.pointer t77),(.bool (!(dD t77)))]))))
theorem JJ (small_0:Int×Int×Slc×Slc×Slc×Slc×Slc×Unit):AZ bU Tryz.f39 [(.agg #[(.int .u8 small_0.1),(.int .u8 small_0.2.1),(sv small_0.2.2.1),(sv small_0.2.2.2.1),(sv small_0.2.2.2.2.1),(sv small_0.2.2.2.2.2.1),(sv small_0.2.2.2.2.2.2.1)])] =GS small_0:=by kernel_rfl
noncomputable def KD (p_0:Pl6) (term_1:Int) (shift_2:Int) (rules_3_p:Option Addr) (rules_3_n rules_3_c:Nat):T:=aD #[(sv p_0.1),(sv p_0.2.1),(sv p_0.2.2.1),(sv p_0.2.2.2.1),(sv p_0.2.2.2.2.1),(sv p_0.2.2.2.2.2.1)] 32 fun r1=>aD #[(.int .i64 0),(.int .i64 0)] 77 fun r2=>aD #[(.int .i64 0),(.int .i64 0)] 77 fun r3=>aT r3 0 1<|aT r3 1 shift_2<|cQ [aB] (cond (((rules_3_n:Nat):Int)==(0:Int)) (bV [(.bool (decide (shift_2< 0)))]) (bV [(.bool false)])) fun (z4:Bool×Unit)=>cond z4.1 (aT r2 0 0<|aT r2 1 0<|aR r2 0 fun res5=>aR r2 1 fun res6=>cI (.tuple #[(.agg #[(.int .i64 res5),(.int .i64 res6)]),(.bool false)])) (cond (((rules_3_n:Nat):Int)==(0:Int)) (aR r3 0 fun t7=>aR r3 1 fun t8=>aT r2 0 t7<|aT r2 1 t8<|aR r2 0 fun res9=>aR r2 1 fun res10=>cI (.tuple #[(.agg #[(.int .i64 res9),(.int .i64 res10)]),(.bool false)])) (cQ [aB] (cond (((rules_3_n:Nat):Int)==(1:Int)) (bV [(.bool (decide (shift_2< 0)))]) (bV [(.bool false)])) fun (z11:Bool×Unit)=>cond z11.1 (deref rules_3_p fun a12=>chk (0≤(0:Int)∧(0:Int) < (rules_3_n:Nat))<|aJ a12 0 1 fun t13=>bY 80 [(.int .i64 t13)] (.one (.agg [(.int .i64),(.int .i64)])) fun (t14:Int×Int×Unit)=>aT r2 0 t14.1<|aT r2 1 t14.2.1<|aR r2 0 fun res15=>aR r2 1 fun res16=>cI (.tuple #[(.agg #[(.int .i64 res15),(.int .i64 res16)]),(.bool false)])) (cond (((rules_3_n:Nat):Int)==(1:Int)) (L6 r1 fun t17 t18 t19 t20 t21 t22=>aR r3 0 fun t23=>aR r3 1 fun t24=>deref rules_3_p fun a25=>chk (0≤(0:Int)∧(0:Int) < (rules_3_n:Nat))<|aJ a25 0 1 fun t26=>bY 80 [(.int .i64 t26)] (.one (.agg [(.int .i64),(.int .i64)])) fun (t27:Int×Int×Unit)=>bQ r3 0 t23<|bQ r3 1 t24<|S6 r1 t17 t18 t19 t20 t21 t22<|bY 81 [(aH t17 t18 t19 t20 t21 t22),(.int .i64 term_1),(.agg #[(.int .i64 t23),(.int .i64 t24)]),(.agg #[(.int .i64 t27.1),(.int .i64 t27.2.1)])] (.tuple [(.agg [(.int .i64),(.int .i64)]),aB]) fun (t28:(Int×Int×Unit)×Bool×Unit)=>aT r2 0 t28.1.1<|aT r2 1 t28.1.2.1<|aR r2 0 fun res29=>aR r2 1 fun res30=>cI (.tuple #[(.agg #[(.int .i64 res29),(.int .i64 res30)]),(.bool t28.2.1)])) (cond (decide (shift_2≥ 0)) (aR r3 0 fun t31=>aR r3 1 fun t32=>aT r2 0 t31<|aT r2 1 t32<|aR r2 0 fun res33=>aR r2 1 fun res34=>cI (.tuple #[(.agg #[(.int .i64 res33),(.int .i64 res34)]),(.bool true)])) (bY 82 [(.slice rules_3_p rules_3_n rules_3_c)] (.one aI) fun (t35:Int)=>bY 80 [(.int .i64 t35)] (.one (.agg [(.int .i64),(.int .i64)])) fun (t36:Int×Int×Unit)=>aT r2 0 t36.1<|aT r2 1 t36.2.1<|aR r2 0 fun res37=>aR r2 1 fun res38=>cI (.tuple #[(.agg #[(.int .i64 res37),(.int .i64 res38)]),(.bool true)]))))))
theorem Mq (p_0:Pl6) (term_1:Int) (shift_2:Int) (rules_3_p:Option Addr) (rules_3_n rules_3_c:Nat):AZ bU Tryz.f37 [(aG p_0),(.int .i64 term_1),(.int .i64 shift_2),(.slice rules_3_p rules_3_n rules_3_c)] =KD p_0 term_1 shift_2 rules_3_p rules_3_n rules_3_c:=by kernel_rfl
noncomputable def FG (g_0:Option Addr):T:=deref g_0 fun a1=>aL a1 8 fun t2=>cS 0 [aI,aS] (dK [aI,aS] [(.int .i64 0),(.slice none 0 0)] fun (z4:Int×Slc×Unit)=>cond (decide (z4.1< (t2.2.1:Int))) (deref t2.1 fun a5=>chk (0≤z4.1∧z4.1< (t2.2.1:Nat))<|aJ a5 z4.1 7 fun t6=>aQ a5 z4.1 7 1 fun t7=>aQ a5 z4.1 7 2 fun t8=>aM a5 z4.1 7 3 fun t9=>aQ a5 z4.1 7 4 fun t10=>aQ a5 z4.1 7 5 fun t11=>bH a5 z4.1 7 6 fun t12=>aD #[(.int .i64 0),(.int .i64 0),(.int .i64 0),(.slice none 0 0),(.int .i64 0),(.int .i64 0),(.bool false)] 89 fun r13=>aT r13 0 t6<|aT r13 1 t7<|aT r13 2 t8<|aF r13 3 t9<|aT r13 4 t10<|aT r13 5 t11<|aN r13 6 (.bool t12)<|aA r13 3 fun t14=>bY 84 [(sv t14)] (.one aS) fun (t15:Slc)=>aF r13 3 t15<|aR r13 0 fun t16=>aR r13 1 fun t17=>aR r13 2 fun t18=>aA r13 3 fun t19=>aR r13 4 fun t20=>aR r13 5 fun t21=>bI r13 6 fun t22=>aD #[(.int .i64 t16),(.int .i64 t17),(.int .i64 t18),(sv t19),(.int .i64 t20),(.int .i64 t21),(.bool t22)] 89 fun r23=>eG (cK #[84,84] 84 #[(sv z4.2.1),(.slice (some ⟨r23,0,none⟩) 1 1)]) (.one aS) fun (t24:Slc)=>bV [(.int .i64 (wN z4.1)),(sv t24)]) (dM 0 [(.int .i64 z4.1),(sv z4.2.1)])) fun (z3:Int×Slc×Unit)=>cI (sv z3.2.1)
theorem Hp (g_0:Option Addr):AZ bU Tryz.f40 [(.pointer g_0)] =FG g_0:=by kernel_rfl
noncomputable def Hc (g_0:Option Addr) (state_1:Int) (term_2:Int):T:=aD #[(.int .i64 0),(.int .i64 0)] 77 fun r1=>cQ [aB] (bY 85 [(.pointer g_0),(.int .i64 state_1)] (.one aB) fun (t3:Bool)=>cond (!t3) (bV [(.bool true)]) (deref g_0 fun a4=>M6 a4 fun t5 t6 t7 t8 t9 t10=>bY 86 [(aH t5 t6 t7 t8 t9 t10),(.int .i64 term_2)] (.one aB) fun (t11:Bool)=>bV [(.bool (!t11))])) fun (z2:Bool×Unit)=>cond z2.1 (aT r1 0 0<|aT r1 1 0<|aR r1 0 fun res12=>aR r1 1 fun res13=>cI (.agg #[(.int .i64 res12),(.int .i64 res13)])) (deref g_0 fun a14=>aL a14 6 fun t15=>deref t15.1 fun a16=>chk (0≤state_1∧state_1< (t15.2.1:Nat))<|aC a16 state_1 1 fun t17=>deref t17.1 fun a18=>chk (0≤term_2∧term_2< (t17.2.1:Nat))<|aJ a18 term_2 2 fun t19=>aQ a18 term_2 2 1 fun t20=>aT r1 0 t19<|aT r1 1 t20<|aR r1 0 fun res21=>aR r1 1 fun res22=>cI (.agg #[(.int .i64 res21),(.int .i64 res22)]))
theorem Kr (g_0:Option Addr) (state_1:Int) (term_2:Int):AZ bU Tryz.f42 [(.pointer g_0),(.int .i64 state_1),(.int .i64 term_2)] =Hc g_0 state_1 term_2:=by kernel_rfl
noncomputable def GC (g_0:Option Addr):T:=deref g_0 fun a1=>aL a1 8 fun t2=>bY 87 [(sv t2),(.func (.func 88) #[] #[])] (.one aB) fun (t3:Bool)=>cI (.bool (!t3))
theorem Ip (g_0:Option Addr):AZ bU Tryz.f43 [(.pointer g_0)] =GC g_0:=by kernel_rfl
noncomputable def IL (rule_0:Int):T:=aD #[(.int .i64 0),(.int .i64 0)] 77 fun r1=>cond (rule_0==(0:Int)) (aT r1 0 3<|aT r1 1 0<|aR r1 0 fun res2=>aR r1 1 fun res3=>cI (.agg #[(.int .i64 res2),(.int .i64 res3)])) (aT r1 0 2<|aT r1 1 rule_0<|aR r1 0 fun res4=>aR r1 1 fun res5=>cI (.agg #[(.int .i64 res4),(.int .i64 res5)]))
theorem LT (rule_0:Int):AZ bU Tryz.f80 [(.int .i64 rule_0)] =IL rule_0:=by kernel_rfl
noncomputable def MM (p_0:Pl6) (term_1:Int) (shift_2:Int×Int×Unit) (rule_3:Int×Int×Unit):T:=aD #[(sv p_0.1),(sv p_0.2.1),(sv p_0.2.2.1),(sv p_0.2.2.2.1),(sv p_0.2.2.2.2.1),(sv p_0.2.2.2.2.2.1)] 32 fun r1=>aD #[(.int .i64 shift_2.1),(.int .i64 shift_2.2.1)] 77 fun r2=>aD #[(.int .i64 rule_3.1),(.int .i64 rule_3.2.1)] 77 fun r3=>aD #[(.int .i64 0),(.int .i64 0)] 77 fun r4=>L6 r1 fun t5 t6 t7 t8 t9 t10=>L6 r1 fun t11 t12 t13 t14 t15 t16=>aR r3 1 fun t17=>bY 116 [(aH t5 t6 t7 t8 t9 t10),(.int .i64 term_1)] (.one aI) fun (t18:Int)=>bQ r3 1 t17<|S6 r1 t11 t12 t13 t14 t15 t16<|bY 117 [(aH t11 t12 t13 t14 t15 t16),(.int .i64 t17)] (.one aI) fun (t19:Int)=>cQ [aB] (cond (decide (t18≤(0:Int))) (bV [(.bool true)]) (bV [(.bool (decide (t19≤(0:Int))))])) fun (z20:Bool×Unit)=>cond z20.1 (aR r2 0 fun t21=>aR r2 1 fun t22=>aT r4 0 t21<|aT r4 1 t22<|aR r4 0 fun res23=>aR r4 1 fun res24=>cI (.tuple #[(.agg #[(.int .i64 res23),(.int .i64 res24)]),(.bool true)])) (cS 0 [aB] (cS 3 [aB] (cS 2 [aB] (cS 1 [] (cQ [aB] (cond (t19==t18) (aA r1 4 fun t30=>deref t30.1 fun a31=>chk (0≤t18∧t18< (t30.2.1:Nat))<|aJ a31 t18 1 fun t32=>bV [(.bool (t32==(3:Int)))]) (bV [(.bool false)])) fun (z29:Bool×Unit)=>cond z29.1 (dM 1 []) (cQ [aB] (cond (t19==t18) (aA r1 4 fun t34=>deref t34.1 fun a35=>chk (0≤t18∧t18< (t34.2.1:Nat))<|aJ a35 t18 1 fun t36=>bV [(.bool (t36==(1:Int)))]) (bV [(.bool false)])) fun (z33:Bool×Unit)=>cond z33.1 (dM 2 [(.bool false)]) (cond (decide (t19>t18)) (dM 3 [(.bool false)]) (dM 0 [(.bool false)])))) fun (z28:Unit)=>aT r4 0 0<|aT r4 1 0<|aR r4 0 fun res37=>aR r4 1 fun res38=>cI (.tuple #[(.agg #[(.int .i64 res37),(.int .i64 res38)]),(.bool false)])) fun (z27:Bool×Unit)=>bV [(.bool z27.1)]) fun (z26:Bool×Unit)=>aR r3 0 fun t39=>aR r3 1 fun t40=>aT r4 0 t39<|aT r4 1 t40<|aR r4 0 fun res41=>aR r4 1 fun res42=>cI (.tuple #[(.agg #[(.int .i64 res41),(.int .i64 res42)]),(.bool false)])) fun (z25:Bool×Unit)=>aR r2 0 fun t43=>aR r2 1 fun t44=>aT r4 0 t43<|aT r4 1 t44<|aR r4 0 fun res45=>aR r4 1 fun res46=>cI (.tuple #[(.agg #[(.int .i64 res45),(.int .i64 res46)]),(.bool false)]))
theorem OT (p_0:Pl6) (term_1:Int) (shift_2:Int×Int×Unit) (rule_3:Int×Int×Unit):AZ bU Tryz.f81 [(aG p_0),(.int .i64 term_1),(.agg #[(.int .i64 shift_2.1),(.int .i64 shift_2.2.1)]),(.agg #[(.int .i64 rule_3.1),(.int .i64 rule_3.2.1)])] =MM p_0 term_1 shift_2 rule_3:=by kernel_rfl
noncomputable def GD (x_0_p:Option Addr) (x_0_n x_0_c:Nat):T:=cQ [] (cond (decide (((x_0_n:Nat):Int) < 1)) (T.pan (.iface 9 (.string {data:=#[115,108,105,99,101,115,46,77,105,110,58,32,101,109,112,116,121,32,108,105,115,116]}))) (bV [])) fun (z1:Unit)=>deref x_0_p fun a2=>chk (0≤(0:Int)∧(0:Int) < (x_0_n:Nat))<|aJ a2 0 1 fun t3=>cS 0 [aI,aI] (dK [aI,aI] [(.int .i64 1),(.int .i64 t3)] fun (z5:Int×Int×Unit)=>cond (decide (z5.1< ((x_0_n:Nat):Int))) (deref x_0_p fun a6=>chk (0≤z5.1∧z5.1< (x_0_n:Nat))<|aJ a6 z5.1 1 fun t7=>bV [(.int .i64 (wN z5.1)),(.int .i64 (if t7<z5.2.1 then t7 else z5.2.1))]) (dM 0 [(.int .i64 z5.1),(.int .i64 z5.2.1)])) fun (z4:Int×Int×Unit)=>cI (.int .i64 z4.2.1)
theorem Iq (x_0_p:Option Addr) (x_0_n x_0_c:Nat):AZ bU Tryz.f82 [(.slice x_0_p x_0_n x_0_c)] =GD x_0_p x_0_n x_0_c:=by kernel_rfl
noncomputable def MN (p_0:Pl6) (a_1:Option Addr) (l_2:Option Addr):T:=aD #[(sv p_0.1),(sv p_0.2.1),(sv p_0.2.2.1),(sv p_0.2.2.2.1),(sv p_0.2.2.2.2.1),(sv p_0.2.2.2.2.2.1)] 32 fun r1=>L6 r1 fun t2 t3 t4 t5 t6 t7=>aD #[(sv t2),(sv t3),(sv t4),(sv t5),(sv t6),(sv t7),(.slice none 0 0),(.slice none 0 0),(.slice none 0 0)] 159 fun r8=>bY 20 [(.pointer a_1)] (.one aI) fun (t9:Int)=>cS 0 [aI] (dK [aI] [(.int .i64 0)] fun (z11:Int×Unit)=>cond (decide (z11.1<t9)) (aA r1 0 fun t12=>cS 2 [aI,aS] (dK [aI,aS] [(.int .i64 0),(.slice none 0 0)] fun (z14:Int×Slc×Unit)=>cond (decide (z14.1< (t12.2.1:Int))) (bY 118 [(.pointer (some ⟨r8,0,none⟩)),(.pointer a_1),(.pointer l_2),(.int .i64 z11.1),(.int .i64 z14.1)] (.one (.agg [(.int .i64),(.int .i64)])) fun (t15:Int×Int×Unit)=>aD #[(.int .i64 t15.1),(.int .i64 t15.2.1)] 77 fun r16=>eG (cK #[163,163] 163 #[(sv z14.2.1),(.slice (some ⟨r16,0,none⟩) 1 1)]) (.one aS) fun (t17:Slc)=>bV [(.int .i64 (wN z14.1)),(sv t17)]) (dM 2 [(.int .i64 z14.1),(sv z14.2.1)])) fun (z13:Int×Slc×Unit)=>aA r1 1 fun t18=>cS 4 [aI,aS] (dK [aI,aS] [(.int .i64 0),(.slice none 0 0)] fun (z20:Int×Slc×Unit)=>cond (decide (z20.1< (t18.2.1:Int))) (aA r1 0 fun t21=>bY 41 [(.pointer a_1),(.int .i64 z11.1),(.int .i64 (bZ .i64 ((t21.2.1:Int)+z20.1)))] (.one aI) fun (t22:Int)=>aD #[(.int .i64 t22)] 3 fun r23=>eG (cK #[30,30] 30 #[(sv z20.2.1),(.slice (some ⟨r23,0,none⟩) 1 1)]) (.one aS) fun (t24:Slc)=>bV [(.int .i64 (wN z20.1)),(sv t24)]) (dM 4 [(.int .i64 z20.1),(sv z20.2.1)])) fun (z19:Int×Slc×Unit)=>aA r8 6 fun t25=>aA r8 7 fun t26=>T.both (aD #[(sv z13.2.1)] 163 fun r27=>aY r8 7 t26<|aY r8 6 t25<|T.both (eG (cK #[157,157] 157 #[(sv t25),(.slice (some ⟨r27,0,none⟩) 1 1)]) (.one aS) fun (t28:Slc)=>aY r8 7 t26<|aD #[(sv z19.2.1)] 30 fun r29=>aY r8 7 t26<|eG (cK #[97,97] 97 #[(sv t26),(.slice (some ⟨r29,0,none⟩) 1 1)]) (.one aS) fun (t30:Slc)=>aF r8 6 t28<|aF r8 7 t30<|bV [(.int .i64 (wN z11.1))]) (aD #[(sv z19.2.1)] 30 fun r31=>aY r8 7 t26<|aY r8 6 t25<|eG (cK #[157,157] 157 #[(sv t25),(.slice (some ⟨r27,0,none⟩) 1 1)]) (.one aS) fun (t32:Slc)=>aY r8 7 t26<|eG (cK #[97,97] 97 #[(sv t26),(.slice (some ⟨r31,0,none⟩) 1 1)]) (.one aS) fun (t33:Slc)=>aF r8 6 t32<|aF r8 7 t33<|bV [(.int .i64 (wN z11.1))])) (aD #[(sv z19.2.1)] 30 fun r34=>aY r8 7 t26<|aY r8 6 t25<|aD #[(sv z13.2.1)] 163 fun r35=>aY r8 7 t26<|aY r8 6 t25<|eG (cK #[157,157] 157 #[(sv t25),(.slice (some ⟨r35,0,none⟩) 1 1)]) (.one aS) fun (t36:Slc)=>aY r8 7 t26<|eG (cK #[97,97] 97 #[(sv t26),(.slice (some ⟨r34,0,none⟩) 1 1)]) (.one aS) fun (t37:Slc)=>aF r8 6 t36<|aF r8 7 t37<|bV [(.int .i64 (wN z11.1))])) (dM 0 [(.int .i64 z11.1)])) fun (z10:Int×Unit)=>cI (.pointer (some ⟨r8,0,none⟩))
theorem OU (p_0:Pl6) (a_1:Option Addr) (l_2:Option Addr):AZ bU Tryz.f83 [(aG p_0),(.pointer a_1),(.pointer l_2)] =MN p_0 a_1 l_2:=by kernel_rfl
noncomputable def Hd (g_0:Option Addr) (state_1:Int):T:=cQ [aB] (cond (decide (state_1≥ 0)) (deref g_0 fun a2=>aL a2 6 fun t3=>bV [(.bool (decide (state_1< (t3.2.1:Int))))]) (bV [(.bool false)])) fun (z1:Bool×Unit)=>cI (.bool z1.1)
theorem Ks (g_0:Option Addr) (state_1:Int):AZ bU Tryz.f85 [(.pointer g_0),(.int .i64 state_1)] =Hd g_0 state_1:=by kernel_rfl
noncomputable def CA (s_0_p:Option Addr) (s_0_n s_0_c:Nat):T:=bY 119 [(.slice s_0_p s_0_n s_0_c),(.func (.func 88) #[] #[])] (.one aI) fun (t1:Int)=>cI (.bool (decide (t1≥ 0)))
theorem DK (s_0_p:Option Addr) (s_0_n s_0_c:Nat):AZ bU Tryz.f87 [(.slice s_0_p s_0_n s_0_c),(.func (.func 88) #[] #[])] =CA s_0_p s_0_n s_0_c:=by kernel_rfl
noncomputable def FH (c_0:Int×Int×Int×Slc×Int×Int×Bool×Unit):T:=aD #[(.int .i64 c_0.1),(.int .i64 c_0.2.1),(.int .i64 c_0.2.2.1),(sv c_0.2.2.2.1),(.int .i64 c_0.2.2.2.2.1),(.int .i64 c_0.2.2.2.2.2.1),(.bool c_0.2.2.2.2.2.2.1)] 89 fun r1=>bI r1 6 fun t2=>cI (.bool t2)
theorem Hq (c_0:Int×Int×Int×Slc×Int×Int×Bool×Unit):AZ bU Tryz.f88 [(.agg #[(.int .i64 c_0.1),(.int .i64 c_0.2.1),(.int .i64 c_0.2.2.1),(sv c_0.2.2.2.1),(.int .i64 c_0.2.2.2.2.1),(.int .i64 c_0.2.2.2.2.2.1),(.bool c_0.2.2.2.2.2.2.1)])] =FH c_0:=by kernel_rfl
noncomputable def I4 (p_0:Pl6) (term_1:Int):T:=aD #[(sv p_0.1),(sv p_0.2.1),(sv p_0.2.2.1),(sv p_0.2.2.2.1),(sv p_0.2.2.2.2.1),(sv p_0.2.2.2.2.2.1)] 32 fun r1=>cQ [aB] (cond (decide (term_1< 0)) (bV [(.bool true)]) (aA r1 3 fun t3=>bV [(.bool (decide (term_1≥ (t3.2.1:Int))))])) fun (z2:Bool×Unit)=>cond z2.1 (cI (.int .i64 0)) (aA r1 3 fun t4=>deref t4.1 fun a5=>chk (0≤term_1∧term_1< (t4.2.1:Nat))<|aJ a5 term_1 1 fun t6=>cI (.int .i64 t6))
theorem MO (p_0:Pl6) (term_1:Int):AZ bU Tryz.f116 [(aG p_0),(.int .i64 term_1)] =I4 p_0 term_1:=by kernel_rfl
noncomputable def IM (p_0:Pl6) (rule_1:Int):T:=aD #[(sv p_0.1),(sv p_0.2.1),(sv p_0.2.2.1),(sv p_0.2.2.2.1),(sv p_0.2.2.2.2.1),(sv p_0.2.2.2.2.2.1)] 32 fun r1=>cQ [aB] (cond (decide (rule_1< 0)) (bV [(.bool true)]) (aA r1 2 fun t3=>bV [(.bool (decide (rule_1≥ (t3.2.1:Int))))])) fun (z2:Bool×Unit)=>cond z2.1 (cI (.int .i64 0)) (aA r1 2 fun t4=>deref t4.1 fun a5=>chk (0≤rule_1∧rule_1< (t4.2.1:Nat))<|aQ a5 rule_1 3 2 fun t6=>cI (.int .i64 t6))
theorem LU (p_0:Pl6) (rule_1:Int):AZ bU Tryz.f117 [(aG p_0),(.int .i64 rule_1)] =IM p_0 rule_1:=by kernel_rfl
noncomputable def GT (g_0:Option Addr) (a_1:Option Addr) (l_2:Option Addr) (state_3:Int) (term_4:Int):T:=aD #[(.int .i64 0),(.int .i64 0)] 77 fun r1=>bY 41 [(.pointer a_1),(.int .i64 state_3),(.int .i64 term_4)] (.one aI) fun (t2:Int)=>bY 22 [(.pointer l_2),(.int .i64 state_3)] (.one aS) fun (t3:Slc)=>cS 0 [aI,aS] (dK [aI,aS] [(.int .i64 0),(.slice none 0 0)] fun (z5:Int×Slc×Unit)=>cond (decide (z5.1< (t3.2.1:Int))) (deref t3.1 fun a6=>chk (0≤z5.1∧z5.1< (t3.2.1:Nat))<|aJ a6 z5.1 1 fun t7=>bY 24 [(.pointer l_2),(.int .i64 state_3),(.int .i64 t7)] (.one aS) fun (t8:Slc)=>bY 152 [(sv t8),(.int .i64 term_4)] (.one aB) fun (t9:Bool)=>cQ [aS] (cond t9 (aD #[(.int .i64 t7)] 3 fun r11=>eG (cK #[30,30] 30 #[(sv z5.2.1),(.slice (some ⟨r11,0,none⟩) 1 1)]) (.one aS) fun (t12:Slc)=>bV [(sv t12)]) (bV [(sv z5.2.1)])) fun (z10:Slc×Unit)=>bV [(.int .i64 (wN z5.1)),(sv z10.1)]) (dM 0 [(.int .i64 z5.1),(sv z5.2.1)])) fun (z4:Int×Slc×Unit)=>deref g_0 fun a13=>M6 a13 fun t14 t15 t16 t17 t18 t19=>bY 37 [(aH t14 t15 t16 t17 t18 t19),(.int .i64 term_4),(.int .i64 t2),(sv z4.2.1)] (.tuple [(.agg [(.int .i64),(.int .i64)]),aB]) fun (t20:(Int×Int×Unit)×Bool×Unit)=>aD #[(.int .i64 0),(.int .i64 0)] 77 fun r21=>aT r21 0 t20.1.1<|aT r21 1 t20.1.2.1<|cQ [aB] (cond (decide ((z4.2.1.2.1:Int) >(1:Int))) (bV [(.bool true)]) (cond ((z4.2.1.2.1:Int)==(1:Int)) (bV [(.bool (decide (t2≥ 0)))]) (bV [(.bool false)]))) fun (z22:Bool×Unit)=>cQ [] (cond z22.1 (deref g_0 fun a24=>aL a24 8 fun t25=>aR r21 0 fun t26=>aR r21 1 fun t27=>aD #[(.int .i64 state_3),(.int .i64 term_4),(.int .i64 t2),(sv z4.2.1),(.int .i64 t26),(.int .i64 t27),(.bool t20.2.1)] 89 fun r28=>T.still (a24.add 8) (sv t25)<|eG (cK #[84,84] 84 #[(sv t25),(.slice (some ⟨r28,0,none⟩) 1 1)]) (.one aS) fun (t29:Slc)=>deref g_0 fun a30=>fJ (a30.add 8) (sv t29)<|bV []) (bV [])) fun (z23:Unit)=>aR r21 0 fun t31=>aR r21 1 fun t32=>aT r1 0 t31<|aT r1 1 t32<|aR r1 0 fun res33=>aR r1 1 fun res34=>cI (.agg #[(.int .i64 res33),(.int .i64 res34)])
theorem JK (g_0:Option Addr) (a_1:Option Addr) (l_2:Option Addr) (state_3:Int) (term_4:Int):AZ bU Tryz.f118 [(.pointer g_0),(.pointer a_1),(.pointer l_2),(.int .i64 state_3),(.int .i64 term_4)] =GT g_0 a_1 l_2 state_3 term_4:=by kernel_rfl
noncomputable def CL (s_0_p:Option Addr) (s_0_n s_0_c:Nat):T:=cS 0 [aI,aI] (dK [aI,aI] [(.int .i64 0),(.int .i64 0)] fun (z2:Int×Int×Unit)=>cond (decide (z2.1< ((s_0_n:Nat):Int))) (deref s_0_p fun a3=>chk (0≤z2.1∧z2.1< (s_0_n:Nat))<|aJ a3 z2.1 7 fun t4=>aQ a3 z2.1 7 1 fun t5=>aQ a3 z2.1 7 2 fun t6=>aM a3 z2.1 7 3 fun t7=>aQ a3 z2.1 7 4 fun t8=>aQ a3 z2.1 7 5 fun t9=>bH a3 z2.1 7 6 fun t10=>bY 88 [(.agg #[(.int .i64 t4),(.int .i64 t5),(.int .i64 t6),(sv t7),(.int .i64 t8),(.int .i64 t9),(.bool t10)])] (.one aB) fun (t11:Bool)=>cond t11 (cI (.int .i64 z2.1)) (bV [(.int .i64 (wN z2.1)),(.int .i64 z2.2.1)])) (dM 0 [(.int .i64 z2.1),(.int .i64 z2.2.1)])) fun (z1:Int×Int×Unit)=>cI (.int .i64 (-1:Int))
theorem DT (s_0_p:Option Addr) (s_0_n s_0_c:Nat):AZ bU Tryz.f119 [(.slice s_0_p s_0_n s_0_c),(.func (.func 88) #[] #[])] =CL s_0_p s_0_n s_0_c:=by kernel_rfl
noncomputable def GU (a_0_p:Option Addr) (a_0_n a_0_c:Nat) (b_1_p:Option Addr) (b_1_n b_1_c:Nat):T:=cond (((a_0_n:Nat):Int) !=((b_1_n:Nat):Int)) (cI (.bool false)) (cS 0 [aI,aB] (dK [aI,aB] [(.int .i64 0),(.bool false)] fun (z2:Int×Bool×Unit)=>cond (decide (z2.1< ((a_0_n:Nat):Int))) (deref a_0_p fun a3=>chk (0≤z2.1∧z2.1< (a_0_n:Nat))<|aJ a3 z2.1 1 fun t4=>deref b_1_p fun a5=>chk (0≤z2.1∧z2.1< (b_1_n:Nat))<|aJ a5 z2.1 1 fun t6=>cond (t4 !=t6) (cI (.bool false)) (bV [(.int .i64 (wN z2.1)),(.bool z2.2.1)])) (dM 0 [(.int .i64 z2.1),(.bool z2.2.1)])) fun (z1:Int×Bool×Unit)=>cI (.bool true))
theorem JL (a_0_p:Option Addr) (a_0_n a_0_c:Nat) (b_1_p:Option Addr) (b_1_n b_1_c:Nat):AZ bU Tryz.f21 [(.slice a_0_p a_0_n a_0_c),(.slice b_1_p b_1_n b_1_c)] =GU a_0_p a_0_n a_0_c b_1_p b_1_n b_1_c:=by kernel_rfl
noncomputable def GE (p_0:Pl6):T:=aD #[(sv p_0.1),(sv p_0.2.1),(sv p_0.2.2.1),(sv p_0.2.2.2.1),(sv p_0.2.2.2.2.1),(sv p_0.2.2.2.2.2.1)] 32 fun r1=>L6 r1 fun t2 t3 t4 t5 t6 t7=>bY 57 [(aH t2 t3 t4 t5 t6 t7)] (.one aS) fun (t8:Slc)=>L6 r1 fun t9 t10 t11 t12 t13 t14=>bY 58 [(aH t9 t10 t11 t12 t13 t14)] (.one aS) fun (t15:Slc)=>aA r1 0 fun t16=>cS 0 [aI,aI,aI] (dK [aI,aI,aI] [(.int .i64 (t16.2.1:Int)),(.int .i64 0),(.int .i64 0)] fun (z18:Int×Int×Int×Unit)=>L6 r1 fun t19 t20 t21 t22 t23 t24=>bY 59 [(aH t19 t20 t21 t22 t23 t24)] (.one aI) fun (t25:Int)=>cond (decide (z18.1< (bZ .i64 (t25 - 1)))) (deref t8.1 fun a26=>chk (0≤z18.1∧z18.1< (t8.2.1:Nat))<|bL a26 z18.1 1 fun t27=>cond (!t27) (cI (.tuple #[(.int .i64 z18.1),(.int .i64 18)])) (bV [(.int .i64 (wN z18.1)),(.int .i64 z18.2.1),(.int .i64 z18.2.2.1)])) (dM 0 [(.int .i64 z18.1),(.int .i64 z18.2.1),(.int .i64 z18.2.2.1)])) fun (z17:Int×Int×Int×Unit)=>aA r1 0 fun t28=>cS 2 [aI,aI,aI] (dK [aI,aI,aI] [(.int .i64 (t28.2.1:Int)),(.int .i64 z17.2.1),(.int .i64 z17.2.2.1)] fun (z30:Int×Int×Int×Unit)=>L6 r1 fun t31 t32 t33 t34 t35 t36=>bY 59 [(aH t31 t32 t33 t34 t35 t36)] (.one aI) fun (t37:Int)=>cond (decide (z30.1< (bZ .i64 (t37 - 1)))) (deref t15.1 fun a38=>chk (0≤z30.1∧z30.1< (t15.2.1:Nat))<|bL a38 z30.1 1 fun t39=>cond (!t39) (cI (.tuple #[(.int .i64 z30.1),(.int .i64 17)])) (bV [(.int .i64 (wN z30.1)),(.int .i64 z30.2.1),(.int .i64 z30.2.2.1)])) (dM 2 [(.int .i64 z30.1),(.int .i64 z30.2.1),(.int .i64 z30.2.2.1)])) fun (z29:Int×Int×Int×Unit)=>cI (.tuple #[(.int .i64 0),(.int .i64 0)])
theorem Ir (p_0:Pl6):AZ bU Tryz.f16 [(aG p_0)] =GE p_0:=by kernel_rfl
noncomputable def GF (p_0:Pl6):T:=aD #[(sv p_0.1),(sv p_0.2.1),(sv p_0.2.2.1),(sv p_0.2.2.2.1),(sv p_0.2.2.2.2.1),(sv p_0.2.2.2.2.2.1)] 32 fun r1=>L6 r1 fun t2 t3 t4 t5 t6 t7=>bY 59 [(aH t2 t3 t4 t5 t6 t7)] (.one aI) fun (t8:Int)=>eG (fI 60 (.int .i64 t8) (.int .i64 t8)) (.one aS) fun (t9:Slc)=>cS 0 [aI] (dK [aI] [(.int .i64 0)] fun (z11:Int×Unit)=>aA r1 0 fun t12=>cond (decide (z11.1< (t12.2.1:Int))) (deref t9.1 fun a13=>chk (0≤z11.1∧z11.1< (t9.2.1:Nat))<|fJ (a13.add (eH z11.1 *1)) (.bool true)<|bV [(.int .i64 (wN z11.1))]) (dM 0 [(.int .i64 z11.1)])) fun (z10:Int×Unit)=>cS 2 [aB] (dK [aB] [(.bool true)] fun (z15:Bool×Unit)=>cond z15.1 (cS 4 [aI,aB] (dK [aI,aB] [(.int .i64 0),(.bool false)] fun (z17:Int×Bool×Unit)=>aA r1 2 fun t18=>cond (decide (z17.1< (t18.2.1:Int))) (cS 6 [aI,aB] (dK [aI,aB] [(.int .i64 0),(.bool true)] fun (z20:Int×Bool×Unit)=>aA r1 2 fun t21=>deref t21.1 fun a22=>chk (0≤z17.1∧z17.1< (t21.2.1:Nat))<|aM a22 z17.1 3 1 fun t23=>cond (decide (z20.1< (t23.2.1:Int))) (cQ [aB] (cond z20.2.1 (aA r1 2 fun t25=>deref t25.1 fun a26=>chk (0≤z17.1∧z17.1< (t25.2.1:Nat))<|aM a26 z17.1 3 1 fun t27=>deref t27.1 fun a28=>chk (0≤z20.1∧z20.1< (t27.2.1:Nat))<|aJ a28 z20.1 1 fun t29=>deref t9.1 fun a30=>chk (0≤t29∧t29< (t9.2.1:Nat))<|bL a30 t29 1 fun t31=>bV [(.bool t31)]) (bV [(.bool false)])) fun (z24:Bool×Unit)=>bV [(.int .i64 (wN z20.1)),(.bool z24.1)]) (dM 6 [(.int .i64 z20.1),(.bool z20.2.1)])) fun (z19:Int×Bool×Unit)=>cQ [aB] (cond z19.2.1 (aA r1 2 fun t33=>deref t33.1 fun a34=>chk (0≤z17.1∧z17.1< (t33.2.1:Nat))<|aJ a34 z17.1 3 fun t35=>deref t9.1 fun a36=>chk (0≤t35∧t35< (t9.2.1:Nat))<|bL a36 t35 1 fun t37=>bV [(.bool (!t37))]) (bV [(.bool false)])) fun (z32:Bool×Unit)=>cQ [aB] (cond z32.1 (aA r1 2 fun t39=>deref t39.1 fun a40=>chk (0≤z17.1∧z17.1< (t39.2.1:Nat))<|aJ a40 z17.1 3 fun t41=>deref t9.1 fun a42=>chk (0≤t41∧t41< (t9.2.1:Nat))<|fJ (a42.add (eH t41 *1)) (.bool true)<|bV [(.bool true)]) (bV [(.bool z17.2.1)])) fun (z38:Bool×Unit)=>bV [(.int .i64 (wN z17.1)),(.bool z38.1)]) (dM 4 [(.int .i64 z17.1),(.bool z17.2.1)])) fun (z16:Int×Bool×Unit)=>bV [(.bool z16.2.1)]) (dM 2 [(.bool z15.1)])) fun (z14:Bool×Unit)=>cI (sv t9)
theorem Is (p_0:Pl6):AZ bU Tryz.f57 [(aG p_0)] =GF p_0:=by kernel_rfl
noncomputable def GV (p_0:Pl6):T:=aD #[(sv p_0.1),(sv p_0.2.1),(sv p_0.2.2.1),(sv p_0.2.2.2.1),(sv p_0.2.2.2.2.1),(sv p_0.2.2.2.2.2.1)] 32 fun r1=>L6 r1 fun t2 t3 t4 t5 t6 t7=>bY 59 [(aH t2 t3 t4 t5 t6 t7)] (.one aI) fun (t8:Int)=>eG (fI 60 (.int .i64 t8) (.int .i64 t8)) (.one aS) fun (t9:Slc)=>L6 r1 fun t10 t11 t12 t13 t14 t15=>bY 59 [(aH t10 t11 t12 t13 t14 t15)] (.one aI) fun (t16:Int)=>deref t9.1 fun a17=>chk (0≤(bZ .i64 (t16 - 1))∧(bZ .i64 (t16 - 1)) < (t9.2.1:Nat))<|fJ (a17.add (eH (bZ .i64 (t16 - 1)) *1)) (.bool true)<|cS 0 [aB] (dK [aB] [(.bool true)] fun (z19:Bool×Unit)=>cond z19.1 (cS 2 [aI,aB] (dK [aI,aB] [(.int .i64 0),(.bool false)] fun (z21:Int×Bool×Unit)=>aA r1 2 fun t22=>cond (decide (z21.1< (t22.2.1:Int))) (cS 4 [aI,aB] (dK [aI,aB] [(.int .i64 0),(.bool z21.2.1)] fun (z24:Int×Bool×Unit)=>aA r1 2 fun t25=>deref t25.1 fun a26=>chk (0≤z21.1∧z21.1< (t25.2.1:Nat))<|aM a26 z21.1 3 1 fun t27=>cond (decide (z24.1< (t27.2.1:Int))) (cQ [aB] (aA r1 2 fun t29=>deref t29.1 fun a30=>chk (0≤z21.1∧z21.1< (t29.2.1:Nat))<|aJ a30 z21.1 3 fun t31=>deref t9.1 fun a32=>chk (0≤t31∧t31< (t9.2.1:Nat))<|bL a32 t31 1 fun t33=>cond t33 (aA r1 2 fun t34=>deref t34.1 fun a35=>chk (0≤z21.1∧z21.1< (t34.2.1:Nat))<|aM a35 z21.1 3 1 fun t36=>deref t36.1 fun a37=>chk (0≤z24.1∧z24.1< (t36.2.1:Nat))<|aJ a37 z24.1 1 fun t38=>deref t9.1 fun a39=>chk (0≤t38∧t38< (t9.2.1:Nat))<|bL a39 t38 1 fun t40=>bV [(.bool (!t40))]) (bV [(.bool false)])) fun (z28:Bool×Unit)=>cQ [aB] (cond z28.1 (aA r1 2 fun t42=>deref t42.1 fun a43=>chk (0≤z21.1∧z21.1< (t42.2.1:Nat))<|aM a43 z21.1 3 1 fun t44=>deref t44.1 fun a45=>chk (0≤z24.1∧z24.1< (t44.2.1:Nat))<|aJ a45 z24.1 1 fun t46=>deref t9.1 fun a47=>chk (0≤t46∧t46< (t9.2.1:Nat))<|fJ (a47.add (eH t46 *1)) (.bool true)<|bV [(.bool true)]) (bV [(.bool z24.2.1)])) fun (z41:Bool×Unit)=>bV [(.int .i64 (wN z24.1)),(.bool z41.1)]) (dM 4 [(.int .i64 z24.1),(.bool z24.2.1)])) fun (z23:Int×Bool×Unit)=>bV [(.int .i64 (wN z21.1)),(.bool z23.2.1)]) (dM 2 [(.int .i64 z21.1),(.bool z21.2.1)])) fun (z20:Int×Bool×Unit)=>bV [(.bool z20.2.1)]) (dM 0 [(.bool z19.1)])) fun (z18:Bool×Unit)=>cI (sv t9)
theorem JM (p_0:Pl6):AZ bU Tryz.f58 [(aG p_0)] =GV p_0:=by kernel_rfl
noncomputable def GG (p_0:Pl6):T:=aD #[(sv p_0.1),(sv p_0.2.1),(sv p_0.2.2.1),(sv p_0.2.2.2.1),(sv p_0.2.2.2.2.1),(sv p_0.2.2.2.2.2.1)] 32 fun r1=>aA r1 0 fun t2=>aA r1 1 fun t3=>cI (.int .i64 (bZ .i64 ((bZ .i64 ((t2.2.1:Int)+(t3.2.1:Int)))+(1:Int))))
theorem Iu (p_0:Pl6):AZ bU Tryz.f59 [(aG p_0)] =GG p_0:=by kernel_rfl
section
variable {φ:AE}{h:AH}{F:List Chk}
theorem Rc:PA bU 60 4 (.bool false):=⟨Tryz.underlying60,⟨Tryz.t4,by kernel_rfl,rfl,⟨_,rfl,rfl⟩,by decide⟩⟩
noncomputable def BU (p_0:A9):Option Int:=some (bZ .i64 ((bZ .i64 ((p_0.1.length:Int)+(p_0.2.1.length:Int)))+1))
theorem CG {p_0:Pl6}{a:List ByteArray}{b:List ByteArray}{d:List BP}{e:List Int}{f:List Int}{g:List ByteArray}(i:Ro.SliceIs cF φ p_0.1 a) (j:Ro.SliceIs cF φ p_0.2.1 b) (n:Ro.SliceIs B4 φ p_0.2.2.1 d) (o:Ro.SliceIs (bW .i64) φ p_0.2.2.2.1 e) (p:Ro.SliceIs (bW .i64) φ p_0.2.2.2.2.1 f) (q:Ro.SliceIs cF φ p_0.2.2.2.2.2.1 g) (s0:St φ (F) h) {r:Int}(hd:BU (a,b,d,e,f,g)=some r):
 CallsH bU 59 [(aG p_0)] h (Ap fun v h'=>∃ψ:AE,∃y:Int,Sub φ ψ∧v=((.one aI):Sh).val y∧y=r∧St ψ (F) h'):=by
 refine AR mixed Tryz.func59 ?_;rw [Iu];unfold GG;unfold BU at hd;have k:p_0.1.2.1=cE a:=i.length;have l:p_0.2.1.2.1=cE b:=j.length;refine AT (vs:=[sv p_0.1,sv p_0.2.1,sv p_0.2.2.1,sv p_0.2.2.2.1,sv p_0.2.2.2.2.1,sv p_0.2.2.2.2.2.1]) s0 fun r1 s c=>AA (x:=p_0.1) c rfl<|AA (x:=p_0.2.1) c rfl ?_;obtain rfl:=iS hd;have m:=c.tail;exact AB ⟨φ,(bZ .i64 ((bZ .i64 ((p_0.1.2.1:Int)+(p_0.2.1.2.1:Int)))+(1:Int))),(bT _),rfl,(by rw [k,l]),m⟩
noncomputable def BJ (p_0:A9):Option (List Bool):=(BU (p_0.1,p_0.2.1,p_0.2.2.1,p_0.2.2.2.1,p_0.2.2.2.2.1,p_0.2.2.2.2.2)).bind fun t8=>(Fp t8 false).bind fun t9=>(forS (σ:=List Bool) 0 (p_0.1.length:Int) t9 fun i_z11 z11=>(EM z11 i_z11 true).bind fun m57=>some m57).bind fun z10=>(loop (σ:=(Bool×List Bool)) (β:=List Bool) (true,z10) fun z15=>cond z15.1 ((forS (σ:=(Bool×List Bool)) 0 (p_0.2.2.1.length:Int) (false,z15.2) fun i_z17 z17=>(loop (σ:=(Int×Bool)) (β:=Bool) (0,true) fun z20=>(idx p_0.2.2.1 i_z17).bind fun e128=>cond (decide (z20.1< (e128.2.1.length:Int))) ((cond z20.2 ((idx p_0.2.2.1 i_z17).bind fun e146=>(idx e146.2.1 z20.1).bind fun e156=>(idx z17.2 e156).bind fun e159=>some e159) (some false)).bind fun z24=>some (cY ((bZ .i64 (z20.1+1)),z24))) (some (dC z20.2))).bind fun z19=>(cond z19 ((idx p_0.2.2.1 i_z17).bind fun e189=>(idx z17.2 e189.1).bind fun e199=>some (!e199)) (some false)).bind fun z32=>(cond z32 ((idx p_0.2.2.1 i_z17).bind fun e220=>(EM z17.2 e220.1 true).bind fun m240=>some (true,m240)) (some (z17.1,z17.2))).bind fun z38=>some (z38.1,z38.2)).bind fun z16=>some (cY (z16.1,z16.2))) (some (dC z15.2))).bind fun z14=>some z14
theorem Iv {p_0:Pl6}{a0:List ByteArray}{a9:List ByteArray}{a1:List BP}{aa:List Int}{ab:List Int}{ac:List ByteArray}(ad:Ro.SliceIs cF φ p_0.1 a0) (b3:Ro.SliceIs cF φ p_0.2.1 a9) (k:Ro.SliceIs B4 φ p_0.2.2.1 a1) (b4:Ro.SliceIs (bW .i64) φ p_0.2.2.2.1 aa) (b5:Ro.SliceIs (bW .i64) φ p_0.2.2.2.2.1 ab) (b6:Ro.SliceIs cF φ p_0.2.2.2.2.2.1 ac) (s0:St φ (F) h) {r:(List Bool)}(hd:BJ (a0,a9,a1,aa,ab,ac)=some r):
 CallsH bU 57 [(aG p_0)] h (Ap fun v h'=>∃ψ:AE,∃y:Slc,∃ae:List Bool,Sub φ ψ∧v=((.one aS):Sh).val y∧ae=r∧Ro.SliceIs dB ψ y ae∧St ψ (F) h'):=by
 refine AR mixed Tryz.func57 ?_;rw [Is];unfold GF;unfold BJ at hd;have af:p_0.1.2.1=cE a0:=ad.length;have ag:p_0.2.2.1.2.1=cE a1:=k.length;refine AT (vs:=[sv p_0.1,sv p_0.2.1,sv p_0.2.2.1,sv p_0.2.2.2.1,sv p_0.2.2.2.2.1,sv p_0.2.2.2.2.2.1]) s0 fun r1 e6 j=>AA (x:=p_0.1) j rfl<|AA (x:=p_0.2.1) j rfl<|AA (x:=p_0.2.2.1) j rfl<|AA (x:=p_0.2.2.2.1) j rfl<|AA (x:=p_0.2.2.2.2.1) j rfl<|AA (x:=p_0.2.2.2.2.2.1) j rfl ?_;obtain ⟨e7,b7,hd⟩:=bS hd;refine AJ (CG (p_0:=(p_0.1,p_0.2.1,p_0.2.2.1,p_0.2.2.2.1,p_0.2.2.2.2.1,p_0.2.2.2.2.2.1,())) ad b3 k b4 b5 b6 j b7) ?_;rintro _ e8 ⟨ah,t8,m,rfl,rfl,b8⟩;refine ⟨t8,rfl,?_⟩;obtain ⟨b9,ba,hd⟩:=bS hd;refine Jc (r:=dB) (x:=false) Rc b8 rfl rfl ba ?_;intro t9 e9 bb;obtain ⟨ea,bc,hd⟩:=bS hd;refine B0 bc (fun bd (y:Int×Unit) w_ g=>∃ψ:AE,∃ai:List Bool,Sub ah ψ∧y.1=bd∧ai=g∧St ψ (cR 4 dB t9 ai::Wq2 r1 p_0::F) w_) ((0:Int),()) rfl ⟨ah,b9,(bT _),rfl,rfl,bb.at1.at1⟩ ?_ ?_ ?_
 ·rintro _ z11 eb _ _ ⟨be,ec,bf,rfl,rfl,a2⟩ u bg aj ak;try dsimp only at u bg aj ak
  refine AA (x:=p_0.1) a2.at1 rfl<|Aj (dT af aj) ?_;obtain ⟨bh,al,u⟩:=bS u;obtain ⟨ed,am,bi⟩:=a2.there al;refine AG _ am (Ab bi (Iy a2 al rfl am ?_));intro ee bj;obtain rfl:=iS u;exact Ag ((wN z11.1),()) _ rfl rfl ⟨be,bh,bf,ak,rfl,bj.at1.at1⟩
 ·rintro _ z11 ef ⟨bk,bl,bm,rfl,rfl,an⟩ bn;refine AA (x:=p_0.1) an.at1 rfl<|Aa (dF af bn)<|AO (AQ (z11.1,()) rfl ⟨_,bk,bl,bm,rfl,rfl,an.at1.at1⟩)
 rintro z10 eg ⟨_,a3,bo,n,_,rfl,bp⟩;try dsimp only at hd
 obtain ⟨bq,br,hd⟩:=bS hd;refine Av (fun (y:Bool×Unit) w_ g=>∃ψ:AE,∃ao:List Bool,Sub a3 ψ∧ao=g∧St ψ (cR 4 dB t9 ao::Wq2 r1 p_0::F) w_) (g:=bq) ?_ ?_
 ·refine Ez br (fun (y:Bool×Unit) w_ g=>∃ψ:AE,∃ap:List Bool,Sub a3 ψ∧(y.1,ap)=g∧St ψ (cR 4 dB t9 ap::Wq2 r1 p_0::F) w_) (true,()) rfl ⟨a3,bo,(bT _),rfl,bp.at1.at1⟩ ?_
  ·rintro z15 eh _ _ ⟨a4,aq,l,rfl,ar⟩ d bs;try dsimp only at d
   refine AI d rfl (fun _ d=> ?_) (fun _ d=> ?_)
   ·have bt:=ar.at1;obtain ⟨ei,bu,d⟩:=bS d;refine B0 bu (fun bv (y:Int×Bool×Unit) w_ g=>∃ψ:AE,∃au:List Bool,Sub a4 ψ∧y.1=bv∧(y.2.1,au)=g∧St ψ (cR 4 dB t9 au::Wq2 r1 p_0::F) w_) ((0:Int),false,()) rfl ⟨a4,aq,(bT _),rfl,rfl,bt.at1⟩ ?_ ?_ ?_
    ·rintro _ z17 ej _ _ ⟨a5,o,p,rfl,rfl,av⟩ a bw aw ax;try dsimp only at a bw aw ax
     refine AA (x:=p_0.2.2.1) av.at1 rfl<|Aj (dT ag aw) ?_;obtain ⟨bx,bz,a⟩:=bS a;refine Av (fun (y:Int×Bool×Unit) w_ g=>∃ψ:AE,Sub a5 ψ∧y.2.1=g∧St ψ (cR 4 dB t9 o::Wq2 r1 p_0::F) w_) (g:=bx) ?_ ?_
     ·refine Ez bz (fun (y:Int×Bool×Unit) w_ g=>∃ψ:AE,Sub a5 ψ∧(y.1,y.2.1)=g∧St ψ (cR 4 dB t9 o::Wq2 r1 p_0::F) w_) ((0:Int),true,()) rfl ⟨a5,(bT _),rfl,av.at1.at1⟩ ?_
      ·rintro z20 ek _ _ ⟨w,z,rfl,e⟩ b c0;try dsimp only at b
       refine AA (x:=p_0.2.2.1) e.at1 rfl ?_;obtain ⟨el,c1,b⟩:=bS b;obtain ⟨em,en,c2,c3,c4,c5⟩:=(k.mono ((((m.trans n).trans l).trans p).trans z)).get c1;refine AG _ c2 (Ab c3 ?_);obtain ⟨_,_,rfl,rfl,⟨_,_,rfl,⟨ca,rfl,cb⟩,c9⟩⟩:=c4;have cc:=cb.length;obtain rfl:=c9;refine AF (x:=ca) (by rw [AV];exact (AC e.sub (c5 1 _ rfl))) rfl<|AI b (by rw [cc] <;>rfl) (fun _ b=> ?_) (fun _ b=> ?_)
       ·obtain ⟨cd,c,b⟩:=bS b;refine Af (fun (y:Bool×Unit) w_ g=>∃ψ:AE,Sub w ψ∧y.1=g∧St ψ (cR 4 dB t9 o::Wq2 r1 p_0::F) w_) (g:=cd) ?_ ?_
        ·refine AI c rfl (fun _ c=> ?_) (fun _ c=> ?_)
         ·refine AA (x:=p_0.2.2.1) e.at1 rfl ?_;obtain ⟨eo,ce,c⟩:=bS c;obtain ⟨ep,er,cf,cg,ch,ci⟩:=(k.mono ((((m.trans n).trans l).trans p).trans z)).get ce;refine AG _ cf (Ab cg ?_);obtain ⟨_,_,rfl,rfl,⟨_,_,rfl,⟨cn,rfl,co⟩,rfl⟩⟩:=ch;refine AF (x:=cn) (by rw [AV];exact (AC e.sub (ci 1 _ rfl))) rfl ?_;obtain ⟨es,cp,c⟩:=bS c;refine Ck co cp e.sub ?_;obtain ⟨cq,cr,c⟩:=bS c;refine Je e cr ?_;obtain rfl:=iS c;exact AN (cq,()) rfl ⟨w,(bT _),rfl,e.at1.at1⟩
         obtain rfl:=iS c;exact AN (false,()) rfl ⟨w,(bT _),rfl,e.at1.at1⟩
        rintro z24 eu ⟨cs,ct,rfl,cu⟩;try dsimp only at b
        obtain rfl:=iS b;exact Ag ((wN z20.1),z24.1,()) _ rfl rfl ⟨cs,(z.trans ct),rfl,cu.at1.at1⟩
       obtain rfl:=iS b;obtain rfl:=c0 _ rfl;exact AO (AQ (z20.1,z20.2.1,()) rfl ⟨w,z,rfl,e.at1.at1⟩)
     rintro z19 ev ⟨a6,a7,rfl,q⟩;try dsimp only at a
     obtain ⟨cv,f,a⟩:=bS a;refine Af (fun (y:Bool×Unit) w_ g=>∃ψ:AE,Sub a6 ψ∧y.1=g∧St ψ (cR 4 dB t9 o::Wq2 r1 p_0::F) w_) (g:=cv) ?_ ?_
     ·refine AI f rfl (fun _ f=> ?_) (fun _ f=> ?_)
      ·refine AA (x:=p_0.2.2.1) q.at1 rfl ?_;obtain ⟨cw,cx,f⟩:=bS f;obtain ⟨ew,ex,cy,cz,d0,d1⟩:=(k.mono ((((m.trans n).trans l).trans p).trans a7)).get cx;refine AG _ cy (Ab cz ?_);obtain ⟨_,_,rfl,rfl,⟨_,_,rfl,⟨ey,rfl,ez⟩,rfl⟩⟩:=d0;refine AF (x:=cw.1) (AC q.sub (d1 0 _ rfl)) rfl ?_;obtain ⟨d6,d7,f⟩:=bS f;refine Je q d7 ?_;obtain rfl:=iS f;exact AN ((!d6),()) rfl ⟨a6,(bT _),rfl,q.at1.at1⟩
      obtain rfl:=iS f;exact AN (false,()) rfl ⟨a6,(bT _),rfl,q.at1.at1⟩
     rintro z32 f0 ⟨a8,ay,rfl,s⟩;try dsimp only at a
     obtain ⟨d8,i,a⟩:=bS a;refine Af (fun (y:Bool×Unit) w_ g=>∃ψ:AE,∃az:List Bool,Sub a8 ψ∧(y.1,az)=g∧St ψ (cR 4 dB t9 az::Wq2 r1 p_0::F) w_) (g:=d8) ?_ ?_
     ·refine AI i rfl (fun _ i=> ?_) (fun _ i=> ?_)
      ·refine AA (x:=p_0.2.2.1) s.at1 rfl ?_;obtain ⟨d9,da,i⟩:=bS i;obtain ⟨f1,f2,db,dc,dd,de⟩:=(k.mono (((((m.trans n).trans l).trans p).trans a7).trans ay)).get da;refine AG _ db (Ab dc ?_);obtain ⟨_,_,rfl,rfl,⟨_,_,rfl,⟨f3,rfl,f4⟩,rfl⟩⟩:=dd;refine AF (x:=d9.1) (AC s.sub (de 0 _ rfl)) rfl ?_;obtain ⟨dj,b0,i⟩:=bS i;obtain ⟨f5,b1,dk⟩:=s.there b0;refine AG _ b1 (Ab dk (Iy s b0 rfl b1 ?_));intro f6 dl;obtain rfl:=iS i;exact AN (true,()) rfl ⟨a8,dj,(bT _),rfl,dl.at1.at1⟩
      obtain rfl:=iS i;exact AN (z17.2.1,()) rfl ⟨a8,o,(bT _),rfl,s.at1.at1⟩
     rintro z38 f7 ⟨dm,dn,dp,rfl,dq⟩;try dsimp only at a
     obtain rfl:=iS a;exact Ag ((wN z17.1),z38.1,()) _ rfl rfl ⟨dm,dn,(((p.trans a7).trans ay).trans dp),ax,rfl,dq.at1.at1⟩
    ·rintro _ z17 f8 ⟨dr,ds,dt,rfl,rfl,b2⟩ du;refine AA (x:=p_0.2.2.1) b2.at1 rfl<|Aa (dF ag du)<|AO (AQ (z17.1,z17.2.1,()) rfl ⟨_,dr,ds,dt,rfl,rfl,b2.at1.at1⟩)
    rintro z16 f9 ⟨_,dv,dw,dx,_,rfl,dy⟩;try dsimp only at d
    obtain rfl:=iS d;exact Ag (z16.2.1,()) _ rfl rfl ⟨dv,dw,(l.trans dx),rfl,dy.at1.at1⟩
   obtain rfl:=iS d;obtain rfl:=bs _ rfl;exact AO (AQ (z15.1,()) rfl ⟨a4,aq,l,rfl,ar.at1.at1⟩)
 rintro z14 fa ⟨fb,dz,e0,rfl,e1⟩;try dsimp only at hd
 obtain ⟨e2,e3,e4,e5⟩:=cD (t:=t9) e1;obtain rfl:=iS hd;exact AB ⟨e2,t9,dz,(((m.trans n).trans e0).trans e3),rfl,rfl,e4,e5.tail⟩
noncomputable def BR (p_0:A9):Option (List Bool):=(BU (p_0.1,p_0.2.1,p_0.2.2.1,p_0.2.2.2.1,p_0.2.2.2.2.1,p_0.2.2.2.2.2)).bind fun t8=>(Fp t8 false).bind fun t9=>(BU (p_0.1,p_0.2.1,p_0.2.2.1,p_0.2.2.2.1,p_0.2.2.2.2.1,p_0.2.2.2.2.2)).bind fun t16=>(EM t9 (bZ .i64 (t16 - 1)) true).bind fun m45=>(loop (σ:=(Bool×List Bool)) (β:=List Bool) (true,m45) fun z19=>cond z19.1 ((forS (σ:=(Bool×List Bool)) 0 (p_0.2.2.1.length:Int) (false,z19.2) fun i_z21 z21=>(loop (σ:=(Int×Bool×List Bool)) (β:=(Bool×List Bool)) (0,z21.1,z21.2) fun z24=>(idx p_0.2.2.1 i_z21).bind fun e101=>cond (decide (z24.1< (e101.2.1.length:Int))) (((idx p_0.2.2.1 i_z21).bind fun e119=>(idx z24.2.2 e119.1).bind fun e129=>cond e129 ((idx p_0.2.2.1 i_z21).bind fun e138=>(idx e138.2.1 z24.1).bind fun e148=>(idx z24.2.2 e148).bind fun e151=>some (!e151)) (some false)).bind fun z28=>(cond z28 ((idx p_0.2.2.1 i_z21).bind fun e172=>(idx e172.2.1 z24.1).bind fun e182=>(EM z24.2.2 e182 true).bind fun m195=>some (true,m195)) (some (z24.2.1,z24.2.2))).bind fun z41=>some (cY ((bZ .i64 (z24.1+1)),z41.1,z41.2))) (some (dC (z24.2.1,z24.2.2)))).bind fun z23=>some (z23.1,z23.2)).bind fun z20=>some (cY (z20.1,z20.2))) (some (dC z19.2))).bind fun z18=>some z18
theorem JN {p_0:Pl6}{a3:List ByteArray}{a4:List ByteArray}{u:List BP}{a5:List Int}{a6:List Int}{a7:List ByteArray}(a8:Ro.SliceIs cF φ p_0.1 a3) (a9:Ro.SliceIs cF φ p_0.2.1 a4) (i:Ro.SliceIs B4 φ p_0.2.2.1 u) (aa:Ro.SliceIs (bW .i64) φ p_0.2.2.2.1 a5) (ab:Ro.SliceIs (bW .i64) φ p_0.2.2.2.2.1 a6) (ac:Ro.SliceIs cF φ p_0.2.2.2.2.2.1 a7) (s0:St φ (F) h) {r:(List Bool)}(hd:BR (a3,a4,u,a5,a6,a7)=some r):
 CallsH bU 58 [(aG p_0)] h (Ap fun v h'=>∃ψ:AE,∃y:Slc,∃ad:List Bool,Sub φ ψ∧v=((.one aS):Sh).val y∧ad=r∧Ro.SliceIs dB ψ y ad∧St ψ (F) h'):=by
 refine AR mixed Tryz.func58 ?_;rw [JM];unfold GV;unfold BR at hd;have ae:p_0.2.2.1.2.1=cE u:=i.length;refine AT (vs:=[sv p_0.1,sv p_0.2.1,sv p_0.2.2.1,sv p_0.2.2.2.1,sv p_0.2.2.2.2.1,sv p_0.2.2.2.2.2.1]) s0 fun r1 dn j=>AA (x:=p_0.1) j rfl<|AA (x:=p_0.2.1) j rfl<|AA (x:=p_0.2.2.1) j rfl<|AA (x:=p_0.2.2.2.1) j rfl<|AA (x:=p_0.2.2.2.2.1) j rfl<|AA (x:=p_0.2.2.2.2.2.1) j rfl ?_;obtain ⟨dp,az,hd⟩:=bS hd;refine AJ (CG (p_0:=(p_0.1,p_0.2.1,p_0.2.2.1,p_0.2.2.2.1,p_0.2.2.2.2.1,p_0.2.2.2.2.2.1,())) a8 a9 i aa ab ac j az) ?_;rintro _ dq ⟨dr,t8,d,rfl,rfl,b0⟩;refine ⟨t8,rfl,?_⟩;obtain ⟨ds,b1,hd⟩:=bS hd;refine Jc (r:=dB) (x:=false) Rc b0 rfl rfl b1 ?_;intro t9 dt k;refine AA (x:=p_0.1) k.at1 rfl<|AA (x:=p_0.2.1) k.at1 rfl<|AA (x:=p_0.2.2.1) k.at1 rfl<|AA (x:=p_0.2.2.2.1) k.at1 rfl<|AA (x:=p_0.2.2.2.2.1) k.at1 rfl<|AA (x:=p_0.2.2.2.2.2.1) k.at1 rfl ?_;obtain ⟨du,b2,hd⟩:=bS hd;refine AJ (CG (p_0:=(p_0.1,p_0.2.1,p_0.2.2.1,p_0.2.2.2.1,p_0.2.2.2.2.1,p_0.2.2.2.2.2.1,())) (a8.mono d) (a9.mono d) (i.mono d) (aa.mono d) (ab.mono d) (ac.mono d) k b2) ?_;rintro _ dv ⟨w,t16,o,rfl,rfl,af⟩;refine ⟨t16,rfl,?_⟩;obtain ⟨b3,ag,hd⟩:=bS hd;obtain ⟨dw,ah,b4⟩:=af.there ag;refine AG _ ah (Ab b4 (Iy af ag rfl ah ?_));intro dx b5;obtain ⟨b6,b7,hd⟩:=bS hd;refine Av (fun (y:Bool×Unit) w_ g=>∃ψ:AE,∃ai:List Bool,Sub w ψ∧ai=g∧St ψ (cR 4 dB t9 ai::Wq2 r1 p_0::F) w_) (g:=b6) ?_ ?_
 ·refine Ez b7 (fun (y:Bool×Unit) w_ g=>∃ψ:AE,∃aj:List Bool,Sub w ψ∧(y.1,aj)=g∧St ψ (cR 4 dB t9 aj::Wq2 r1 p_0::F) w_) (true,()) rfl ⟨w,b3,(bT _),rfl,b5.at1.at1⟩ ?_
  ·rintro z19 dy _ _ ⟨z,ak,l,rfl,al⟩ f b8;try dsimp only at f
   refine AI f rfl (fun _ f=> ?_) (fun _ f=> ?_)
   ·have b9:=al.at1;obtain ⟨dz,ba,f⟩:=bS f;refine B0 ba (fun bb (y:Int×Bool×Unit) w_ g=>∃ψ:AE,∃am:List Bool,Sub z ψ∧y.1=bb∧(y.2.1,am)=g∧St ψ (cR 4 dB t9 am::Wq2 r1 p_0::F) w_) ((0:Int),false,()) rfl ⟨z,ak,(bT _),rfl,rfl,b9.at1⟩ ?_ ?_ ?_
    ·rintro _ z21 e0 _ _ ⟨a0,bc,p,rfl,rfl,an⟩ q bd ao ap;try dsimp only at q bd ao ap
     refine AA (x:=p_0.2.2.1) an.at1 rfl<|Aj (dT ae ao) ?_;obtain ⟨be,bf,q⟩:=bS q;refine Av (fun (y:Int×Bool×Unit) w_ g=>∃ψ:AE,∃aq:List Bool,Sub a0 ψ∧(y.2.1,aq)=g∧St ψ (cR 4 dB t9 aq::Wq2 r1 p_0::F) w_) (g:=be) ?_ ?_
     ·refine Ez bf (fun (y:Int×Bool×Unit) w_ g=>∃ψ:AE,∃ar:List Bool,Sub a0 ψ∧(y.1,y.2.1,ar)=g∧St ψ (cR 4 dB t9 ar::Wq2 r1 p_0::F) w_) ((0:Int),z21.2.1,()) rfl ⟨a0,bc,(bT _),rfl,an.at1.at1⟩ ?_
      ·rintro z24 e1 _ _ ⟨s,a1,m,rfl,c⟩ b bg;try dsimp only at b
       refine AA (x:=p_0.2.2.1) c.at1 rfl ?_;obtain ⟨e2,bh,b⟩:=bS b;obtain ⟨e3,e4,bi,bj,bk,bl⟩:=(i.mono ((((d.trans o).trans l).trans p).trans m)).get bh;refine AG _ bi (Ab bj ?_);obtain ⟨_,_,rfl,rfl,⟨_,_,rfl,⟨bq,rfl,br⟩,bp⟩⟩:=bk;have bs:=br.length;obtain rfl:=bp;refine AF (x:=bq) (by rw [AV];exact (AC c.sub (bl 1 _ rfl))) rfl<|AI b (by rw [bs] <;>rfl) (fun _ b=> ?_) (fun _ b=> ?_)
       ·obtain ⟨bt,a,b⟩:=bS b;refine Af (fun (y:Bool×Unit) w_ g=>∃ψ:AE,Sub s ψ∧y.1=g∧St ψ (cR 4 dB t9 a1::Wq2 r1 p_0::F) w_) (g:=bt) ?_ ?_
        ·refine AA (x:=p_0.2.2.1) c.at1 rfl ?_;obtain ⟨bu,bv,a⟩:=bS a;obtain ⟨e5,e6,bw,bx,bz,c0⟩:=(i.mono ((((d.trans o).trans l).trans p).trans m)).get bv;refine AG _ bw (Ab bx ?_);obtain ⟨_,_,rfl,rfl,⟨_,_,rfl,⟨e7,rfl,e8⟩,rfl⟩⟩:=bz;refine AF (x:=bu.1) (AC c.sub (c0 0 _ rfl)) rfl ?_;obtain ⟨e9,c5,a⟩:=bS a;refine Je c c5<|AI a rfl (fun _ a=> ?_) (fun _ a=> ?_)
         ·refine AA (x:=p_0.2.2.1) c.at1 rfl ?_;obtain ⟨ea,c6,a⟩:=bS a;obtain ⟨eb,ec,c7,c8,c9,ca⟩:=(i.mono ((((d.trans o).trans l).trans p).trans m)).get c6;refine AG _ c7 (Ab c8 ?_);obtain ⟨_,_,rfl,rfl,⟨_,_,rfl,⟨cf,rfl,cg⟩,rfl⟩⟩:=c9;refine AF (x:=cf) (by rw [AV];exact (AC c.sub (ca 1 _ rfl))) rfl ?_;obtain ⟨ed,ch,a⟩:=bS a;refine Ck cg ch c.sub ?_;obtain ⟨ci,cj,a⟩:=bS a;refine Je c cj ?_;obtain rfl:=iS a;exact AN ((!ci),()) rfl ⟨s,(bT _),rfl,c.at1.at1⟩
         obtain rfl:=iS a;exact AN (false,()) rfl ⟨s,(bT _),rfl,c.at1.at1⟩
        rintro z28 ee ⟨a2,au,rfl,n⟩;try dsimp only at b
        obtain ⟨ck,e,b⟩:=bS b;refine Af (fun (y:Bool×Unit) w_ g=>∃ψ:AE,∃av:List Bool,Sub a2 ψ∧(y.1,av)=g∧St ψ (cR 4 dB t9 av::Wq2 r1 p_0::F) w_) (g:=ck) ?_ ?_
        ·refine AI e rfl (fun _ e=> ?_) (fun _ e=> ?_)
         ·refine AA (x:=p_0.2.2.1) n.at1 rfl ?_;obtain ⟨ef,cl,e⟩:=bS e;obtain ⟨eg,eh,cm,cn,co,cp⟩:=(i.mono (((((d.trans o).trans l).trans p).trans m).trans au)).get cl;refine AG _ cm (Ab cn ?_);obtain ⟨_,_,rfl,rfl,⟨_,_,rfl,⟨cu,rfl,cv⟩,rfl⟩⟩:=co;refine AF (x:=cu) (by rw [AV];exact (AC n.sub (cp 1 _ rfl))) rfl ?_;obtain ⟨ei,cw,e⟩:=bS e;refine Ck cv cw n.sub ?_;obtain ⟨cx,aw,e⟩:=bS e;obtain ⟨ej,ax,cy⟩:=n.there aw;refine AG _ ax (Ab cy (Iy n aw rfl ax ?_));intro ek cz;obtain rfl:=iS e;exact AN (true,()) rfl ⟨a2,cx,(bT _),rfl,cz.at1.at1⟩
         obtain rfl:=iS e;exact AN (z24.2.1,()) rfl ⟨a2,a1,(bT _),rfl,n.at1.at1⟩
        rintro z41 el ⟨d0,d1,d2,rfl,d3⟩;try dsimp only at b
        obtain rfl:=iS b;exact Ag ((wN z24.1),z41.1,()) _ rfl rfl ⟨d0,d1,((m.trans au).trans d2),rfl,d3.at1.at1⟩
       obtain rfl:=iS b;obtain rfl:=bg _ rfl;exact AO (AQ (z24.1,z24.2.1,()) rfl ⟨s,a1,m,rfl,c.at1.at1⟩)
     rintro z23 em ⟨d4,d5,d6,rfl,d7⟩;try dsimp only at q
     obtain rfl:=iS q;exact Ag ((wN z21.1),z23.2.1,()) _ rfl rfl ⟨d4,d5,(p.trans d6),ap,rfl,d7.at1.at1⟩
    ·rintro _ z21 en ⟨d8,d9,da,rfl,rfl,ay⟩ db;refine AA (x:=p_0.2.2.1) ay.at1 rfl<|Aa (dF ae db)<|AO (AQ (z21.1,z21.2.1,()) rfl ⟨_,d8,d9,da,rfl,rfl,ay.at1.at1⟩)
    rintro z20 eo ⟨_,dc,dd,de,_,rfl,df⟩;try dsimp only at f
    obtain rfl:=iS f;exact Ag (z20.2.1,()) _ rfl rfl ⟨dc,dd,(l.trans de),rfl,df.at1.at1⟩
   obtain rfl:=iS f;obtain rfl:=b8 _ rfl;exact AO (AQ (z19.1,()) rfl ⟨z,ak,l,rfl,al.at1.at1⟩)
 rintro z18 ep ⟨er,dg,dh,rfl,di⟩;try dsimp only at hd
 obtain ⟨dj,dk,dl,dm⟩:=cD (t:=t9) di;obtain rfl:=iS hd;exact AB ⟨dj,t9,dg,(((d.trans o).trans dh).trans dk),rfl,rfl,dl,dm.tail⟩
noncomputable def BK (p_0:A9):Option (Int×Int):=
 (BJ (p_0.1,p_0.2.1,p_0.2.2.1,p_0.2.2.2.1,p_0.2.2.2.2.1,p_0.2.2.2.2.2)).bind fun t8=>
 (BR (p_0.1,p_0.2.1,p_0.2.2.1,p_0.2.2.2.1,p_0.2.2.2.2.1,p_0.2.2.2.2.2)).bind fun t15=>
 (loop (σ:=Int) (β:=AY Unit (Int×Int)) (p_0.1.length:Int) fun z18=>
  (BU (p_0.1,p_0.2.1,p_0.2.2.1,p_0.2.2.2.1,p_0.2.2.2.2.1,p_0.2.2.2.2.2)).bind fun t25=>
  cond (decide (z18< (bZ .i64 (t25 - 1))))
  ((idx t8 z18).bind fun e49=>
   cond (!e49)
   (some (dC (dC (z18,18))))
   (some (cY (bZ .i64 (z18+1)))))
  (some (dC (cY ())))).bind fun e_z17=>match e_z17 with
 |.next z17=>
  (loop (σ:=Int) (β:=AY Unit (Int×Int)) (p_0.1.length:Int) fun z30=>
   (BU (p_0.1,p_0.2.1,p_0.2.2.1,p_0.2.2.2.1,p_0.2.2.2.2.1,p_0.2.2.2.2.2)).bind fun t37=>
   cond (decide (z30< (bZ .i64 (t37 - 1))))
   ((idx t15 z30).bind fun e74=>
    cond (!e74)
    (some (dC (dC (z30,17))))
    (some (cY (bZ .i64 (z30+1)))))
   (some (dC (cY ())))).bind fun e_z29=>match e_z29 with
  |.next z29=>
   some (0,0)
  |.done q84=>some q84
 |.done q85=>some q85
theorem Iw {p_0:Pl6}{a1:List ByteArray}{a6:List ByteArray}{a7:List BP}{a8:List Int}{a9:List Int}{aa:List ByteArray}(n:Ro.SliceIs cF φ p_0.1 a1) (o:Ro.SliceIs cF φ p_0.2.1 a6) (p:Ro.SliceIs B4 φ p_0.2.2.1 a7) (q:Ro.SliceIs (bW .i64) φ p_0.2.2.2.1 a8) (s:Ro.SliceIs (bW .i64) φ p_0.2.2.2.2.1 a9) (t:Ro.SliceIs cF φ p_0.2.2.2.2.2.1 aa) (s0:St φ (F) h) {r:(Int×Int)}(hd:BK (a1,a6,a7,a8,a9,aa)=some r):
 CallsH bU 16 [(aG p_0)] h (Ap fun v h'=>∃ψ:AE,∃y:Int×Int×Unit,Sub φ ψ∧v=((.tuple [aI,aI]):Sh).val y∧(y.1,y.2.1)=r∧St ψ (F) h'):=by
 refine AR mixed Tryz.func16 ?_;rw [Ir];unfold GE;unfold BK at hd;have ab:p_0.1.2.1=cE a1:=n.length;refine AT (vs:=[sv p_0.1,sv p_0.2.1,sv p_0.2.2.1,sv p_0.2.2.2.1,sv p_0.2.2.2.2.1,sv p_0.2.2.2.2.2.1]) s0 fun r1 ax j=>AA (x:=p_0.1) j rfl<|AA (x:=p_0.2.1) j rfl<|AA (x:=p_0.2.2.1) j rfl<|AA (x:=p_0.2.2.2.1) j rfl<|AA (x:=p_0.2.2.2.2.1) j rfl<|AA (x:=p_0.2.2.2.2.2.1) j rfl ?_;obtain ⟨ay,ag,hd⟩:=bS hd;refine AJ (Iv (p_0:=(p_0.1,p_0.2.1,p_0.2.2.1,p_0.2.2.2.1,p_0.2.2.2.2.1,p_0.2.2.2.2.2.1,())) n o p q s t j ag) ?_;rintro _ az ⟨b0,t8,b1,a,rfl,rfl,ah,k⟩;refine ⟨t8,rfl,?_⟩;refine AA (x:=p_0.1) k rfl<|AA (x:=p_0.2.1) k rfl<|AA (x:=p_0.2.2.1) k rfl<|AA (x:=p_0.2.2.2.1) k rfl<|AA (x:=p_0.2.2.2.2.1) k rfl<|AA (x:=p_0.2.2.2.2.2.1) k rfl ?_;obtain ⟨b2,ai,hd⟩:=bS hd;refine AJ (JN (p_0:=(p_0.1,p_0.2.1,p_0.2.2.1,p_0.2.2.2.1,p_0.2.2.2.2.1,p_0.2.2.2.2.2.1,())) (n.mono a) (o.mono a) (p.mono a) (q.mono a) (s.mono a) (t.mono a) k ai) ?_;rintro _ b3 ⟨a2,t15,b4,b,rfl,rfl,aj,ac⟩;refine ⟨t15,rfl,?_⟩;refine AA (x:=p_0.1) ac rfl ?_;obtain ⟨ak,al,hd⟩:=bS hd;refine Av (fun (y:Int×Int×Int×Unit) w_ g=>∃ψ:AE,Sub a2 ψ∧cY ()=g∧St ψ (Wq2 r1 p_0::F) w_) (g:=ak) ?_ ?_
 ·refine Ez al (fun (y:Int×Int×Int×Unit) w_ g=>∃ψ:AE,Sub a2 ψ∧y.1=g∧St ψ (Wq2 r1 p_0::F) w_) ((p_0.1.2.1:Int),(0:Int),(0:Int),()) rfl ⟨a2,(bT _),(by rw [ab]),ac⟩ ?_
  ·rintro z18 b5 _ _ ⟨b6,e,rfl,l⟩ c ad;try dsimp only at c
   refine AA (x:=p_0.1) l rfl<|AA (x:=p_0.2.1) l rfl<|AA (x:=p_0.2.2.1) l rfl<|AA (x:=p_0.2.2.2.1) l rfl<|AA (x:=p_0.2.2.2.2.1) l rfl<|AA (x:=p_0.2.2.2.2.2.1) l rfl ?_;obtain ⟨b7,am,c⟩:=bS c;refine AJ (CG (p_0:=(p_0.1,p_0.2.1,p_0.2.2.1,p_0.2.2.2.1,p_0.2.2.2.2.1,p_0.2.2.2.2.2.1,())) (n.mono ((a.trans b).trans e)) (o.mono ((a.trans b).trans e)) (p.mono ((a.trans b).trans e)) (q.mono ((a.trans b).trans e)) (s.mono ((a.trans b).trans e)) (t.mono ((a.trans b).trans e)) l am) ?_;rintro _ b8 ⟨a3,t25,u,rfl,rfl,w⟩;refine ⟨t25,rfl,?_⟩;refine AI c rfl (fun _ c=> ?_) (fun _ c=> ?_)
   ·obtain ⟨b9,an,c⟩:=bS c;refine Ck ah an (cT ((b.trans e).trans u) w.sub)<|AI c rfl (fun _ c=> ?_) (fun _ c=> ?_)
    ·obtain rfl:=iS c;obtain rfl:=ad _ rfl;try dsimp only at hd
     obtain rfl:=iS hd;exact Ak (Ai (AB ⟨a3,(z18.1,(18:Int),()),(((a.trans b).trans e).trans u),rfl,rfl,w.tail⟩))
    obtain rfl:=iS c;exact Ag ((wN z18.1),z18.2.1,z18.2.2.1,()) _ rfl rfl ⟨a3,(e.trans u),rfl,w⟩
   obtain rfl:=iS c;obtain rfl:=ad _ rfl;exact AO (AQ (z18.1,z18.2.1,z18.2.2.1,()) rfl ⟨a3,(e.trans u),rfl,w⟩)
 rintro z17 ba ⟨a4,i,rfl,ae⟩;try dsimp only at hd
 refine AA (x:=p_0.1) ae rfl ?_;obtain ⟨ao,ap,hd⟩:=bS hd;refine Av (fun (y:Int×Int×Int×Unit) w_ g=>∃ψ:AE,Sub a4 ψ∧cY ()=g∧St ψ (Wq2 r1 p_0::F) w_) (g:=ao) ?_ ?_
 ·refine Ez ap (fun (y:Int×Int×Int×Unit) w_ g=>∃ψ:AE,Sub a4 ψ∧y.1=g∧St ψ (Wq2 r1 p_0::F) w_) ((p_0.1.2.1:Int),z17.2.1,z17.2.2.1,()) rfl ⟨a4,(bT _),(by rw [ab]),ae⟩ ?_
  ·rintro z30 bb _ _ ⟨bc,f,rfl,m⟩ d af;try dsimp only at d
   refine AA (x:=p_0.1) m rfl<|AA (x:=p_0.2.1) m rfl<|AA (x:=p_0.2.2.1) m rfl<|AA (x:=p_0.2.2.2.1) m rfl<|AA (x:=p_0.2.2.2.2.1) m rfl<|AA (x:=p_0.2.2.2.2.2.1) m rfl ?_;obtain ⟨bd,aq,d⟩:=bS d;refine AJ (CG (p_0:=(p_0.1,p_0.2.1,p_0.2.2.1,p_0.2.2.2.1,p_0.2.2.2.2.1,p_0.2.2.2.2.2.1,())) (n.mono (((a.trans b).trans i).trans f)) (o.mono (((a.trans b).trans i).trans f)) (p.mono (((a.trans b).trans i).trans f)) (q.mono (((a.trans b).trans i).trans f)) (s.mono (((a.trans b).trans i).trans f)) (t.mono (((a.trans b).trans i).trans f)) m aq) ?_;rintro _ be ⟨a5,t37,z,rfl,rfl,a0⟩;refine ⟨t37,rfl,?_⟩;refine AI d rfl (fun _ d=> ?_) (fun _ d=> ?_)
   ·obtain ⟨bf,ar,d⟩:=bS d;refine Ck aj ar (cT ((i.trans f).trans z) a0.sub)<|AI d rfl (fun _ d=> ?_) (fun _ d=> ?_)
    ·obtain rfl:=iS d;obtain rfl:=af _ rfl;try dsimp only at hd
     obtain rfl:=iS hd;exact Ak (Ai (AB ⟨a5,(z30.1,(17:Int),()),((((a.trans b).trans i).trans f).trans z),rfl,rfl,a0.tail⟩))
    obtain rfl:=iS d;exact Ag ((wN z30.1),z30.2.1,z30.2.2.1,()) _ rfl rfl ⟨a5,(f.trans z),rfl,a0⟩
   obtain rfl:=iS d;obtain rfl:=af _ rfl;exact AO (AQ (z30.1,z30.2.1,z30.2.2.1,()) rfl ⟨a5,(f.trans z),rfl,a0⟩)
 rintro z29 bg ⟨au,av,rfl,aw⟩;try dsimp only at hd
 obtain rfl:=iS hd;exact AB ⟨au,((0:Int),(0:Int),()),(((a.trans b).trans i).trans av),rfl,rfl,aw.tail⟩
noncomputable def Cn (a_0:List Int) (b_1:List Int):Option Bool:=
 cond ((a_0.length:Int) !=(b_1.length:Int))
 (some false)
 ((C5 (σ:=Unit) (β:=Bool) 0 (a_0.length:Int) () fun i_z2 z2=>
  (idx a_0 i_z2).bind fun e19=>
  (idx b_1 i_z2).bind fun e22=>
  cond (e19 !=e22)
  (some (dC false))
  (some (cY ()))).bind fun e_z1=>match e_z1 with
  |.next z1=>
   some true
  |.done q35=>some q35)
theorem JO {a_0:Slc}{d:List Int}{b_1:Slc}{e:List Int}(i:Ro.SliceIs (bW .i64) φ a_0 d) (j:Ro.SliceIs (bW .i64) φ b_1 e) (s0:St φ (F) h) {r:Bool}(hd:Cn d e=some r):
 CallsH bU 21 [(sv a_0),(sv b_1)] h (Ap fun v h'=>∃ψ:AE,∃y:Bool,Sub φ ψ∧v=((.one aB):Sh).val y∧y=r∧St ψ (F) h'):=by
 refine AR mixed Tryz.func21 ?_;rw [JL];unfold GU;unfold Cn at hd;have f:a_0.2.1=cE d:=i.length;have n:b_1.2.1=cE e:=j.length;refine AI hd (by rw [f,n] <;>rfl) (fun _ hd=> ?_) (fun _ hd=> ?_)
 ·obtain rfl:=iS hd;exact AB ⟨φ,false,(bT _),rfl,rfl,s0⟩
 obtain ⟨a5,o,hd⟩:=bS hd;refine BX o (fun p (y:Int×Bool×Unit) w_ g=>∃ψ:AE,Sub φ ψ∧y.1=p∧()=g∧St ψ (F) w_) ((0:Int),false,()) rfl ⟨φ,(bT _),rfl,rfl,s0⟩ ?_ ?_ ?_
 ·rintro _ z2 a6 _ _ ⟨k,b,rfl,rfl,c⟩ a q l m s;try dsimp only at a q l m
  refine Aj (dT f l) ?_;obtain ⟨a7,t,a⟩:=bS a;refine Ck i t (cT b c.sub) ?_;obtain ⟨a8,u,a⟩:=bS a;refine Ck j u (cT b c.sub)<|AI a rfl (fun _ a=> ?_) (fun _ a=> ?_)
  ·obtain rfl:=iS a;obtain rfl:=s _ rfl;try dsimp only at hd
   obtain rfl:=iS hd;exact Ak (Ai (AB ⟨k,false,b,rfl,rfl,c⟩))
  obtain rfl:=iS a;exact Ag ((wN z2.1),z2.2.1,()) _ rfl rfl ⟨k,b,m,rfl,c⟩
 ·rintro _ z2 a9 _ ⟨w,x,rfl,rfl,z⟩ a0 a1;subst a1;refine Aa (dF f a0)<|AO (AQ (z2.1,z2.2.1,()) rfl ⟨_,rfl,_,w,x,rfl,rfl,z⟩)
 rintro z1 aa ⟨_,rfl,_,a2,a3,_,rfl,a4⟩;try dsimp only at hd
 obtain rfl:=iS hd;exact AB ⟨a2,true,a3,rfl,rfl,a4⟩
end
end Go.Proofs.YteolcjbobmpdiaaGreatDoor
namespace Go.Proofs.YteolcjbobmpdiaaGreatDoor
open Go Go.Eng Dg
set_option linter.unusedVariables false
set_option maxRecDepth 100000
section
variable {p:dtP}
theorem OV (S:Sy p):BU p=some ((p.1.length+p.2.1.length+1:Nat):Int):=by
 have hT:=S.t1;have hV:=S.v1;unfold BU;congr 1;rw [w64 (n:=(p.1.length:Int)+(p.2.1.length:Int)) (by omega) (by omega),w64 (by omega) (by omega)];omega
def CM (l:List Bool):Nat:=l.countP fun b=> !b
theorem OW {l:List Bool}{i:Nat}(h:l[i]? =some false):CM (l.set i true)+1=CM l:=IG h
theorem Tc {l:List Bool}{i j:Nat}(h:(l.set i true)[j]? =some true):j=i∨l[j]? =some true:=by
 rw [fB]at h;split at h
 ·rename_i e;exact .inl e.symm
 ·exact .inr h
set_option maxHeartbeats 1000000 in
theorem WS (S:Sy p):Ok (BJ p) fun l=>l.length=p.1.length+p.2.1.length+1∧ ∀s:Nat,l[s]? =some true→Pro (nT p) p.2.2.1 (s:Int):=by
 have hT:=S.t1;have hV:=S.v1;have hF:=S.few;have hnT:nT p=(p.1.length:Int):=rfl;unfold BJ;refine AL (x:=((p.1.length+p.2.1.length+1:Nat):Int)) (OV S) (AL (x:=eR (p.1.length+p.2.1.length+1) false) (by unfold Fp;rw [if_pos ⟨by omega,by omega⟩,cL]) ?_);refine CN (fun k (l:List Bool)=>l.length=p.1.length+p.2.1.length+1∧ ∀s:Nat,l[s]? =some true→s<k) (by omega) ⟨by simp,fun s h=> ?_⟩ (fun k l hk hl=> ?_) fun l hl=> ?_
 ·rw [eF]at h;split at h<;>simp at h
 ·refine Ie (by omega) (by omega) (AD ⟨by simp [hl.1],fun s h=> ?_⟩);rw [cL]at h;rcases Tc h with h | h
  ·omega
  ·have:=hl.2 s h;omega
 ·obtain ⟨l1,l2⟩:=hl;refine ED (fun (z:Bool×List Bool)=>z.2.length=p.1.length+p.2.1.length+1∧ ∀s:Nat,z.2[s]? =some true→Pro (nT p) p.2.2.1 (s:Int)) (fun z=>CM z.2 *2+(if z.1 then 1 else 0)) (fun l=>l.length=p.1.length+p.2.1.length+1∧ ∀s:Nat,l[s]? =some true→Pro (nT p) p.2.2.1 (s:Int)) ⟨l1,fun s h=>.term (by omega) (by have:=l2 s h;omega)⟩ (fun z hz=> ?_) fun l hl=>AD hl;obtain ⟨c,m⟩:=z;obtain ⟨m1,m2⟩:=hz;dsimp only at m1 m2 ⊢;refine Ac (fun hc=> ?_) fun hc=>CE ⟨m1,m2⟩;subst hc;refine CN (fun k (z:Bool×List Bool)=>z.2.length=p.1.length+p.2.1.length+1∧(∀s:Nat,z.2[s]? =some true→Pro (nT p) p.2.2.1 (s:Int))∧CM z.2≤CM m∧(z.1=true→CM z.2<CM m)) (by omega) ⟨m1,m2,cU _,by simp⟩ (fun k z hk hz=> ?_) fun z hz=>Cw ⟨⟨hz.1,hz.2.1⟩,?_⟩
  ·obtain ⟨g,w⟩:=z;obtain ⟨w1,w2,w3,w4⟩:=hz;dsimp only at w1 w2 w3 w4 ⊢;have hr:=bR hk;have hmem:=cZ hk;obtain ⟨r,hre⟩:∃r,p.2.2.1[k] =r:=⟨_,rfl⟩;rw [hre]at hr hmem;have hL:=S.left r hmem;have hR:=S.right r hmem;have hS:=S.short r hmem;refine ED (fun (z:Int×Bool)=>∃j:Nat,z.1=(j:Int)∧j≤r.2.1.length∧(z.2=true→ ∀s∈r.2.1.take j,Pro (nT p) p.2.2.1 s)) (fun z=>r.2.1.length - z.1.toNat) (fun b=>b=true→ ∀s∈r.2.1,Pro (nT p) p.2.2.1 s) ⟨0,rfl,eT _,by simp⟩ (fun z hz=> ?_) fun b hb=> ?_
   ·obtain ⟨j',b⟩:=z;obtain ⟨j,h1,h2,h3⟩:=hz;dsimp only at h1 h3 ⊢;subst h1;refine AW hr (Ac (fun hc=> ?_) fun hc=>CE ?_)
    ·have hlt:j<r.2.1.length:=by have:=of_decide_eq_true hc;omega
     have hj:=bR hlt;have hs:=hR _ (cZ hlt);refine AP (Q:=fun b'=>b'=true→ ∀s∈r.2.1.take (j+1),Pro (nT p) p.2.2.1 s) (Ac (fun hb=> ?_) fun hb=>AD (by simp)) fun b' hb'=> ?_
     ·have hw:(r.2.1[j]).toNat<w.length:=by omega
      refine AW hr (AW hj (EN hs.1 (bR hw) (AD fun ht s hs'=> ?_)));rcases (BZ hj).1 hs' with h | rfl
      ·exact h3 hb s h
      ·have:=w2 _ (by rw [bR hw,ht])
       rwa [eU hs.1]at this
     ·refine Cw ⟨⟨j+1,by rw [w64 (by omega) (by omega)];omega,hlt,hb'⟩,?_⟩;rw [w64 (by omega) (by omega)];omega
    ·have:j=r.2.1.length:=by have:=of_decide_eq_false hc;omega
     subst this;rw [cN (cU _)]at h3;exact h3
   ·have hw:r.1.toNat<w.length:=by omega
    have hwg:=bR hw;refine AP (Q:=fun c=>c=true→b=true∧w[r.1.toNat]? =some false) (Ac (fun h=>AW hr (EN (by omega) hwg (AD fun h'=>⟨h,by rw [hwg];simpa using h'⟩))) fun h=>AD (by simp)) fun c hc=>AP (Q:=fun (z:Bool×List Bool)=>z.2.length=p.1.length+p.2.1.length+1∧(∀s:Nat,z.2[s]? =some true→Pro (nT p) p.2.2.1 (s:Int))∧CM z.2≤CM m∧(z.1=true→CM z.2<CM m)) (Ac (fun h=> ?_) fun h=>AD ⟨w1,w2,w3,w4⟩) fun z hz=>AD hz;obtain ⟨c1,c2⟩:=hc h;have hfs:=OW c2;refine AW hr (Ie (by omega) (by omega) (AD ⟨by simp [w1],fun s hs=> ?_,by dsimp only;omega,fun _=>by dsimp only;omega⟩));rcases Tc hs with rfl | h
    ·rw [eU (by omega)];exact .rule hmem (hb c1)
    ·exact w2 s h
  ·obtain ⟨_,_,w3,w4⟩:=hz;obtain ⟨g,w⟩:=z;dsimp only at w3 w4 ⊢;cases g with
   |true=>have:=w4 rfl;simp;omega
   |false=>simp;omega
set_option maxHeartbeats 1000000 in
theorem Xd (S:Sy p):Ok (BR p) fun l=>l.length=p.1.length+p.2.1.length+1:=by
 have hT:=S.t1;have hV:=S.v1;have hF:=S.few;have hnT:nT p=(p.1.length:Int):=rfl;unfold BR;refine AL (x:=((p.1.length+p.2.1.length+1:Nat):Int)) (OV S) (AL (x:=eR (p.1.length+p.2.1.length+1) false) (by unfold Fp;rw [if_pos ⟨by omega,by omega⟩,cL]) (AL (x:=((p.1.length+p.2.1.length+1:Nat):Int)) (OV S) ?_));have e1:bZ .i64 (((p.1.length+p.2.1.length+1:Nat):Int) - 1)=((p.1.length+p.2.1.length:Nat):Int):=by rw [w64 (by omega) (by omega)];omega
 rw [e1];refine Ie (by omega) (by simp;omega)<|ED (fun (z:Bool×List Bool)=>z.2.length=p.1.length+p.2.1.length+1) (fun z=>CM z.2 *2+(if z.1 then 1 else 0)) (fun l=>l.length=p.1.length+p.2.1.length+1) (by simp) (fun z hz=> ?_) fun l hl=>AD hl;obtain ⟨c,m⟩:=z;dsimp only at hz ⊢;refine Ac (fun hc=> ?_) fun hc=>CE hz;subst hc;refine CN (fun k (z:Bool×List Bool)=>z.2.length=p.1.length+p.2.1.length+1∧CM z.2≤CM m∧(z.1=true→CM z.2<CM m)) (by omega) ⟨hz,cU _,by simp⟩ (fun k z hk hz=> ?_) fun z hz=>Cw ⟨hz.1,?_⟩
 ·obtain ⟨g,w⟩:=z;have hr:=bR hk;have hmem:=cZ hk;obtain ⟨r,hre⟩:∃r,p.2.2.1[k] =r:=⟨_,rfl⟩;rw [hre]at hr hmem;have hL:=S.left r hmem;have hR:=S.right r hmem;have hS:=S.short r hmem;refine ED (fun (z:Int×Bool×List Bool)=>∃j:Nat,z.1=(j:Int)∧j≤r.2.1.length∧z.2.2.length=p.1.length+p.2.1.length+1∧CM z.2.2≤CM m∧(z.2.1=true→CM z.2.2<CM m)) (fun z=>r.2.1.length - z.1.toNat) (fun (z:Bool×List Bool)=>z.2.length=p.1.length+p.2.1.length+1∧CM z.2≤CM m∧(z.1=true→CM z.2<CM m)) ⟨0,rfl,eT _,hz⟩ (fun z hz=> ?_) fun b hb=>AD hb;obtain ⟨j',b,w⟩:=z;obtain ⟨j,h1,h2,h3,h4,h5⟩:=hz;dsimp only at h1 h3 h4 h5 ⊢;subst h1;refine AW hr (Ac (fun hc=> ?_) fun hc=>CE ⟨h3,h4,h5⟩);have hlt:j<r.2.1.length:=by have:=of_decide_eq_true hc;omega
  have hj:=bR hlt;have hs:=hR _ (cZ hlt);have hw:r.1.toNat<w.length:=by omega
  have hw2:(r.2.1[j]).toNat<w.length:=by omega
  have hwg:=bR hw2;refine AP (Q:=fun c=>c=true→w[(r.2.1[j]).toNat]? =some false) (AW hr (EN (by omega) (bR hw) (Ac (fun h=>AW hr (AW hj (EN hs.1 hwg (AD fun h'=>by rw [hwg];simpa using h')))) fun h=>AD (by simp)))) fun c hc=> ?_;refine AP (Q:=fun (z:Bool×List Bool)=>z.2.length=p.1.length+p.2.1.length+1∧CM z.2≤CM m∧(z.1=true→CM z.2<CM m)) (Ac (fun h=> ?_) fun h=>AD ⟨h3,h4,h5⟩) fun z hz=> ?_
  ·have hfs:=OW (hc h);exact AW hr (AW hj (Ie hs.1 (by omega) (AD ⟨by simp [h3],by dsimp only;omega,fun _=>by dsimp only;omega⟩)))
  ·refine Cw ⟨⟨j+1,by rw [w64 (by omega) (by omega)];omega,hlt,hz⟩,?_⟩;rw [w64 (by omega) (by omega)];omega
 ·obtain ⟨_,w3,w4⟩:=hz;obtain ⟨g,w⟩:=z;dsimp only at w3 w4 ⊢;cases g with
  |true=>have:=w4 rfl;simp;omega
  |false=>simp;omega
theorem OX (S:Sy p):Ok (BK p) fun r=>r.2=0→ ∀v:Nat,v<p.2.1.length→Pro (nT p) p.2.2.1 ((p.1.length+v:Nat):Int):=by
 have hT:=S.t1;have hV:=S.v1;unfold BK;refine AP (WS S) fun l hl=>AP (Xd S) fun l' hl'=> ?_;obtain ⟨l1,l2⟩:=hl;have l1:l.length=p.1.length+p.2.1.length+1:=l1;have hl':l'.length=p.1.length+p.2.1.length+1:=hl';have e1:bZ .i64 (((p.1.length+p.2.1.length+1:Nat):Int) - 1)=((p.1.length+p.2.1.length:Nat):Int):=by rw [w64 (by omega) (by omega)];omega
 refine ED (fun z=>∃k:Nat,z=((p.1.length+k:Nat):Int)∧k≤p.2.1.length∧ ∀v,v<k→l[p.1.length+v]? =some true) (fun z=>p.1.length+p.2.1.length - z.toNat)
  (fun b=>(∃z,b= .done (z,18))∨(b= .next ()∧ ∀v,v<p.2.1.length→l[p.1.length+v]? =some true)) ⟨0,rfl,eT _,fun v hv=>by omega⟩ (fun z hz=> ?_) fun b hb=> ?_
 ·obtain ⟨k,rfl,h1,h2⟩:=hz;refine AL (x:=((p.1.length+p.2.1.length+1:Nat):Int)) (OV S) ?_;rw [e1];refine Ac (fun hc=> ?_) fun hc=>CE (.inr ⟨rfl,fun v hv=>h2 v (by have:=of_decide_eq_false hc;omega)⟩);have hlt:k<p.2.1.length:=by have:=of_decide_eq_true hc;omega
  have hg:=bR (l:=l) (i:=p.1.length+k) (by omega);refine AW hg (Ac (fun h=>CE (.inl ⟨_,rfl⟩)) fun h=>Cw ⟨⟨k+1,by rw [w64 (by omega) (by omega)];omega,hlt,fun v hv=> ?_⟩,?_⟩)
  ·rcases Nat.lt_succ_iff_lt_or_eq.1 hv with hv | rfl
   ·exact h2 v hv
   ·rw [hg]
    have:l[p.1.length+v] =true:=by simpa using h
    rw [this]
  ·rw [w64 (by omega) (by omega)];omega
 ·rcases hb with ⟨z,rfl⟩|⟨rfl,hb⟩
  ·exact AD fun h=>by simp at h
  ·refine ED (fun z=>∃k:Nat,z=((p.1.length+k:Nat):Int)∧k≤p.2.1.length) (fun z=>p.1.length+p.2.1.length - z.toNat)
    (fun b=>(∃z,b= .done (z,17))∨b= .next ()) ⟨0,rfl,eT _⟩ (fun z hz=> ?_) fun b hb'=> ?_
   ·obtain ⟨k,rfl,h1⟩:=hz;refine AL (x:=((p.1.length+p.2.1.length+1:Nat):Int)) (OV S) ?_;rw [e1];refine Ac (fun hc=> ?_) fun hc=>CE (.inr rfl);have hlt:k<p.2.1.length:=by have:=of_decide_eq_true hc;omega
    have hg:=bR (l:=l') (i:=p.1.length+k) (by omega);refine AW hg (Ac (fun h=>CE (.inl ⟨_,rfl⟩)) fun h=>Cw ⟨⟨k+1,by rw [w64 (by omega) (by omega)];omega,hlt⟩,?_⟩);rw [w64 (by omega) (by omega)];omega
   ·rcases hb' with ⟨z,rfl⟩|rfl
    ·exact AD fun h=>by simp at h
    ·exact AD fun _ v hv=>l2 _ (hb v hv)
end
structure MkI (p:dtP) (B:List dtK) (E:List (List Edge)) (d:LkD) (tt:Int):Prop where
 all:Dr p B E d.fa
 dp:d.p=p
 dA:d.A=Au p B E tt
 lk:Yp p B E d.L
theorem Rd {nt nl:Nat}{p:dtP}(H:Pl nt nl p):Sy p:=by
 have hT:=H.terms.len;have hn:=H.nt5;have hv:=H.vars;have hr:=H.room;have hnT:nT p=(p.1.length:Int):=rfl;obtain ⟨st,s1,s2,s3⟩:=H.first;have each:∀r∈p.2.2.1,(nT p≤r.1∧r.1≤nT p+(p.2.1.length:Int))∧(∀s∈r.2.1,0≤s∧s<nT p+(p.2.1.length:Int))∧r.2.1.length≤1000:=fun r hm=>by
  obtain ⟨k,hk⟩:=dI hm;rcases eB k with rfl | h
  ·rw [s3]at hk;cases hk;refine ⟨⟨by dsimp only;omega,by dsimp only;omega⟩,fun s hs=> ?_,by simp⟩
   have:s=st:=by simpa using hs
   omega
  ·have:=H.rules k r h hk
   have hl:=this.left;refine ⟨⟨by omega,by omega⟩,fun s hs=> ?_,by have:=this.few;omega⟩
   have:=this.right s hs
   omega
 exact ⟨by omega,by omega,by omega,fun r hm=>(each r hm).1,fun r hm=>(each r hm).2.1,fun r hm=>(each r hm).2.2⟩
theorem QQ {nt nl:Nat}{p:dtP}(H:Pl nt nl p) (hp:∀v:Nat,v<p.2.1.length→Pro (nT p) p.2.2.1 ((p.1.length+v:Nat):Int)) {B:List dtK}{E:List (List Edge)}(hF:Fin p B E) (hB:B.length≤300) {fa:dtF}(hfa:V4 p fa):Dr p B E fa:=by
 have hT:=H.terms.len;have hv:=H.vars;have hnT:nT p=(p.1.length:Int):=rfl;obtain ⟨st,s1,s2,s3⟩:=H.first;refine ⟨H.vp,Rd H,hF,ZE H hp,hB,by omega,hfa,st,?_⟩;rw [s3];congr 2;omega
def CS (R:Rl) (l:List Item):List Int:=(l.filter fun x=>match R[x.1.toNat]? with
 |some r=>x.2==(r.2.1.length:Int)
 |none=>false).map (·.1)
section
variable {p:dtP}{B:List dtK}{E:List (List Edge)}{d:LkD}{tt:Int}
theorem PZ (R:Rl) (l:List Item):(CS R l).length≤l.length:=by
 unfold CS;rw [cV];exact dX _ _
theorem Sr {R:Rl}{l:List Item}{x:Item}{r:BP}(h:R[x.1.toNat]? =some r):CS R (l++ [x])=if x.2=(r.2.1.length:Int) then CS R l++ [x.1] else CS R l:=by
 unfold CS;rw [dU,dG];by_cases e:x.2=(r.2.1.length:Int)
 ·rw [if_pos e];simp [h,e]
 ·rw [if_neg e];simp [h,e]
theorem Pa (M:MkI p B E d tt) {n:Nat}{b:dtK}(hb:B[n]? =some b):MK (some d) (n:Int)=some (CS p.2.2.1 b.2.1):=by
 obtain ⟨p',A',fa,steps,L⟩:=d;obtain ⟨H,e1,e2,hL⟩:=M;dsimp only at H e1 e2 hL;subst e1;subst e2;obtain ⟨g1,g2,g3,g4,g5⟩:=H.fin.good H.vp hb;refine fP ?_;unfold MK DG;rw [cP];refine AL (RM H.vp H.fin hb)<|CN (fun k (z:List Int)=>z=CS p'.2.2.1 (b.2.1.take k)) (by omega) (by simp [CS]) (fun k z hk hz=> ?_) fun z hz=>AD ?_
 ·subst hz;have hx:=bR hk;obtain ⟨x,hxe⟩:∃x,b.2.1[k] =x:=⟨_,rfl⟩;rw [hxe]at hx;obtain ⟨x0,x1,r,hr,hr2⟩:=g2.ok x (cC hx);have hd:(CS p'.2.2.1 (b.2.1.take k)).length≤10100:=by
   have:=PZ p'.2.2.1 (b.2.1.take k)
   rw [eD]at this;omega
  refine AW hx (EN x0 hr ?_);have hs:b.2.1.take (k+1)=b.2.1.take k++ [x]:=by rw [dH,hx];rfl
  rw [hs,Sr hr];refine AP (Q:=fun z=>z=if x.2=(r.2.1.length:Int) then CS p'.2.2.1 (b.2.1.take k) ++ [x.1] else CS p'.2.2.1 (b.2.1.take k)) (Ac (fun hc=> ?_) fun hc=>AD ?_) fun z hz=>AD hz
  ·rw [if_pos (eq_of_beq hc)];exact Bk (by simp;omega) (AD rfl)
  ·rw [if_neg (by simpa using hc)]
 ·subst hz;rw [cN (cU _)]
theorem WT (M:MkI p B E d tt) {n:Nat}{b:dtK}(hb:B[n]? =some b) {k:Int}:k∈CS p.2.2.1 b.2.1↔∃(k':Nat) (r:BP),k=(k':Int)∧p.2.2.1[k']? =some r∧It p.2.2.1 (KB B) n k' r.2.1.length:=by
 have H:=M.all;obtain ⟨g1,g2,g3,g4,g5⟩:=H.fin.good H.vp hb;unfold CS;rw [List.mem_map];constructor
 ·rintro ⟨x,hx,rfl⟩;obtain ⟨h1,h2⟩:=List.mem_filter.1 hx;obtain ⟨x0,x1,r,hr,hr2⟩:=g2.ok x h1;rw [hr]at h2;refine ⟨x.1.toNat,r,by omega,hr,?_⟩;have e:x=((x.1.toNat:Int),(r.2.1.length:Int)):=Prod.ext (by simp only;omega) (eq_of_beq h2);unfold It;rw [←e];exact (Fg H.vp H.fin hb x).1 h1
 ·rintro ⟨k',r,rfl,hr,hi⟩;refine ⟨((k':Int),(r.2.1.length:Int)),List.mem_filter.2 ⟨(Fg H.vp H.fin hb _).2 hi,?_⟩,rfl⟩;dsimp only;rw [cL,hr];simp
theorem QR (M:MkI p B E d tt) {s k:Nat}(hk:k<p.2.2.1.length):Ok (OM (some d) (s:Int) (k:Int)) fun t=>(∀j,j∈t↔Lk (nT p) p.2.2.1 (KB B) (TrB p B E) s k j)∧t.length≤64000:=by
 obtain ⟨p',A',fa,steps,L⟩:=d;obtain ⟨H,e1,e2,hL⟩:=M;dsimp only at H e1 e2 hL;subst e1;subst e2;unfold OM;rw [cP];dsimp only;cases hg:BY ((s:Int),(k:Int)) L with
 |none=>exact AD ⟨fun j=>⟨(fun h=>by cases h),fun h=>absurd h (hL.none_ s k j hg hk)⟩,by simp⟩
 |some x=>
  obtain ⟨a1,a2,s',k',e,_,_,a5⟩:=hL.some_ _ _ hg;have e1:s=s':=by have:=(Prod.mk.inj e).1;omega
  have e2:k=k':=by have:=(Prod.mk.inj e).2;omega
  subst e1 e2;dsimp only;rw [Jv a1];refine AD ⟨fun j=>by rw [Er a1,a5],?_⟩;have h1:=Mn x;have h2:=a1.len;have h3:=a1.hi;omega
end
end Go.Proofs.YteolcjbobmpdiaaGreatDoor
namespace Go.Proofs.YteolcjbobmpdiaaGreatDoor
open Go Go.Eng
set_option linter.unusedVariables false
set_option maxRecDepth 100000
set_option maxRecDepth 1000000
end Go.Proofs.YteolcjbobmpdiaaGreatDoor
namespace Go.Proofs.YteolcjbobmpdiaaGreatDoor
open Go Go.Eng Dg
set_option linter.unusedVariables false
set_option maxRecDepth 100000
theorem wr1 {i n:Nat}(h:i<n) (hn:n≤1000000):bZ .i64 ((i:Int)+(1:Int))=((i+1:Nat):Int):=by rw [w64 (by omega) (by omega)];omega
theorem Xe {β γ:Type}{P:γ→Prop}{f:Int→Unit→Option (AY Unit β)}{k:AY Unit β→Option γ}(n:Nat) (hn:n≤1000000000) (hs:∀i:Nat,i<n→f (i:Int) ()=some (.next ())) (hk:Ok (k (.next ())) P):Ok ((C5 (0:Int) (n:Int) () f).bind k) P:=by
 refine H9 (fun _ _=>True) (fun _=>False) (by omega) trivial (fun j _ hj _=>⟨_,hs j hj,.inl ⟨(),rfl,trivial⟩⟩) (fun _ _=>hk) fun b hb=>hb.elim
section
variable {p:dtP}{B:List dtK}{E:List (List Edge)}{d:LkD}{tt:Int}
theorem Mr {l:List Int}{b:dtK}(M:MkI p B E d tt) {n:Nat}(hb:B[n]? =some b):(CS p.2.2.1 b.2.1).length≤10100:=by
 have:=PZ p.2.2.1 b.2.1
 have:=(M.all.fin.good M.all.vp hb).2.2.2.2
 omega
theorem Ms (M:MkI p B E d tt) {n:Nat}{b:dtK}(hb:B[n]? =some b) {i:Nat}{k:Int}(h:(CS p.2.2.1 b.2.1)[i]? =some k):∃(k':Nat) (r:BP),k=(k':Int)∧p.2.2.1[k']? =some r∧It p.2.2.1 (KB B) n k' r.2.1.length:=(WT M hb).1 (cC h)
end
end Go.Proofs.YteolcjbobmpdiaaGreatDoor
namespace Go.Proofs.YteolcjbobmpdiaaGreatDoor
open Go Go.Eng
set_option linter.unusedVariables false
set_option maxRecDepth 100000
noncomputable def WU (l:List Int):Option Int:=(idx l 0).bind fun a=>forS (σ:=Int) 1 (l.length:Int) a fun i z=>(idx l i).bind fun x=>some (if x<z then x else z)
theorem Xf {φ:AE}{h:AH}{F:List Chk}{x_0:Slc}{l:List Int}(k:Ro.SliceIs (bW .i64) φ x_0 l) (s0:St φ F h) {r:Int}(hd:WU l=some r):
 CallsH bU 82 [.slice x_0.1 x_0.2.1 x_0.2.2] h (Ap fun v h'=>∃ψ:AE,∃y:Int,Sub φ ψ∧v=((.one aI):Sh).val y∧y=r∧St ψ F h'):=by
 refine AR mixed Tryz.func82 ?_;rw [Iq];unfold GD;unfold WU at hd;obtain ⟨a,ha,hd⟩:=bS hd;have n:=k.length;obtain ⟨_,h1,_⟩:=Ci ha;refine Af (fun (_:Unit) w (_:Unit)=>w=h) (g:=()) ?_ ?_
 ·refine Aa (decide_eq_false (by omega))<|AN () rfl rfl
 ·rintro _ w rfl;refine Ck k ha s0.sub<|Av (fun (y:Int×Int×Unit) w (g:Int)=>y.2.1=g∧St φ F w) (g:=r) ?_ ?_
  ·refine Co hd (fun i (y:Int×Int×Unit) w (g:Int)=>y.1=i∧y.2.1=g∧St φ F w) ((1:Int),a,()) rfl ⟨rfl,rfl,s0⟩ ?_ ?_
   ·rintro i z w g e ⟨rfl,rfl,st⟩ he h0 hlt hw;refine Aj (by rw [n];exact decide_eq_true hlt) ?_;obtain ⟨x,hx,he⟩:=bS he;refine Ck k hx st.sub ?_;obtain rfl:=iS he;exact Ag (bZ .i64 (z.1+(1:Int)),(if x<z.2.1 then x else z.2.1),()) _ rfl rfl ⟨hw,rfl,st⟩
   ·rintro i z w ⟨rfl,H⟩ hge;refine Aa (by rw [n];exact decide_eq_false (Int.not_lt.2 hge))<|AO (AQ z rfl H)
  ·rintro y w ⟨rfl,st⟩;exact AB ⟨φ,y.2.1,bT _,rfl,rfl,st⟩
section
variable {φ:AE}{h:AH}{F:List Chk}
theorem OY:Gm bU 84 84 89 7:=⟨fD,.inl fD,⟨Tryz.t89,by kernel_rfl,rfl,⟨_,rfl,rfl⟩,by decide,by decide⟩,by decide⟩
theorem LV:Gm bU 97 97 30 1:=⟨fE,.inl fE,⟨Tryz.t30,by kernel_rfl,rfl,⟨_,rfl,rfl⟩,by decide,by decide⟩,by decide⟩
theorem Ix:Gm bU 157 157 163 1:=⟨eX,.inl eX,⟨Tryz.t163,by kernel_rfl,rfl,⟨_,rfl,rfl⟩,by decide,by decide⟩,by decide⟩
theorem QS:Gm bU 163 163 77 2:=⟨eY,.inl eY,⟨Tryz.t77,by kernel_rfl,rfl,⟨_,rfl,rfl⟩,by decide,by decide⟩,by decide⟩
noncomputable def Di (p_0:A9) (term_1:Int):Option Int:=(cond (decide (term_1< 0)) (some true) (some (decide (term_1≥ (p_0.2.2.2.1.length:Int))))).bind fun z2=>cond z2 (some 0) ((idx p_0.2.2.2.1 term_1).bind fun e25=>some e25)
theorem MP {p_0:Pl6}{f:List ByteArray}{i:List ByteArray}{j:List BP}{c:List Int}{k:List Int}{l:List ByteArray}{term_1:Int}(t:Ro.SliceIs cF φ p_0.1 f) (u:Ro.SliceIs cF φ p_0.2.1 i) (w:Ro.SliceIs B4 φ p_0.2.2.1 j) (m:Ro.SliceIs (bW .i64) φ p_0.2.2.2.1 c) (z:Ro.SliceIs (bW .i64) φ p_0.2.2.2.2.1 k) (a0:Ro.SliceIs cF φ p_0.2.2.2.2.2.1 l) (s0:St φ (F) h) {r:Int}(hd:Di (f,i,j,c,k,l) term_1=some r):
 CallsH bU 116 [(aG p_0),(.int .i64 term_1)] h (Ap fun v h'=>∃ψ:AE,∃y:Int,Sub φ ψ∧v=((.one aI):Sh).val y∧y=r∧St ψ (F) h'):=by
 refine AR mixed Tryz.func116 ?_;rw [MO];unfold I4;unfold Di at hd;have o:p_0.2.2.2.1.2.1=cE c:=m.length;refine AT (vs:=[sv p_0.1,sv p_0.2.1,sv p_0.2.2.1,sv p_0.2.2.2.1,sv p_0.2.2.2.2.1,sv p_0.2.2.2.2.2.1]) s0 fun r1 a1 d=> ?_;obtain ⟨p,a,hd⟩:=bS hd;refine Af (fun (y:Bool×Unit) w_ g=>∃ψ:AE,Sub φ ψ∧y.1=g∧St ψ (Wq2 r1 p_0::F) w_) (g:=p) ?_ ?_
 ·refine AI a rfl (fun _ a=> ?_) (fun _ a=> ?_)
  ·obtain rfl:=iS a;exact AN (true,()) rfl ⟨φ,(bT _),rfl,d⟩
  refine AA (x:=p_0.2.2.2.1) d rfl ?_;obtain rfl:=iS a;exact AN ((decide (term_1≥ (p_0.2.2.2.1.2.1:Int))),()) rfl ⟨φ,(bT _),(by rw [o]),d⟩
 rintro z2 a2 ⟨n,e,rfl,b⟩;try dsimp only at hd
 refine AI hd rfl (fun _ hd=> ?_) (fun _ hd=> ?_)
 ·obtain rfl:=iS hd;exact AB ⟨n,(0:Int),e,rfl,rfl,b.tail⟩
 refine AA (x:=p_0.2.2.2.1) b rfl ?_;obtain ⟨q,s,hd⟩:=bS hd;refine Ck m s (cT e b.sub) ?_;obtain rfl:=iS hd;exact AB ⟨n,q,e,rfl,rfl,b.tail⟩
noncomputable def DS (p_0:A9) (rule_1:Int):Option Int:=(cond (decide (rule_1< 0)) (some true) (some (decide (rule_1≥ (p_0.2.2.1.length:Int))))).bind fun z2=>cond z2 (some 0) ((idx p_0.2.2.1 rule_1).bind fun e31=>some e31.2.2)
theorem LW {p_0:Pl6}{f:List ByteArray}{i:List ByteArray}{c:List BP}{j:List Int}{k:List Int}{l:List ByteArray}{rule_1:Int}(a4:Ro.SliceIs cF φ p_0.1 f) (a5:Ro.SliceIs cF φ p_0.2.1 i) (m:Ro.SliceIs B4 φ p_0.2.2.1 c) (a6:Ro.SliceIs (bW .i64) φ p_0.2.2.2.1 j) (a7:Ro.SliceIs (bW .i64) φ p_0.2.2.2.2.1 k) (a8:Ro.SliceIs cF φ p_0.2.2.2.2.2.1 l) (s0:St φ (F) h) {r:Int}(hd:DS (f,i,c,j,k,l) rule_1=some r):
 CallsH bU 117 [(aG p_0),(.int .i64 rule_1)] h (Ap fun v h'=>∃ψ:AE,∃y:Int,Sub φ ψ∧v=((.one aI):Sh).val y∧y=r∧St ψ (F) h'):=by
 refine AR mixed Tryz.func117 ?_;rw [LU];unfold IM;unfold DS at hd;have p:p_0.2.2.1.2.1=cE c:=m.length;refine AT (vs:=[sv p_0.1,sv p_0.2.1,sv p_0.2.2.1,sv p_0.2.2.2.1,sv p_0.2.2.2.2.1,sv p_0.2.2.2.2.2.1]) s0 fun r1 a9 d=> ?_;obtain ⟨q,a,hd⟩:=bS hd;refine Af (fun (y:Bool×Unit) w_ g=>∃ψ:AE,Sub φ ψ∧y.1=g∧St ψ (Wq2 r1 p_0::F) w_) (g:=q) ?_ ?_
 ·refine AI a rfl (fun _ a=> ?_) (fun _ a=> ?_)
  ·obtain rfl:=iS a;exact AN (true,()) rfl ⟨φ,(bT _),rfl,d⟩
  refine AA (x:=p_0.2.2.1) d rfl ?_;obtain rfl:=iS a;exact AN ((decide (rule_1≥ (p_0.2.2.1.2.1:Int))),()) rfl ⟨φ,(bT _),(by rw [p]),d⟩
 rintro z2 aa ⟨n,e,rfl,b⟩;try dsimp only at hd
 refine AI hd rfl (fun _ hd=> ?_) (fun _ hd=> ?_)
 ·obtain rfl:=iS hd;exact AB ⟨n,(0:Int),e,rfl,rfl,b.tail⟩
 refine AA (x:=p_0.2.2.1) b rfl ?_;obtain ⟨o,s,hd⟩:=bS hd;obtain ⟨ab,ac,t,u,w,z⟩:=(m.mono e).get s;refine AG _ t (Ab u ?_);obtain ⟨_,_,rfl,rfl,⟨_,_,rfl,⟨ad,rfl,ae⟩,rfl⟩⟩:=w;refine AF (x:=o.2.2) (by rw [AV];exact (AC b.sub (z 2 _ rfl))) rfl ?_;obtain rfl:=iS hd;exact AB ⟨n,o.2.2,e,rfl,rfl,b.tail⟩
noncomputable def CX (rule_0:Int):Option (Int×Int):=cond (rule_0==0) (some (3,0)) (some (2,rule_0))
theorem Em {rule_0:Int}(s0:St φ (F) h) {r:(Int×Int)}(hd:CX rule_0=some r):
 CallsH bU 80 [(.int .i64 rule_0)] h (Ap fun v h'=>∃ψ:AE,∃y:Int×Int×Unit,Sub φ ψ∧v=((.one (.agg [(.int .i64),(.int .i64)])):Sh).val y∧(y.1,y.2.1)=r∧St ψ (F) h'):=by
 refine AR mixed Tryz.func80 ?_;rw [LT];unfold IL;unfold CX at hd;refine AT (vs:=[.int .i64 (0:Int),.int .i64 (0:Int)]) s0 fun r1 f c=>AI hd rfl (fun _ hd=> ?_) (fun _ hd=> ?_)
 ·refine AK c rfl rfl fun g d=>AK d rfl rfl fun i a=>AA (x:=(3:Int)) a rfl<|AA (x:=(0:Int)) a rfl ?_;obtain rfl:=iS hd;exact AB ⟨φ,((3:Int),(0:Int),()),(bT _),rfl,rfl,a.tail⟩
 refine AK c rfl rfl fun j e=>AK e rfl rfl fun k b=>AA (x:=(2:Int)) b rfl<|AA (x:=rule_0) b rfl ?_;obtain rfl:=iS hd;exact AB ⟨φ,((2:Int),rule_0,()),(bT _),rfl,rfl,b.tail⟩
noncomputable def FI (p_0:A9) (term_1:Int) (shift_2:Ee) (rule_3:Ee):Option (Int×Int×Bool):=
 (Di (p_0.1,p_0.2.1,p_0.2.2.1,p_0.2.2.2.1,p_0.2.2.2.2.1,p_0.2.2.2.2.2) term_1).bind fun t18=>
 (DS (p_0.1,p_0.2.1,p_0.2.2.1,p_0.2.2.2.1,p_0.2.2.2.2.1,p_0.2.2.2.2.2) rule_3.2).bind fun t19=>
 (cond (decide (t18≤0))
 (some true)
 (some (decide (t19≤0)))).bind fun z20=>
 cond z20
 (some (shift_2.1,shift_2.2,true))
 ((((((((((cond (t19==t18)
  ((idx p_0.2.2.2.2.1 t18).bind fun e72=>
   some (e72==3))
  (some false)).bind fun z29=>
  cond z29
  (some (cY ()))
  ((cond (t19==t18)
   ((idx p_0.2.2.2.2.1 t18).bind fun e94=>
    some (e94==1))
   (some false)).bind fun z33=>
   cond z33
   (some (dC (.inl (0,0))))
   (cond (decide (t19>t18))
    (some (dC (.inr (.inl (0,0)))))
    (some (dC (.inr (.inr (0,0)))))))):Option (AY Unit (Sum Ee (Sum Ee Ee)))).bind fun e_z28=>match e_z28 with
  |.next z28=>
   some (dC (.inr (.inr (0,0,false))))
  |.done q139=>(match q139 with | .inl p=>some (cY p)|.inr (.inl p)=>some (dC (.inl p))|.inr (.inr p)=>some (dC (.inr (.inl p))))):Option (AY Ee (Sum Ee (Sum Ee (Int×Int×Bool))))).bind fun e_z27=>match e_z27 with
  |.next z27=>
   some (cY z27)
  |.done q149=>(match q149 with | .inl p=>some (cY p)|.inr (.inl p)=>some (dC (.inl p))|.inr (.inr p)=>some (dC (.inr p)))):Option (AY Ee (Sum Ee (Int×Int×Bool)))).bind fun e_z26=>match e_z26 with
  |.next z26=>
   some (dC (rule_3.1,rule_3.2,false))
  |.done q167=>(match q167 with | .inl p=>some (cY p)|.inr p=>some (dC p))):Option (AY Ee (Int×Int×Bool))).bind fun e_z25=>match e_z25 with
  |.next z25=>
   some (shift_2.1,shift_2.2,false)
  |.done q185=>some q185)
theorem OZ {p_0:Pl6}{ab:List ByteArray}{ac:List ByteArray}{ad:List BP}{ae:List Int}{af:List Int}{ag:List ByteArray}{term_1:Int}{shift_2:Int×Int×Unit}{rule_3:Int×Int×Unit}(ah:Ro.SliceIs cF φ p_0.1 ab) (ai:Ro.SliceIs cF φ p_0.2.1 ac) (aj:Ro.SliceIs B4 φ p_0.2.2.1 ad) (ak:Ro.SliceIs (bW .i64) φ p_0.2.2.2.1 ae) (u:Ro.SliceIs (bW .i64) φ p_0.2.2.2.2.1 af) (al:Ro.SliceIs cF φ p_0.2.2.2.2.2.1 ag) (s0:St φ (F) h) {r:(Int×Int×Bool)}(hd:FI (ab,ac,ad,ae,af,ag) term_1 (shift_2.1,shift_2.2.1) (rule_3.1,rule_3.2.1)=some r):
 CallsH bU 81 [(aG p_0),(.int .i64 term_1),(.agg #[(.int .i64 shift_2.1),(.int .i64 shift_2.2.1)]),(.agg #[(.int .i64 rule_3.1),(.int .i64 rule_3.2.1)])] h (Ap fun v h'=>∃ψ:AE,∃y:(Int×Int×Unit)×Bool×Unit,Sub φ ψ∧v=((.tuple [(.agg [(.int .i64),(.int .i64)]),aB]):Sh).val y∧(y.1.1,y.1.2.1,y.2.1)=r∧St ψ (F) h'):=by
 refine AR mixed Tryz.func81 ?_;rw [OT];unfold MM;unfold FI at hd;refine AT (vs:=[sv p_0.1,sv p_0.2.1,sv p_0.2.2.1,sv p_0.2.2.2.1,sv p_0.2.2.2.2.1,sv p_0.2.2.2.2.2.1]) s0 fun r1 c1 aq=>AT (vs:=[.int .i64 shift_2.1,.int .i64 shift_2.2.1]) aq fun r2 c2 ar=>AT (vs:=[.int .i64 rule_3.1,.int .i64 rule_3.2.1]) ar fun r3 c3 au=>AT (vs:=[.int .i64 (0:Int),.int .i64 (0:Int)]) au fun r4 c4 c=>AA (x:=p_0.1) c.at3 rfl<|AA (x:=p_0.2.1) c.at3 rfl<|AA (x:=p_0.2.2.1) c.at3 rfl<|AA (x:=p_0.2.2.2.1) c.at3 rfl<|AA (x:=p_0.2.2.2.2.1) c.at3 rfl<|AA (x:=p_0.2.2.2.2.2.1) c.at3 rfl<|AA (x:=p_0.1) c.at3 rfl<|AA (x:=p_0.2.1) c.at3 rfl<|AA (x:=p_0.2.2.1) c.at3 rfl<|AA (x:=p_0.2.2.2.1) c.at3 rfl<|AA (x:=p_0.2.2.2.2.1) c.at3 rfl<|AA (x:=p_0.2.2.2.2.2.1) c.at3 rfl<|AA (x:=rule_3.2.1) c.at1 rfl ?_;obtain ⟨c5,av,hd⟩:=bS hd;refine AJ (MP (p_0:=(p_0.1,p_0.2.1,p_0.2.2.1,p_0.2.2.2.1,p_0.2.2.2.2.1,p_0.2.2.2.2.2.1,())) ah ai aj ak u al c av) ?_;rintro _ c6 ⟨c7,t18,d,rfl,rfl,i⟩;refine ⟨t18,rfl,?_⟩;refine AM (cJ (b:=r3) (j:=1) i.at1 rfl)<|AM (cJ (b:=r1) (j:=0) i.at3 rfl)<|AM (cJ (b:=r1) (j:=1) i.at3 rfl)<|AM (cJ (b:=r1) (j:=2) i.at3 rfl)<|AM (cJ (b:=r1) (j:=3) i.at3 rfl)<|AM (cJ (b:=r1) (j:=4) i.at3 rfl)<|AM (cJ (b:=r1) (j:=5) i.at3 rfl) ?_;obtain ⟨c8,aw,hd⟩:=bS hd;refine AJ (LW (p_0:=(p_0.1,p_0.2.1,p_0.2.2.1,p_0.2.2.2.1,p_0.2.2.2.2.1,p_0.2.2.2.2.2.1,())) (ah.mono d) (ai.mono d) (aj.mono d) (ak.mono d) (u.mono d) (al.mono d) i aw) ?_;rintro _ c9 ⟨a1,t19,o,rfl,rfl,am⟩;refine ⟨t19,rfl,?_⟩;obtain ⟨ax,q,hd⟩:=bS hd;refine Af (fun (y:Bool×Unit) w_ g=>∃ψ:AE,Sub a1 ψ∧y.1=g∧St ψ (Wq8 r4::Wq9 r3 rule_3::Wq9 r2 shift_2::Wq2 r1 p_0::F) w_) (g:=ax) ?_ ?_
 ·refine AI q rfl (fun _ q=> ?_) (fun _ q=> ?_)
  ·have ay:=am.at3;obtain rfl:=iS q;exact AN (true,()) rfl ⟨a1,(bT _),rfl,ay.at3.at3.at3⟩
  obtain rfl:=iS q;exact AN ((decide (t19≤(0:Int))),()) rfl ⟨a1,(bT _),rfl,am.at3.at3.at3.at3⟩
 rintro z20 ca ⟨k,p,rfl,w⟩;try dsimp only at hd
 refine AI hd rfl (fun _ hd=> ?_) (fun _ hd=> ?_)
 ·refine AA (x:=shift_2.1) w.at2 rfl<|AA (x:=shift_2.2.1) w.at2 rfl<|AK w rfl rfl fun cb az=>AK az rfl rfl fun cc a2=>AA (x:=shift_2.1) a2 rfl<|AA (x:=shift_2.2.1) a2 rfl ?_;obtain rfl:=iS hd;exact AB ⟨k,((shift_2.1,shift_2.2.1,()),true,()),((d.trans o).trans p),rfl,rfl,a2.tail.tail.tail.tail⟩
 have z:=fC (r:=HA) (x:=((0:Int),(0:Int))) w ⟨[_],_,rfl,rfl,rfl⟩;obtain ⟨b0,l,hd⟩:=bS hd;refine Av (fun (y:Bool×Unit) w_ g=>∃ψ:AE,∃an:Ee,Sub k ψ∧cY an=g∧St ψ (cO 77 (fM HA) (some ⟨r4,0,none⟩) an::Wq9 r3 rule_3::Wq9 r2 shift_2::Wq2 r1 p_0::F) w_) (g:=b0) ?_ ?_
 ·obtain ⟨b1,e,l⟩:=bS l;refine Av (fun (y:Bool×Unit) w_ g=>∃ψ:AE,∃ao:Ee,Sub k ψ∧cY ao=g∧St ψ (cO 77 (fM HA) (some ⟨r4,0,none⟩) ao::Wq9 r3 rule_3::Wq9 r2 shift_2::Wq2 r1 p_0::F) w_) (g:=b1) ?_ ?_
  ·obtain ⟨b2,f,e⟩:=bS e;refine Av (fun (y:Bool×Unit) w_ g=>∃ψ:AE,∃ap:Ee,Sub k ψ∧cY ap=g∧St ψ (cO 77 (fM HA) (some ⟨r4,0,none⟩) ap::Wq9 r3 rule_3::Wq9 r2 shift_2::Wq2 r1 p_0::F) w_) (g:=b2) ?_ ?_
   ·obtain ⟨b3,a,f⟩:=bS f;refine Av (fun (y:Unit) w_ g=>∃ψ:AE,Sub k ψ∧cY ()=g∧St ψ (cO 77 (fM HA) (some ⟨r4,0,none⟩) ((0:Int),(0:Int))::Wq9 r3 rule_3::Wq9 r2 shift_2::Wq2 r1 p_0::F) w_) (g:=b3) ?_ ?_
    ·obtain ⟨b4,m,a⟩:=bS a;refine Af (fun (y:Bool×Unit) w_ g=>∃ψ:AE,Sub k ψ∧y.1=g∧St ψ (cO 77 (fM HA) (some ⟨r4,0,none⟩) ((0:Int),(0:Int))::Wq9 r3 rule_3::Wq9 r2 shift_2::Wq2 r1 p_0::F) w_) (g:=b4) ?_ ?_
     ·refine AI m rfl (fun _ m=> ?_) (fun _ m=> ?_)
      ·refine AA (x:=p_0.2.2.2.2.1) z.at3 rfl ?_;obtain ⟨b5,b6,m⟩:=bS m;refine Ck u b6 (cT ((d.trans o).trans p) z.sub) ?_;obtain rfl:=iS m;exact AN ((b5==(3:Int)),()) rfl ⟨k,(bT _),rfl,z.at3.at3.at3.at3⟩
      obtain rfl:=iS m;exact AN (false,()) rfl ⟨k,(bT _),rfl,z.at3.at3.at3.at3⟩
     rintro z29 cd ⟨a0,s,rfl,t⟩;try dsimp only at a
     refine AI a rfl (fun _ a=> ?_) (fun _ a=> ?_)
     ·have b7:=t.at3;obtain rfl:=iS a;exact AQ (()) rfl ⟨a0,s,rfl,b7.at3.at3.at3⟩
     obtain ⟨b8,n,a⟩:=bS a;refine Af (fun (y:Bool×Unit) w_ g=>∃ψ:AE,Sub a0 ψ∧y.1=g∧St ψ (cO 77 (fM HA) (some ⟨r4,0,none⟩) ((0:Int),(0:Int))::Wq9 r3 rule_3::Wq9 r2 shift_2::Wq2 r1 p_0::F) w_) (g:=b8) ?_ ?_
     ·refine AI n rfl (fun _ n=> ?_) (fun _ n=> ?_)
      ·refine AA (x:=p_0.2.2.2.2.1) t.at3 rfl ?_;obtain ⟨b9,ba,n⟩:=bS n;refine Ck u ba (cT (((d.trans o).trans p).trans s) t.sub) ?_;obtain rfl:=iS n;exact AN ((b9==(1:Int)),()) rfl ⟨a0,(bT _),rfl,t.at3.at3.at3.at3⟩
      obtain rfl:=iS n;exact AN (false,()) rfl ⟨a0,(bT _),rfl,t.at3.at3.at3.at3⟩
     rintro z33 ce ⟨a3,a4,rfl,a5⟩;try dsimp only at a
     refine AI a rfl (fun _ a=> ?_) (fun _ a=> ?_)
     ·have bb:=a5.at3;obtain rfl:=iS a;try dsimp only at f
      obtain rfl:=iS f;exact En rfl (AQ (false,()) rfl ⟨a3,((0:Int),(0:Int)),(s.trans a4),rfl,bb.at3.at3.at3⟩)
     refine AI a rfl (fun _ a=> ?_) (fun _ a=> ?_)
     ·have bc:=a5.at3;obtain rfl:=iS a;try dsimp only at f
      obtain rfl:=iS f;try dsimp only at e
      obtain rfl:=iS e;exact En rfl (En rfl (AQ (false,()) rfl ⟨a3,((0:Int),(0:Int)),(s.trans a4),rfl,bc.at3.at3.at3⟩))
     obtain rfl:=iS a;try dsimp only at f
     obtain rfl:=iS f;try dsimp only at e
     obtain rfl:=iS e;try dsimp only at l
     obtain rfl:=iS l;exact En rfl (En rfl (En rfl (AQ (false,()) rfl ⟨a3,((0:Int),(0:Int)),(s.trans a4),rfl,a5.at3.at3.at3.at3⟩)))
    rintro z28 cf ⟨bd,be,rfl,bf⟩;try dsimp only at f
    obtain ⟨bg,cg,bh,⟨_,_,rfl,rfl,rfl⟩,bi⟩:=eS bf;obtain rfl:r4=bg:=by simpa using bh
    refine AK bi rfl rfl fun ch bj=>AK bj rfl rfl fun ci a6=>AA (x:=(0:Int)) a6 rfl<|AA (x:=(0:Int)) a6 rfl ?_;obtain rfl:=iS f;try dsimp only at e
    obtain rfl:=iS e;try dsimp only at l
    obtain rfl:=iS l;try dsimp only at hd
    obtain rfl:=iS hd;exact Ai (Ai (Ai (AB ⟨bd,(((0:Int),(0:Int),()),false,()),(((d.trans o).trans p).trans be),rfl,rfl,a6.tail.tail.tail.tail⟩)))
   rintro z27 cj ⟨bk,bl,bm,rfl,bn⟩;try dsimp only at e
   obtain rfl:=iS e;exact MX (z27.1,()) rfl ⟨bk,bl,bm,rfl,bn.at3.at3.at3.at3⟩
  rintro z26 ck ⟨bo,cl,bp,rfl,a7⟩;try dsimp only at l
  refine AA (x:=rule_3.1) a7.at1 rfl<|AA (x:=rule_3.2.1) a7.at1 rfl ?_;obtain ⟨bq,cm,br,⟨_,_,rfl,rfl,rfl⟩,bs⟩:=eS a7;obtain rfl:r4=bq:=by simpa using br
  refine AK bs rfl rfl fun cn bt=>AK bt rfl rfl fun co a8=>AA (x:=rule_3.1) a8 rfl<|AA (x:=rule_3.2.1) a8 rfl ?_;obtain rfl:=iS l;try dsimp only at hd
  obtain rfl:=iS hd;exact Ai (AB ⟨bo,((rule_3.1,rule_3.2.1,()),false,()),(((d.trans o).trans p).trans bp),rfl,rfl,a8.tail.tail.tail.tail⟩)
 rintro z25 cp ⟨bu,cq,bv,rfl,a9⟩;try dsimp only at hd
 refine AA (x:=shift_2.1) a9.at2 rfl<|AA (x:=shift_2.2.1) a9.at2 rfl ?_;obtain ⟨bw,cr,bx,⟨_,_,rfl,rfl,rfl⟩,bz⟩:=eS a9;obtain rfl:r4=bw:=by simpa using bx
 refine AK bz rfl rfl fun cs c0=>AK c0 rfl rfl fun ct aa=>AA (x:=shift_2.1) aa rfl<|AA (x:=shift_2.2.1) aa rfl ?_;obtain rfl:=iS hd;exact AB ⟨bu,((shift_2.1,shift_2.2.1,()),false,()),(((d.trans o).trans p).trans bv),rfl,rfl,aa.tail.tail.tail.tail⟩
noncomputable def Cy (p_0:A9) (term_1:Int) (shift_2:Int) (rules_3:List Int):Option (Int×Int×Bool):=(cond ((rules_3.length:Int)==0) (some (decide (shift_2< 0))) (some false)).bind fun z4=>cond z4 (some (0,0,false)) (cond ((rules_3.length:Int)==0) (some (1,shift_2,false)) ((cond ((rules_3.length:Int)==1) (some (decide (shift_2< 0))) (some false)).bind fun z11=>cond z11 ((idx rules_3 0).bind fun e67=>(CX e67).bind fun t14=>some (t14.1,t14.2,false)) (cond ((rules_3.length:Int)==1) ((idx rules_3 0).bind fun e83=>(CX e83).bind fun t27=>(FI (p_0.1,p_0.2.1,p_0.2.2.1,p_0.2.2.2.1,p_0.2.2.2.2.1,p_0.2.2.2.2.2) term_1 (1,shift_2) (t27.1,t27.2)).bind fun t28=>some (t28.1,t28.2.1,t28.2.2)) (cond (decide (shift_2≥ 0)) (some (1,shift_2,true)) ((WU rules_3).bind fun t35=>(CX t35).bind fun t36=>some (t36.1,t36.2,true))))))
theorem Mt {p_0:Pl6}{a0:List ByteArray}{a1:List ByteArray}{a2:List BP}{a3:List Int}{a4:List Int}{a5:List ByteArray}{term_1:Int}{shift_2:Int}{rules_3:Slc}{p:List Int}(a7:Ro.SliceIs cF φ p_0.1 a0) (a8:Ro.SliceIs cF φ p_0.2.1 a1) (a9:Ro.SliceIs B4 φ p_0.2.2.1 a2) (aa:Ro.SliceIs (bW .i64) φ p_0.2.2.2.1 a3) (ab:Ro.SliceIs (bW .i64) φ p_0.2.2.2.2.1 a4) (ac:Ro.SliceIs cF φ p_0.2.2.2.2.2.1 a5) (n:Ro.SliceIs (bW .i64) φ rules_3 p) (s0:St φ (F) h) {r:(Int×Int×Bool)}(hd:Cy (a0,a1,a2,a3,a4,a5) term_1 shift_2 p=some r):
 CallsH bU 37 [(aG p_0),(.int .i64 term_1),(.int .i64 shift_2),(sv rules_3)] h (Ap fun v h'=>∃ψ:AE,∃y:(Int×Int×Unit)×Bool×Unit,Sub φ ψ∧v=((.tuple [(.agg [(.int .i64),(.int .i64)]),aB]):Sh).val y∧(y.1.1,y.1.2.1,y.2.1)=r∧St ψ (F) h'):=by
 refine AR mixed Tryz.func37 ?_;rw [Mq];unfold KD;unfold Cy at hd;have o:rules_3.2.1=cE p:=n.length;refine AT (vs:=[sv p_0.1,sv p_0.2.1,sv p_0.2.2.1,sv p_0.2.2.2.1,sv p_0.2.2.2.2.1,sv p_0.2.2.2.2.2.1]) s0 fun r1 bc ad=>AT (vs:=[.int .i64 (0:Int),.int .i64 (0:Int)]) ad fun r2 bd ae=>AT (vs:=[.int .i64 (0:Int),.int .i64 (0:Int)]) ae fun r3 be af=>AK af rfl rfl fun bf ag=>AK ag rfl rfl fun bg a6=> ?_;obtain ⟨ah,k,hd⟩:=bS hd;refine Af (fun (y:Bool×Unit) w_ g=>∃ψ:AE,Sub φ ψ∧y.1=g∧St ψ (cW 77 r3 [.int .i64 (1:Int),.int .i64 shift_2]::Wq8 r2::Wq2 r1 p_0::F) w_) (g:=ah) ?_ ?_
 ·refine AI k (by rw [o] <;>rfl) (fun _ k=> ?_) (fun _ k=> ?_)
  ·have ai:=a6.at2;obtain rfl:=iS k;exact AN ((decide (shift_2< (0:Int))),()) rfl ⟨φ,(bT _),rfl,ai.at2.at2⟩
  obtain rfl:=iS k;exact AN (false,()) rfl ⟨φ,(bT _),rfl,a6.at2.at2.at2⟩
 rintro z4 bh ⟨l,c,rfl,i⟩;try dsimp only at hd
 refine AI hd rfl (fun _ hd=> ?_) (fun _ hd=> ?_)
 ·refine AK i.at1 rfl rfl fun bi aj=>AK aj rfl rfl fun bj q=>AA (x:=(0:Int)) q rfl<|AA (x:=(0:Int)) q rfl ?_;obtain rfl:=iS hd;exact AB ⟨l,(((0:Int),(0:Int),()),false,()),c,rfl,rfl,q.tail.tail.tail⟩
 refine AI hd (by rw [o] <;>rfl) (fun _ hd=> ?_) (fun _ hd=> ?_)
 ·refine AA (x:=(1:Int)) i rfl<|AA (x:=shift_2) i rfl<|AK i.at1 rfl rfl fun bk ak=>AK ak rfl rfl fun bl s=>AA (x:=(1:Int)) s rfl<|AA (x:=shift_2) s rfl ?_;obtain rfl:=iS hd;exact AB ⟨l,(((1:Int),shift_2,()),false,()),c,rfl,rfl,s.tail.tail.tail⟩
 obtain ⟨al,m,hd⟩:=bS hd;refine Af (fun (y:Bool×Unit) w_ g=>∃ψ:AE,Sub l ψ∧y.1=g∧St ψ (cW 77 r3 [.int .i64 (1:Int),.int .i64 shift_2]::Wq8 r2::Wq2 r1 p_0::F) w_) (g:=al) ?_ ?_
 ·refine AI m (by rw [o] <;>rfl) (fun _ m=> ?_) (fun _ m=> ?_)
  ·have am:=i.at2;obtain rfl:=iS m;exact AN ((decide (shift_2< (0:Int))),()) rfl ⟨l,(bT _),rfl,am.at2.at2⟩
  obtain rfl:=iS m;exact AN (false,()) rfl ⟨l,(bT _),rfl,i.at2.at2.at2⟩
 rintro z11 bm ⟨an,d,rfl,a⟩;try dsimp only at hd
 refine AI hd rfl (fun _ hd=> ?_) (fun _ hd=> ?_)
 ·obtain ⟨bn,ao,hd⟩:=bS hd;refine Ck n ao (cT (c.trans d) a.sub) ?_;obtain ⟨bo,ap,hd⟩:=bS hd;refine AJ (Em a ap) ?_;rintro _ bp ⟨aq,t14,ar,rfl,rfl,au⟩;refine ⟨t14,rfl,?_⟩;try dsimp only at hd
  refine AK au.at1 rfl rfl fun bq av=>AK av rfl rfl fun br t=>AA (x:=t14.1) t rfl<|AA (x:=t14.2.1) t rfl ?_;obtain rfl:=iS hd;exact AB ⟨aq,((t14.1,t14.2.1,()),false,()),((c.trans d).trans ar),rfl,rfl,t.tail.tail.tail⟩
 refine AI hd (by rw [o] <;>rfl) (fun _ hd=> ?_) (fun _ hd=> ?_)
 ·refine AA (x:=p_0.1) a.at2 rfl<|AA (x:=p_0.2.1) a.at2 rfl<|AA (x:=p_0.2.2.1) a.at2 rfl<|AA (x:=p_0.2.2.2.1) a.at2 rfl<|AA (x:=p_0.2.2.2.2.1) a.at2 rfl<|AA (x:=p_0.2.2.2.2.2.1) a.at2 rfl<|AA (x:=(1:Int)) a rfl<|AA (x:=shift_2) a rfl ?_;obtain ⟨bs,aw,hd⟩:=bS hd;refine Ck n aw (cT (c.trans d) a.sub) ?_;obtain ⟨bt,ax,hd⟩:=bS hd;refine AJ (Em a ax) ?_;rintro _ bu ⟨bv,t27,f,rfl,rfl,e⟩;refine ⟨t27,rfl,?_⟩;try dsimp only at hd
  refine AM (cJ (b:=r3) (j:=0) e rfl)<|AM (cJ (b:=r3) (j:=1) e rfl)<|AM (cJ (b:=r1) (j:=0) e.at2 rfl)<|AM (cJ (b:=r1) (j:=1) e.at2 rfl)<|AM (cJ (b:=r1) (j:=2) e.at2 rfl)<|AM (cJ (b:=r1) (j:=3) e.at2 rfl)<|AM (cJ (b:=r1) (j:=4) e.at2 rfl)<|AM (cJ (b:=r1) (j:=5) e.at2 rfl) ?_;obtain ⟨bw,ay,hd⟩:=bS hd;refine AJ (OZ (p_0:=(p_0.1,p_0.2.1,p_0.2.2.1,p_0.2.2.2.1,p_0.2.2.2.2.1,p_0.2.2.2.2.2.1,())) (shift_2:=((1:Int),shift_2,())) (rule_3:=(t27.1,t27.2.1,())) (a7.mono ((c.trans d).trans f)) (a8.mono ((c.trans d).trans f)) (a9.mono ((c.trans d).trans f)) (aa.mono ((c.trans d).trans f)) (ab.mono ((c.trans d).trans f)) (ac.mono ((c.trans d).trans f)) e ay) ?_;rintro _ bx ⟨az,t28,b0,rfl,rfl,b1⟩;refine ⟨t28,rfl,?_⟩;try dsimp only at hd
  refine AK b1.at1 rfl rfl fun bz b2=>AK b2 rfl rfl fun c0 u=>AA (x:=t28.1.1) u rfl<|AA (x:=t28.1.2.1) u rfl ?_;obtain rfl:=iS hd;exact AB ⟨az,((t28.1.1,t28.1.2.1,()),t28.2.1,()),(((c.trans d).trans f).trans b0),rfl,rfl,u.tail.tail.tail⟩
 refine AI hd rfl (fun _ hd=> ?_) (fun _ hd=> ?_)
 ·refine AA (x:=(1:Int)) a rfl<|AA (x:=shift_2) a rfl<|AK a.at1 rfl rfl fun c1 b3=>AK b3 rfl rfl fun c2 w=>AA (x:=(1:Int)) w rfl<|AA (x:=shift_2) w rfl ?_;obtain rfl:=iS hd;exact AB ⟨an,(((1:Int),shift_2,()),true,()),(c.trans d),rfl,rfl,w.tail.tail.tail⟩
 obtain ⟨c3,b4,hd⟩:=bS hd;refine AJ (Xf (n.mono (c.trans d)) a b4) ?_;rintro _ c4 ⟨c5,t35,b5,rfl,rfl,b6⟩;refine ⟨t35,rfl,?_⟩;obtain ⟨c6,b7,hd⟩:=bS hd;refine AJ (Em b6 b7) ?_;rintro _ c7 ⟨b8,t36,b9,rfl,rfl,ba⟩;refine ⟨t36,rfl,?_⟩;try dsimp only at hd
 refine AK ba.at1 rfl rfl fun c8 bb=>AK bb rfl rfl fun c9 z=>AA (x:=t36.1) z rfl<|AA (x:=t36.2.1) z rfl ?_;obtain rfl:=iS hd;exact AB ⟨b8,((t36.1,t36.2.1,()),true,()),(((c.trans d).trans b5).trans b9),rfl,rfl,z.tail.tail.tail⟩
noncomputable def resolve_Grid_cell_D (g_0:Ce) (a_1:DQ) (l_2:(Option LkD)) (state_3:Int) (term_4:Int):Option (Int×Int×Ce):=(BM a_1 state_3 term_4).bind fun t2=>(MK l_2 state_3).bind fun t3=>(forS (σ:=List Int) 0 (t3.length:Int) ([]:List Int) fun i_z5 z5=>(idx t3 i_z5).bind fun e46=>(OM l_2 state_3 e46).bind fun t8=>(Bu t8 term_4).bind fun t9=>(cond t9 ((app z5 ([e46]:List Int)).bind fun t12=>some t12) (some z5)).bind fun z10=>some z10).bind fun z4=>(Cy (g_0.1,g_0.2.1,g_0.2.2.1,g_0.2.2.2.1,g_0.2.2.2.2.1,g_0.2.2.2.2.2.1) term_4 t2 z4).bind fun t20=>(cond (decide ((z4.length:Int) >1)) (some true) (cond ((z4.length:Int)==1) (some (decide (t2≥ 0))) (some false))).bind fun z22=>(cond z22 ((app (g_0.1,g_0.2.1,g_0.2.2.1,g_0.2.2.2.1,g_0.2.2.2.2.1,g_0.2.2.2.2.2.1,g_0.2.2.2.2.2.2.1,g_0.2.2.2.2.2.2.2.1,g_0.2.2.2.2.2.2.2.2).2.2.2.2.2.2.2.2 ([(state_3,term_4,t2,z4,t20.1,t20.2.1,t20.2.2)]:List Ef)).bind fun t29=>some ((g_0.1,g_0.2.1,g_0.2.2.1,g_0.2.2.2.1,g_0.2.2.2.2.1,g_0.2.2.2.2.2.1,g_0.2.2.2.2.2.2.1,g_0.2.2.2.2.2.2.2.1,g_0.2.2.2.2.2.2.2.2).1,(g_0.1,g_0.2.1,g_0.2.2.1,g_0.2.2.2.1,g_0.2.2.2.2.1,g_0.2.2.2.2.2.1,g_0.2.2.2.2.2.2.1,g_0.2.2.2.2.2.2.2.1,g_0.2.2.2.2.2.2.2.2).2.1,(g_0.1,g_0.2.1,g_0.2.2.1,g_0.2.2.2.1,g_0.2.2.2.2.1,g_0.2.2.2.2.2.1,g_0.2.2.2.2.2.2.1,g_0.2.2.2.2.2.2.2.1,g_0.2.2.2.2.2.2.2.2).2.2.1,(g_0.1,g_0.2.1,g_0.2.2.1,g_0.2.2.2.1,g_0.2.2.2.2.1,g_0.2.2.2.2.2.1,g_0.2.2.2.2.2.2.1,g_0.2.2.2.2.2.2.2.1,g_0.2.2.2.2.2.2.2.2).2.2.2.1,(g_0.1,g_0.2.1,g_0.2.2.1,g_0.2.2.2.1,g_0.2.2.2.2.1,g_0.2.2.2.2.2.1,g_0.2.2.2.2.2.2.1,g_0.2.2.2.2.2.2.2.1,g_0.2.2.2.2.2.2.2.2).2.2.2.2.1,(g_0.1,g_0.2.1,g_0.2.2.1,g_0.2.2.2.1,g_0.2.2.2.2.1,g_0.2.2.2.2.2.1,g_0.2.2.2.2.2.2.1,g_0.2.2.2.2.2.2.2.1,g_0.2.2.2.2.2.2.2.2).2.2.2.2.2.1,(g_0.1,g_0.2.1,g_0.2.2.1,g_0.2.2.2.1,g_0.2.2.2.2.1,g_0.2.2.2.2.2.1,g_0.2.2.2.2.2.2.1,g_0.2.2.2.2.2.2.2.1,g_0.2.2.2.2.2.2.2.2).2.2.2.2.2.2.1,(g_0.1,g_0.2.1,g_0.2.2.1,g_0.2.2.2.1,g_0.2.2.2.2.1,g_0.2.2.2.2.2.1,g_0.2.2.2.2.2.2.1,g_0.2.2.2.2.2.2.2.1,g_0.2.2.2.2.2.2.2.2).2.2.2.2.2.2.2.1,t29)) (some (g_0.1,g_0.2.1,g_0.2.2.1,g_0.2.2.2.1,g_0.2.2.2.2.1,g_0.2.2.2.2.2.1,g_0.2.2.2.2.2.2.1,g_0.2.2.2.2.2.2.2.1,g_0.2.2.2.2.2.2.2.2))).bind fun z23=>some (t20.1,t20.2.1,z23)
theorem JP {g_0:Option Addr}{c:Ce}{a_1:Option Addr}{ak:DQ}{l_2:Option Addr}{e:(Option LkD)}{state_3:Int}{term_4:Int}(gk:Dg.Glob φ) (bo:Pt Fq φ a_1 ak) (s0:St φ (cO 159 Rq0 g_0 c::⟨BV,[.pointer l_2],e⟩::F) h) {r:(Int×Int×Ce)}(hd:resolve_Grid_cell_D c ak e state_3 term_4=some r):
 CallsH bU 118 [(.pointer g_0),(.pointer a_1),(.pointer l_2),(.int .i64 state_3),(.int .i64 term_4)] h (Ap fun v h'=>∃ψ:AE,∃y:Int×Int×Unit,∃al:Ce,Sub φ ψ∧v=((.one (.agg [(.int .i64),(.int .i64)])):Sh).val y∧(y.1,y.2.1,al)=r∧St ψ (⟨BV,[.pointer l_2],e⟩::cO 159 Rq0 g_0 al::F) h'):=by
 refine AR mixed Tryz.func118 ?_;rw [JK];unfold GT;unfold resolve_Grid_cell_D at hd;refine AT (vs:=[.int .i64 (0:Int),.int .i64 (0:Int)]) s0 fun r1 f8 bp=> ?_;obtain ⟨f9,bq,hd⟩:=bS hd;refine AJ (Cx bo bp bq) ?_;rintro _ fa ⟨fb,t2,am,rfl,rfl,br⟩;refine ⟨t2,rfl,?_⟩;obtain ⟨fc,bs,hd⟩:=bS hd;refine AJ (ON br.at2 bs) ?_;rintro _ fd ⟨an,t3,fe,ao,rfl,rfl,ap,bt⟩;refine ⟨t3,rfl,?_⟩;have aq:=ap.length;obtain ⟨ff,bu,hd⟩:=bS hd;refine B0 bu (fun bv (y:Int×Slc×Unit) w_ g=>∃ψ:AE,∃ar:List Int,Sub an ψ∧y.1=bv∧ar=g∧St ψ (cR 3 (bW .i64) y.2.1 ar::⟨BV,[.pointer l_2],e⟩::Wq8 r1::cO 159 Rq0 g_0 c::F) w_) ((0:Int),((none,0,0):Slc),()) rfl ⟨an,[],(bT _),rfl,rfl,(((((bt.nil 3 (bW .i64)).at3).at3).at3).at3)⟩ ?_ ?_ ?_
 ·rintro _ z5 fg _ _ ⟨fh,bw,a7,rfl,rfl,au⟩ f bx av aw;try dsimp only at f bx av aw
  refine Aj (dT aq av) ?_;obtain ⟨ax,bz,f⟩:=bS f;refine Ck ap bz (cT a7 au.sub) ?_;obtain ⟨fi,c0,f⟩:=bS f;refine AJ (RZ (gk.mono ((am.trans ao).trans a7)) au.at1 c0) ?_;rintro _ fj ⟨fk,t8,fl,c1,rfl,rfl,c2,c3⟩;refine ⟨t8,rfl,?_⟩;obtain ⟨fm,c4,f⟩:=bS f;refine AJ (Gf c2 c3 c4) ?_;rintro _ fn ⟨a8,t9,c5,rfl,rfl,ay⟩;refine ⟨t9,rfl,?_⟩;obtain ⟨c6,n,f⟩:=bS f;refine Af (fun (y:Slc×Unit) w_ g=>∃ψ:AE,∃az:List Int,Sub a8 ψ∧az=g∧St ψ (cR 3 (bW .i64) y.1 az::⟨BV,[.pointer l_2],e⟩::Wq8 r1::cO 159 Rq0 g_0 c::F) w_) (g:=c6) ?_ ?_
  ·refine AI n rfl (fun _ n=> ?_) (fun _ n=> ?_)
   ·refine AT (vs:=[.int .i64 ax]) ay fun r11 fo b0=> ?_;obtain ⟨c7,c8,n⟩:=bS n;refine Ah (r:=(bW .i64)) (ms:=([ax]:List Int)) D2 b0.tail.at1 rfl (dP b0) (.cons (a:=[_]) rfl .nil) rfl c8 ?_;intro t12 fp c9;obtain rfl:=iS n;exact AN (t12,()) rfl ⟨a8,c7,(bT _),rfl,c9.at3.at3.at3.at3⟩
   obtain rfl:=iS n;exact AN (z5.2.1,()) rfl ⟨a8,bw,(bT _),rfl,ay.at1.at3.at3.at3.at3⟩
  rintro z10 fq ⟨ca,cb,cc,rfl,cd⟩;try dsimp only at f
  obtain rfl:=iS f;exact Ag ((wN z5.1),z10.1,()) _ rfl rfl ⟨ca,cb,(((a7.trans c1).trans c5).trans cc),aw,rfl,cd.at3.at3.at3.at3⟩
 ·rintro _ z5 fr ⟨ce,cf,cg,rfl,rfl,ch⟩ ci;refine Aa (dF aq ci)<|AO (AQ (z5.1,z5.2.1,()) rfl ⟨_,ce,cf,cg,rfl,rfl,ch.at3.at3.at3.at3⟩)
 rintro z4 fs ⟨_,cj,b1,ck,_,rfl,b2⟩;try dsimp only at hd
 have b3:=b2.rowLen;obtain ⟨i,ft,b4,fu,cl⟩:=b2.at3.open;obtain rfl:g_0=some ⟨i,0,none⟩:=by simpa using b4
 clear b4;obtain ⟨fv,fw,rfl,fx,cm⟩:=cl.at1.pair;obtain ⟨⟨q,cp,b5⟩,co⟩:=cm.ro;subst cp;obtain ⟨fy,fz,rfl,g0,cq⟩:=co.pair;obtain ⟨⟨s,cu,b6⟩,ct⟩:=cq.ro;subst cu;obtain ⟨g1,g2,rfl,g3,cv⟩:=ct.pair;obtain ⟨⟨u,cy,b7⟩,cx⟩:=cv.ro;subst cy;obtain ⟨g4,g5,rfl,g6,cz⟩:=cx.pair;obtain ⟨⟨w,d2,b8⟩,d1⟩:=cz.ro;subst d2;obtain ⟨g7,g8,rfl,g9,d3⟩:=d1.pair;obtain ⟨⟨z,d6,b9⟩,d5⟩:=d3.ro;subst d6;obtain ⟨ga,gb,rfl,gc,d7⟩:=d5.pair;obtain ⟨⟨a0,da,ba⟩,d9⟩:=d7.ro;subst da;obtain ⟨gd,ge,rfl,gf,bb⟩:=d9.pair;obtain ⟨a2,db⟩:=bb.rowCs;subst db;obtain ⟨gg,gh,rfl,gi,bc⟩:=bb.at1.pair;obtain ⟨a3,dc⟩:=bc.rowCs;subst dc;have bd:=bc.at1;obtain ⟨a4,dd⟩:=bd.rowCs;subst dd;have o:St cj (cR 89 Lh a4 c.2.2.2.2.2.2.2.2::cR 30 (cA (bW .i64)) a3 c.2.2.2.2.2.2.2.1::cR 163 (cA HA) a2 c.2.2.2.2.2.2.1::cW 159 i [sv q,sv s,sv u,sv w,sv z,sv a0,sv a2,sv a3,sv a4]::cR 3 (bW .i64) z4.2.1 b1::⟨BV,[.pointer l_2],e⟩::Wq8 r1::F) _:=bd;refine AG _ rfl<|AA (x:=q) o.at3 rfl<|AA (x:=s) o.at3 rfl<|AA (x:=u) o.at3 rfl<|AA (x:=w) o.at3 rfl<|AA (x:=z) o.at3 rfl<|AA (x:=a0) o.at3 rfl ?_;obtain ⟨gj,d,be,de⟩:=cD (t:=z4.2.1) o.at4;obtain ⟨gl,df,hd⟩:=bS hd;refine AJ (Mt (p_0:=(q,s,u,w,z,a0,())) (b5.mono d) (b6.mono d) (b7.mono d) (b8.mono d) (b9.mono d) (ba.mono d) be de df) ?_;rintro _ gm ⟨a5,t20,l,rfl,rfl,dg⟩;refine ⟨t20,rfl,?_⟩;try dsimp only at hd
 refine AT (vs:=[.int .i64 (0:Int),.int .i64 (0:Int)]) dg fun r21 gn dh=>AK dh rfl rfl fun go di=>AK di rfl rfl fun gp a9=> ?_;obtain ⟨dj,k,hd⟩:=bS hd;refine Af (fun (y:Bool×Unit) w_ g=>∃ψ:AE,Sub a5 ψ∧y.1=g∧St ψ (cW 77 r21 [.int .i64 t20.1.1,.int .i64 t20.1.2.1]::cR 89 Lh a4 c.2.2.2.2.2.2.2.2::cR 30 (cA (bW .i64)) a3 c.2.2.2.2.2.2.2.1::cR 163 (cA HA) a2 c.2.2.2.2.2.2.1::cW 159 i [sv q,sv s,sv u,sv w,sv z,sv a0,sv a2,sv a3,sv a4]::⟨BV,[.pointer l_2],e⟩::Wq8 r1::F) w_) (g:=dj) ?_ ?_
 ·refine AI k (by rw [b3] <;>rfl) (fun _ k=> ?_) (fun _ k=> ?_)
  ·have dk:=a9.at6;obtain rfl:=iS k;exact AN (true,()) rfl ⟨a5,(bT _),rfl,dk.at6.at6.at6.at6.at6.at6⟩
  refine AI k (by rw [b3] <;>rfl) (fun _ k=> ?_) (fun _ k=> ?_)
  ·have dl:=a9.at6;obtain rfl:=iS k;exact AN ((decide (t2≥ (0:Int))),()) rfl ⟨a5,(bT _),rfl,dl.at6.at6.at6.at6.at6.at6⟩
  obtain rfl:=iS k;exact AN (false,()) rfl ⟨a5,(bT _),rfl,a9.at6.at6.at6.at6.at6.at6.at6⟩
 rintro z22 gq ⟨a1,m,rfl,dm⟩;try dsimp only at hd
 have dn:=cG (r:=(cA cF)) (cs:=[sv a0]) (x:=c.2.2.2.2.2.1) (bX ((bX dm.at3.at3.at3.at1).at1)) ⟨a0,rfl,(ba.mono ((d.trans l).trans m))⟩;have dp:=cG (r:=(cA (bW .i64))) (cs:=[sv z]) (x:=c.2.2.2.2.1) (bX dn) ⟨z,rfl,(b9.mono ((d.trans l).trans m))⟩;have dq:=cG (r:=(cA (bW .i64))) (cs:=[sv w]) (x:=c.2.2.2.1) (bX dp) ⟨w,rfl,(b8.mono ((d.trans l).trans m))⟩;have dr:=cG (r:=(cA B4)) (cs:=[sv u]) (x:=c.2.2.1) (bX dq) ⟨u,rfl,(b7.mono ((d.trans l).trans m))⟩;have ds:=cG (r:=(cA cF)) (cs:=[sv s]) (x:=c.2.1) (bX dr) ⟨s,rfl,(b6.mono ((d.trans l).trans m))⟩;have dt:=cG (r:=(cA cF)) (cs:=[sv q]) (x:=c.1) (bX ds) ⟨q,rfl,(b5.mono ((d.trans l).trans m))⟩;have bf:St a1 (cO 159 Rq0 (some ⟨i,0,none⟩) (c.1,c.2.1,c.2.2.1,c.2.2.2.1,c.2.2.2.2.1,c.2.2.2.2.2.1,c.2.2.2.2.2.2.1,c.2.2.2.2.2.2.2.1,c.2.2.2.2.2.2.2.2)::cW 77 r21 [.int .i64 t20.1.1,.int .i64 t20.1.2.1]::⟨BV,[.pointer l_2],e⟩::Wq8 r1::F) _:=fF (bX dt).at2;obtain ⟨du,p,hd⟩:=bS hd;refine Af (fun (y:Unit) w_ g=>∃ψ:AE,∃bg:Ce,Sub a1 ψ∧bg=g∧St ψ (cO 159 Rq0 (some ⟨i,0,none⟩) bg::cW 77 r21 [.int .i64 t20.1.1,.int .i64 t20.1.2.1]::⟨BV,[.pointer l_2],e⟩::Wq8 r1::F) w_) (g:=du) ?_ ?_
 ·refine AI p rfl (fun _ p=> ?_) (fun _ p=> ?_)
  ·obtain ⟨dv,gr,bh,gs,dw⟩:=bf.open;obtain rfl:i=dv:=by simpa using bh
   clear bh;obtain ⟨gt,gu,rfl,gv,dx⟩:=dw.at1.pair;obtain ⟨⟨aa,e0,e1⟩,dz⟩:=dx.ro;subst e0;obtain ⟨gw,gx,rfl,gy,e2⟩:=dz.pair;obtain ⟨⟨ab,e5,e6⟩,e4⟩:=e2.ro;subst e5;obtain ⟨gz,h0,rfl,h1,e7⟩:=e4.pair;obtain ⟨⟨ac,ea,eb⟩,e9⟩:=e7.ro;subst ea;obtain ⟨h2,h3,rfl,h4,ec⟩:=e9.pair;obtain ⟨⟨ad,ef,eg⟩,ee⟩:=ec.ro;subst ef;obtain ⟨h5,h6,rfl,h7,eh⟩:=ee.pair;obtain ⟨⟨ae,ek,el⟩,ej⟩:=eh.ro;subst ek;obtain ⟨h8,h9,rfl,hb,em⟩:=ej.pair;obtain ⟨⟨af,ep,er⟩,eo⟩:=em.ro;subst ep;obtain ⟨hc,he,rfl,hf,bi⟩:=eo.pair;obtain ⟨bj,es⟩:=bi.rowCs;subst es;obtain ⟨hg,hh,rfl,hi,bk⟩:=bi.at1.pair;obtain ⟨bl,eu⟩:=bk.rowCs;subst eu;have bm:=bk.at1;obtain ⟨ag,ev⟩:=bm.rowCs;subst ev;have a6:St a1 (cR 89 Lh ag c.2.2.2.2.2.2.2.2::cR 30 (cA (bW .i64)) bl c.2.2.2.2.2.2.2.1::cR 163 (cA HA) bj c.2.2.2.2.2.2.1::cW 159 i [sv aa,sv ab,sv ac,sv ad,sv ae,sv af,sv bj,sv bl,sv ag]::cW 77 r21 [.int .i64 t20.1.1,.int .i64 t20.1.2.1]::⟨BV,[.pointer l_2],e⟩::Wq8 r1::F) _:=bm;refine AG _ rfl<|AA (x:=ag) a6.at3 rfl<|AA (x:=t20.1.1) a6.at4 rfl<|AA (x:=t20.1.2.1) a6.at4 rfl<|Jd a6 fun r28 hj hk ah=>AM (cJ (b:=i) (j:=8) ah.at4 rfl) ?_;obtain ⟨bn,ew,p⟩:=bS p;refine Ah (r:=Lh) (ms:=([(state_3,term_4,t2,b1,t20.1.1,t20.1.2.1,t20.2.1)]:List Ef)) OY ah.tail rfl (dP ah) (.cons (a:=[_,_,_,_,_,_,_]) ⟨[_],_,rfl,rfl,⟨[_],_,rfl,rfl,⟨[_],_,rfl,rfl,⟨[_],_,rfl,⟨z4.2.1,rfl,(be.mono (l.trans m))⟩,⟨[_],_,rfl,rfl,⟨[_],_,rfl,rfl,rfl⟩⟩⟩⟩⟩⟩ .nil) rfl ew ?_;intro t29 hl ex;refine AG _ rfl<|AK ex.at3 rfl rfl fun hm ey=> ?_;have ez:=cG (r:=(cA cF)) (cs:=[sv af]) (x:=c.2.2.2.2.2.1) (bX ((bX ey.at3.at3.at3.at1).at1)) ⟨af,rfl,er⟩;have f0:=bX (cG (r:=(cA (bW .i64))) (cs:=[sv ae]) (x:=c.2.2.2.2.1) (bX ez) ⟨ae,rfl,el⟩);have f1:=cG (r:=(cA B4)) (cs:=[sv ac]) (x:=c.2.2.1) (bX (cG (r:=(cA (bW .i64))) (cs:=[sv ad]) (x:=c.2.2.2.1) f0 ⟨ad,rfl,eg⟩)) ⟨ac,rfl,eb⟩;have f2:=cG (r:=(cA cF)) (cs:=[sv aa]) (x:=c.1) (bX (cG (r:=(cA cF)) (cs:=[sv ab]) (x:=c.2.1) (bX f1) ⟨ab,rfl,e6⟩)) ⟨aa,rfl,e1⟩;have f3:St a1 (cO 159 Rq0 (some ⟨i,0,none⟩) (c.1,c.2.1,c.2.2.1,c.2.2.2.1,c.2.2.2.2.1,c.2.2.2.2.2.1,c.2.2.2.2.2.2.1,c.2.2.2.2.2.2.2.1,bn)::cW 77 r21 [.int .i64 t20.1.1,.int .i64 t20.1.2.1]::⟨BV,[.pointer l_2],e⟩::Wq8 r1::F) _:=fF (bX f2).at1;obtain rfl:=iS p;exact AN (()) rfl ⟨a1,(c.1,c.2.1,c.2.2.1,c.2.2.2.1,c.2.2.2.2.1,c.2.2.2.2.2.1,c.2.2.2.2.2.2.1,c.2.2.2.2.2.2.2.1,bn),(bT _),rfl,f3.at3.at3.at3.at3⟩
  obtain rfl:=iS p;exact AN (()) rfl ⟨a1,(c.1,c.2.1,c.2.2.1,c.2.2.2.1,c.2.2.2.2.1,c.2.2.2.2.2.1,c.2.2.2.2.2.2.1,c.2.2.2.2.2.2.2.1,c.2.2.2.2.2.2.2.2),(bT _),rfl,bf.at3.at3.at3.at3⟩
 rintro z23 hn ⟨f4,f5,f6,rfl,ai⟩;try dsimp only at hd
 refine AA (x:=t20.1.1) ai.at1 rfl<|AA (x:=t20.1.2.1) ai.at1 rfl<|AK ai.at3 rfl rfl fun ho f7=>AK f7 rfl rfl fun hp aj=>AA (x:=t20.1.1) aj rfl<|AA (x:=t20.1.2.1) aj rfl ?_;obtain rfl:=iS hd;exact AB ⟨f4,(t20.1.1,t20.1.2.1,()),f5,((((((am.trans ao).trans ck).trans d).trans l).trans m).trans f6),rfl,rfl,aj.tail.at1.tail.at1⟩
noncomputable def Ds (g_0:Ce) (state_1:Int):Option Bool:=(cond (decide (state_1≥ 0)) (some (decide (state_1< (g_0.2.2.2.2.2.2.1.length:Int)))) (some false)).bind fun z1=>some z1
theorem Kt {g_0:Option Addr}{b:Ce}{state_1:Int}(d:Pt Nh φ g_0 b) (s0:St φ (F) h) {r:Bool}(hd:Ds b state_1=some r):
 CallsH bU 85 [(.pointer g_0),(.int .i64 state_1)] h (Ap fun v h'=>∃ψ:AE,∃y:Bool,Sub φ ψ∧v=((.one aB):Sh).val y∧y=r∧St ψ (F) h'):=by
 refine AR mixed Tryz.func85 ?_;rw [Ks];unfold Hd;unfold Ds at hd;obtain ⟨e,a,hd⟩:=bS hd;refine Af (fun (y:Bool×Unit) w_ g=>∃ψ:AE,Sub φ ψ∧y.1=g∧St ψ (F) w_) (g:=e) ?_ ?_
 ·refine AI a rfl (fun _ a=> ?_) (fun _ a=> ?_)
  ·obtain ⟨o,p,f,⟨_,_,rfl,⟨q,rfl,s⟩,_,_,rfl,⟨t,rfl,u⟩,_,_,rfl,⟨w,rfl,z⟩,_,_,rfl,⟨a0,rfl,a1⟩,_,_,rfl,⟨a2,rfl,a3⟩,_,_,rfl,⟨a4,rfl,a5⟩,_,_,rfl,⟨c,rfl,i⟩,_,_,rfl,⟨a6,rfl,a7⟩,⟨a8,rfl,a9⟩⟩,j⟩:=id d;have k:=i.length;refine AG _ f<|AF (x:=c) (AC s0.sub (j.at 6 rfl)) rfl ?_;obtain rfl:=iS a;exact AN ((decide (state_1< (c.2.1:Int))),()) rfl ⟨φ,(bT _),(by rw [k]),s0⟩
  obtain rfl:=iS a;exact AN (false,()) rfl ⟨φ,(bT _),rfl,s0⟩
 rintro z1 aa ⟨l,m,rfl,n⟩;try dsimp only at hd
 obtain rfl:=iS hd;exact AB ⟨l,z1.1,m,rfl,rfl,n⟩
noncomputable def CH (g_0:Ce) (state_1:Int) (term_2:Int):Option (Int×Int):=((Ds g_0 state_1).bind fun t3=>cond (!t3) (some true) ((BT (g_0.1,g_0.2.1,g_0.2.2.1,g_0.2.2.2.1,g_0.2.2.2.2.1,g_0.2.2.2.2.2.1) term_2).bind fun t11=>some (!t11))).bind fun z2=>cond z2 (some (0,0)) ((idx g_0.2.2.2.2.2.2.1 state_1).bind fun e95=>(idx e95 term_2).bind fun e104=>some (e104.1,e104.2))
theorem EP {g_0:Option Addr}{m:Ce}{state_1:Int}{term_2:Int}(j:Pt Nh φ g_0 m) (s0:St φ (F) h) {r:(Int×Int)}(hd:CH m state_1 term_2=some r):
 CallsH bU 42 [(.pointer g_0),(.int .i64 state_1),(.int .i64 term_2)] h (Ap fun v h'=>∃ψ:AE,∃y:Int×Int×Unit,Sub φ ψ∧v=((.one (.agg [(.int .i64),(.int .i64)])):Sh).val y∧(y.1,y.2.1)=r∧St ψ (F) h'):=by
 refine AR mixed Tryz.func42 ?_;rw [Kr];unfold Hc;unfold CH at hd;refine AT (vs:=[.int .i64 (0:Int),.int .i64 (0:Int)]) s0 fun r1 au z=> ?_;obtain ⟨a0,b,hd⟩:=bS hd;refine Af (fun (y:Bool×Unit) w_ g=>∃ψ:AE,Sub φ ψ∧y.1=g∧St ψ (Wq8 r1::F) w_) (g:=a0) ?_ ?_
 ·obtain ⟨av,a1,b⟩:=bS b;refine AJ (Kt j z a1) ?_;rintro _ aw ⟨a2,t3,a,rfl,rfl,c⟩;refine ⟨t3,rfl,?_⟩;refine AI b rfl (fun _ b=> ?_) (fun _ b=> ?_)
  ·obtain rfl:=iS b;exact AN (true,()) rfl ⟨a2,a,rfl,c⟩
  obtain ⟨ax,ay,a3,⟨_,_,rfl,⟨n,rfl,a4⟩,_,_,rfl,⟨o,rfl,a5⟩,_,_,rfl,⟨p,rfl,a6⟩,_,_,rfl,⟨q,rfl,a7⟩,_,_,rfl,⟨s,rfl,a8⟩,_,_,rfl,⟨t,rfl,a9⟩,_,_,rfl,⟨az,rfl,b0⟩,_,_,rfl,⟨b1,rfl,b2⟩,⟨b3,rfl,b4⟩⟩,d⟩:=id j;refine AG _ a3<|AF (x:=n) (AC (cT a c.sub) (d.at 0 rfl)) rfl<|AF (x:=o) (AC (cT a c.sub) (d.at 1 rfl)) rfl<|AF (x:=p) (AC (cT a c.sub) (d.at 2 rfl)) rfl<|AF (x:=q) (AC (cT a c.sub) (d.at 3 rfl)) rfl<|AF (x:=s) (AC (cT a c.sub) (d.at 4 rfl)) rfl<|AF (x:=t) (AC (cT a c.sub) (d.at 5 rfl)) rfl ?_;obtain ⟨b5,aa,b⟩:=bS b;refine AJ (Dy (p_0:=(n,o,p,q,s,t,())) (a4.mono a) (a5.mono a) (a6.mono a) (a7.mono a) (a8.mono a) (a9.mono a) c aa) ?_;rintro _ b6 ⟨ab,t11,ac,rfl,rfl,ad⟩;refine ⟨t11,rfl,?_⟩;obtain rfl:=iS b;exact AN ((!t11),()) rfl ⟨ab,(a.trans ac),rfl,ad⟩
 rintro z2 b7 ⟨u,i,rfl,e⟩;try dsimp only at hd
 refine AI hd rfl (fun _ hd=> ?_) (fun _ hd=> ?_)
 ·refine AK e rfl rfl fun b8 ae=>AK ae rfl rfl fun b9 k=>AA (x:=(0:Int)) k rfl<|AA (x:=(0:Int)) k rfl ?_;obtain rfl:=iS hd;exact AB ⟨u,((0:Int),(0:Int),()),i,rfl,rfl,k.tail⟩
 obtain ⟨ba,bb,af,⟨_,_,rfl,⟨bc,rfl,bd⟩,_,_,rfl,⟨be,rfl,bf⟩,_,_,rfl,⟨bg,rfl,bh⟩,_,_,rfl,⟨bi,rfl,bj⟩,_,_,rfl,⟨bk,rfl,bl⟩,_,_,rfl,⟨bm,rfl,bn⟩,_,_,rfl,⟨ag,rfl,ah⟩,_,_,rfl,⟨bo,rfl,bp⟩,⟨bq,rfl,br⟩⟩,ai⟩:=id j;refine AG _ af<|AF (x:=ag) (AC (cT i e.sub) (ai.at 6 rfl)) rfl ?_;obtain ⟨bs,aj,hd⟩:=bS hd;refine Ng ah aj (cT i e.sub) fun bt ak=> ?_;obtain ⟨f,al,hd⟩:=bS hd;obtain ⟨bu,bv,am,an,ao,w⟩:=(ak.mono i).get al;refine AG _ am (Ab an ?_);obtain ⟨_,_,rfl,rfl,rfl⟩:=ao;refine AF (x:=f.1) (AC e.sub (w 0 _ rfl)) rfl<|AF (x:=f.2) (by rw [AV];exact (AC e.sub (w 1 _ rfl))) rfl<|AK e rfl rfl fun bw ar=>AK ar rfl rfl fun bx l=>AA (x:=f.1) l rfl<|AA (x:=f.2) l rfl ?_;obtain rfl:=iS hd;exact AB ⟨u,(f.1,f.2,()),i,rfl,rfl,l.tail⟩
noncomputable def BH (g_0:Ce):Option (List Ef):=(forS (σ:=List Ef) 0 (g_0.2.2.2.2.2.2.2.2.length:Int) ([]:List Ef) fun i_z4 z4=>(idx g_0.2.2.2.2.2.2.2.2 i_z4).bind fun e59=>(Dg.cloneD e59.2.2.2.1).bind fun t15=>(app z4 ([(e59.1,e59.2.1,e59.2.2.1,t15,e59.2.2.2.2.1,e59.2.2.2.2.2.1,e59.2.2.2.2.2.2)]:List Ef)).bind fun t24=>some t24).bind fun z3=>some z3
theorem B2 {g_0:Option Addr}{i:Ce}(w:Pt Nh φ g_0 i) (s0:St φ (F) h) {r:(List Ef)}(hd:BH i=some r):
 CallsH bU 40 [(.pointer g_0)] h (Ap fun v h'=>∃ψ:AE,∃y:Slc,∃j:List Ef,Sub φ ψ∧v=((.one aS):Sh).val y∧j=r∧Ro.SliceIs Lh ψ y j∧St ψ (F) h'):=by
 refine AR mixed Tryz.func40 ?_;rw [Hp];unfold FG;unfold BH at hd;obtain ⟨bi,bj,z,⟨_,_,rfl,⟨bk,rfl,bl⟩,_,_,rfl,⟨bm,rfl,bn⟩,_,_,rfl,⟨bo,rfl,bp⟩,_,_,rfl,⟨bq,rfl,br⟩,_,_,rfl,⟨bs,rfl,bt⟩,_,_,rfl,⟨bu,rfl,bv⟩,_,_,rfl,⟨bw,rfl,bx⟩,_,_,rfl,⟨bz,rfl,c0⟩,⟨a0,rfl,k⟩⟩,a1⟩:=id w;have l:=k.length;refine AG _ z<|AF (x:=a0) (AC s0.sub (a1.at 8 rfl)) rfl ?_;obtain ⟨c1,a2,hd⟩:=bS hd;refine B0 a2 (fun a3 (y:Int×Slc×Unit) w_ g=>∃ψ:AE,∃m:List Ef,Sub φ ψ∧y.1=a3∧m=g∧St ψ (cR 89 Lh y.2.1 m::F) w_) ((0:Int),((none,0,0):Slc),()) rfl ⟨φ,[],(bT _),rfl,rfl,(s0.nil 89 Lh)⟩ ?_ ?_ ?_
 ·rintro _ z4 c2 _ _ ⟨c3,c4,n,rfl,rfl,c⟩ d a4 o p;try dsimp only at d a4 o p
  refine Aj (dT l o) ?_;obtain ⟨b,a5,d⟩:=bS d;obtain ⟨c5,c6,a6,a7,a8,f⟩:=(k.mono n).get a5;refine AG _ a6 (Ab a7 ?_);obtain ⟨_,_,rfl,rfl,⟨_,_,rfl,rfl,⟨_,_,rfl,rfl,⟨_,_,rfl,⟨q,rfl,ah⟩,⟨_,_,rfl,rfl,⟨_,_,rfl,rfl,rfl⟩⟩⟩⟩⟩⟩:=a8;refine AF (x:=b.1) (AC c.sub (f 0 _ rfl)) rfl<|AF (x:=b.2.1) (by rw [AV];exact (AC c.sub (f 1 _ rfl))) rfl<|AF (x:=b.2.2.1) (by rw [AV];exact (AC c.sub (f 2 _ rfl))) rfl<|AF (x:=q) (by rw [AV];exact (AC c.sub (f 3 _ rfl))) rfl<|AF (x:=b.2.2.2.2.1) (by rw [AV];exact (AC c.sub (f 4 _ rfl))) rfl<|AF (x:=b.2.2.2.2.2.1) (by rw [AV];exact (AC c.sub (f 5 _ rfl))) rfl<|AF (x:=b.2.2.2.2.2.2) (by rw [AV];exact (AC c.sub (f 6 _ rfl))) rfl<|AT (vs:=[.int .i64 (0:Int),.int .i64 (0:Int),.int .i64 (0:Int),.slice none 0 0,.int .i64 (0:Int),.int .i64 (0:Int),.bool false]) c fun r13 c7 am=>AK am rfl rfl fun c8 an=>AK an rfl rfl fun c9 ao=>AK ao rfl rfl fun ca ap=>AK ap rfl rfl fun cb aq=>AK aq rfl rfl fun cc ar=>AK ar rfl rfl fun cd au=>AK au rfl rfl fun ce s=>AA (x:=q) s rfl ?_;obtain ⟨cf,av,d⟩:=bS d;refine AJ (Dg.clone46_ro ah s av) ?_;rintro _ cg ⟨ch,t15,aw,ax,rfl,rfl,ay⟩;refine ⟨t15,rfl,?_⟩;refine AK ay.at1 rfl rfl fun ci e=>AA (x:=b.1) e rfl<|AA (x:=b.2.1) e rfl<|AA (x:=b.2.2.1) e rfl<|AA (x:=t15) e rfl<|AA (x:=b.2.2.2.2.1) e rfl<|AA (x:=b.2.2.2.2.2.1) e rfl<|AA (x:=b.2.2.2.2.2.2) e rfl<|AT (vs:=[.int .i64 b.1,.int .i64 b.2.1,.int .i64 b.2.2.1,sv t15,.int .i64 b.2.2.2.2.1,.int .i64 b.2.2.2.2.2.1,.bool b.2.2.2.2.2.2]) e fun r23 cj az=> ?_;obtain ⟨b0,b1,b2,u⟩:=cD (t:=t15) az.at2;obtain ⟨b3,b4,d⟩:=bS d;refine Ah (r:=Lh) (ms:=([(b.1,b.2.1,b.2.2.1,aw,b.2.2.2.2.1,b.2.2.2.2.2.1,b.2.2.2.2.2.2)]:List Ef)) OY u.tail.at1 rfl (dP u) (.cons (a:=[_,_,_,_,_,_,_]) ⟨[_],_,rfl,rfl,⟨[_],_,rfl,rfl,⟨[_],_,rfl,rfl,⟨[_],_,rfl,⟨t15,rfl,b2⟩,⟨[_],_,rfl,rfl,⟨[_],_,rfl,rfl,rfl⟩⟩⟩⟩⟩⟩ .nil) rfl b4 ?_;intro t24 ck b5;obtain rfl:=iS d;exact Ag ((wN z4.1),t24,()) _ rfl rfl ⟨b0,b3,((n.trans ax).trans b1),p,rfl,b5.at1.tail⟩
 ·rintro _ z4 cl ⟨b6,b7,b8,rfl,rfl,b9⟩ ba;refine Aa (dF l ba)<|AO (AQ (z4.1,z4.2.1,()) rfl ⟨_,b6,b7,b8,rfl,rfl,b9⟩)
 rintro z3 cm ⟨_,cn,bb,bc,_,rfl,bd⟩;try dsimp only at hd
 obtain ⟨be,bf,bg,bh⟩:=cD (t:=z3.2.1) bd;obtain rfl:=iS hd;exact AB ⟨be,z3.2.1,bb,(bc.trans bf),rfl,rfl,bg,bh⟩
noncomputable def Da (c_0:Ef):Option Bool:=some c_0.2.2.2.2.2.2
theorem Hr {c_0:Int×Int×Int×Slc×Int×Int×Bool×Unit}{a:List Int}(c:Ro.SliceIs (bW .i64) φ c_0.2.2.2.1 a) (s0:St φ (F) h) {r:Bool}(hd:Da (c_0.1,c_0.2.1,c_0.2.2.1,a,c_0.2.2.2.2.1,c_0.2.2.2.2.2.1,c_0.2.2.2.2.2.2.1)=some r):
 CallsH bU 88 [(.agg #[(.int .i64 c_0.1),(.int .i64 c_0.2.1),(.int .i64 c_0.2.2.1),(sv c_0.2.2.2.1),(.int .i64 c_0.2.2.2.2.1),(.int .i64 c_0.2.2.2.2.2.1),(.bool c_0.2.2.2.2.2.2.1)])] h (Ap fun v h'=>∃ψ:AE,∃y:Bool,Sub φ ψ∧v=((.one aB):Sh).val y∧y=r∧St ψ (F) h'):=by
 refine AR mixed Tryz.func88 ?_;rw [Hq];unfold FH;unfold Da at hd;refine AT (vs:=[.int .i64 c_0.1,.int .i64 c_0.2.1,.int .i64 c_0.2.2.1,sv c_0.2.2.2.1,.int .i64 c_0.2.2.2.2.1,.int .i64 c_0.2.2.2.2.2.1,.bool c_0.2.2.2.2.2.2.1]) s0 fun r1 d b=>AA (x:=c_0.2.2.2.2.2.2.1) b rfl ?_;obtain rfl:=iS hd;exact AB ⟨φ,c_0.2.2.2.2.2.2.1,(bT _),rfl,rfl,b.tail⟩
noncomputable def BN (s_0:List Ef):Option Int:=
 (C5 (σ:=Unit) (β:=Int) 0 (s_0.length:Int) () fun i_z2 z2=>
  (idx s_0 i_z2).bind fun e23=>
  (Da (e23.1,e23.2.1,e23.2.2.1,e23.2.2.2.1,e23.2.2.2.2.1,e23.2.2.2.2.2.1,e23.2.2.2.2.2.2)).bind fun t11=>
  cond t11
  (some (dC i_z2))
  (some (cY ()))).bind fun e_z1=>match e_z1 with
 |.next z1=>
  some (-1:Int)
 |.done q57=>some q57
theorem DU {s_0:Slc}{e:List Ef}(i:Ro.SliceIs Lh φ s_0 e) (s0:St φ (F) h) {r:Int}(hd:BN e=some r):
 CallsH bU 119 [(sv s_0),(.func (.func 88) #[] #[])] h (Ap fun v h'=>∃ψ:AE,∃y:Int,Sub φ ψ∧v=((.one aI):Sh).val y∧y=r∧St ψ (F) h'):=by
 refine AR mixed Tryz.func119 ?_;rw [DT];unfold CL;unfold BN at hd;have j:s_0.2.1=cE e:=i.length;obtain ⟨ao,q,hd⟩:=bS hd;refine BX q (fun s (y:Int×Int×Unit) w_ g=>∃ψ:AE,Sub φ ψ∧y.1=s∧()=g∧St ψ (F) w_) ((0:Int),(0:Int),()) rfl ⟨φ,(bT _),rfl,rfl,s0⟩ ?_ ?_ ?_
 ·rintro _ z2 ap _ _ ⟨aq,f,rfl,rfl,c⟩ b t k l u;try dsimp only at b t k l
  refine Aj (dT j k) ?_;obtain ⟨a,w,b⟩:=bS b;obtain ⟨ar,au,z,a0,a1,d⟩:=(i.mono f).get w;refine AG _ z (Ab a0 ?_);obtain ⟨_,_,rfl,rfl,⟨_,_,rfl,rfl,⟨_,_,rfl,rfl,⟨_,_,rfl,⟨m,rfl,aa⟩,⟨_,_,rfl,rfl,⟨_,_,rfl,rfl,rfl⟩⟩⟩⟩⟩⟩:=a1;refine AF (x:=a.1) (AC c.sub (d 0 _ rfl)) rfl<|AF (x:=a.2.1) (by rw [AV];exact (AC c.sub (d 1 _ rfl))) rfl<|AF (x:=a.2.2.1) (by rw [AV];exact (AC c.sub (d 2 _ rfl))) rfl<|AF (x:=m) (by rw [AV];exact (AC c.sub (d 3 _ rfl))) rfl<|AF (x:=a.2.2.2.2.1) (by rw [AV];exact (AC c.sub (d 4 _ rfl))) rfl<|AF (x:=a.2.2.2.2.2.1) (by rw [AV];exact (AC c.sub (d 5 _ rfl))) rfl<|AF (x:=a.2.2.2.2.2.2) (by rw [AV];exact (AC c.sub (d 6 _ rfl))) rfl ?_;obtain ⟨av,af,b⟩:=bS b;refine AJ (Hr (c_0:=(a.1,a.2.1,a.2.2.1,m,a.2.2.2.2.1,a.2.2.2.2.2.1,a.2.2.2.2.2.2,())) aa c af) ?_;rintro _ aw ⟨n,t11,o,rfl,rfl,p⟩;refine ⟨t11,rfl,?_⟩;refine AI b rfl (fun _ b=> ?_) (fun _ b=> ?_)
  ·obtain rfl:=iS b;obtain rfl:=u _ rfl;try dsimp only at hd
   obtain rfl:=iS hd;exact Ak (Ai (AB ⟨n,z2.1,(f.trans o),rfl,rfl,p⟩))
  obtain rfl:=iS b;exact Ag ((wN z2.1),z2.2.1,()) _ rfl rfl ⟨n,(f.trans o),l,rfl,p⟩
 ·rintro _ z2 ax _ ⟨ag,ah,rfl,rfl,ai⟩ aj ak;subst ak;refine Aa (dF j aj)<|AO (AQ (z2.1,z2.2.1,()) rfl ⟨_,rfl,_,ag,ah,rfl,rfl,ai⟩)
 rintro z1 ay ⟨_,rfl,_,al,am,_,rfl,an⟩;try dsimp only at hd
 obtain rfl:=iS hd;exact AB ⟨al,(-1:Int),am,rfl,rfl,an⟩
noncomputable def BD (s_0:List Ef):Option Bool:=(BN s_0).bind fun t1=>some (decide (t1≥ 0))
theorem DL {s_0:Slc}{a:List Ef}(b:Ro.SliceIs Lh φ s_0 a) (s0:St φ (F) h) {r:Bool}(hd:BD a=some r):
 CallsH bU 87 [(sv s_0),(.func (.func 88) #[] #[])] h (Ap fun v h'=>∃ψ:AE,∃y:Bool,Sub φ ψ∧v=((.one aB):Sh).val y∧y=r∧St ψ (F) h'):=by
 refine AR mixed Tryz.func87 ?_;rw [DK];unfold CA;unfold BD at hd;obtain ⟨g,c,hd⟩:=bS hd;refine AJ (DU b s0 c) ?_;rintro _ i ⟨d,t1,e,rfl,rfl,f⟩;refine ⟨t1,rfl,?_⟩;obtain rfl:=iS hd;exact AB ⟨d,(decide (t1≥ (0:Int))),e,rfl,rfl,f⟩
noncomputable def Ba (g_0:Ce):Option Bool:=(BD g_0.2.2.2.2.2.2.2.2).bind fun t3=>some (!t3)
theorem Cr {g_0:Option Addr}{a:Ce}(b:Pt Nh φ g_0 a) (s0:St φ (F) h) {r:Bool}(hd:Ba a=some r):
 CallsH bU 43 [(.pointer g_0)] h (Ap fun v h'=>∃ψ:AE,∃y:Bool,Sub φ ψ∧v=((.one aB):Sh).val y∧y=r∧St ψ (F) h'):=by
 refine AR mixed Tryz.func43 ?_;rw [Ip];unfold GC;unfold Ba at hd;obtain ⟨l,m,c,⟨_,_,rfl,⟨n,rfl,o⟩,_,_,rfl,⟨p,rfl,q⟩,_,_,rfl,⟨s,rfl,t⟩,_,_,rfl,⟨u,rfl,w⟩,_,_,rfl,⟨z,rfl,a0⟩,_,_,rfl,⟨a1,rfl,a2⟩,_,_,rfl,⟨a3,rfl,a4⟩,_,_,rfl,⟨a5,rfl,a6⟩,⟨d,rfl,e⟩⟩,f⟩:=id b;refine AG _ c<|AF (x:=d) (AC s0.sub (f.at 8 rfl)) rfl ?_;obtain ⟨a7,g,hd⟩:=bS hd;refine AJ (DL e s0 g) ?_;rintro _ a8 ⟨i,t3,j,rfl,rfl,k⟩;refine ⟨t3,rfl,?_⟩;obtain rfl:=iS hd;exact AB ⟨i,(!t3),j,rfl,rfl,k⟩
noncomputable def FJ (p_0:A9) (a_1:DQ) (l_2:(Option LkD)):Option (Option Ce):=(Bn a_1).bind fun t9=>(forS (σ:=Ce) 0 t9 (p_0.1,p_0.2.1,p_0.2.2.1,p_0.2.2.2.1,p_0.2.2.2.2.1,p_0.2.2.2.2.2,([]:List (List Ee)),([]:List (List Int)),([]:List Ef)) fun i_z11 z11=>(forS (σ:=(List Ee×Ce)) 0 (p_0.1.length:Int) (([]:List Ee),z11) fun i_z14 z14=>(resolve_Grid_cell_D z14.2 a_1 l_2 i_z11 i_z14).bind fun t15=>(app z14.1 ([(t15.1,t15.2.1)]:List Ee)).bind fun t17=>some (t17,t15.2.2)).bind fun z13=>(forS (σ:=List Int) 0 (p_0.2.1.length:Int) ([]:List Int) fun i_z20 z20=>(BM a_1 i_z11 (bZ .i64 ((p_0.1.length:Int)+i_z20))).bind fun t22=>(app z20 ([t22]:List Int)).bind fun t24=>some t24).bind fun z19=>(app z13.2.2.2.2.2.2.2.1 ([z13.1]:List (List Ee))).bind fun t28=>(app z13.2.2.2.2.2.2.2.2.1 ([z19]:List (List Int))).bind fun t30=>some (z13.2.1,z13.2.2.1,z13.2.2.2.1,z13.2.2.2.2.1,z13.2.2.2.2.2.1,z13.2.2.2.2.2.2.1,t28,t30,z13.2.2.2.2.2.2.2.2.2)).bind fun z10=>some (some z10)
theorem Oa {p_0:Pl6}{a2:List ByteArray}{a3:List ByteArray}{a6:List BP}{a7:List Int}{a8:List Int}{a9:List ByteArray}{a_1:Option Addr}{ay:DQ}{l_2:Option Addr}{e:(Option LkD)}(gk:Dg.Glob φ) (az:Ro.SliceIs cF φ p_0.1 a2) (b0:Ro.SliceIs cF φ p_0.2.1 a3) (ca:Ro.SliceIs B4 φ p_0.2.2.1 a6) (cb:Ro.SliceIs (bW .i64) φ p_0.2.2.2.1 a7) (cc:Ro.SliceIs (bW .i64) φ p_0.2.2.2.2.1 a8) (cd:Ro.SliceIs cF φ p_0.2.2.2.2.2.1 a9) (ag:Pt Fq φ a_1 ay) (s0:St φ (⟨BV,[.pointer l_2],e⟩::F) h) {r:(Option Ce)}(hd:FJ (a2,a3,a6,a7,a8,a9) ay e=some r):
 CallsH bU 83 [(aG p_0),(.pointer a_1),(.pointer l_2)] h (Ap fun v h'=>∃ψ:AE,∃y:Option Addr,∃b1:Option Ce,Sub φ ψ∧v=((.one aP):Sh).val y∧b1=r∧Np Nh ψ y b1∧St ψ (⟨BV,[.pointer l_2],e⟩::F) h'):=by
 refine AR mixed Tryz.func83 ?_;rw [OU];unfold MN;unfold FJ at hd;have ah:p_0.1.2.1=cE a2:=az.length;have b2:p_0.2.1.2.1=cE a3:=b0.length;refine AT (vs:=[sv p_0.1,sv p_0.2.1,sv p_0.2.2.1,sv p_0.2.2.2.1,sv p_0.2.2.2.2.1,sv p_0.2.2.2.2.2.1]) s0 fun r1 g5 i=>AA (x:=p_0.1) i rfl<|AA (x:=p_0.2.1) i rfl<|AA (x:=p_0.2.2.1) i rfl<|AA (x:=p_0.2.2.2.1) i rfl<|AA (x:=p_0.2.2.2.2.1) i rfl<|AA (x:=p_0.2.2.2.2.2.1) i rfl<|AT (vs:=[sv p_0.1,sv p_0.2.1,sv p_0.2.2.1,sv p_0.2.2.2.1,sv p_0.2.2.2.2.1,sv p_0.2.2.2.2.2.1,.slice none 0 0,.slice none 0 0,.slice none 0 0]) i fun r8 g6 ce=> ?_;obtain ⟨g7,cf,hd⟩:=bS hd;refine AJ (Cm ag ce cf) ?_;rintro _ g8 ⟨ai,t9,f,rfl,rfl,cg⟩;refine ⟨t9,rfl,?_⟩;have ch:=cG (r:=(cA cF)) (cs:=[sv p_0.2.2.2.2.2.1]) (x:=a9) (bX ((bX ((((cg.nil 163 (cA HA)).nil 30 (cA (bW .i64))).nil 89 Lh).at1)).at1)) ⟨p_0.2.2.2.2.2.1,rfl,(cd.mono f)⟩;have ci:=cG (r:=(cA (bW .i64))) (cs:=[sv p_0.2.2.2.2.1]) (x:=a8) (bX ch) ⟨p_0.2.2.2.2.1,rfl,(cc.mono f)⟩;have cj:=cG (r:=(cA (bW .i64))) (cs:=[sv p_0.2.2.2.1]) (x:=a7) (bX ci) ⟨p_0.2.2.2.1,rfl,(cb.mono f)⟩;have ck:=bX (cG (r:=(cA B4)) (cs:=[sv p_0.2.2.1]) (x:=a6) (bX cj) ⟨p_0.2.2.1,rfl,(ca.mono f)⟩);have cl:=cG (r:=(cA cF)) (cs:=[sv p_0.1]) (x:=a2) (bX (cG (r:=(cA cF)) (cs:=[sv p_0.2.1]) (x:=a3) ck ⟨p_0.2.1,rfl,(b0.mono f)⟩)) ⟨p_0.1,rfl,(az.mono f)⟩;have cm:St ai (cO 159 Rq0 (some ⟨r8,0,none⟩) (a2,a3,a6,a7,a8,a9,([]:List (List Ee)),([]:List (List Int)),([]:List Ef))::Wq2 r1 p_0::⟨BV,[.pointer l_2],e⟩::F) _:=fF (bX cl).at1;obtain ⟨g9,cn,hd⟩:=bS hd;refine B0 cn (fun co (y:Int×Unit) w_ g=>∃ψ:AE,∃b3:Ce,Sub ai ψ∧y.1=co∧b3=g∧St ψ (cO 159 Rq0 (some ⟨r8,0,none⟩) b3::Wq2 r1 p_0::⟨BV,[.pointer l_2],e⟩::F) w_) ((0:Int),()) rfl ⟨ai,(a2,a3,a6,a7,a8,a9,([]:List (List Ee)),([]:List (List Int)),([]:List Ef)),(bT _),rfl,rfl,cm.at2.at2.at2⟩ ?_ ?_ ?_
 ·rintro _ z11 ga _ _ ⟨b4,cp,a4,rfl,rfl,b5⟩ d cq b6 ab;try dsimp only at d cq b6 ab
  refine Aj (by exact decide_eq_true b6)<|AA (x:=p_0.1) b5.at1 rfl ?_;obtain ⟨gb,cr,d⟩:=bS d;refine B0 cr (fun ct (y:Int×Slc×Unit) w_ g=>∃ψ:AE,∃b7:List Ee,∃b8:Ce,Sub b4 ψ∧y.1=ct∧(b7,b8)=g∧St ψ (cR 77 HA y.2.1 b7::cO 159 Rq0 (some ⟨r8,0,none⟩) b8::Wq2 r1 p_0::⟨BV,[.pointer l_2],e⟩::F) w_) ((0:Int),((none,0,0):Slc),()) rfl ⟨b4,[],cp,(bT _),rfl,rfl,(((((b5.nil 77 HA).at3).at3).at3).at3)⟩ ?_ ?_ ?_
  ·rintro _ z14 gc _ _ ⟨gd,ge,gf,aj,rfl,rfl,cu⟩ k cv b9 ba;try dsimp only at k cv b9 ba
   refine Aj (dT ah b9) ?_;obtain ⟨gg,cw,k⟩:=bS k;refine AJ (JP (gk.mono ((f.trans a4).trans aj)) (ag.mono ((f.trans a4).trans aj)) cu.at3.at2 cw) ?_;rintro _ gh ⟨cx,t15,cy,cz,rfl,rfl,d0⟩;refine ⟨t15,rfl,?_⟩;try dsimp only at k
   refine AT (vs:=[.int .i64 t15.1,.int .i64 t15.2.1]) d0 fun r16 gi bb=> ?_;obtain ⟨d1,d2,k⟩:=bS k;refine Ah (r:=HA) (ms:=([(t15.1,t15.2.1)]:List Ee)) QS bb.tail.at2 rfl (dP bb) (.cons (a:=[_,_]) ⟨[_],_,rfl,rfl,rfl⟩ .nil) rfl d2 ?_;intro t17 gj d3;obtain rfl:=iS k;exact Ag ((wN z14.1),t17,()) _ rfl rfl ⟨cx,d1,cy,(aj.trans cz),ba,rfl,d3.at1.at3.at3.at3⟩
  ·rintro _ z14 gl ⟨d4,d5,d6,d7,rfl,rfl,d8⟩ d9;refine Aa (dF ah d9)<|AO (AQ (z14.1,z14.2.1,()) rfl ⟨_,d4,d5,d6,d7,rfl,rfl,d8.at3.at3.at3.at3⟩)
  rintro z13 gm ⟨_,bc,aa,c,ac,_,rfl,bd⟩;try dsimp only at d
  refine AA (x:=p_0.2.1) bd.at2 rfl ?_;obtain ⟨gn,da,d⟩:=bS d;refine B0 da (fun db (y:Int×Slc×Unit) w_ g=>∃ψ:AE,∃be:List Int,Sub bc ψ∧y.1=db∧be=g∧St ψ (cR 3 (bW .i64) y.2.1 be::cR 77 HA z13.2.1 aa::cO 159 Rq0 (some ⟨r8,0,none⟩) c::Wq2 r1 p_0::⟨BV,[.pointer l_2],e⟩::F) w_) ((0:Int),((none,0,0):Slc),()) rfl ⟨bc,[],(bT _),rfl,rfl,((((((bd.nil 3 (bW .i64)).at4).at4).at4).at4).at4)⟩ ?_ ?_ ?_
  ·rintro _ z20 go _ _ ⟨gp,gq,bf,rfl,rfl,bg⟩ a5 dc bh bi;try dsimp only at a5 dc bh bi
   refine Aj (dT b2 bh)<|AA (x:=p_0.1) bg.at3 rfl ?_;obtain ⟨gr,bj,a5⟩:=bS a5;rw [←ah]at bj;refine AJ (Cx (ag.mono (((f.trans a4).trans ac).trans bf)) bg bj) ?_;rintro _ gs ⟨dd,t22,de,rfl,rfl,df⟩;refine ⟨t22,rfl,?_⟩;refine AT (vs:=[.int .i64 t22]) df fun r23 gt bk=> ?_;obtain ⟨dg,dh,a5⟩:=bS a5;refine Ah (r:=(bW .i64)) (ms:=([t22]:List Int)) D2 bk.tail rfl (dP bk) (.cons (a:=[_]) rfl .nil) rfl dh ?_;intro t24 gu di;obtain rfl:=iS a5;exact Ag ((wN z20.1),t24,()) _ rfl rfl ⟨dd,dg,(bf.trans de),bi,rfl,di.at4.at4.at4.at4.at4⟩
  ·rintro _ z20 gv ⟨dj,dk,dl,rfl,rfl,dm⟩ dn;refine Aa (dF b2 dn)<|AO (AQ (z20.1,z20.2.1,()) rfl ⟨_,dj,dk,dl,rfl,rfl,dm.at4.at4.at4.at4.at4⟩)
  rintro z19 gw ⟨_,dp,ad,ak,_,rfl,dq⟩;try dsimp only at d
  obtain ⟨dr,gx,bl,gy,ds⟩:=dq.at2.open;obtain rfl:r8=dr:=by simpa using bl
  clear bl;obtain ⟨gz,h0,rfl,h1,dt⟩:=ds.at1.pair;obtain ⟨⟨l,dw,al⟩,dv⟩:=dt.ro;subst dw;obtain ⟨h2,h3,rfl,h4,dx⟩:=dv.pair;obtain ⟨⟨m,e0,am⟩,dz⟩:=dx.ro;subst e0;obtain ⟨h5,h6,rfl,h7,e1⟩:=dz.pair;obtain ⟨⟨n,e4,an⟩,e3⟩:=e1.ro;subst e4;obtain ⟨h8,h9,rfl,hb,e5⟩:=e3.pair;obtain ⟨⟨o,e8,ao⟩,e7⟩:=e5.ro;subst e8;obtain ⟨hc,he,rfl,hf,e9⟩:=e7.pair;obtain ⟨⟨p,ec,ap⟩,eb⟩:=e9.ro;subst ec;obtain ⟨hg,hh,rfl,hi,ed⟩:=eb.pair;obtain ⟨⟨q,eg,aq⟩,ef⟩:=ed.ro;subst eg;obtain ⟨hj,hk,rfl,hl,bm⟩:=ef.pair;obtain ⟨ar,eh⟩:=bm.rowCs;subst eh;obtain ⟨hm,hn,rfl,ho,bn⟩:=bm.at1.pair;obtain ⟨au,ei⟩:=bn.rowCs;subst ei;have bo:=bn.at1;obtain ⟨bp,ej⟩:=bo.rowCs;subst ej;have ae:St dp (cR 89 Lh bp c.2.2.2.2.2.2.2.2::cR 30 (cA (bW .i64)) au c.2.2.2.2.2.2.2.1::cR 163 (cA HA) ar c.2.2.2.2.2.2.1::cW 159 r8 [sv l,sv m,sv n,sv o,sv p,sv q,sv ar,sv au,sv bp]::cR 3 (bW .i64) z19.2.1 ad::cR 77 HA z13.2.1 aa::Wq2 r1 p_0::⟨BV,[.pointer l_2],e⟩::F) _:=bo;refine AA (x:=ar) ae.at3 rfl<|AA (x:=au) ae.at3 rfl<|Ey ?_ ?_
  ·refine AT (vs:=[sv z13.2.1]) ae fun r27 hp af=>AM (cJ (b:=r8) (j:=7) af.at4 rfl)<|AM (cJ (b:=r8) (j:=6) af.at4 rfl)<|Ey ?_ ?_
   ·have ek:=af.at6;obtain ⟨hq,s,el,bq⟩:=cD (t:=z13.2.1) ek;obtain ⟨br,em,d⟩:=bS d;refine Ah (r:=(cA HA)) (ms:=([aa]:List (List Ee))) Ix bq.tail.at2 rfl (dP bq) (.cons (a:=[_]) ⟨z13.2.1,rfl,el⟩ .nil) rfl em ?_;intro t28 hr bs;refine AM (cJ (b:=r8) (j:=7) bs.at3 rfl)<|AT (vs:=[sv z19.2.1]) bs fun r29 hs bt=>AM (cJ (b:=r8) (j:=7) bt.at4 rfl) ?_;obtain ⟨bu,u,en,bv⟩:=cD (t:=z19.2.1) bt.at5;obtain ⟨bw,eo,d⟩:=bS d;refine Ah (r:=(cA (bW .i64))) (ms:=([ad]:List (List Int))) LV bv.tail.at2 rfl (dP bv) (.cons (a:=[_]) ⟨z19.2.1,rfl,en⟩ .nil) rfl eo ?_;intro t30 ht ep;refine AK ep.at3 rfl rfl fun hu er=>AK er rfl rfl fun hv es=> ?_;have eu:=cG (r:=(cA cF)) (cs:=[sv q]) (x:=c.2.2.2.2.2.1) (bX ((bX es.at2.at2.at3.at1).at1)) ⟨q,rfl,(aq.mono (s.trans u))⟩;have ev:=cG (r:=(cA (bW .i64))) (cs:=[sv p]) (x:=c.2.2.2.2.1) (bX eu) ⟨p,rfl,(ap.mono (s.trans u))⟩;have ew:=cG (r:=(cA (bW .i64))) (cs:=[sv o]) (x:=c.2.2.2.1) (bX ev) ⟨o,rfl,(ao.mono (s.trans u))⟩;have ex:=cG (r:=(cA B4)) (cs:=[sv n]) (x:=c.2.2.1) (bX ew) ⟨n,rfl,(an.mono (s.trans u))⟩;have ey:=cG (r:=(cA cF)) (cs:=[sv m]) (x:=c.2.1) (bX ex) ⟨m,rfl,(am.mono (s.trans u))⟩;have ez:=cG (r:=(cA cF)) (cs:=[sv l]) (x:=c.1) (bX ey) ⟨l,rfl,(al.mono (s.trans u))⟩;have f0:St bu (cO 159 Rq0 (some ⟨r8,0,none⟩) (c.1,c.2.1,c.2.2.1,c.2.2.2.1,c.2.2.2.2.1,c.2.2.2.2.2.1,br,bw,c.2.2.2.2.2.2.2.2)::Wq2 r1 p_0::⟨BV,[.pointer l_2],e⟩::F) _:=fF (bX ez).at1;obtain rfl:=iS d;exact Ag ((wN z11.1),()) _ rfl rfl ⟨bu,(c.1,c.2.1,c.2.2.1,c.2.2.2.1,c.2.2.2.2.1,c.2.2.2.2.2.1,br,bw,c.2.2.2.2.2.2.2.2),((((a4.trans ac).trans ak).trans s).trans u),ab,rfl,f0.at2.at2.at2⟩
   ·refine AT (vs:=[sv z19.2.1]) af fun r31 hw av=>AM (cJ (b:=r8) (j:=7) av.at5 rfl)<|AM (cJ (b:=r8) (j:=6) av.at5 rfl) ?_;obtain ⟨hx,w,f1,bx⟩:=cD (t:=z13.2.1) av.at7;obtain ⟨bz,f2,d⟩:=bS d;refine Ah (r:=(cA HA)) (ms:=([aa]:List (List Ee))) Ix bx.at1.tail.at3 rfl (dP bx.at1) (.cons (a:=[_]) ⟨z13.2.1,rfl,f1⟩ .nil) rfl f2 ?_;intro t32 hy c0;refine AM (cJ (b:=r8) (j:=7) c0.at4 rfl) ?_;obtain ⟨c1,z,f3,c2⟩:=cD (t:=z19.2.1) c0.at5;obtain ⟨c3,f4,d⟩:=bS d;refine Ah (r:=(cA (bW .i64))) (ms:=([ad]:List (List Int))) LV c2.at1.tail.at2 rfl (dP c2.at1) (.cons (a:=[_]) ⟨z19.2.1,rfl,f3⟩ .nil) rfl f4 ?_;intro t33 hz f5;refine AK f5.at3 rfl rfl fun i0 f6=>AK f6 rfl rfl fun i1 f7=> ?_;have f8:=cG (r:=(cA cF)) (cs:=[sv q]) (x:=c.2.2.2.2.2.1) (bX ((bX f7.at2.at2.at3.at1).at1)) ⟨q,rfl,(aq.mono (w.trans z))⟩;have f9:=cG (r:=(cA (bW .i64))) (cs:=[sv p]) (x:=c.2.2.2.2.1) (bX f8) ⟨p,rfl,(ap.mono (w.trans z))⟩;have fa:=cG (r:=(cA (bW .i64))) (cs:=[sv o]) (x:=c.2.2.2.1) (bX f9) ⟨o,rfl,(ao.mono (w.trans z))⟩;have fb:=cG (r:=(cA B4)) (cs:=[sv n]) (x:=c.2.2.1) (bX fa) ⟨n,rfl,(an.mono (w.trans z))⟩;have fc:=cG (r:=(cA cF)) (cs:=[sv m]) (x:=c.2.1) (bX fb) ⟨m,rfl,(am.mono (w.trans z))⟩;have fd:=cG (r:=(cA cF)) (cs:=[sv l]) (x:=c.1) (bX fc) ⟨l,rfl,(al.mono (w.trans z))⟩;have fe:St c1 (cO 159 Rq0 (some ⟨r8,0,none⟩) (c.1,c.2.1,c.2.2.1,c.2.2.2.1,c.2.2.2.2.1,c.2.2.2.2.2.1,bz,c3,c.2.2.2.2.2.2.2.2)::Wq2 r1 p_0::⟨BV,[.pointer l_2],e⟩::F) _:=fF (bX fd).at1;obtain rfl:=iS d;exact Ag ((wN z11.1),()) _ rfl rfl ⟨c1,(c.1,c.2.1,c.2.2.1,c.2.2.2.1,c.2.2.2.2.1,c.2.2.2.2.2.1,bz,c3,c.2.2.2.2.2.2.2.2),((((a4.trans ac).trans ak).trans w).trans z),ab,rfl,fe.at2.at2.at2⟩
  ·refine AT (vs:=[sv z19.2.1]) ae fun r34 i2 aw=>AM (cJ (b:=r8) (j:=7) aw.at4 rfl)<|AM (cJ (b:=r8) (j:=6) aw.at4 rfl)<|AT (vs:=[sv z13.2.1]) aw fun r35 i3 ax=>AM (cJ (b:=r8) (j:=7) ax.at5 rfl)<|AM (cJ (b:=r8) (j:=6) ax.at5 rfl) ?_;obtain ⟨i4,a0,ff,c4⟩:=cD (t:=z13.2.1) ax.at7;obtain ⟨c5,fg,d⟩:=bS d;refine Ah (r:=(cA HA)) (ms:=([aa]:List (List Ee))) Ix c4.tail.at3 rfl (dP c4) (.cons (a:=[_]) ⟨z13.2.1,rfl,ff⟩ .nil) rfl fg ?_;intro t36 i5 c6;refine AM (cJ (b:=r8) (j:=7) c6.at4 rfl) ?_;obtain ⟨c7,a1,fh,c8⟩:=cD (t:=z19.2.1) c6.at5;obtain ⟨c9,fi,d⟩:=bS d;refine Ah (r:=(cA (bW .i64))) (ms:=([ad]:List (List Int))) LV c8.at1.tail.at2 rfl (dP c8.at1) (.cons (a:=[_]) ⟨z19.2.1,rfl,fh⟩ .nil) rfl fi ?_;intro t37 i6 fj;refine AK fj.at3 rfl rfl fun i7 fk=>AK fk rfl rfl fun i8 fl=> ?_;have fm:=cG (r:=(cA cF)) (cs:=[sv q]) (x:=c.2.2.2.2.2.1) (bX ((bX fl.at2.at2.at3.at1).at1)) ⟨q,rfl,(aq.mono (a0.trans a1))⟩;have fn:=cG (r:=(cA (bW .i64))) (cs:=[sv p]) (x:=c.2.2.2.2.1) (bX fm) ⟨p,rfl,(ap.mono (a0.trans a1))⟩;have fo:=cG (r:=(cA (bW .i64))) (cs:=[sv o]) (x:=c.2.2.2.1) (bX fn) ⟨o,rfl,(ao.mono (a0.trans a1))⟩;have fp:=cG (r:=(cA B4)) (cs:=[sv n]) (x:=c.2.2.1) (bX fo) ⟨n,rfl,(an.mono (a0.trans a1))⟩;have fq:=cG (r:=(cA cF)) (cs:=[sv m]) (x:=c.2.1) (bX fp) ⟨m,rfl,(am.mono (a0.trans a1))⟩;have fr:=cG (r:=(cA cF)) (cs:=[sv l]) (x:=c.1) (bX fq) ⟨l,rfl,(al.mono (a0.trans a1))⟩;have fs:St c7 (cO 159 Rq0 (some ⟨r8,0,none⟩) (c.1,c.2.1,c.2.2.1,c.2.2.2.1,c.2.2.2.2.1,c.2.2.2.2.2.1,c5,c9,c.2.2.2.2.2.2.2.2)::Wq2 r1 p_0::⟨BV,[.pointer l_2],e⟩::F) _:=fF (bX fr).at1;obtain rfl:=iS d;exact Ag ((wN z11.1),()) _ rfl rfl ⟨c7,(c.1,c.2.1,c.2.2.1,c.2.2.2.1,c.2.2.2.2.1,c.2.2.2.2.2.1,c5,c9,c.2.2.2.2.2.2.2.2),((((a4.trans ac).trans ak).trans a0).trans a1),ab,rfl,fs.at2.at2.at2⟩
 ·rintro _ z11 i9 ⟨ft,fu,fv,rfl,rfl,fw⟩ fx;refine Aa (by exact decide_eq_false (Int.not_lt.2 fx))<|AO (AQ (z11.1,()) rfl ⟨_,ft,fu,fv,rfl,rfl,fw.at2.at2.at2⟩)
 rintro z10 ia ⟨_,ib,fy,fz,_,rfl,g0⟩;try dsimp only at hd
 obtain ⟨g1,g2,g3,g4⟩:=St.freezeR (r:=Nh) (Fo (LE _) (Fo (LE _) (Fo (LE _) (Fo (LE _) (Fo (LE _) (Fo (LE _) (Fo (NM _ _) (Fo (NM _ _) (NM _ _))))))))) g0;obtain rfl:=iS hd;exact AB ⟨g1,(some ⟨r8,0,none⟩),(some fy),((f.trans fz).trans g2),rfl,rfl,g3,g4.tail⟩
noncomputable def As (small_0:KZ):Option (List ByteArray×List ByteArray×List BP×List Int×List Int×List ByteArray×Option DQ×(Option LkD)×Option Ce×Bool):=(Ar (small_0.1,small_0.2.1,small_0.2.2.1,small_0.2.2.2.1,small_0.2.2.2.2.1,small_0.2.2.2.2.2.1,small_0.2.2.2.2.2.2)).bind fun t10=>(BK (t10.1,t10.2.1,t10.2.2.1,t10.2.2.2.1,t10.2.2.2.2.1,t10.2.2.2.2.2)).bind fun t18=>cond (t18.2 !=0) (some (t10.1,t10.2.1,t10.2.2.1,t10.2.2.2.1,t10.2.2.2.2.1,t10.2.2.2.2.2,none,none,none,false)) ((J2 (t10.1,t10.2.1,t10.2.2.1,t10.2.2.2.1,t10.2.2.2.2.1,t10.2.2.2.2.2) 300 9000).bind fun t37=>(cond (dD t37.1) (some true) (t37.1.bind fun e101=>(Bn e101).bind fun t39=>some (t39==0))).bind fun z38=>cond z38 (some (t10.1,t10.2.1,t10.2.2.1,t10.2.2.2.1,t10.2.2.2.2.1,t10.2.2.2.2.2,none,none,none,false)) (t37.1.bind fun e135=>(TX (t10.1,t10.2.1,t10.2.2.1,t10.2.2.2.1,t10.2.2.2.2.1,t10.2.2.2.2.2) e135).bind fun t58=>cond (dD t58) (some (t10.1,t10.2.1,t10.2.2.1,t10.2.2.2.1,t10.2.2.2.2.1,t10.2.2.2.2.2,none,none,none,false)) ((FJ (t10.1,t10.2.1,t10.2.2.1,t10.2.2.2.1,t10.2.2.2.2.1,t10.2.2.2.2.2) e135 t58).bind fun t77=>some (t10.1,t10.2.1,t10.2.2.1,t10.2.2.2.1,t10.2.2.2.2.1,t10.2.2.2.2.2,(some e135),t58,t77,(!(dD t77))))))
theorem CT {small_0:Int×Int×Slc×Slc×Slc×Slc×Slc×Unit}{ad:List Int}{ae:List (List Int)}{af:List Int}{ag:List Int}{ah:List Int}(gk:Kz φ) (aw:Ro.SliceIs (bW .u8) φ small_0.2.2.1 ad) (ax:Ro.SliceIs (cA (bW .u8)) φ small_0.2.2.2.1 ae) (ay:Ro.SliceIs (bW .u8) φ small_0.2.2.2.2.1 af) (az:Ro.SliceIs (bW .u8) φ small_0.2.2.2.2.2.1 ag) (b0:Ro.SliceIs (bW .u8) φ small_0.2.2.2.2.2.2.1 ah) (s0:St φ (F) h) {r:(List ByteArray×List ByteArray×List BP×List Int×List Int×List ByteArray×Option DQ×(Option LkD)×Option Ce×Bool)}(hd:As (small_0.1,small_0.2.1,ad,ae,af,ag,ah)=some r):
 CallsH bU 39 [(.agg #[(.int .u8 small_0.1),(.int .u8 small_0.2.1),(sv small_0.2.2.1),(sv small_0.2.2.2.1),(sv small_0.2.2.2.2.1),(sv small_0.2.2.2.2.2.1),(sv small_0.2.2.2.2.2.2.1)])] h (Ap fun v h'=>∃ψ:AE,∃y:(Pl6)×(Option Addr)×(Option Addr)×(Option Addr)×Bool×Unit,∃ai:List ByteArray,∃aj:List ByteArray,∃ak:List BP,∃al:List Int,∃am:List Int,∃an:List ByteArray,∃ao:Option DQ,∃ap:(Option LkD),∃aq:Option Ce,Sub φ ψ∧v=((.tuple [(.agg [.slice,.slice,.slice,.slice,.slice,.slice]),aP,aP,aP,aB]):Sh).val y∧(ai,aj,ak,al,am,an,ao,ap,aq,y.2.2.2.2.1)=r∧Ro.SliceIs cF ψ y.1.1 ai∧Ro.SliceIs cF ψ y.1.2.1 aj∧Ro.SliceIs B4 ψ y.1.2.2.1 ak∧Ro.SliceIs (bW .i64) ψ y.1.2.2.2.1 al∧Ro.SliceIs (bW .i64) ψ y.1.2.2.2.2.1 am∧Ro.SliceIs cF ψ y.1.2.2.2.2.2.1 an∧Np Fq ψ y.2.1 ao∧Np Nh ψ y.2.2.2.1 aq∧St ψ (⟨BV,[.pointer y.2.2.1],ap⟩::F) h'):=by
 refine AR mixed Tryz.func39 ?_;rw [JJ];unfold GS;unfold As at hd;refine AT (vs:=[.int .u8 small_0.1,.int .u8 small_0.2.1,sv small_0.2.2.1,sv small_0.2.2.2.1,sv small_0.2.2.2.2.1,sv small_0.2.2.2.2.2.1,sv small_0.2.2.2.2.2.2.1]) s0 fun r1 ci b1=>AT (vs:=[.slice none 0 0,.slice none 0 0,.slice none 0 0,.slice none 0 0,.slice none 0 0,.slice none 0 0]) b1 fun r2 cj m=>AA (x:=small_0.1) m.at1 rfl<|AA (x:=small_0.2.1) m.at1 rfl<|AA (x:=small_0.2.2.1) m.at1 rfl<|AA (x:=small_0.2.2.2.1) m.at1 rfl<|AA (x:=small_0.2.2.2.2.1) m.at1 rfl<|AA (x:=small_0.2.2.2.2.2.1) m.at1 rfl<|AA (x:=small_0.2.2.2.2.2.2.1) m.at1 rfl ?_;obtain ⟨ck,b2,hd⟩:=bS hd;refine AJ (Ge (s_0:=(small_0.1,small_0.2.1,small_0.2.2.1,small_0.2.2.2.1,small_0.2.2.2.2.1,small_0.2.2.2.2.2.1,small_0.2.2.2.2.2.2.1,())) aw ax ay az b0 m b2) ?_;rintro _ cl ⟨cm,t10,a5,a6,a7,a8,a9,aa,w,rfl,rfl,n,o,p,q,s,t,b3⟩;refine ⟨t10,rfl,?_⟩;try dsimp only at hd
 refine AT (vs:=[.slice none 0 0,.slice none 0 0,.slice none 0 0,.slice none 0 0,.slice none 0 0,.slice none 0 0]) b3 fun r11 cn b4=>AK b4 rfl rfl fun co b5=>AK b5 rfl rfl fun cp b6=>AK b6 rfl rfl fun cq b7=>AK b7 rfl rfl fun cr b8=>AK b8 rfl rfl fun cs b9=>AK b9 rfl rfl fun ct z=>AA (x:=t10.1) z rfl<|AA (x:=t10.2.1) z rfl<|AA (x:=t10.2.2.1) z rfl<|AA (x:=t10.2.2.2.1) z rfl<|AA (x:=t10.2.2.2.2.1) z rfl<|AA (x:=t10.2.2.2.2.2.1) z rfl ?_;obtain ⟨cu,ba,hd⟩:=bS hd;refine AJ (Iw (p_0:=(t10.1,t10.2.1,t10.2.2.1,t10.2.2.2.1,t10.2.2.2.2.1,t10.2.2.2.2.2.1,())) n o p q s t z ba) ?_;rintro _ cv ⟨bb,t18,c,rfl,rfl,j⟩;refine ⟨t18,rfl,?_⟩;try dsimp only at hd
 refine AI hd rfl (fun _ hd=> ?_) (fun _ hd=> ?_)
 ·refine AA (x:=t10.1) j rfl<|AA (x:=t10.2.1) j rfl<|AA (x:=t10.2.2.1) j rfl<|AA (x:=t10.2.2.2.1) j rfl<|AA (x:=t10.2.2.2.2.1) j rfl<|AA (x:=t10.2.2.2.2.2.1) j rfl<|AK j.at1 rfl rfl fun cw bc=>AK bc rfl rfl fun cx bd=>AK bd rfl rfl fun cy be=>AK be rfl rfl fun cz bf=>AK bf rfl rfl fun d0 bg=>AK bg rfl rfl fun d1 a0=>AA (x:=t10.1) a0 rfl<|AA (x:=t10.2.1) a0 rfl<|AA (x:=t10.2.2.1) a0 rfl<|AA (x:=t10.2.2.2.1) a0 rfl<|AA (x:=t10.2.2.2.2.1) a0 rfl<|AA (x:=t10.2.2.2.2.2.1) a0 rfl ?_;obtain rfl:=iS hd;exact AB ⟨bb,((t10.1,t10.2.1,t10.2.2.1,t10.2.2.2.1,t10.2.2.2.2.1,t10.2.2.2.2.2.1,()),none,none,none,false,()),a5,a6,a7,a8,a9,aa,none,none,none,(w.trans c),rfl,rfl,(n.mono c),(o.mono c),(p.mono c),(q.mono c),(s.mono c),(t.mono c),(fG _ _),(fG _ _),((((QP a0).at1.tail).at1.tail).at1.tail)⟩
 refine AA (x:=t10.1) j rfl<|AA (x:=t10.2.1) j rfl<|AA (x:=t10.2.2.1) j rfl<|AA (x:=t10.2.2.2.1) j rfl<|AA (x:=t10.2.2.2.2.1) j rfl<|AA (x:=t10.2.2.2.2.2.1) j rfl ?_;obtain ⟨d2,bh,hd⟩:=bS hd;refine AJ (UX (p_0:=(t10.1,t10.2.1,t10.2.2.1,t10.2.2.2.1,t10.2.2.2.2.1,t10.2.2.2.2.2.1,())) (gk.a.mono (w.trans c)) (n.mono c) (o.mono c) (p.mono c) (q.mono c) (s.mono c) (t.mono c) j bh) ?_;rintro _ d3 ⟨ar,t37,d4,e,rfl,rfl,ab,au⟩;refine ⟨t37,rfl,?_⟩;try dsimp only at hd
 have bi:=ab.nil;obtain ⟨bj,l,hd⟩:=bS hd;refine Af (fun (y:Bool×Unit) w_ g=>∃ψ:AE,Sub ar ψ∧y.1=g∧St ψ (cW 32 r11 [sv t10.1,sv t10.2.1,sv t10.2.2.1,sv t10.2.2.2.1,sv t10.2.2.2.2.1,sv t10.2.2.2.2.2.1]::Wq5 r2::Wq0 r1 small_0::F) w_) (g:=bj) ?_ ?_
 ·refine AI l (by rw [bi] <;>rfl) (fun _ l=> ?_) (fun _ l=> ?_)
  ·have bk:=au.at2;obtain rfl:=iS l;exact AN (true,()) rfl ⟨ar,(bT _),rfl,bk.at2.at2⟩
  obtain ⟨d5,bl,l⟩:=bS l;obtain ⟨d6,bm,l⟩:=bS l;refine AJ (Cm ((ab).get bl) au bm) ?_;rintro _ d7 ⟨bn,t39,bo,rfl,rfl,bp⟩;refine ⟨t39,rfl,?_⟩;obtain rfl:=iS l;exact AN ((t39==(0:Int)),()) rfl ⟨bn,bo,rfl,bp.at2.at2.at2⟩
 rintro z38 d8 ⟨bq,d,rfl,k⟩;try dsimp only at hd
 refine AI hd rfl (fun _ hd=> ?_) (fun _ hd=> ?_)
 ·refine AA (x:=t10.1) k rfl<|AA (x:=t10.2.1) k rfl<|AA (x:=t10.2.2.1) k rfl<|AA (x:=t10.2.2.2.1) k rfl<|AA (x:=t10.2.2.2.2.1) k rfl<|AA (x:=t10.2.2.2.2.2.1) k rfl<|AK k.at1 rfl rfl fun d9 br=>AK br rfl rfl fun da bs=>AK bs rfl rfl fun db bt=>AK bt rfl rfl fun dc bu=>AK bu rfl rfl fun dd bv=>AK bv rfl rfl fun de a1=>AA (x:=t10.1) a1 rfl<|AA (x:=t10.2.1) a1 rfl<|AA (x:=t10.2.2.1) a1 rfl<|AA (x:=t10.2.2.2.1) a1 rfl<|AA (x:=t10.2.2.2.2.1) a1 rfl<|AA (x:=t10.2.2.2.2.2.1) a1 rfl ?_;obtain rfl:=iS hd;exact AB ⟨bq,((t10.1,t10.2.1,t10.2.2.1,t10.2.2.2.1,t10.2.2.2.2.1,t10.2.2.2.2.2.1,()),none,none,none,false,()),a5,a6,a7,a8,a9,aa,none,none,none,(((w.trans c).trans e).trans d),rfl,rfl,(n.mono ((c.trans e).trans d)),(o.mono ((c.trans e).trans d)),(p.mono ((c.trans e).trans d)),(q.mono ((c.trans e).trans d)),(s.mono ((c.trans e).trans d)),(t.mono ((c.trans e).trans d)),(fG _ _),(fG _ _),((((QP a1).at1.tail).at1.tail).at1.tail)⟩
 refine AA (x:=t10.1) k rfl<|AA (x:=t10.2.1) k rfl<|AA (x:=t10.2.2.1) k rfl<|AA (x:=t10.2.2.2.1) k rfl<|AA (x:=t10.2.2.2.2.1) k rfl<|AA (x:=t10.2.2.2.2.2.1) k rfl ?_;obtain ⟨bw,bx,hd⟩:=bS hd;have ac:=((ab.mono d)).get bx;obtain ⟨df,bz,hd⟩:=bS hd;refine AJ (WJ (p_0:=(t10.1,t10.2.1,t10.2.2.1,t10.2.2.2.1,t10.2.2.2.2.1,t10.2.2.2.2.2.1,())) (gk.b.mono (((w.trans c).trans e).trans d)) (n.mono ((c.trans e).trans d)) (o.mono ((c.trans e).trans d)) (p.mono ((c.trans e).trans d)) (q.mono ((c.trans e).trans d)) (s.mono ((c.trans e).trans d)) (t.mono ((c.trans e).trans d)) ac k bz) ?_;rintro _ dg ⟨c0,t58,c1,f,rfl,rfl,i⟩;refine ⟨t58,rfl,?_⟩;have c2:=Yl i;refine AI hd (by rw [c2] <;>rfl) (fun _ hd=> ?_) (fun _ hd=> ?_)
 ·refine AA (x:=t10.1) i.at1 rfl<|AA (x:=t10.2.1) i.at1 rfl<|AA (x:=t10.2.2.1) i.at1 rfl<|AA (x:=t10.2.2.2.1) i.at1 rfl<|AA (x:=t10.2.2.2.2.1) i.at1 rfl<|AA (x:=t10.2.2.2.2.2.1) i.at1 rfl<|AK i.at2 rfl rfl fun dh c3=>AK c3 rfl rfl fun di c4=>AK c4 rfl rfl fun dj c5=>AK c5 rfl rfl fun dk c6=>AK c6 rfl rfl fun dl c7=>AK c7 rfl rfl fun dm a2=>AA (x:=t10.1) a2 rfl<|AA (x:=t10.2.1) a2 rfl<|AA (x:=t10.2.2.1) a2 rfl<|AA (x:=t10.2.2.2.1) a2 rfl<|AA (x:=t10.2.2.2.2.1) a2 rfl<|AA (x:=t10.2.2.2.2.2.1) a2 rfl ?_;obtain rfl:=iS hd;exact AB ⟨c0,((t10.1,t10.2.1,t10.2.2.1,t10.2.2.2.1,t10.2.2.2.2.1,t10.2.2.2.2.2.1,()),none,none,none,false,()),a5,a6,a7,a8,a9,aa,none,none,none,((((w.trans c).trans e).trans d).trans f),rfl,rfl,(n.mono (((c.trans e).trans d).trans f)),(o.mono (((c.trans e).trans d).trans f)),(p.mono (((c.trans e).trans d).trans f)),(q.mono (((c.trans e).trans d).trans f)),(s.mono (((c.trans e).trans d).trans f)),(t.mono (((c.trans e).trans d).trans f)),(fG _ _),(fG _ _),(((((QP a2).at1.tail).at1.tail).at1.tail).at1.tail)⟩
 refine AA (x:=t10.1) i.at1 rfl<|AA (x:=t10.2.1) i.at1 rfl<|AA (x:=t10.2.2.1) i.at1 rfl<|AA (x:=t10.2.2.2.1) i.at1 rfl<|AA (x:=t10.2.2.2.2.1) i.at1 rfl<|AA (x:=t10.2.2.2.2.2.1) i.at1 rfl ?_;obtain ⟨dn,c8,hd⟩:=bS hd;refine AJ (Oa (p_0:=(t10.1,t10.2.1,t10.2.2.1,t10.2.2.2.1,t10.2.2.2.2.1,t10.2.2.2.2.2.1,())) (gk.b.mono ((((w.trans c).trans e).trans d).trans f)) (n.mono (((c.trans e).trans d).trans f)) (o.mono (((c.trans e).trans d).trans f)) (p.mono (((c.trans e).trans d).trans f)) (q.mono (((c.trans e).trans d).trans f)) (s.mono (((c.trans e).trans d).trans f)) (t.mono (((c.trans e).trans d).trans f)) (ac.mono f) i c8) ?_;rintro _ dp ⟨c9,t77,ca,u,rfl,rfl,av,a3⟩;refine ⟨t77,rfl,?_⟩;have cb:=av.nil;refine AA (x:=t10.1) a3.at1 rfl<|AA (x:=t10.2.1) a3.at1 rfl<|AA (x:=t10.2.2.1) a3.at1 rfl<|AA (x:=t10.2.2.2.1) a3.at1 rfl<|AA (x:=t10.2.2.2.2.1) a3.at1 rfl<|AA (x:=t10.2.2.2.2.2.1) a3.at1 rfl<|AK a3.at2 rfl rfl fun dq cc=>AK cc rfl rfl fun dr cd=>AK cd rfl rfl fun ds ce=>AK ce rfl rfl fun dt cf=>AK cf rfl rfl fun du cg=>AK cg rfl rfl fun dv a4=>AA (x:=t10.1) a4 rfl<|AA (x:=t10.2.1) a4 rfl<|AA (x:=t10.2.2.1) a4 rfl<|AA (x:=t10.2.2.2.1) a4 rfl<|AA (x:=t10.2.2.2.2.1) a4 rfl<|AA (x:=t10.2.2.2.2.2.1) a4 rfl ?_;obtain rfl:=iS hd;have ch:=a4.tail.at1.tail.at1.tail;exact AB ⟨c9,((t10.1,t10.2.1,t10.2.2.1,t10.2.2.2.1,t10.2.2.2.2.1,t10.2.2.2.2.2.1,()),t37.1,t58,t77,(!(dD t77)),()),a5,a6,a7,a8,a9,aa,(some bw),c1,ca,(((((w.trans c).trans e).trans d).trans f).trans u),rfl,(by rw [cb]),(n.mono ((((c.trans e).trans d).trans f).trans u)),(o.mono ((((c.trans e).trans d).trans f).trans u)),(p.mono ((((c.trans e).trans d).trans f).trans u)),(q.mono ((((c.trans e).trans d).trans f).trans u)),(s.mono ((((c.trans e).trans d).trans f).trans u)),(t.mono ((((c.trans e).trans d).trans f).trans u)),(ac.mono (f.trans u)),av,ch⟩
noncomputable def Cc:Option Bool:=(As (1,0,([(0:Int),0]:List Int),([([(2:Int),0,2]:List Int),([(1:Int)]:List Int)]:List (List Int)),([]:List Int),([(0:Int)]:List Int),([(1:Int)]:List Int))).bind fun t15=>(As (1,0,([(0:Int),0]:List Int),([([(2:Int),0,2]:List Int),([(1:Int)]:List Int)]:List (List Int)),([]:List Int),([(0:Int)]:List Int),([]:List Int))).bind fun t24=>(cond (!t15.2.2.2.2.2.2.2.2.2) (some true) (some (!t24.2.2.2.2.2.2.2.2.2))).bind fun z26=>cond z26 (some false) (t15.2.2.2.2.2.2.1.bind fun e180=>(B8 e180 0 ([(3:Int),1,3]:List Int)).bind fun t28=>t15.2.2.2.2.2.2.2.2.1.bind fun e195=>(BH e195).bind fun t29=>t24.2.2.2.2.2.2.2.2.1.bind fun e208=>(BH e208).bind fun t30=>(cond (decide (t28>0)) (cond ((t29.length:Int)==1) (cond ((t30.length:Int)==1) ((CH e195 t28 1).bind fun t32=>cond ((t32.1==2) && ((t32.2==1) && true)) ((CH e208 t28 1).bind fun t33=>cond (t33.1==1) ((idx t29 0).bind fun e240=>cond (!e240.2.2.2.2.2.2) ((idx t30 0).bind fun e264=>cond e264.2.2.2.2.2.2 ((Ba e195).bind fun t38=>cond t38 ((Ba e208).bind fun t39=>some (!t39)) (some false)) (some false)) (some false)) (some false)) (some false)) (some false)) (some false)) (some false)).bind fun z31=>some z31)
theorem FK (gk:Kz φ) (s0:St φ (F) h) {r:Bool}(hd:Cc=some r):
 CallsH bU 36 [] h (Ap fun v h'=>∃ψ:AE,∃y:Bool,Sub φ ψ∧v=((.one aB):Sh).val y∧y=r∧St ψ (F) h'):=by
 refine AR mixed Tryz.func36 ?_;rw [Io];unfold GB;unfold Cc at hd;refine AT (vs:=[.int .u8 (0:Int),.int .u8 (0:Int)]) s0 fun r1 dy an=>AT (vs:=[.int .u8 (2:Int),.int .u8 (0:Int),.int .u8 (2:Int)]) an fun r2 dz ao=>AT (vs:=[.int .u8 (1:Int)]) ao fun r3 e0 ap=>AT (vs:=[.slice (some ⟨r2,0,none⟩) 3 3,.slice (some ⟨r3,0,none⟩) 1 1]) ap fun r4 e1 aq=>AT (vs:=[.int .u8 (0:Int)]) aq fun r5 e2 ar=>AT (vs:=[.int .u8 (1:Int)]) ar fun r6 e3 au=>AT (vs:=[.int .u8 (0:Int),.int .u8 (0:Int),.slice none 0 0,.slice none 0 0,.slice none 0 0,.slice none 0 0,.slice none 0 0]) au fun r7 e4 av=>AK av rfl rfl fun e5 aw=>AK aw rfl rfl fun e6 ax=>AK ax rfl rfl fun e7 ay=>AK ay rfl rfl fun e8 az=>AK az rfl rfl fun e9 b0=>AK b0 rfl rfl fun ea b1=>AK b1 rfl rfl fun eb i=>AA (x:=(1:Int)) i rfl<|AA (x:=(0:Int)) i rfl<|AA (x:=((some ⟨r1,0,none⟩,2,2):Slc)) i rfl<|AA (x:=((some ⟨r4,0,none⟩,2,2):Slc)) i rfl<|AA (x:=((none,0,0):Slc)) i rfl<|AA (x:=((some ⟨r5,0,none⟩,1,1):Slc)) i rfl<|AA (x:=((some ⟨r6,0,none⟩,1,1):Slc)) i rfl ?_;have b2:=eP (r:=(bW .u8)) (l:=([(0:Int),(0:Int)]:List Int)) (n:=2) i.at6 (.cons (a:=[_]) rfl (.cons (a:=[_]) rfl .nil)) rfl (by decide);obtain ⟨ec,z,ab,b3⟩:=cD (t:=((some ⟨r1,0,none⟩,2,2):Slc)) b2;have b4:=eP (r:=(bW .u8)) (l:=([(2:Int),(0:Int),(2:Int)]:List Int)) (n:=3) b3.at5 (.cons (a:=[_]) rfl (.cons (a:=[_]) rfl (.cons (a:=[_]) rfl .nil))) rfl (by decide);obtain ⟨ed,m,b5,b6⟩:=cD (t:=((some ⟨r2,0,none⟩,3,3):Slc)) b4;have b7:=eP (r:=(bW .u8)) (l:=([(1:Int)]:List Int)) (n:=1) b6.at4 (.cons (a:=[_]) rfl .nil) rfl (by decide);obtain ⟨ee,k,b8,b9⟩:=cD (t:=((some ⟨r3,0,none⟩,1,1):Slc)) b7;have ba:=eP (r:=(cA (bW .u8))) (l:=([([(2:Int),(0:Int),(2:Int)]:List Int),([(1:Int)]:List Int)]:List (List Int))) (n:=2) b9.at3 (.cons (a:=[_]) ⟨((some ⟨r2,0,none⟩,3,3):Slc),rfl,(b5.mono k)⟩ (.cons (a:=[_]) ⟨((some ⟨r3,0,none⟩,1,1):Slc),rfl,b8⟩ .nil)) rfl (by decide);obtain ⟨bb,o,ac,bc⟩:=cD (t:=((some ⟨r4,0,none⟩,2,2):Slc)) ba;have bd:=eP (r:=(bW .u8)) (l:=([(0:Int)]:List Int)) (n:=1) bc.at2 (.cons (a:=[_]) rfl .nil) rfl (by decide);obtain ⟨ef,e,ad,be⟩:=cD (t:=((some ⟨r5,0,none⟩,1,1):Slc)) bd;have bf:=eP (r:=(bW .u8)) (l:=([(1:Int)]:List Int)) (n:=1) be.at1 (.cons (a:=[_]) rfl .nil) rfl (by decide);obtain ⟨eg,c,bg,bh⟩:=cD (t:=((some ⟨r6,0,none⟩,1,1):Slc)) bf;obtain ⟨eh,bi,hd⟩:=bS hd;refine AJ (CT (small_0:=((1:Int),(0:Int),((some ⟨r1,0,none⟩,2,2):Slc),((some ⟨r4,0,none⟩,2,2):Slc),((none,0,0):Slc),((some ⟨r5,0,none⟩,1,1):Slc),((some ⟨r6,0,none⟩,1,1):Slc),())) (gk.mono (((((z.trans m).trans k).trans o).trans e).trans c)) (ab.mono ((((m.trans k).trans o).trans e).trans c)) (ac.mono (e.trans c)) ((eA (bW .u8) bb).mono (e.trans c)) (ad.mono c) bg bh bi) ?_;rintro _ ei ⟨ae,t15,ej,ek,el,em,en,eo,ep,af,er,p,rfl,rfl,es,eu,ev,ew,ex,ey,bj,bk,bl⟩;refine ⟨t15,rfl,?_⟩;try dsimp only at hd
 refine AT (vs:=[.slice none 0 0,.slice none 0 0,.slice none 0 0,.slice none 0 0,.slice none 0 0,.slice none 0 0]) bl fun r16 ez bm=>AK bm rfl rfl fun f0 bn=>AK bn rfl rfl fun f1 bo=>AK bo rfl rfl fun f2 bp=>AK bp rfl rfl fun f3 bq=>AK bq rfl rfl fun f4 br=>AK br rfl rfl fun f5 bs=>AK bs.at2 rfl rfl fun f6 j=>AA (x:=(1:Int)) j rfl<|AA (x:=(0:Int)) j rfl<|AA (x:=((some ⟨r1,0,none⟩,2,2):Slc)) j rfl<|AA (x:=((some ⟨r4,0,none⟩,2,2):Slc)) j rfl<|AA (x:=((none,0,0):Slc)) j rfl<|AA (x:=((some ⟨r5,0,none⟩,1,1):Slc)) j rfl<|AA (x:=((none,0,0):Slc)) j rfl ?_;obtain ⟨f7,bt,hd⟩:=bS hd;refine AJ (CT (small_0:=((1:Int),(0:Int),((some ⟨r1,0,none⟩,2,2):Slc),((some ⟨r4,0,none⟩,2,2):Slc),((none,0,0):Slc),((some ⟨r5,0,none⟩,1,1):Slc),((none,0,0):Slc),())) (gk.mono ((((((z.trans m).trans k).trans o).trans e).trans c).trans p)) (ab.mono (((((m.trans k).trans o).trans e).trans c).trans p)) (ac.mono ((e.trans c).trans p)) (eA (bW .u8) ae) (ad.mono (c.trans p)) (eA (bW .u8) ae) j bt) ?_;rintro _ f8 ⟨a5,t24,f9,fa,fb,fc,fd,fe,ff,ag,fg,a0,rfl,rfl,fh,fi,fj,fk,fl,fm,fn,bu,bv⟩;refine ⟨t24,rfl,?_⟩;try dsimp only at hd
 refine AT (vs:=[.slice none 0 0,.slice none 0 0,.slice none 0 0,.slice none 0 0,.slice none 0 0,.slice none 0 0]) bv fun r25 fo bw=>AK bw rfl rfl fun fp bx=>AK bx rfl rfl fun fq bz=>AK bz rfl rfl fun fr c0=>AK c0 rfl rfl fun fs c1=>AK c1 rfl rfl fun ft c2=>AK c2 rfl rfl fun fu ah=> ?_;obtain ⟨c3,u,hd⟩:=bS hd;refine Af (fun (y:Bool×Unit) w_ g=>∃ψ:AE,Sub a5 ψ∧y.1=g∧St ψ (cW 32 r25 [sv t24.1.1,sv t24.1.2.1,sv t24.1.2.2.1,sv t24.1.2.2.2.1,sv t24.1.2.2.2.2.1,sv t24.1.2.2.2.2.2.1]::⟨BV,[.pointer t24.2.2.1],ag⟩::cW 25 r7 [.int .u8 (1:Int),.int .u8 (0:Int),.slice (some ⟨r1,0,none⟩) 2 2,.slice (some ⟨r4,0,none⟩) 2 2,.slice none 0 0,.slice (some ⟨r5,0,none⟩) 1 1,.slice none 0 0]::cW 32 r16 [sv t15.1.1,sv t15.1.2.1,sv t15.1.2.2.1,sv t15.1.2.2.2.1,sv t15.1.2.2.2.2.1,sv t15.1.2.2.2.2.2.1]::⟨BV,[.pointer t15.2.2.1],af⟩::F) w_) (g:=c3) ?_ ?_
 ·refine AI u rfl (fun _ u=> ?_) (fun _ u=> ?_)
  ·have c4:=ah.at4;obtain rfl:=iS u;exact AN (true,()) rfl ⟨a5,(bT _),rfl,c4.at4.at4.at4.at4⟩
  obtain rfl:=iS u;exact AN ((!t24.2.2.2.2.1),()) rfl ⟨a5,(bT _),rfl,ah.at4.at4.at4.at4.at4⟩
 rintro z26 fv ⟨c5,w,rfl,ai⟩;try dsimp only at hd
 refine AI hd rfl (fun _ hd=> ?_) (fun _ hd=> ?_)
 ·obtain rfl:=iS hd;exact AB ⟨c5,false,((((((((z.trans m).trans k).trans o).trans e).trans c).trans p).trans a0).trans w),rfl,rfl,ai.tail.tail.tail.tail.tail⟩
 refine AT (vs:=[.int .i64 (3:Int),.int .i64 (1:Int),.int .i64 (3:Int)]) ai fun r27 fw c6=> ?_;obtain ⟨fx,c7,hd⟩:=bS hd;have c8:=eP (r:=(bW .i64)) (l:=([(3:Int),(1:Int),(3:Int)]:List Int)) (n:=3) c6 (.cons (a:=[_]) rfl (.cons (a:=[_]) rfl (.cons (a:=[_]) rfl .nil))) rfl (by decide);obtain ⟨fy,a1,c9,ca⟩:=cD (t:=((some ⟨r27,0,none⟩,3,3):Slc)) c8;obtain ⟨fz,cb,hd⟩:=bS hd;refine AJ (D6 ((((bj.mono (a0.trans w))).get c7).mono a1) c9 ca cb) ?_;rintro _ g0 ⟨g1,t28,a6,rfl,rfl,cc⟩;refine ⟨t28,rfl,?_⟩;obtain ⟨g2,cd,hd⟩:=bS hd;have a7:=((bk.mono (((a0.trans w).trans a1).trans a6))).get cd;obtain ⟨g3,ce,hd⟩:=bS hd;refine AJ (B2 a7 cc ce) ?_;rintro _ g4 ⟨g5,t29,g6,a2,rfl,rfl,aj,cf⟩;refine ⟨t29,rfl,?_⟩;have cg:=aj.length;obtain ⟨g7,ch,hd⟩:=bS hd;have a8:=((bu.mono (((w.trans a1).trans a6).trans a2))).get ch;obtain ⟨g8,ci,hd⟩:=bS hd;refine AJ (B2 a8 cf ci) ?_;rintro _ g9 ⟨a3,t30,ga,q,rfl,rfl,ak,a4⟩;refine ⟨t30,rfl,?_⟩;have cj:=ak.length;obtain ⟨ck,b,hd⟩:=bS hd;refine Af (fun (y:Bool×Unit) w_ g=>∃ψ:AE,Sub a3 ψ∧y.1=g∧St ψ (cW 32 r25 [sv t24.1.1,sv t24.1.2.1,sv t24.1.2.2.1,sv t24.1.2.2.2.1,sv t24.1.2.2.2.2.1,sv t24.1.2.2.2.2.2.1]::⟨BV,[.pointer t24.2.2.1],ag⟩::cW 25 r7 [.int .u8 (1:Int),.int .u8 (0:Int),.slice (some ⟨r1,0,none⟩) 2 2,.slice (some ⟨r4,0,none⟩) 2 2,.slice none 0 0,.slice (some ⟨r5,0,none⟩) 1 1,.slice none 0 0]::cW 32 r16 [sv t15.1.1,sv t15.1.2.1,sv t15.1.2.2.1,sv t15.1.2.2.2.1,sv t15.1.2.2.2.2.1,sv t15.1.2.2.2.2.2.1]::⟨BV,[.pointer t15.2.2.1],af⟩::F) w_) (g:=ck) ?_ ?_
 ·refine AI b rfl (fun _ b=> ?_) (fun _ b=> ?_)
  ·refine AI b (by rw [cg] <;>rfl) (fun _ b=> ?_) (fun _ b=> ?_)
   ·refine AI b (by rw [cj] <;>rfl) (fun _ b=> ?_) (fun _ b=> ?_)
    ·obtain ⟨gb,cl,b⟩:=bS b;refine AJ (EP (a7.mono (a2.trans q)) a4 cl) ?_;rintro _ gc ⟨cm,t32,d,rfl,rfl,al⟩;refine ⟨t32,rfl,?_⟩;try dsimp only at b
     refine AI b rfl (fun _ b=> ?_) (fun _ b=> ?_)
     ·obtain ⟨gd,cn,b⟩:=bS b;refine AJ (EP (a8.mono (q.trans d)) al cn) ?_;rintro _ ge ⟨a9,t33,f,rfl,rfl,s⟩;refine ⟨t33,rfl,?_⟩;try dsimp only at b
      refine AI b rfl (fun _ b=> ?_) (fun _ b=> ?_)
      ·obtain ⟨co,cp,b⟩:=bS b;obtain ⟨gf,gg,cq,cr,cs,ct⟩:=(aj.mono ((q.trans d).trans f)).get cp;refine AG _ cq (Ab cr ?_);obtain ⟨_,_,rfl,rfl,⟨_,_,rfl,rfl,⟨_,_,rfl,rfl,⟨_,_,rfl,⟨gh,rfl,gi⟩,⟨_,_,rfl,rfl,⟨_,_,rfl,rfl,rfl⟩⟩⟩⟩⟩⟩:=cs;refine AF (x:=co.2.2.2.2.2.2) (by rw [AV];exact (AC s.sub (ct 6 _ rfl))) rfl<|AI b rfl (fun _ b=> ?_) (fun _ b=> ?_)
       ·obtain ⟨d6,d7,b⟩:=bS b;obtain ⟨gj,gl,d8,d9,da,db⟩:=(ak.mono (d.trans f)).get d7;refine AG _ d8 (Ab d9 ?_);obtain ⟨_,_,rfl,rfl,⟨_,_,rfl,rfl,⟨_,_,rfl,rfl,⟨_,_,rfl,⟨gm,rfl,gn⟩,⟨_,_,rfl,rfl,⟨_,_,rfl,rfl,rfl⟩⟩⟩⟩⟩⟩:=da;refine AF (x:=d6.2.2.2.2.2.2) (by rw [AV];exact (AC s.sub (db 6 _ rfl))) rfl<|AI b rfl (fun _ b=> ?_) (fun _ b=> ?_)
        ·obtain ⟨go,dp,b⟩:=bS b;refine AJ (Cr (a7.mono (((a2.trans q).trans d).trans f)) s dp) ?_;rintro _ gp ⟨dq,t38,aa,rfl,rfl,am⟩;refine ⟨t38,rfl,?_⟩;refine AI b rfl (fun _ b=> ?_) (fun _ b=> ?_)
         ·obtain ⟨gq,dr,b⟩:=bS b;refine AJ (Cr (a8.mono (((q.trans d).trans f).trans aa)) am dr) ?_;rintro _ gr ⟨ds,t39,dt,rfl,rfl,du⟩;refine ⟨t39,rfl,?_⟩;obtain rfl:=iS b;exact AN ((!t39),()) rfl ⟨ds,(((d.trans f).trans aa).trans dt),rfl,du.at4.at4.at4.at4.at4⟩
         obtain rfl:=iS b;exact AN (false,()) rfl ⟨dq,((d.trans f).trans aa),rfl,am.at4.at4.at4.at4.at4⟩
        obtain rfl:=iS b;exact AN (false,()) rfl ⟨a9,(d.trans f),rfl,s.at4.at4.at4.at4.at4⟩
       obtain rfl:=iS b;exact AN (false,()) rfl ⟨a9,(d.trans f),rfl,s.at4.at4.at4.at4.at4⟩
      obtain rfl:=iS b;exact AN (false,()) rfl ⟨a9,(d.trans f),rfl,s.at4.at4.at4.at4.at4⟩
     obtain rfl:=iS b;exact AN (false,()) rfl ⟨cm,d,rfl,al.at4.at4.at4.at4.at4⟩
    obtain rfl:=iS b;exact AN (false,()) rfl ⟨a3,(bT _),rfl,a4.at4.at4.at4.at4.at4⟩
   obtain rfl:=iS b;exact AN (false,()) rfl ⟨a3,(bT _),rfl,a4.at4.at4.at4.at4.at4⟩
  obtain rfl:=iS b;exact AN (false,()) rfl ⟨a3,(bT _),rfl,a4.at4.at4.at4.at4.at4⟩
 rintro z31 gs ⟨dv,dw,rfl,dx⟩;try dsimp only at hd
 obtain rfl:=iS hd;exact AB ⟨dv,z31.1,(((((((((((((z.trans m).trans k).trans o).trans e).trans c).trans p).trans a0).trans w).trans a1).trans a6).trans a2).trans q).trans dw),rfl,rfl,dx.tail.tail.tail.tail.tail⟩
end
set_option maxRecDepth 1000000
theorem Ob:Cc=some true:=by kernel_rfl
def lvl (p:A9) (term:Int):Int:=if term<0∨(p.2.2.2.1.length:Int) ≤term then 0 else (idx p.2.2.2.1 term).getD 0
def hgt (p:A9) (k:Int):Int:=if k<0∨(p.2.2.1.length:Int) ≤k then 0 else ((idx p.2.2.1 k).map (·.2.2)).getD 0
def asc (p:A9) (t:Int):Int:=(idx p.2.2.2.2.1 t).getD 0
def red (k:Int):Int×Int:=if k=0 then (3,0) else (2,k)
theorem KE {α:Type}{l:List α}{i:Int}(h0:0≤i) (h1:i< (l.length:Int)):idx l i=some l[i.toNat]:=by
 unfold idx;rw [if_pos h0,bR]
theorem Xg (p:A9) (term:Int):Di p term=some (lvl p term):=by
 refine fP ?_;unfold Di lvl;refine AP (Q:=fun c=>c=decide (term<0∨(p.2.2.2.1.length:Int) ≤term)) (Ac (fun h=>AD ?_) fun h=>AD ?_) fun c hc=> ?_
 ·exact (decide_eq_true (.inl (of_decide_eq_true h))).symm
 ·have h:=of_decide_eq_false h;rw [Bool.eq_iff_iff,decide_eq_true_eq,decide_eq_true_eq];omega
 ·subst hc;refine Ac (fun h=>AD ?_) fun h=> ?_
  ·rw [if_pos (of_decide_eq_true h)]
  ·have h:=of_decide_eq_false h;have e:=KE (l:=p.2.2.2.1) (i:=term) (by omega) (by omega);rw [if_neg h,e];exact AD rfl
theorem WV (p:A9) (k:Int):DS p k=some (hgt p k):=by
 refine fP ?_;unfold DS hgt;refine AP (Q:=fun c=>c=decide (k<0∨(p.2.2.1.length:Int) ≤k)) (Ac (fun h=>AD ?_) fun h=>AD ?_) fun c hc=> ?_
 ·exact (decide_eq_true (.inl (of_decide_eq_true h))).symm
 ·have h:=of_decide_eq_false h;rw [Bool.eq_iff_iff,decide_eq_true_eq,decide_eq_true_eq];omega
 ·subst hc;refine Ac (fun h=>AD ?_) fun h=> ?_
  ·rw [if_pos (of_decide_eq_true h)]
  ·have h:=of_decide_eq_false h;have e:=KE (l:=p.2.2.1) (i:=k) (by omega) (by omega);rw [if_neg h,e];exact AD rfl
theorem Oc (k:Int):CX k=some (red k):=by
 unfold CX red;by_cases h:k=0
 ·subst h;rfl
 ·rw [if_neg h,show (k==(0:Int))=false by simpa using h,cond_false]
def byF (p:A9) (term s k:Int):Int×Int×Bool:=
 if lvl p term≤0∨hgt p k≤0 then (1,s,true)
 else if hgt p k=lvl p term∧asc p (lvl p term)=3 then (0,0,false)
 else if (hgt p k=lvl p term∧asc p (lvl p term)=1)∨lvl p term<hgt p k then ((red k).1,k,false)
 else (1,s,false)
theorem ZW (p:A9) (term s k:Int) (hA:0≤lvl p term→lvl p term< (p.2.2.2.2.1.length:Int)):FI p term ((1:Int),s) (red k)=some (byF p term s k):=by
 unfold FI;rw [show ((p.1,p.2.1,p.2.2.1,p.2.2.2.1,p.2.2.2.2.1,p.2.2.2.2.2):A9)=p from rfl,Xg];have hk:(red k).2=k:=by unfold red;split<;>simp_all
 rw [cP,hk,WV,cP];unfold byF;by_cases h0:lvl p term≤0
 ·rw [if_pos (.inl h0),decide_eq_true h0,cond_true,cP,cond_true]
 ·rw [decide_eq_false h0,cond_false,cP];by_cases h1:hgt p k≤0
  ·rw [if_pos (.inr h1),decide_eq_true h1,cond_true]
  ·rw [if_neg (by omega),decide_eq_false h1,cond_false];by_cases e:hgt p k=lvl p term
   ·have ha:idx p.2.2.2.2.1 (lvl p term)=some (asc p (lvl p term)):=by
     unfold asc;rw [KE (by omega) (hA (by omega))];rfl
    have e2:(hgt p k==lvl p term)=true:=by simpa using e
    rw [e2,cond_true,cond_true,ha,cP,cP];by_cases a3:asc p (lvl p term)=3
    ·rw [if_pos ⟨e,a3⟩,show (asc p (lvl p term)==(3:Int))=true by simpa using a3];rfl
    ·rw [if_neg (fun h=>a3 h.2),show (asc p (lvl p term)==(3:Int))=false by simpa using a3,cond_false,cP,cP];by_cases a1:asc p (lvl p term)=1
     ·rw [if_pos (.inl ⟨e,a1⟩),show (asc p (lvl p term)==(1:Int))=true by simpa using a1];rfl
     ·rw [if_neg (fun h=>h.elim (fun h=>a1 h.2) fun h=>by omega),show (asc p (lvl p term)==(1:Int))=false by simpa using a1,decide_eq_false (show ¬hgt p k>lvl p term by omega)];rfl
   ·have e2:(hgt p k==lvl p term)=false:=by simpa using e
    rw [e2,cond_false,cond_false,if_neg (fun h=>e h.1)];by_cases g:lvl p term<hgt p k
    ·rw [if_pos (.inr g),decide_eq_true (show hgt p k>lvl p term from g)];rfl
    ·rw [if_neg (fun h=>h.elim (fun h=>e h.1) g),decide_eq_false (show ¬hgt p k>lvl p term from g)];rfl
structure WW (l:List Int) (m:Int):Prop where
 mem:m∈l
 le:∀x∈l,m≤x
theorem MQ {l:List Int}{j:Nat}{x:Int}(hx:l[j]? =some x) {y:Int}:y∈l.take (j+1)↔y∈l.take j∨y=x:=by
 rw [dH,hx,dR];simp
theorem ZL {l:List Int}(hl:l.length≤1000000) (hp:0<l.length):Ok (WU l) (WW l):=by
 have h0:=bR hp;unfold WU;refine AW (i:=0) h0 ?_;have e:(l.length:Int)=1+((l.length - 1:Nat):Int):=by omega
 unfold forS;rw [if_pos ⟨by omega,by omega⟩];obtain ⟨s',h1,h2⟩:=Nq (f:=fun i z=>(idx l i).bind fun x=>some (if x<z then x else z)) (fun i z=>0≤i∧WW (l.take i.toNat) z) ((l.length:Int) - 1).toNat 1 l[0] ⟨by omega,by
  have e1:l.take (1:Int).toNat= [l[0]]:=by
   show l.take 1=_;rw [List.take_one];simp [List.head?_eq_getElem?,h0]
  rw [e1];exact ⟨by simp,by simp⟩⟩ fun j s hj hj' ⟨hj0,hI⟩=>by
   have hlt:j.toNat<l.length:=by omega
   have hx:=bR hlt;refine ⟨if l[j.toNat] <s then l[j.toNat] else s,?_,by omega,?_⟩
   ·unfold idx;rw [if_pos (by omega),hx];rfl
   ·rw [show (j+1).toNat=j.toNat+1 by omega];by_cases g:l[j.toNat] <s
    ·rw [if_pos g];exact ⟨(MQ hx).2 (.inr rfl),fun y hy=>(MQ hx).1 hy |>.elim (fun hy=>by have:=hI.le y hy;omega) fun hy=>by omega⟩
    ·rw [if_neg g];exact ⟨(MQ hx).2 (.inl hI.mem),fun y hy=>(MQ hx).1 hy |>.elim (hI.le y) fun hy=>by omega⟩
 refine ⟨s',h1,?_⟩;have e2:((1:Int)+(((l.length:Int) - 1).toNat:Nat)).toNat=l.length:=by omega
 have h3:=h2.2;rw [e2,cN (cU _)]at h3;exact h3
def Pb (p:A9) (term s:Int) (l:List Int) (r:Int×Int×Bool):Prop:=
 (l= [] ∧s<0∧r=(0,0,false))∨(l= [] ∧0≤s∧r=(1,s,false))∨(∃k,l= [k] ∧s<0∧r=((red k).1,(red k).2,false))∨(∃k,l= [k] ∧0≤s∧r=byF p term s k)∨
 (1<l.length∧0≤s∧r=(1,s,true))∨(1<l.length∧s<0∧ ∃m,WW l m∧r=((red m).1,(red m).2,true))
theorem Ys (p:A9) (term s:Int) {l:List Int}(hl:l.length≤1000000) (hA:0≤lvl p term→lvl p term< (p.2.2.2.2.1.length:Int)):Ok (Cy p term s l) (Pb p term s l):=by
 unfold Cy
 match l,hl with
 | [],_=>
  refine AP (Q:=fun c=>c=decide (s<0)) (Bd rfl (AD rfl)) fun c hc=> ?_;subst hc;exact Ac (fun h=>AD (.inl ⟨rfl,of_decide_eq_true h,rfl⟩)) fun h=>Bd rfl (AD (.inr (.inl ⟨rfl,by have:=of_decide_eq_false h;omega,rfl⟩)))
 | [k],_=>
  refine AP (Q:=fun c=>c=false) (AU rfl (AD rfl)) fun c hc=> ?_;subst hc;refine AU rfl (AU rfl (AP (Q:=fun c=>c=decide (s<0)) (Bd rfl (AD rfl)) fun c hc=> ?_));subst hc;refine Ac (fun h=>AL rfl (AL (Oc k) (AD (.inr (.inr (.inl ⟨k,rfl,of_decide_eq_true h,rfl⟩)))))) fun h=>Bd rfl (AL rfl (AL (Oc k) (AL (ZW p term s k hA) (AD (.inr (.inr (.inr (.inl ⟨k,rfl,by have:=of_decide_eq_false h;omega,rfl⟩))))))))
 |a::b::l,hl=>
  have e0:((((cE (a::b::l)):Nat):Int)==(0:Int))=false:=by simp;omega
  have e1:((((cE (a::b::l)):Nat):Int)==(1:Int))=false:=by simp;omega
  have hlen:1< (a::b::l).length:=by simp
  refine AP (Q:=fun c=>c=false) (AU e0 (AD rfl)) fun c hc=> ?_;subst hc;refine AU rfl (AU e0 (AP (Q:=fun c=>c=false) (AU e1 (AD rfl)) fun c hc=> ?_));subst hc;refine AU rfl (AU e1 (Ac (fun h=>AD (.inr (.inr (.inr (.inr (.inl ⟨hlen,of_decide_eq_true h,rfl⟩)))))) fun h=> ?_));refine AP (ZL hl (by omega)) fun m hm=>AL (Oc m) (AD (.inr (.inr (.inr (.inr (.inr ⟨hlen,by have:=of_decide_eq_false h;omega,m,hm,rfl⟩))))))
end Go.Proofs.YteolcjbobmpdiaaGreatDoor
namespace Go.Proofs.YteolcjbobmpdiaaGreatDoor
open Go Go.Eng Dg
set_option linter.unusedVariables false
set_option maxRecDepth 100000
noncomputable def Re (d:LkD) (i t k:Int):Bool:=match OM (some d) i k with
 |some l=>decide (t∈l)
 |none=>false
noncomputable def rsL (d:LkD) (dl:List Int) (i t:Int):List Int:=dl.filter (Re d i t)
noncomputable def goV (A:dtA) (i t:Int):Int:=(BM A i t).getD 0
noncomputable def I5 (p:dtP) (t go:Int) (rs:List Int):Int×Int×Bool:=(Cy p t go rs).getD (0,0,false)
def two (rs:List Int) (go:Int):Bool:=decide (1<rs.length) || (decide (rs.length=1) && decide (0≤go))
theorem Yt {α:Type}{o:Option α}{P:α→Prop}(h:Ok (o.bind some) P):Ok o P:=by cases o<;>exact h
theorem Od {dl:List Int}{f:Int→List Int→Option (List Int)}(P:Int→Bool) (hl:dl.length≤1000000) (hf:∀(j:Nat) x acc,dl[j]? =some x→acc.length≤j→f (j:Int) acc=some (if P x=true then acc++ [x] else acc)):
 forS (0:Int) (dl.length:Int) ([]:List Int) f=some (dl.filter P):=by
 refine fP (Yt (CN (fun j (z:List Int)=>z=(dl.take j).filter P) (by omega) (by simp) (fun j z hj hz=> ?_) fun z hz=>AD (by rw [hz,cN (cU _)])));subst hz;have hx:=bR hj;refine ⟨_,hf j _ _ hx (eI (dX _ _) (by simp;omega)),?_⟩;rw [dH,hx,dU];by_cases h:P dl[j] =true
 ·rw [if_pos h];simp [h]
 ·rw [if_neg h];simp [h]
section
variable {p:dtP}{B:List dtK}{E:List (List Edge)}{d:LkD}{tt:Int}
theorem QU (M:MkI p B E d tt) {i:Nat}{b:dtK}(hb:B[i]? =some b) (t:Int):BM (Au p B E tt) (i:Int) t=some (goV (Au p B E tt) (i:Int) t):=by
 have hi:=(List.getElem?_eq_some_iff.1 hb).1;have hE:i<E.length:=by have:=M.all.fin.len;omega
 obtain ⟨x,h1,_⟩:=Vv (t:=tt) M.all.vp M.all.fin hb (bR hE) t;unfold goV;rw [h1];rfl
theorem Td (M:MkI p B E d tt) {i:Nat}{b:dtK}(hb:B[i]? =some b) {k:Int}(hk:k∈CS p.2.2.1 b.2.1) (t:Int):∃l,OM (some d) (i:Int) k=some l∧l.length≤64000∧decide (t∈l)=Re d (i:Int) t k:=by
 obtain ⟨j,hj⟩:=dI hk;obtain ⟨k',r,rfl,hr,hit⟩:=Ms M hb hj;obtain ⟨l,h1,h2⟩:=QR M (s:=i) (List.getElem?_eq_some_iff.1 hr).1;refine ⟨l,h1,h2.2,?_⟩;unfold Re;rw [h1]
theorem QW (M:MkI p B E d tt) {i:Nat}{b:dtK}(hb:B[i]? =some b) (t:Int):(rsL d (CS p.2.2.1 b.2.1) (i:Int) t).length≤10100:=
 eI (dX _ _) (Mr (l:=[]) M hb)
theorem Mu (p:dtP) (t go:Int) {rs:List Int}(hl:rs.length≤1000000) (hA:0≤lvl p t→lvl p t< (p.2.2.2.2.1.length:Int)):Cy p t go rs=some (I5 p t go rs)∧Pb p t go rs (I5 p t go rs):=by
 obtain ⟨x,h1,h2⟩:=Ys p t go hl hA;unfold I5;rw [h1];exact ⟨rfl,h2⟩
noncomputable def DH (p:dtP) (A:dtA) (d:LkD) (dl:List Int) (i t:Int):List Ef:=if two (rsL d dl i t) (goV A i t)=true then [(i,t,goV A i t,rsL d dl i t,(I5 p t (goV A i t) (rsL d dl i t)).1,(I5 p t (goV A i t) (rsL d dl i t)).2.1,(I5 p t (goV A i t) (rsL d dl i t)).2.2)] else []
theorem Xh (M:MkI p B E d tt) {i:Nat}{b:dtK}(hb:B[i]? =some b) {t:Int}(hA:0≤lvl p t→lvl p t< (p.2.2.2.2.1.length:Int)) {rows:List (List Ee)}{gos:List (List Int)}{cl:List Ef}(hcl:cl.length≤1000000):
 resolve_Grid_cell_D (p.1,p.2.1,p.2.2.1,p.2.2.2.1,p.2.2.2.2.1,p.2.2.2.2.2,rows,gos,cl) (Au p B E tt) (some d) (i:Int) t=some ((I5 p t (goV (Au p B E tt) (i:Int) t) (rsL d (CS p.2.2.1 b.2.1) (i:Int) t)).1,(I5 p t (goV (Au p B E tt) (i:Int) t) (rsL d (CS p.2.2.1 b.2.1) (i:Int) t)).2.1,p.1,p.2.1,p.2.2.1,p.2.2.2.1,p.2.2.2.2.1,p.2.2.2.2.2,rows,gos,cl++DH p (Au p B E tt) d (CS p.2.2.1 b.2.1) (i:Int) t):=by
 refine fP ?_;unfold resolve_Grid_cell_D;have hdl:=Mr (l:=[]) M hb;have hrl:=QW M hb t;refine AL (QU M hb t) (AL (Pa M hb) (AL (x:=rsL d (CS p.2.2.1 b.2.1) (i:Int) t) (Od (Re d (i:Int) t) (by omega) fun j x acc hx hacc=> ?_) ?_))
 ·have hj:=(List.getElem?_eq_some_iff.1 hx).1;obtain ⟨l,h1,h2,h3⟩:=Td M hb (cC hx) t;refine fP (AW hx (AL h1 (AL (Dg.contains_ok (by omega) t) ?_)));rw [h3];cases Re d (i:Int) t x with
  |true=>exact AP (Q:=fun z=>z=acc++ [x]) (Bd rfl (Bk (by simp;omega) (AD rfl))) fun z hz=>AD (by rw [hz];rfl)
  |false=>exact AP (Q:=fun z=>z=acc) (AU rfl (AD rfl)) fun z hz=>AD (by rw [hz];rfl)
 ·obtain ⟨k1,k2⟩:=Mu p t (goV (Au p B E tt) (i:Int) t) (rs:=rsL d (CS p.2.2.1 b.2.1) (i:Int) t) (by omega) hA;refine AL k1 ?_;obtain ⟨kv,hkv⟩:∃kv,I5 p t (goV (Au p B E tt) (i:Int) t) (rsL d (CS p.2.2.1 b.2.1) (i:Int) t)=kv:=⟨_,rfl⟩;obtain ⟨rs,hrs⟩:∃rs,rsL d (CS p.2.2.1 b.2.1) (i:Int) t=rs:=⟨_,rfl⟩;obtain ⟨go,hgo⟩:∃go,goV (Au p B E tt) (i:Int) t=go:=⟨_,rfl⟩;unfold DH;rw [hkv,hrs,hgo];rw [hrs]at hrl;refine AP (Q:=fun c=>c=two rs go) (Ac (fun h=>AD ?_) fun h=> ?_) fun c hc=> ?_
  ·have h:=of_decide_eq_true h;unfold two;rw [decide_eq_true (show 1<rs.length by omega)];rfl
  ·have h:=of_decide_eq_false h;unfold two;rw [decide_eq_false (show ¬1<rs.length by omega),Bool.false_or];refine Ac (fun h2=>AD ?_) fun h2=>AD ?_
   ·have h2:=eq_of_beq h2;rw [decide_eq_true (show rs.length=1 by omega)];rfl
   ·have h2:=ne_of_beq_false h2;rw [decide_eq_false (show ¬rs.length=1 by omega)];rfl
  ·subst hc;refine AP (Q:=fun g=>g=(p.1,p.2.1,p.2.2.1,p.2.2.2.1,p.2.2.2.2.1,p.2.2.2.2.2,rows,gos,cl++if two rs go=true then [((i:Int),t,go,rs,kv.1,kv.2.1,kv.2.2)] else [])) ?_ fun g hg=>AD (by rw [hg]);refine Ac (fun h=> ?_) fun h=>AD ?_
   ·rw [if_pos h];exact Bk (by simp;omega) (AD rfl)
   ·rw [h,if_neg (by simp),eL]
end
section
variable {p:dtP}{B:List dtK}{E:List (List Edge)}{d:LkD}{tt:Int}
def dlB (p:dtP) (B:List dtK) (i:Nat):List Int:=match B[i]? with
 |some b=>CS p.2.2.1 b.2.1
 |none=>[]
noncomputable def clS (p:dtP) (A:dtA) (d:LkD) (dl:List Int) (i:Nat):Nat→List Ef | 0=>[] | n+1=>clS p A d dl i n++DH p A d dl (i:Int) (n:Int)
noncomputable def clA (p:dtP) (A:dtA) (d:LkD) (B:List dtK):Nat→List Ef | 0=>[] | n+1=>clA p A d B n++clS p A d (dlB p B n) n p.1.length
theorem UY (p:dtP) (A:dtA) (d:LkD) (dl:List Int) (i t:Int):(DH p A d dl i t).length≤1:=by
 unfold DH
 split<;>simp
theorem QX (p:dtP) (A:dtA) (d:LkD) (dl:List Int) (i:Nat):∀n,(clS p A d dl i n).length≤n
 | 0=>cU _
 |n+1=>by
  have h1:=QX p A d dl i n;have h2:=UY p A d dl (i:Int) (n:Int);unfold clS;rw [dL];omega
theorem NQ (p:dtP) (A:dtA) (d:LkD) (B:List dtK):∀n,(clA p A d B n).length≤n *p.1.length
 | 0=>by simp [clA]
 |n+1=>by
  have h1:=NQ p A d B n;have h2:=QX p A d (dlB p B n) n p.1.length;unfold clA;rw [dL,Nat.succ_mul];omega
noncomputable def Rf (p:dtP) (A:dtA) (d:LkD) (dl:List Int) (i t:Int):Int×Int:=((I5 p t (goV A i t) (rsL d dl i t)).1,(I5 p t (goV A i t) (rsL d dl i t)).2.1)
set_option maxHeartbeats 1000000 in
theorem Te (M:MkI p B E d tt) (hA:∀t:Int,0≤lvl p t→lvl p t< (p.2.2.2.2.1.length:Int)) (hN:p.1.length≤100):
 Ok (FJ p (Au p B E tt) (some d)) fun g=>∃rows gos,g=some (p.1,p.2.1,p.2.2.1,p.2.2.2.1,p.2.2.2.2.1,p.2.2.2.2.2,rows,gos,clA p (Au p B E tt) d B B.length)∧rows.length=B.length∧
  ∀(i:Nat),i<B.length→ ∃row,rows[i]? =some row∧row=(dS p.1.length).map fun t=>Rf p (Au p B E tt) d (dlB p B i) (i:Int) ((t:Nat):Int):=by
 have hf:=M.all.few;have hV:=M.all.vars;unfold FJ;refine AL (LR M.all.fin) (CN (fun i (z:Ce)=>∃rows gos,z=(p.1,p.2.1,p.2.2.1,p.2.2.2.1,p.2.2.2.2.1,p.2.2.2.2.2,rows,gos,clA p (Au p B E tt) d B i)∧rows.length=i∧gos.length=i∧
  ∀(j:Nat),j<i→ ∃row,rows[j]? =some row∧row=(dS p.1.length).map fun t=>Rf p (Au p B E tt) d (dlB p B j) (j:Int) ((t:Nat):Int)) (by omega) ⟨[],[],rfl,rfl,rfl,fun j hj=>by omega⟩ (fun i z hi hz=> ?_) fun z hz=> ?_)
 ·obtain ⟨rows,gos,rfl,hr,hg,hz'⟩:=hz;have hbi:=bR hi;obtain ⟨b,hbe⟩:∃b,B[i] =b:=⟨_,rfl⟩;rw [hbe]at hbi;have hdl:dlB p B i=CS p.2.2.1 b.2.1:=by unfold dlB;rw [hbi]
  have hcl:=NQ p (Au p B E tt) d B i;have hmul:i *p.1.length≤300 *100:=Nat.mul_le_mul (by omega) hN;refine CN (fun t (z:List Ee×Ce)=>z=((dS t).map (fun t=>Rf p (Au p B E tt) d (dlB p B i) (i:Int) ((t:Nat):Int)),p.1,p.2.1,p.2.2.1,p.2.2.2.1,p.2.2.2.2.1,p.2.2.2.2.2,rows,gos,clA p (Au p B E tt) d B i++clS p (Au p B E tt) d (dlB p B i) i t)) (by omega) (by simp [clS]) (fun t z ht hz=> ?_) fun z hz=> ?_
  ·subst hz;have h2:=QX p (Au p B E tt) d (dlB p B i) i t;refine AL (Xh M hbi (hA (t:Int)) (by rw [dL];omega)) (Bk (by simp;omega) (AD ?_));rw [List.range_succ,dG,hdl,cH];rfl
  ·subst hz;refine CN (fun t (z:List Int)=>z.length=t) (by omega) rfl (fun t z ht hz=> ?_) fun z hz=> ?_
   ·exact AL (QU M hbi _) (Bk (by simp;omega) (AD (by simp [hz])))
   ·refine Bk (by simp;omega) (Bk (by simp;omega) (AD ⟨rows++ [(dS p.1.length).map fun t=>Rf p (Au p B E tt) d (dlB p B i) (i:Int) ((t:Nat):Int)],gos++ [z],rfl,by simp [hr],by simp [hg],fun j hj=> ?_⟩));rcases Nat.lt_succ_iff_lt_or_eq.1 hj with h | rfl
    ·obtain ⟨row,h1,h2⟩:=hz' j h;exact ⟨row,by rw [dE (by omega)];exact h1,h2⟩
    ·exact ⟨_,by rw [dO (by omega),hr];simp,rfl⟩
 ·obtain ⟨rows,gos,rfl,hr,hg,hz⟩:=hz;exact AD ⟨rows,gos,rfl,hr,hz⟩
end
def Gd (p:dtP) (A:dtA) (d:LkD) (B:List dtK) (g:Ce):Prop:= ∃rows gos,g=(p.1,p.2.1,p.2.2.1,p.2.2.2.1,p.2.2.2.2.1,p.2.2.2.2.2,rows,gos,clA p A d B B.length)∧rows.length=B.length∧
 ∀(i:Nat),i<B.length→ ∃row,rows[i]? =some row∧row=(dS p.1.length).map fun t=>Rf p A d (dlB p B i) (i:Int) ((t:Nat):Int)
theorem Oe {nt nl:Nat}{p:dtP}(hp:Pl nt nl p) (term:Int):0≤lvl p term→lvl p term< (p.2.2.2.2.1.length:Int):=fun _=>by
 have h3:=hp.assocs;have h4:=hp.levels.2
 have:lvl p term≤(nl:Int):=by
  unfold lvl;split
  ·omega
  ·rename_i g
   have e:=KE (l:=p.2.2.2.1) (i:=term) (by omega) (by omega);rw [e];exact (h4 _ (cZ _)).2
 omega
theorem UZ {s:KZ}(G:SmG s) (F:SmF 12 5 s):Ok (As s) fun r=>r.2.2.2.2.2.2.2.2.2=false∨(r.2.2.2.2.2.2.2.2.2=true∧ ∃(p:dtP) (B:List dtK) (E:List (List Edge)) (d:LkD) (tt:Int) (nt nl:Nat) (g:Ce),
 (r.1,r.2.1,r.2.2.1,r.2.2.2.1,r.2.2.2.2.1,r.2.2.2.2.2.1)=p∧r.2.2.2.2.2.2.1=some (Au p B E tt)∧r.2.2.2.2.2.2.2.1=some d∧r.2.2.2.2.2.2.2.2.1=some g∧Pl nt nl p∧MkI p B E d tt∧Gd p (Au p B E tt) d B g):=by
 unfold As;refine AP (XA G F.up) fun p ⟨nt,nl,hp⟩=> ?_;have S:=Rd hp;refine AP (OX S) fun e he=>Ac (fun _=>AD (.inl rfl)) fun hc=> ?_;have he0:e.2=0:=by simpa using hc
 have hpro:=he he0;refine AP (MD hp.vp hp.pos (st:=300) (it:=9000) (fun n m hl=>by
  have:held 300=300:=by decide
  omega)) fun r hr=> ?_
 rcases hr with ⟨n,h1,h2,rfl⟩|⟨rfl,_⟩
 ·have H:=Vt hp.vp hp.pos h1;have hB:(stM p n).1.length≤300:=by
   have:=h2.1
   have e:held 300=300:=by decide
   omega
  have hpos:1≤(stM p n).1.length:=Bo H.zero;refine AP (Q:=fun c=>c=false) (AU rfl (AL rfl (AL (LR H) (AD ?_)))) fun c hc=> ?_
  ·simp only [beq_eq_false_iff_ne];omega
  subst hc;refine AU rfl (AL rfl (AP (Ta (tt:=((tot (stM p n).1:Nat):Int)) (fun fa hfa=>QQ hp hpro H hB hfa) S) fun l hl=> ?_));obtain ⟨d,rfl,d1,d2,d3,d4⟩:=hl;have M:MkI p _ _ d _:=⟨QQ hp hpro H hB d3,d1,d2,d4⟩;have hT:=hp.terms.len;have hn:=hp.nt5;refine AU rfl (AP (Te M (Oe hp) (show p.1.length≤100 by omega)) fun g hg=> ?_);obtain ⟨rows,gos,rfl,g1,g2⟩:=hg;exact AD (.inr ⟨rfl,p,_,_,d,_,nt,nl,_,rfl,rfl,rfl,rfl,hp,M,rows,gos,rfl,g1,g2⟩)
 ·refine AP (Q:=fun c=>c=true) (Bd rfl (AD rfl)) fun c hc=> ?_;subst hc;exact Bd rfl (AD (.inl rfl))
end Go.Proofs.YteolcjbobmpdiaaGreatDoor
