/-
  LookJ, LookG, LookH, LookO, F3, F4, F5, F6, Build, DenR, DenW, SimR, M1, M2, SimUa, Aw, M3, Ref10, Ref10B, Ref10C, Ref10D, Ref10E, Ref10F, Fo1, Fo2, Fo3, Fo4, Ref10G, put together.
  Conditions: none; each part tells its own.
-/
import Derived.Test.YteolcjbobmpdiaaGreatDoorKg4
import Derived.Test.YteolcjbobmpdiaaGreatDoorKg3
import Derived.Test.YteolcjbobmpdiaaGreatDoorKg1
import Derived.Test.YteolcjbobmpdiaaGreatDoorProg
import Derived.KernelRfl
import Derived.Test.YteolcjbobmpdiaaGreatDoorKg2
open List renaming getElem?_eq_getElem → bR,mem_of_getElem? → bX,perm_middle → cD,append_assoc → cF,length → cJ,length_map → cS,length_set → cT,replicate → cU,getElem?_of_mem → cY,getElem?_set → cZ,take_of_length_le → dB,getElem_mem → dC,mem_or_eq_of_mem_set → dE,map_append → dG,getElem?_map → dI,getElem?_set_ne → dJ,length_append → dP,perm_append_comm_assoc → dV,getElem?_append_left → dZ,getElem?_cons_succ → eB,take_add_one → eC,getElem?_set_self → eD,mem_append → eG,filter_append → eK,getElem?_append_right → eL,length_take → eQ,getElem?_replicate → eR,getElem?_cons_zero → eS,nil_append → eW,length_singleton → eY,take_append_drop → eZ,mem_of_mem_drop → fA,mem_cons_of_mem → fB,map_cons → fE,set_cons_succ → fG,mem_singleton → fH,zipWith → fJ,pairwise_map → fK,filter_cons → fO,range → fS
open Go.IntKind renaming wrap → bT
open List.Perm renaming cons → bU,append_right → bV,swap → cE,append_left → cP
open Go.Proofs.Tryz renaming prog → bW,underlying136 → dO,underlying61 → fM,t139 → fU
open Go.Eng.Ro renaming bool → bY,int → cC,str → dD,list → dS,slc → dW,pt → eA,prod → fX
open Go.Eng.Sub renaming refl → bZ,trans → eI
open Int renaming toNat_natCast → cA,toNat_of_nonneg → cL,toNat → cN
open Go.Eng.T renaming out → cG,call → cI,block → cQ,join → dK,loop → dM,ret → dN,brk → dX,store → eH,load → eT,sem → eU
open Go.Eng.St renaming freezeRow → cH,lit → eP,freezeRows → fD,unpack → fN,pack → fQ,cells → fR,shutR → fT,cell → fV,openR → fW,nil → fY,get → fZ
open Nat renaming le_refl → cK,eq_zero_or_pos → eM,zero_le → eN,zero_add → fI,lt_or_ge → fL
open Bool renaming or_eq_false_iff → cV,or_eq_true → dR,not_eq_true' → dU,and_eq_true → dY,and_eq_false_iff → eX,false_or → fF
open Go.Instr renaming makeSlice → dH
open Option renaming isNone → dL,bind_some → fP
open Go.Eng.Ab renaming next → dQ,done → eF
open Go.Eng.Ro.SliceIs renaming nil → eJ
open Go.Proofs.YteolcjbobmpdiaaGreatDoor.St renaming blk → eO
open Go.Builtin renaming append_ → eV
open Go.Eng.Rep renaming raw → fC
namespace Go.Proofs.YteolcjbobmpdiaaGreatDoor
open Go Go.Eng Dg
set_option linter.unusedVariables false
set_option maxRecDepth 100000
theorem Xr:N4 bW 97 30 (.slice none 0 0):=⟨Tryz.underlying97,⟨Tryz.t30,by kernel_rfl,rfl,⟨_,rfl,rfl⟩,by decide⟩⟩
theorem Uk {α:Type}{e:TypeId}{r:Ro α}{φ:AD}{h:AH}{F:List Chk}(st:St φ F h):∀n:Nat,St φ (ME e r (cU n ((none,0,0):Slc)) (cU n []) ++F) h:=by
 intro n
 induction n with
 |zero=>exact st
 |succ n ih=>exact fY e r ih
theorem Ul {α:Type}{r:Ro α}{φ:AD}:∀ {ts:List Slc}{E:List (List α)}{vs:List Value},ts.length=E.length→(∀(i:Nat) t l,ts[i]? =some t→E[i]? =some l→Ro.SliceIs r φ t l)→Ro.slc.All φ vs ts→(dS r).All φ vs E:=by
 intro ts
 induction ts with
 |nil=>
  intro E vs hl hk H;cases E with
  |nil=>cases H;exact .nil
  |cons _ _=>cases hl
 |cons t ts ih=>
  intro E vs hl hk H;cases E with
  |nil=>cases hl
  |cons l E=>
   cases H with
   | @cons x v _ _ hx hr=>
    obtain rfl:x= [sv t]:=hx;exact Ro.All.cons (a:=[_]) ⟨t,rfl,hk 0 t l rfl rfl⟩ (ih (by simpa using hl) (fun i t' l' h1 h2=>hk (i+1) t' l' (by simpa using h1) (by simpa using h2)) hr)
theorem Kk {α:Type}{r:Ro α}{φ:AD}{o:Slc}{ts:List Slc}{E:List (List α)}(hl:ts.length=E.length) (hk:∀(i:Nat) t l,ts[i]? =some t→E[i]? =some l→Ro.SliceIs r φ t l) (H:Ro.SliceIs dW φ o ts):Ro.SliceIs (dS r) φ o E:=by
 obtain ⟨g1,g2,g3,g4,vs,g5,g6⟩:=H;exact ⟨hl.symm.trans g1,g2,g3,fun hp=>List.eq_nil_of_length_eq_zero (by rw [←hl,g4 hp];rfl),vs,Ul hl hk g5,g6⟩
abbrev MW (o:Slc) (ts:List Slc) (E:List (List Int)) (Δ:List Chk):List Chk:=cR 30 dW o ts::(ME 3 (cC .i64) ts E++Δ)
section
variable {φ ψ:AD}{h:AH}{F:List Chk}{a:Addr}{t:Slc×Slc×Slc×Slc×Slc×Slc×Unit}{p:dtP}{ap:Option Addr}{A:dtA}{fz:Slc×Slc×Slc×Int×Unit}{sl:Slc}{nm lm b:Nat}{fa:dtF}{steps:List Stp}
theorem Vy {o:Slc}{ts:List Slc}{E E':List (List Int)}{Δ:List Chk}{k n:Int}{row row':List Int}{K:T}{P:BU→AH→Prop}(hl:ts.length=E.length) (h1:idx E k=some row) (h2:app row [n] =some row') (h3:DL E k row'=some E') (st:St φ (MW o ts E Δ) h)
 (hk:∀ts' h',ts'.length=E'.length→St φ (MW o ts' E' Δ) h'→K.wp bW P h'):
 (deref o.1 fun a57=>chk (0≤k∧k< (o.2.1:Nat))<|eT .slice (a57.add (cN k *1)) fun (t58:Slc)=>T.new (.cells #[(.int .i64 n)] 3 (0,0)) fun r59=>
  eU (eV #[30,30] 30 #[(sv t58),(.slice (some ⟨r59,0,none⟩) 1 1)]) (.one aS) fun (t60:Slc)=>
  deref o.1 fun a61=>chk (0≤k∧k< (o.2.1:Nat))<|eH (a61.add (cN k *1)) (sv t60)<|K).wp bW P h:=by
 obtain ⟨k0,k1,k2⟩:=CL h1;have hlt:k.toNat<ts.length:=by omega
 have hu:=bR hlt;obtain ⟨u,hu'⟩:∃u,ts[k.toNat] =u:=⟨_,rfl⟩;rw [hu']at hu;have hi:idx ts k=some u:=by rw [Jl k0 hlt,hu']
 obtain ⟨A1,cs1,ea1,hi1,r1,cl1⟩:=fZ st hi;refine AF _ ea1 (AY hi1 ?_);obtain rfl:=r1;refine AC (x:=u) (cl1 0 _ rfl) rfl<|AV (vs:=[.int .i64 n]) st ?_;intro r59 h4 s4;have cw:=fR s4;obtain ⟨rest,p1,p2⟩:=Jk (f:=cR 3 (cC .i64)) hu k2;have s5:St φ (cR 3 (cC .i64) u row::cW 3 r59 [.int .i64 n]::cR 30 dW o ts::(rest++Δ)) h4:=
  s4.perm ((bU _ (bU _ (bV Δ p1))).trans (Az 2 (cW 3 r59 [.int .i64 n]::cR 30 dW o ts::cR 3 (cC .i64) u row::(rest++Δ))))
 refine Am (r:=cC .i64) (ms:=[n]) Uh s5 rfl cw (.cons (a:=[_]) rfl .nil) rfl h2 ?_;intro t60 h6 s6;obtain ⟨e0,e1,rfl⟩:=Dr h3;have hset:DL ts k t60=some (ts.set k.toNat t60):=by unfold DL;rw [if_pos ⟨k0,by omega⟩]
 have s7:=s6.at2;obtain ⟨A2,ea2,q2⟩:=s7.there hset;refine AF _ ea2 (AY q2 (FO s7 hset rfl ea2 ?_));intro h8 s8;refine hk (ts.set k.toNat t60) h8 (by simp [hl]) ?_;have s9:=s8.at2.tail;exact s9.perm (bU _ (bV Δ (p2 t60 row').symm))
theorem Vz {K:Slc→Slc→Slc→Slc→Slc→Slc→T}{P:BU→AH→Prop}(hc:∀j v,(plV t)[j]? =some v→BI h (a.add j)=some v) (H:(K t.1 t.2.1 t.2.2.1 t.2.2.2.1 t.2.2.2.2.1 t.2.2.2.2.2.1).wp bW P h):
 (eT .slice a fun (t3:Slc)=>eT .slice (a.add 1) fun (t4:Slc)=>eT .slice (a.add 2) fun (t5:Slc)=>eT .slice (a.add 3) fun (t6:Slc)=>eT .slice (a.add 4) fun (t7:Slc)=>eT .slice (a.add 5) fun (t8:Slc)=>K t3 t4 t5 t6 t7 t8).wp bW P h:=by
 refine AC (x:=t.1) (by have:=hc 0 _ rfl;rwa [add_zero]at this) rfl<|AC (x:=t.2.1) (hc 1 _ rfl) rfl<|AC (x:=t.2.2.1) (hc 2 _ rfl) rfl<|AC (x:=t.2.2.2.1) (hc 3 _ rfl) rfl<|AC (x:=t.2.2.2.2.1) (hc 4 _ rfl) rfl<|AC (x:=t.2.2.2.2.2.1) (hc 5 _ rfl) rfl H
theorem Bk {b:Nat}{vs:List Value}(c:CV φ (some ⟨b,0,none⟩) vs) (st:St φ F h) {j:Nat}{v:Value}(hv:vs[j]? =some v):BI h ⟨b,j,none⟩=some v:=by
 have:=AE st.sub (c.at j hv)
 rwa [DX,fI]at this
set_option maxHeartbeats 4000000 in
theorem O8 (gk:Dg.Glob φ) (K:LkK φ a t ap fz sl nm lm p A fa steps) {num:List (Stp×Int)}{r:List (List Int)}(hd:GJ p A fa steps num=some r) (s0:St φ (cM Cp (cC .i64) nm num::F) h):
 CallsH bW 112 [.pointer (some a)] h (Ar fun v h'=>∃(ψ:AD) (y:Slc),Sub φ ψ∧v=((.one aS):Sh).val y∧Ro.SliceIs (dS (cC .i64)) ψ y r∧St ψ (cM Cp (cC .i64) nm num::F) h'):=by
 refine AO mixed Tryz.func112 ?_;rw [Hm];unfold E7;unfold GJ at hd;obtain ⟨e0,he0,hd⟩:=bS hd;obtain ⟨m0,m1,rfl⟩:=Mm he0;have nS:sl.2.1=steps.length:=K.ks.length;have nR:t.2.2.1.2.1=p.2.2.1.length:=K.pl.k2.length;obtain ⟨D0,hD0⟩:∃D0:List Chk,D0=cM Cp (cC .i64) nm num::F:=⟨_,rfl⟩;refine AF _ rfl<|AC (x:=sl) (K.at s0 (j:=11) rfl) rfl<|FA (r:=dW) (x:=((none,0,0):Slc)) (l:=cU (steps.length:Int).toNat ((none,0,0):Slc)) Xr s0 rfl rfl (by rw [nS];unfold Dw;rw [if_pos ⟨m0,m1⟩]) ?_;intro o h1 s1;have s2:St φ (MW o (cU (steps.length:Int).toNat ((none,0,0):Slc)) (cU (steps.length:Int).toNat []) D0) h1:=by
  rw [hD0];exact (Uk (e:=3) (r:=cC .i64) s1 _).perm (cD (l₁:=ME 3 (cC .i64) _ _))
 refine AF _ rfl<|AC (x:=sl) (K.at s2 (j:=11) rfl) rfl<|Ap (fun (y:Int×Unit) w E=>∃ψ ts,Sub φ ψ∧ts.length=E.length∧St ψ (MW o ts E D0) w) (g:=r) ?_ ?_
 ·refine CD hd (fun i (y:Int×Unit) w E=>y.1=i∧ ∃ψ ts,Sub φ ψ∧ts.length=E.length∧St ψ (MW o ts E D0) w) ((0:Int),()) rfl ⟨rfl,φ,_,bZ _,by simp,s2⟩ ?_ ?_
  ·rintro i z w E e ⟨rfl,ψ,ts,le,hl,st⟩ he h0 hlt hw;refine Aa (by rw [nS];exact decide_eq_true hlt) ?_;obtain ⟨s,hs,he⟩:=bS he;obtain ⟨A1,cs1,ea1,hi1,q1,cl1⟩:=(K.ks.mono le).get hs;refine AF _ ea1 (AY hi1 ?_);obtain ⟨_,_,rfl,rfl,rfl⟩:=q1;refine AC (x:=s.1) (AE st.sub (cl1 0 _ rfl)) rfl<|AC (x:=s.2) (by rw [Ah];exact AE st.sub (cl1 1 _ rfl)) rfl<|AV (vs:=[.int .i64 0,.int .i64 0]) st ?_;intro r11 h3 s3;refine CS (b:=r11) (j:=0) (v:=.int .i64 s.1) s3 rfl (by simp) ?_;intro h4 s4;refine CS (b:=r11) (j:=1) (v:=.int .i64 s.2) s4 rfl (by simp) ?_;intro h5 s5;obtain ⟨ψ1,le1,cB,s6⟩:=eO s5;have le01:=le.trans le1;refine AF _ rfl<|AC (x:=t.2.2.1) ((K.mono le01).at s6 (j:=2) rfl) rfl<|Ap (fun (y:Int×Unit) w E=>∃ψ ts,Sub φ ψ∧ts.length=E.length∧St ψ (MW o ts E D0) w) (g:=e) ?_ ?_
   ·refine CD he (fun i (y:Int×Unit) w E=>y.1=i∧ ∃ψ ts,Sub ψ1 ψ∧ts.length=E.length∧St ψ (MW o ts E D0) w) ((0:Int),()) rfl ⟨rfl,ψ1,ts,bZ _,hl,s6⟩ ?_ ?_
    ·rintro i2 z2 w2 E2 e2 ⟨rfl,ψ2,ts2,le2,hl2,st2⟩ he2 h02 hlt2 hw2;have le02:=le01.trans le2;refine Aa (by rw [nR];exact decide_eq_true hlt2) ?_;obtain ⟨ru,hr1,he2⟩:=bS he2;refine Ap (fun (_:Unit) w (_:Unit)=>∃ψ ts,Sub ψ1 ψ∧ts.length=e2.length∧St ψ (MW o ts e2 D0) w) (g:=()) ?_ ?_
     ·refine Mb (K.pl.k2.mono le02) hr1 st2 ?_;intro r21 u h7 ku s7;obtain ⟨ψ3,le3,cR1,s8⟩:=eO s7;have ku:=ku.mono le3;have le03:=le02.trans le3;have cB3:=cB.mono (le2.trans le3);refine AC (x:=ru.1) (Bk cR1 s8 (j:=0) rfl) rfl<|AC (x:=s.2) (Bk cB3 s8 (j:=1) rfl) rfl<|AK he2 rfl (fun _ he2=> ?_) (fun _ he2=> ?_)
      ·obtain rfl:=iS he2;exact Mk () rfl ⟨ψ3,ts2,le2.trans le3,hl2,s8⟩
      ·obtain ⟨zz,hzz,he2⟩:=bS he2;obtain rfl:=iS he2;refine AC (x:=s.1) (Bk cB3 s8 (j:=0) rfl) rfl<|AC (x:=u) (Bk cR1 s8 (j:=1) rfl) rfl ?_;have nu:=ku.length;refine Ap (fun (y:Int×Int×Unit) w (g:Int×List (List Int))=>∃ψ ts,Sub ψ1 ψ∧ts.length=g.2.length∧St ψ (MW o ts g.2 D0) w) (g:=zz) ?_ ?_
       ·refine CD hzz (fun i (y:Int×Int×Unit) w (g:Int×List (List Int))=>y.1=i∧y.2.1=g.1∧ ∃ψ ts,Sub ψ3 ψ∧ts.length=g.2.length∧St ψ (MW o ts g.2 D0) w) ((0:Int),s.1,()) rfl ⟨rfl,rfl,ψ3,ts2,bZ _,hl2,s8⟩ ?_ ?_
        ·rintro i4 z4 w4 ⟨g1,E4⟩ e4 ⟨rfl,hg,ψ4,ts4,le4,hl4,st4⟩ he4 h04 hlt4 hw4;dsimp only at hg hl4 st4 he4;subst hg;have le04:=le03.trans le4;unfold Ui at he4;refine Aa (by rw [nu];exact decide_eq_true hlt4) ?_;obtain ⟨sym,hsy,he4⟩:=bS he4;obtain ⟨_,he4⟩:=Br he4;obtain ⟨sq,hsq,he4⟩:=bS he4;obtain ⟨bb,hbb,he4⟩:=bS he4;obtain ⟨E',hE',he4⟩:=bS he4;obtain ⟨so,hso,he4⟩:=bS he4;obtain rfl:=iS he4;obtain ⟨A4,cs4,ea4,hi4,q4,cl4⟩:=(ku.mono le4).get hsy;refine AF _ ea4 (AY hi4 ?_);obtain rfl:=q4;refine AC (x:=sym) (AE st4.sub (cl4 0 _ rfl)) rfl<|AF _ rfl ?_;have K4:=K.mono le04;refine AC (x:=fz.1) (K4.at st4 (j:=7) rfl) rfl<|AC (x:=fz.2.1) (by rw [Ah];exact K4.at st4 (j:=8) rfl) rfl<|AC (x:=fz.2.2.1) (by rw [Ah];exact K4.at st4 (j:=9) rfl) rfl<|AC (x:=fz.2.2.2.1) (by rw [Ah];exact K4.at st4 (j:=10) rfl) rfl<|AF _ rfl (Vz (K4.pv st4) ?_);refine AC (x:=u) (Bk (cR1.mono le4) st4 (j:=1) rfl) rfl ?_;obtain ⟨q5,kt⟩:=(ku.mono le4).cut (Oj (ku.mono le4) (lo:=bT .i64 (z4.1+1)) (by rw [hw4];omega) (by rw [hw4];omega)) (sz:=1) rfl;refine AY q5 ?_;rw [←hw4]at hsq;refine AI (KG (f_0:=fz) (p_1:=t) (gk.mono le04) K4.f0 K4.f1 K4.f2 K4.pl.k0 K4.pl.k1 K4.pl.k2 K4.pl.k3 K4.pl.k4 K4.pl.k5 kt st4 (r:=sq) (by rw [K4.f3];exact hsq)) ?_;rintro _ h9 ⟨ψ5,y5,l5,le5,rfl,e5,k5,st5⟩;refine ⟨y5,rfl,?_⟩;have e5':sq.2=y5.2.1:=by rw [←e5]
         rw [e5']at hbb;have le05:=le04.trans le5;refine Aj (fun (y:Bool×Unit) w g=>y.1=g∧ ∃ψ,Sub ψ5 ψ∧St ψ (MW o ts4 E4 D0) w) (g:=bb) ?_ ?_
         ·refine AK hbb rfl (fun _ hbb=> ?_) (fun _ hbb=> ?_)
          ·obtain ⟨tm,htm,hbb⟩:=bS hbb;obtain rfl:=iS hbb;refine AF _ rfl (O4 ((K.mono le05).pv st5) (K.mono le05).pl st5 htm ?_);intro ψ6 h6 le6 s6;exact AQ (!tm,()) rfl ⟨rfl,ψ6,le6,s6⟩
          ·obtain rfl:=iS hbb;exact AQ (false,()) rfl ⟨rfl,ψ5,bZ _,st5⟩
         ·rintro y h10 ⟨hy,ψ6,le6,s6⟩;obtain rfl:=hy;have le06:=le05.trans le6;refine Aj (fun (_:Unit) w g=>∃ts,ts.length=g.length∧St ψ6 (MW o ts g D0) w) (g:=E') ?_ ?_
          ·refine AK hE' rfl (fun _ hE'=> ?_) (fun _ hE'=> ?_)
           ·obtain ⟨row,hrow,hE'⟩:=bS hE';obtain ⟨row',hrow',hE'⟩:=bS hE';refine AF _ rfl<|AC (x:=some nm) ((K.mono le06).at s6 (j:=12) rfl) rfl ?_;have sM:St ψ6 (cM Cp (cC .i64) nm num::(cR 30 dW o ts4::(ME 3 (cC .i64) ts4 E4++F))) h10:=by
             rw [hD0]at s6;exact s6.perm ((bU _ (cD (l₁:=ME 3 (cC .i64) ts4 E4))).trans (cE _ _ _))
            refine GF (kk:=Cp) (a:=.int .i64) (k:=(z4.2.1,sym)) (m:=num) (0:Int) Tryz.underlying135 O6 (i:=Tryz.t3) (by kernel_rfl) rfl sM<|Vy hl4 hrow hrow' hE' s6 ?_;intro ts' h11 hl' s11;exact AQ () rfl ⟨ts',hl',s11⟩
           ·obtain rfl:=iS hE';exact AQ () rfl ⟨ts4,hl4,s6⟩
          ·rintro _ h11 ⟨ts5,hl5,s11⟩;refine AF _ rfl<|AC (x:=ap) ((K.mono le06).at s11 (j:=6) rfl) rfl<|AI (DE (K.mono le06).kA s11 hso) ?_;rintro _ h12 ⟨ψ7,y7,le7,rfl,rfl,s12⟩;refine ⟨y7,rfl,?_⟩;exact Ad (bT .i64 (z4.1+(1:Int)),y7,()) _ rfl rfl ⟨hw4,rfl,ψ7,ts5,((le4.trans le5).trans le6).trans le7,hl5,s12⟩
        ·rintro i4 z4 w4 ⟨rfl,hg,ψ4,ts4,le4,H⟩ hge;refine AT (by rw [nu];exact decide_eq_false (Int.not_lt.2 hge))<|AJ (AL z4 rfl ⟨ψ4,ts4,(le2.trans le3).trans le4,H⟩)
       ·rintro _ h9 H;exact Lc () rfl H
     ·rintro _ h9 H;exact Ad (bT .i64 (z2.1+(1:Int)),()) _ rfl rfl ⟨hw2,H⟩
    ·rintro i2 z2 w2 ⟨rfl,ψ2,ts2,le2,H⟩ hge;refine AT (by rw [nR];exact decide_eq_false (Int.not_lt.2 hge))<|AJ (AL z2 rfl ⟨ψ2,ts2,le01.trans le2,H⟩)
   ·rintro _ h9 H;exact Ad (bT .i64 (z.1+(1:Int)),()) _ rfl rfl ⟨hw,H⟩
  ·rintro i z w ⟨rfl,H⟩ hge;refine AT (by rw [nS];exact decide_eq_false (Int.not_lt.2 hge))<|AJ (AL z rfl H)
 ·rintro _ h9 ⟨ψ,ts,le,hl,st⟩;obtain ⟨ψ1,le1,k1,st1⟩:=cH (t:=o) st;obtain ⟨ψ2,le2,k2,st2⟩:=fD hl st1;rw [hD0]at st2;exact AB ⟨ψ2,o,(le.trans le1).trans le2,rfl,Kk hl k2 (k1.mono le2),st2⟩
end
abbrev At:Type:=XZ
def mz (ps:List (Option Addr)) (L:List (At×AU)):List (At×Option Addr):=fJ (fun p e=>(e.1,p)) ps L
theorem Rx {k:At}:∀ {ps:List (Option Addr)}{L:List (At×AU)},BG k L=none→BG k (mz ps L)=none:=by
 intro ps
 induction ps with
 |nil=>intro L _;rfl
 |cons p ps ih=>
  intro L h;cases L with
  |nil=>rfl
  |cons e L=>
   simp only [BG]at h;split at h
   ·cases h
   ·rename_i hk
    show BG k ((e.1,p)::mz ps L)=none;simp only [BG];rw [if_neg hk];exact ih h
theorem QF {k:At}{s:AU}{p:Option Addr}:∀ {ps:List (Option Addr)}{L:List (At×AU)},ps.length=L.length→BG k L=none→Bt k s L=L++ [(k,s)] ∧Bt k p (mz ps L)=mz (ps++ [p]) (L++ [(k,s)]):=by
 intro ps
 induction ps with
 |nil=>
  intro L hl _;cases L with
  |nil=>exact ⟨rfl,rfl⟩
  |cons _ _=>cases hl
 |cons q ps ih=>
  intro L hl h;cases L with
  |nil=>cases hl
  |cons e L=>
   simp only [BG]at h;split at h
   ·cases h
   ·rename_i hk
    obtain ⟨h1,h2⟩:=ih (L:=L) (by simpa using hl) h;refine ⟨?_,?_⟩
    ·simp only [Bt,if_neg hk,h1];rfl
    ·show Bt k p ((e.1,q)::mz ps L)=(e.1,q)::mz (ps++ [p]) (L++ [(k,s)]);simp only [Bt,if_neg hk,h2]
theorem Mc {k:At}{s:AU}:∀ {ps:List (Option Addr)}{L:List (At×AU)},ps.length=L.length→BG k L=some s→
 ∃(i:Nat) (p:Option Addr),ps[i]? =some p∧(L.map (·.2))[i]? =some s∧BG k (mz ps L)=some p∧(∀s',(Bt k s' L).map (·.2)=(L.map (·.2)).set i s'∧mz ps (Bt k s' L)=mz ps L∧(Bt k s' L).length=L.length)∧ ∀s' p',Bt k p' (mz ps L)=mz (ps.set i p') (Bt k s' L):=by
 intro ps
 induction ps with
 |nil=>
  intro L hl h;cases L with
  |nil=>cases h
  |cons _ _=>cases hl
 |cons q ps ih=>
  intro L hl h;cases L with
  |nil=>cases hl
  |cons e L=>
   simp only [BG]at h;split at h
   ·rename_i hk
    cases h;refine ⟨0,q,rfl,rfl,?_,fun s'=> ?_,fun s' p'=> ?_⟩
    ·show BG k ((e.1,q)::mz ps L)=some q;simp only [BG,if_pos hk]
    ·simp only [Bt,if_pos hk];exact ⟨rfl,rfl,rfl⟩
    ·show Bt k p' ((e.1,q)::mz ps L)=mz (p'::ps) (Bt k s' (e::L));simp only [Bt,if_pos hk];rfl
   ·rename_i hk
    obtain ⟨i,p,h1,h2,h3,h4,h5⟩:=ih (L:=L) (by simpa using hl) h;refine ⟨i+1,p,by simpa using h1,by simpa using h2,?_,fun s'=> ?_,fun s' p'=> ?_⟩
    ·show BG k ((e.1,q)::mz ps L)=some p;simp only [BG,if_neg hk];exact h3
    ·obtain ⟨g1,g2,g3⟩:=h4 s';simp only [Bt,if_neg hk,fE,fG,List.length_cons];refine ⟨by rw [g1],?_,by rw [g3]⟩;show (e.1,q)::mz ps (Bt k s' L)=(e.1,q)::mz ps L;rw [g2]
    ·show Bt k p' ((e.1,q)::mz ps L)=mz (q::ps.set i p') (Bt k s' (e::L));simp only [Bt,if_neg hk];show (e.1,q)::Bt k p' (mz ps L)=(e.1,q)::mz (ps.set i p') (Bt k s' L);rw [h5 s']
abbrev LkL:Type:=List (At×AU)
noncomputable def QG (p:dtP) (A:dtA) (fo:List AU) (n:Int) (s:Stp) (k:Int) (L:LkL):Option LkL:=(idx p.2.2.1 k).bind fun r=>cond (r.1 !=s.2) (some L) ((Bq A s.1 r.2.1).bind fun w=>(cond (BG (w,k) L).isNone ((Bm (nT p)).bind fun s0=>some (Bt (w,k) s0 L)) (some L)).bind fun L'=>(idx fo n).bind fun o=>(BG (w,k) L').bind fun s'=>need (OkS s'∧OkS o)<|some (Bt (w,k) (BC s' o) L'))
noncomputable def OL (p:dtP) (A:dtA) (fa:dtF) (steps:List Stp) (fo:List AU):Option LkL:=(forS (σ:=LkL) 0 (steps.length:Int) [] fun n L=>(idx steps n).bind fun s=>forS (σ:=LkL) 0 (p.2.2.1.length:Int) L fun k L=>QG p A fo n s k L).bind fun L=>(BW A).bind fun m=>forS (σ:=LkL) 0 m L fun n L=>(BX (lkT p A fa steps none none) n 0).bind fun b=>cond b ((Cd (nT p) [0]).bind fun s=>some (Bt (n,0) s L)) (some L)
abbrev giC (lm:Nat) (ps:List (Option Addr)) (L:LkL) (Δ:List Chk):List Chk:=cM Cp eA lm (mz ps L)::(AP ps (L.map (·.2)) ++Δ)
section
variable {φ ψ:AD}{h:AH}{F:List Chk}{a:Addr}{t:Slc×Slc×Slc×Slc×Slc×Slc×Unit}{p:dtP}{ap:Option Addr}{A:dtA}{fz:Slc×Slc×Slc×Int×Unit}{sl:Slc}{nm lm b:Nat}{fa:dtF}{steps:List Stp}
theorem OM {φ:AD}{h:AH}{F:List Chk}{p:Option Addr}{s:AU}(H:St φ (BM p s::F) h):p.isNone=false:=by
 obtain ⟨b,e⟩:=St.ptr H;rw [e];rfl
theorem Um {ps:List (Option Addr)}{L:LkL}{Δ:List Chk}{k:At}{q:Option Addr}{s:AU}(hl:ps.length=L.length) (st:St φ (cM Cp eA lm (Bt k q (mz ps L))::BM q s::(AP ps (L.map (·.2)) ++Δ)) h):
 ∃ps',ps'.length=(Bt k s L).length∧St φ (giC lm ps' (Bt k s L) Δ) h:=by
 cases hg:BG k L with
 |none=>
  obtain ⟨h1,h2⟩:=QF (s:=s) (p:=q) hl hg;refine ⟨ps++ [q],by rw [h1];simp [hl],?_⟩;rw [h2]at st;have e:AP (ps++ [q]) ((Bt k s L).map (·.2))=AP ps (L.map (·.2)) ++ [BM q s]:=by
   rw [h1,dG];exact Jo (by simpa using hl) q s
  show St φ (cM Cp eA lm (mz (ps++ [q]) (Bt k s L))::(AP (ps++ [q]) ((Bt k s L).map (·.2)) ++Δ)) h;rw [e,cF,h1];exact st.perm (bU _ (cD (l₁:=AP ps (L.map (·.2)))).symm)
 |some s0=>
  obtain ⟨i,p0,h1,h2,h3,h4,h5⟩:=Mc hl hg;obtain ⟨g1,g2,g3⟩:=h4 s;refine ⟨ps.set i q,by simp [g3,hl],?_⟩;rw [h5 s q]at st;obtain ⟨rest,r1,r2⟩:=IB h1 h2;show St φ (cM Cp eA lm (mz (ps.set i q) (Bt k s L))::(AP (ps.set i q) ((Bt k s L).map (·.2)) ++Δ)) h;rw [g1];have st2:=st.perm (bU _ (bU _ (bV Δ r1)));have st3:=st2.at2.tail;exact st3.perm (bU _ (bV Δ (r2 q s).symm))
noncomputable def Un (l_0 f_p:Option Addr) (f_n:Nat) (n:Int) (r26:Nat):T:=deref l_0 fun a27=>bP a27 13 fun t28=>aR r26 0 fun t29=>aR r26 1 fun t30=>eU (Instr.lookup 136 (.map t28) (.agg #[(.int .i64 t29),(.int .i64 t30)]) false) (.one aP) fun (t31:Option Addr)=>dK [] (cond (dL t31) (deref l_0 fun a33=>bP a33 13 fun t34=>aR r26 0 fun t35=>aR r26 1 fun t36=>deref l_0 fun a37=>bM a37 fun t38=>cI 138 [(.int .i64 (t38.2.1:Int))] (.one aP) fun (t39:Option Addr)=>bQ r26 0 t35<|bQ r26 1 t36<|T.still (a33.add 13) (.map t34)<|eU (Sem.bind (Instr.mapUpdate 136 (.map t34) (.agg #[(.int .i64 t35),(.int .i64 t36)]) (.pointer t39)) fun _=>.pure undef) (.tuple []) fun (_:Unit)=>cG []) (cG [])) fun (_:Unit)=>deref l_0 fun a41=>bP a41 13 fun t42=>aR r26 0 fun t43=>aR r26 1 fun t44=>deref f_p fun a45=>chk (0≤n∧n< (f_n:Nat))<|bJ a45 n 1 fun t46=>eU (Instr.lookup 136 (.map t42) (.agg #[(.int .i64 t43),(.int .i64 t44)]) false) (.one aP) fun (t47:Option Addr)=>T.still (a45.add (cN n *1)) (.pointer t46)<|cI 139 [(.pointer t47),(.pointer t46)] (.one aB) fun (_:Bool)=>cG []
set_option maxHeartbeats 2000000 in
theorem Uo (gk:Dg.Glob φ) (K:LkK φ a t ap fz sl nm lm p A fa steps) {fs:Slc}{qs:List (Option Addr)}{fo:List AU}(kf:Ro.SliceIs eA φ fs qs) (hq:qs.length=fo.length) {n w k:Int}{r26:Nat}(cB:CV φ (some ⟨r26,0,none⟩) [.int .i64 w,.int .i64 k]) {L L':LkL}{o s':AU}{ps:List (Option Addr)}{Δ:List Chk}{P:BU→AH→Prop}
 (hL:cond (BG (w,k) L).isNone ((Bm (nT p)).bind fun s0=>some (Bt (w,k) s0 L)) (some L)=some L') (ho:idx fo n=some o) (hs:BG (w,k) L'=some s') (ok:OkS s'∧OkS o) (hl:ps.length=L.length) (st:St φ (giC lm ps L (AP qs fo++Δ)) h)
 (hk:∀ψ ps' h',Sub φ ψ→ps'.length=(Bt (w,k) (BC s' o) L').length→St ψ (giC lm ps' (Bt (w,k) (BC s' o) L') (AP qs fo++Δ)) h'→P (.out []) h'):(Un (some a) fs.1 fs.2.1 n r26).wp bW P h:=by
 unfold Un;have n0:t.1.2.1=p.1.length:=K.pl.k0.length;refine AF _ rfl<|AC (x:=some lm) (K.at st (j:=13) rfl) rfl<|AC (x:=w) (Bk cB st (j:=0) rfl) rfl<|AC (x:=k) (Bk cB st (j:=1) rfl) rfl<|GF (kk:=Cp) (a:=.pointer) (k:=(w,k)) (m:=mz ps L) (none:Option Addr) dO QE (i:=fU) (by kernel_rfl) rfl st<|Aj (fun (_:Unit) wd g=>∃ψ ps',Sub φ ψ∧ps'.length=g.length∧St ψ (giC lm ps' g (AP qs fo++Δ)) wd) (g:=L') ?_ ?_
 ·cases hg:BG (w,k) L with
  |none=>
   rw [hg]at hL;obtain ⟨s0,h0,hL⟩:=bS (show ((Bm (nT p)).bind fun s0=>some (Bt (w,k) s0 L))=some L' from hL);obtain rfl:=iS hL;rw [Rx hg];refine Aa rfl<|AF _ rfl<|AC (x:=some lm) (K.at st (j:=13) rfl) rfl<|AC (x:=w) (Bk cB st (j:=0) rfl) rfl<|AC (x:=k) (Bk cB st (j:=1) rfl) rfl<|AF _ rfl<|AC (x:=t.1) (by have:=K.at st (j:=0) rfl;rwa [add_zero]at this) rfl ?_;rw [n0];refine AI (Df st h0) ?_;rintro _ h2 ⟨ψ2,q,l2,le2,rfl,rfl,s2⟩;refine ⟨q,rfl,?_⟩;refine AM (Bk (cB.mono le2) s2 (j:=0) rfl)<|AM (Bk (cB.mono le2) s2 (j:=1) rfl)<|AM ((K.mono le2).at s2 (j:=13) rfl)<|I7 (kk:=Cp) (k:=(w,k)) (y:=q) dO QE s2.at1 rfl ?_;intro h3 s3;obtain ⟨ps',g1,g2⟩:=Um hl s3;exact AQ () rfl ⟨ψ2,ps',le2,g1,g2⟩
  |some s0=>
   rw [hg]at hL;obtain rfl:=iS (show some L=some L' from hL);obtain ⟨i,p0,h1,h2,h3,h4,h5⟩:=Mc hl hg;obtain ⟨rest,r1,_⟩:=IB h1 h2;have hp:p0.isNone=false:=OM (st.tail.perm (bV (AP qs fo++Δ) r1));rw [h3];refine AT hp<|AQ () rfl ⟨φ,ps,bZ _,hl,st⟩
 ·rintro _ h4 ⟨ψ4,ps',le4,hl',s4⟩;obtain ⟨i0,i1,i2⟩:=CL ho;have hlt:n.toNat<qs.length:=by omega
  have hqn:=bR hlt;obtain ⟨i,p0,h1,h2,h3,h5,h6⟩:=Mc hl' hs;refine AF _ rfl<|AC (x:=some lm) ((K.mono le4).at s4 (j:=13) rfl) rfl<|AC (x:=w) (Bk (cB.mono le4) s4 (j:=0) rfl) rfl<|AC (x:=k) (Bk (cB.mono le4) s4 (j:=1) rfl) rfl ?_;obtain ⟨A1,cs1,ea1,hi1,r1,cl1⟩:=(kf.mono le4).get (Jl i0 hlt);refine AF _ ea1 (AY hi1 ?_);obtain rfl:=r1;refine AC (x:=qs[n.toNat]) (AE s4.sub (cl1 0 _ rfl)) rfl<|GF (kk:=Cp) (a:=.pointer) (k:=(w,k)) (m:=mz ps' L') (none:Option Addr) dO QE (i:=fU) (by kernel_rfl) rfl s4 ?_;rw [h3];refine AM (AE s4.sub (cl1 0 _ rfl)) ?_;obtain ⟨rq,b1,_⟩:=ED hqn i2;obtain ⟨M,hM⟩:∃M:Chk,M=cM Cp eA lm (mz ps' L'):=⟨_,rfl⟩;have s5:St ψ4 (BM qs[n.toNat] o::(AP ps' (L'.map (·.2)) ++(M::(rq++Δ)))) h4:=by
   have s4':St ψ4 (M::(AP ps' (L'.map (·.2)) ++(AP qs fo++Δ))) h4:=by rw [hM];exact s4
   refine s4'.perm<|(bU M (cP _ (bV Δ b1))).trans<|(bU M (cD (l₁:=AP ps' (L'.map (·.2))))).trans ((cE _ _ _).trans (bU _ (cD (l₁:=AP ps' (L'.map (·.2)))).symm))
  refine AI (Ps (gk.mono le4) h2 h1 ok s5) ?_;rintro _ h7 ⟨ψ7,le7,rfl,s7⟩;refine ⟨_,rfl,?_⟩;obtain ⟨g1,g2,g3⟩:=h5 (BC s' o);refine hk ψ7 ps' h7 (le4.trans le7) (by rw [g3];exact hl') ?_;show St ψ7 (cM Cp eA lm (mz ps' (Bt (w,k) (BC s' o) L'))::(AP ps' ((Bt (w,k) (BC s' o) L').map (·.2)) ++(AP qs fo++Δ))) h7;rw [g1,g2,←hM];refine s7.perm<|((bU _ (cD (l₁:=AP ps' ((L'.map (·.2)).set i (BC s' o))))).trans (cE _ _ _)).trans (bU M ?_);exact (cD (l₁:=AP ps' ((L'.map (·.2)).set i (BC s' o)))).symm.trans (cP _ (bV Δ b1.symm))
end
section
variable {φ ψ:AD}{h:AH}{F:List Chk}{a:Addr}{t:Slc×Slc×Slc×Slc×Slc×Slc×Unit}{p:dtP}{ap:Option Addr}{A:dtA}{fz:Slc×Slc×Slc×Int×Unit}{sl:Slc}{nm lm b:Nat}{fa:dtF}{steps:List Stp}
theorem O9 (lm:Nat) (ps:List (Option Addr)) (L:LkL) (Δ M:List Chk):giC lm ps L Δ++M=giC lm ps L (Δ++M):=by
 unfold giC;rw [List.cons_append,cF]
set_option maxHeartbeats 4000000 in
theorem Up (gk:Dg.Glob φ) (K:LkK φ a t ap fz sl nm lm p A fa steps) {fs:Slc}{qs:List (Option Addr)}{fo:List AU}(kf:Ro.SliceIs eA φ fs qs) (hq:qs.length=fo.length) {r:LkL}(hd:OL p A fa steps fo=some r) (s0:St φ (giC lm [] [] (AP qs fo++F)) h):
 CallsH bW 110 [.pointer (some a),sv fs] h (Ar fun v h'=>v= .tuple #[] ∧ ∃(ψ:AD) (ps:List (Option Addr)),Sub φ ψ∧ps.length=r.length∧St ψ (giC lm ps r (AP qs fo++F)) h'):=by
 refine AO mixed Tryz.func110 ?_;rw [KC];unfold G9;unfold OL at hd;obtain ⟨L1,hL1,hd⟩:=bS hd;obtain ⟨mm,hmm,hd⟩:=bS hd;have nS:sl.2.1=steps.length:=K.ks.length;have nR:t.2.2.1.2.1=p.2.2.1.length:=K.pl.k2.length;have n0:t.1.2.1=p.1.length:=K.pl.k0.length;refine AF _ rfl<|AC (x:=sl) (K.at s0 (j:=11) rfl) rfl<|Ap (fun (y:Int×Unit) w L=>∃ψ ps,Sub φ ψ∧ps.length=cJ L∧St ψ (giC lm ps L (AP qs fo++F)) w) (g:=L1) ?_ ?_
 ·refine CD hL1 (fun i (y:Int×Unit) w L=>y.1=i∧ ∃ψ ps,Sub φ ψ∧ps.length=cJ L∧St ψ (giC lm ps L (AP qs fo++F)) w) ((0:Int),()) rfl ⟨rfl,φ,[],bZ _,rfl,s0⟩ ?_ ?_
  ·rintro i z w L e ⟨rfl,ψ,ps,le,hl,st⟩ he h0 hlt hw;refine Aa (by rw [nS];exact decide_eq_true hlt) ?_;obtain ⟨s,hs,he⟩:=bS he;obtain ⟨A1,cs1,ea1,hi1,q1,cl1⟩:=(K.ks.mono le).get hs;refine AF _ ea1 (AY hi1 ?_);obtain ⟨_,_,rfl,rfl,rfl⟩:=q1;refine AC (x:=s.1) (AE st.sub (cl1 0 _ rfl)) rfl<|AC (x:=s.2) (by rw [Ah];exact AE st.sub (cl1 1 _ rfl)) rfl<|AV (vs:=[.int .i64 0,.int .i64 0]) st ?_;intro r8 h3 s3;refine CS (b:=r8) (j:=0) (v:=.int .i64 s.1) s3 rfl (by simp) ?_;intro h4 s4;refine CS (b:=r8) (j:=1) (v:=.int .i64 s.2) s4 rfl (by simp) ?_;intro h5 s5;obtain ⟨ψ1,le1,cB,s6⟩:=eO s5;have le01:=le.trans le1;refine AF _ rfl<|AC (x:=t.2.2.1) ((K.mono le01).at s6 (j:=2) rfl) rfl<|Ap (fun (y:Int×Unit) w L=>∃ψ ps,Sub φ ψ∧ps.length=cJ L∧St ψ (giC lm ps L (AP qs fo++F)) w) (g:=e) ?_ ?_
   ·refine CD he (fun i (y:Int×Unit) w L=>y.1=i∧ ∃ψ ps,Sub ψ1 ψ∧ps.length=cJ L∧St ψ (giC lm ps L (AP qs fo++F)) w) ((0:Int),()) rfl ⟨rfl,ψ1,ps,bZ _,hl,s6⟩ ?_ ?_
    ·rintro i2 z2 w2 L2 e2 ⟨rfl,ψ2,ps2,le2,hl2,st2⟩ he2 h02 hlt2 hw2;have le02:=le01.trans le2;unfold QG at he2;refine Aa (by rw [nR];exact decide_eq_true hlt2) ?_;obtain ⟨ru,hr1,he2⟩:=bS he2;refine Ap (fun (_:Unit) w (_:Unit)=>∃ψ ps,Sub ψ1 ψ∧ps.length=cJ e2∧St ψ (giC lm ps e2 (AP qs fo++F)) w) (g:=()) ?_ ?_
     ·refine Mb (K.pl.k2.mono le02) hr1 st2 ?_;intro r18 u h7 ku s7;obtain ⟨ψ3,le3,cR1,s8⟩:=eO s7;have ku:=ku.mono le3;have le03:=le02.trans le3;have le13:=le2.trans le3;have cB3:=cB.mono le13;have K3:=K.mono le03;refine AC (x:=ru.1) (Bk cR1 s8 (j:=0) rfl) rfl<|AC (x:=s.2) (Bk cB3 s8 (j:=1) rfl) rfl<|AK he2 rfl (fun _ he2=> ?_) (fun _ he2=> ?_)
      ·obtain rfl:=iS he2;exact Mk () rfl ⟨ψ3,ps2,le13,hl2,s8⟩
      ·obtain ⟨wk,hwk,he2⟩:=bS he2;obtain ⟨L',hL',he2⟩:=bS he2;obtain ⟨o,ho,he2⟩:=bS he2;obtain ⟨s',hs',he2⟩:=bS he2;obtain ⟨ok,he2⟩:=Br he2;obtain rfl:=iS he2;refine AF _ rfl<|AC (x:=ap) (K3.at s8 (j:=6) rfl) rfl<|AC (x:=s.1) (Bk cB3 s8 (j:=0) rfl) rfl<|AC (x:=u) (Bk cR1 s8 (j:=1) rfl) rfl ?_;have fin:∀ {ψ5:AD} {h9:AH} {r26:Nat},Sub ψ3 ψ5→CV ψ5 (some ⟨r26,0,none⟩) [.int .i64 wk,.int .i64 z2.1] →St ψ5 (giC lm ps2 L2 (AP qs fo++F)) h9→ ∀ {P:BU→AH→Prop},
        (∀(ψ:AD) (ps':List (Option Addr)) (h':AH),Sub ψ1 ψ→ps'.length=cJ (Bt (wk,z2.1) (BC s' o) L')→St ψ (giC lm ps' (Bt (wk,z2.1) (BC s' o) L') (AP qs fo++F)) h'→P (.out []) h')→
        (Un (some a) fs.1 fs.2.1 z.1 r26).wp bW P h9:=by
        intro ψ5 h9 r26 le5 cX st9 P hP;refine Uo (gk.mono (le03.trans le5)) (K3.mono le5) (kf.mono (le03.trans le5)) hq cX hL' ho hs' ok hl2 st9 ?_;intro ψ6 ps' h10 le6 hl6 st10;exact hP ψ6 ps' h10 ((le13.trans le5).trans le6) hl6 st10
       refine Eb ?_ ?_
       ·refine AI (Di K3.kA ku s8 hwk) ?_;rintro _ h9 ⟨ψ4,y4,le4,rfl,rfl,s9⟩;refine ⟨y4,rfl,?_⟩;refine AV (vs:=[.int .i64 0,.int .i64 0]) s9 ?_;intro r26 h10 s10;refine CS (b:=r26) (j:=0) (v:=.int .i64 y4) s10 rfl (by simp) ?_;intro h11 s11;refine CS (b:=r26) (j:=1) (v:=.int .i64 z2.1) s11 rfl (by simp) ?_;intro h12 s12;obtain ⟨ψ5,le5,cX,s13⟩:=eO s12;refine fin (le4.trans le5) cX s13 ?_;intro ψ6 ps' h13 le6 hl6 s14;exact ⟨(),rfl,ψ6,ps',le6,hl6,s14⟩
       ·refine AV (vs:=[.int .i64 0,.int .i64 0]) s8 ?_;intro r49 h9 s9;refine AM (Bk cR1 s9 (j:=1) rfl)<|AM (Bk cB3 s9 (j:=0) rfl)<|AM (K3.at s9 (j:=6) rfl)<|AI (Di K3.kA ku s9 hwk) ?_;rintro _ h10 ⟨ψ4,y4,le4,rfl,rfl,s10⟩;refine ⟨y4,rfl,?_⟩;refine CS (b:=r49) (j:=0) (v:=.int .i64 y4) s10 rfl (by simp) ?_;intro h11 s11;refine CS (b:=r49) (j:=1) (v:=.int .i64 z2.1) s11 rfl (by simp) ?_;intro h12 s12;obtain ⟨ψ5,le5,cX,s13⟩:=eO s12;refine fin (le4.trans le5) cX s13 ?_;intro ψ6 ps' h13 le6 hl6 s14;exact ⟨(),rfl,ψ6,ps',le6,hl6,s14⟩
     ·rintro _ h9 H;exact Ad (bT .i64 (z2.1+(1:Int)),()) _ rfl rfl ⟨hw2,H⟩
    ·rintro i2 z2 w2 ⟨rfl,ψ2,ps2,le2,H⟩ hge;refine AT (by rw [nR];exact decide_eq_false (Int.not_lt.2 hge))<|AJ (AL z2 rfl ⟨ψ2,ps2,le01.trans le2,H⟩)
   ·rintro _ h9 H;exact Ad (bT .i64 (z.1+(1:Int)),()) _ rfl rfl ⟨hw,H⟩
  ·rintro i z w ⟨rfl,H⟩ hge;refine AT (by rw [nS];exact decide_eq_false (Int.not_lt.2 hge))<|AJ (AL z rfl H)
 ·rintro _ h1 ⟨ψ1,ps1,le1,hl1,st1⟩;have K1:=K.mono le1;refine AF _ rfl<|AC (x:=ap) (K1.at st1 (j:=6) rfl) rfl<|AI (CY K1.kA st1 hmm) ?_;rintro _ h2 ⟨ψ2,y2,le2,rfl,rfl,st2⟩;refine ⟨y2,rfl,?_⟩;have le02:=le1.trans le2;refine Ap (fun (y:Int×Unit) w L=>∃ψ ps,Sub φ ψ∧ps.length=cJ L∧St ψ (giC lm ps L (AP qs fo++F)) w) (g:=r) ?_ ?_
  ·refine CD hd (fun i (y:Int×Unit) w L=>y.1=i∧ ∃ψ ps,Sub φ ψ∧ps.length=cJ L∧St ψ (giC lm ps L (AP qs fo++F)) w) ((0:Int),()) rfl ⟨rfl,ψ2,ps1,le02,hl1,st2⟩ ?_ ?_
   ·rintro i z w L e ⟨rfl,ψ,ps,le,hl,st⟩ he h0 hlt hw;refine Aa (decide_eq_true hlt) ?_;obtain ⟨bd,hbd,he⟩:=bS he;have K3:=K.mono le;refine AI (D6 K3.pt st (show BX (lkT p A fa steps (some nm) (some lm)) z.1 0=some bd from hbd)) ?_;rintro _ h3 ⟨ψ3,y3,le3,rfl,rfl,st3⟩;refine ⟨y3,rfl,?_⟩;have le03:=le.trans le3;refine Aj (fun (_:Unit) w L=>∃ψ ps,Sub φ ψ∧ps.length=cJ L∧St ψ (giC lm ps L (AP qs fo++F)) w) (g:=e) ?_ ?_
    ·refine AK he rfl (fun _ he=> ?_) (fun _ he=> ?_)
     ·obtain ⟨sn,hsn,he⟩:=bS he;obtain rfl:=iS he;refine AF _ rfl<|AC (x:=some lm) ((K.mono le03).at st3 (j:=13) rfl) rfl<|AF _ rfl<|AC (x:=t.1) (by have:=(K.mono le03).at st3 (j:=0) rfl;rwa [add_zero]at this) rfl<|AV (vs:=[.int .i64 0]) st3 ?_;intro r84 h4 st4;refine AM (by have:=(K.mono le03).at st4 (j:=0) rfl;rwa [add_zero]at this)<|AM ((K.mono le03).at st4 (j:=13) rfl) ?_;have st5:=eP (r:=cC .i64) (l:=[(0:Int)]) (n:=1) st4 (.cons (a:=[_]) rfl .nil) rfl (by decide);obtain ⟨ψ5,le5,k5,st6⟩:=cH (t:=(some ⟨r84,0,none⟩,1,1)) st5;rw [n0];refine AI (EC k5 st6 hsn) ?_;rintro _ h6 ⟨ψ6,q,l6,le6,rfl,rfl,st7⟩;refine ⟨q,rfl,?_⟩;have le06:=(le03.trans le5).trans le6;refine AM ((K.mono le06).at st7 (j:=13) rfl)<|I7 (kk:=Cp) (k:=(z.1,(0:Int))) (y:=q) dO QE st7.at1 rfl ?_;intro h8 st8;obtain ⟨ps',g1,g2⟩:=Um hl st8;exact AQ () rfl ⟨ψ6,ps',le06,g1,g2⟩
     ·obtain rfl:=iS he;exact AQ () rfl ⟨ψ3,ps,le03,hl,st3⟩
    ·rintro _ h9 H;exact Ad (bT .i64 (z.1+(1:Int)),()) _ rfl rfl ⟨hw,H⟩
   ·rintro i z w ⟨rfl,H⟩ hge;refine AT (decide_eq_false (Int.not_lt.2 hge))<|AJ (AL z rfl H)
  ·rintro _ h9 ⟨ψ9,ps9,le9,hl9,st9⟩;exact AB ⟨rfl,ψ9,ps9,le9,hl9,st9⟩
end
structure LkD where
 p:dtP
 A:dtA
 fa:dtF
 steps:List Stp
 L:LkL
def LkL.at (φ:AD) (cs:List Value) (d:LkD) (Γ:List Chk):Prop:=
 ∃(a:Addr) (t:Slc×Slc×Slc×Slc×Slc×Slc×Unit) (ap:Option Addr) (fz:Slc×Slc×Slc×Int×Unit) (sl:Slc) (nm lm:Nat) (ps:List (Option Addr)),
  cs= [.pointer (some a)] ∧LkK φ a t ap fz sl nm lm d.p d.A d.fa d.steps∧ps.length=d.L.length∧Γ=giC lm ps d.L []
def S1:Pk (Option LkD) where
 sz:=1
 L φ cs x Γ:=match x with
  |none=>cs= [.pointer none] ∧Γ= []
  |some d=>LkL.at φ cs d Γ
 len {φ cs x Γ} h:=by
  cases x with
  |none=>rw [h.1];rfl
  |some d=>obtain ⟨a,t,ap,fz,sl,nm,lm,ps,h1,_⟩:=h;rw [h1];rfl
 mono {φ ψ cs x Γ} hs h:=by
  cases x with
  |none=>exact h
  |some d=>obtain ⟨a,t,ap,fz,sl,nm,lm,ps,h1,h2,h3,h4⟩:=h;exact ⟨a,t,ap,fz,sl,nm,lm,ps,h1,h2.mono hs,h3,h4⟩
 plain {φ cs x Γ} h v hv:=by
  cases x with
  |none=>rw [h.1]at hv;simp at hv;subst hv;rfl
  |some d=>obtain ⟨a,t,ap,fz,sl,nm,lm,ps,h1,_⟩:=h;rw [h1]at hv;simp at hv;subst hv;rfl
abbrev Et:Rep (Option LkD):=Rep.pack S1
noncomputable def Ry (p:dtP) (A:dtA):Option (Option LkD):=(NK p).bind fun fa=>(Nt p A Je ([],[])).bind fun st=>(L0 p A fa st.1 st.2).bind fun rd=>(GJ p A fa st.1 st.2).bind fun inc=>(HN rd.2 rd.1).bind fun f1=>(HN inc f1).bind fun f2=>(OL p A fa st.1 f2).bind fun L=>some (some ⟨p,A,fa,st.1,L⟩)
noncomputable def LU (d:Option LkD) (s:Int):Option (List Int):=d.bind fun d=>Cw (lkT d.p d.A d.fa d.steps none none) s
noncomputable def Rz (d:Option LkD) (s r:Int):Option (List FB):=d.bind fun d=>DT (lkT d.p d.A d.fa d.steps none none) s r
noncomputable def NP (d:Option LkD) (s r:Int):Option (List Int):=d.bind fun d=>match BG (s,r) d.L with
 |none=>some []
 |some x=>IZ x
section
variable {φ ψ:AD}{h:AH}{F:List Chk}{a:Addr}{t:Slc×Slc×Slc×Slc×Slc×Slc×Unit}{p:dtP}{ap:Option Addr}{A:dtA}{fz:Slc×Slc×Slc×Int×Unit}{sl:Slc}{nm lm b:Nat}{fa:dtF}{steps:List Stp}
theorem R0 (H:St φ F h):St φ (⟨Et,[.pointer none],none⟩::F) h:=fQ (p:=S1) (Γ:=[]) ⟨rfl,rfl⟩ H
theorem XJ {q:Option Addr}{d:Option LkD}(H:St φ (⟨Et,[.pointer q],d⟩::F) h):dL q=dL d:=by
 obtain ⟨Γ,h1,_⟩:=fN H;cases d with
 |none=>cases h1.1;rfl
 |some d=>obtain ⟨a,t,ap,fz,sl,nm,lm,ps,h1,_⟩:=h1;cases h1;rfl
theorem NQ {q:Option Addr}{d:Option LkD}{s:Int}(s0:St φ (⟨Et,[.pointer q],d⟩::F) h) {r:List Int}(hd:LU d s=some r):
 CallsH bW 22 [.pointer q,.int .i64 s] h (Ar fun v h'=>∃ψ:AD,∃y:Slc,∃l:List Int,Sub φ ψ∧v=((.one aS):Sh).val y∧l=r∧Ro.SliceIs (cC .i64) ψ y l∧St ψ (⟨Et,[.pointer q],d⟩::F) h'):=by
 obtain ⟨d,rfl,hd1⟩:=Option.bind_eq_some_iff.1 hd;obtain ⟨Γ,⟨a,t,ap,fz,sl,nm,lm,ps,h1,h2,h3,h4⟩,s1⟩:=fN s0;cases h1;refine (KH h2.pt s1 (show Cw (lkT d.p d.A d.fa d.steps (some nm) (some lm)) s=some r from hd1)).mono ?_;rintro e h' ⟨v,rfl,ψ,y,l,le,rfl,rfl,k,s2⟩;exact ⟨_,rfl,ψ,y,l,le,rfl,rfl,k,fQ (p:=S1) ⟨a,t,ap,fz,sl,nm,lm,ps,rfl,h2.mono le,h3,h4⟩ s2⟩
theorem RJ {q:Option Addr}{d:Option LkD}{s k:Int}(s0:St φ (⟨Et,[.pointer q],d⟩::F) h) {r:List FB}(hd:Rz d s k=some r):
 CallsH bW 27 [.pointer q,.int .i64 s,.int .i64 k] h (Ar fun v h'=>∃ψ:AD,∃y:Slc,∃l:List FB,Sub φ ψ∧v=((.one aS):Sh).val y∧l=r∧Ro.SliceIs GO ψ y l∧St ψ (⟨Et,[.pointer q],d⟩::F) h'):=by
 obtain ⟨d,rfl,hd1⟩:=Option.bind_eq_some_iff.1 hd;obtain ⟨Γ,⟨a,t,ap,fz,sl,nm,lm,ps,h1,h2,h3,h4⟩,s1⟩:=fN s0;cases h1;refine (KI h2.pt s1 (show DT (lkT d.p d.A d.fa d.steps (some nm) (some lm)) s k=some r from hd1)).mono ?_;rintro e h' ⟨v,rfl,ψ,y,l,le,rfl,rfl,kk,s2⟩;exact ⟨_,rfl,ψ,y,l,le,rfl,rfl,kk,fQ (p:=S1) ⟨a,t,ap,fz,sl,nm,lm,ps,rfl,h2.mono le,h3,h4⟩ s2⟩
theorem QH {q:Option Addr}{d:Option LkD}{s k:Int}(gk:Dg.Glob φ) (s0:St φ (⟨Et,[.pointer q],d⟩::F) h) {r:List Int}(hd:NP d s k=some r):
 CallsH bW 24 [.pointer q,.int .i64 s,.int .i64 k] h (Ar fun v h'=>∃ψ:AD,∃y:Slc,∃l:List Int,Sub φ ψ∧v=((.one aS):Sh).val y∧l=r∧Ro.SliceIs (cC .i64) ψ y l∧St ψ (⟨Et,[.pointer q],d⟩::F) h'):=by
 obtain ⟨d,rfl,hd1⟩:=Option.bind_eq_some_iff.1 hd;obtain ⟨Γ,⟨a,t,ap,fz,sl,nm,lm,ps,h1,h2,h3,h4⟩,s1⟩:=fN s0;cases h1;subst h4;rw [O9,eW]at s1;refine AO mixed Tryz.func24 ?_;rw [LS];unfold Ib;refine AF _ rfl<|AC (x:=some lm) (h2.at s1 (j:=13) rfl) rfl<|GF (kk:=Cp) (a:=.pointer) (k:=(s,k)) (m:=mz ps d.L) (none:Option Addr) dO QE (i:=fU) (by kernel_rfl) rfl s1 ?_;have back:∀ {ψ:AD} {h':AH},Sub φ ψ→St ψ (giC lm ps d.L F) h'→St ψ (⟨Et,[.pointer (some a)],some d⟩::F) h':=fun le st=>
  fQ (p:=S1) (Γ:=giC lm ps d.L []) ⟨a,t,ap,fz,sl,nm,lm,ps,rfl,h2.mono le,h3,rfl⟩ (by rw [O9,eW];exact st)
 cases hg:BG (s,k) d.L with
 |none=>
  rw [hg]at hd1;obtain rfl:=iS hd1;rw [Rx hg];refine Aa rfl<|AB ⟨φ,(none,0,0),[],bZ _,rfl,rfl,eJ _ _,back (bZ _) s1⟩
 |some x=>
  rw [hg]at hd1;obtain ⟨i,p0,g1,g2,g3,g4,g5⟩:=Mc h3 hg;rw [g3];obtain ⟨rest,r1,_⟩:=ED g1 g2;have s2:St φ (BM p0 x::(rest++(cM Cp eA lm (mz ps d.L)::F))) h:=s1.perm ((bU _ (bV F r1)).trans ((cE _ _ _).trans (bU _ (cD (l₁:=rest)).symm)));refine AT (OM s2)<|AI (LI gk s2 hd1) ?_;rintro _ h5 ⟨ψ5,y5,le5,rfl,k5,s5⟩;refine ⟨y5,rfl,?_⟩;refine AB ⟨ψ5,y5,r,le5,rfl,rfl,k5,back le5 ?_⟩;exact s5.perm (((bU _ (cD (l₁:=rest))).trans (cE _ _ _)).trans (bU _ (bV F r1).symm))
noncomputable def Uq (t2 t3 t4 t5 t6 t7:Slc) (ap:Option Addr) (fz:Slc×Slc×Slc×Int×Unit) (nm lm:Nat):T:=aD #[(sv t2),(sv t3),(sv t4),(sv t5),(sv t6),(sv t7),(.pointer ap),(sv fz.1),(sv fz.2.1),(sv fz.2.2.1),(.int .i64 fz.2.2.2.1),(.slice none 0 0),(.map (some nm)),(.map (some lm))] 138 fun r17=>cI 107 [(.pointer (some ⟨r17,0,none⟩)),(.func (.func 108) #[(.pointer (some ⟨r17,0,none⟩))] #[])] (.tuple []) fun (t18:Unit)=>cI 109 [(.pointer (some ⟨r17,0,none⟩))] (.tuple [aS,aS]) fun (t19:Slc×Slc×Unit)=>cI 112 [(.pointer (some ⟨r17,0,none⟩))] (.one aS) fun (t20:Slc)=>cI 111 [(sv t19.2.1),(sv t19.1)] (.one aS) fun (t21:Slc)=>cI 111 [(sv t20),(sv t21)] (.one aS) fun (t22:Slc)=>cI 110 [(.pointer (some ⟨r17,0,none⟩)),(sv t22)] (.tuple []) fun (t23:Unit)=>dN (.pointer (some ⟨r17,0,none⟩))
noncomputable def RK (p:dtP) (A:dtA) (fa:dtF):Option (Option LkD):=(Nt p A Je ([],[])).bind fun st=>(L0 p A fa st.1 st.2).bind fun rd=>(GJ p A fa st.1 st.2).bind fun inc=>(HN rd.2 rd.1).bind fun f1=>(HN inc f1).bind fun f2=>(OL p A fa st.1 f2).bind fun L=>some (some ⟨p,A,fa,st.1,L⟩)
def OfS (φ:AD) (F:List Chk) (r:Option LkD) (v:Value) (h':AH):Prop:= ∃ψ:AD,∃y:Option Addr,∃l:Option LkD,Sub φ ψ∧v=((.one aP):Sh).val y∧l=r∧St ψ (⟨Et,[.pointer y],l⟩::F) h'
set_option maxHeartbeats 2000000 in
theorem GK {φ0:AD}(le0:Sub φ0 φ) (gk:Dg.Glob φ) (kP:PlK φ t p) (kA:Pt GR φ ap A) (f0:Ro.SliceIs bY φ fz.1 fa.1) (f1:Ro.SliceIs (dS (cC .i64)) φ fz.2.1 fa.2.1) (f2:Ro.SliceIs (dS (cC .i64)) φ fz.2.2.1 fa.2.2.1) (f3:fz.2.2.2.1=fa.2.2.2)
 {r:Option LkD} (hd:RK p A fa=some r) (s0:St φ (cM Cp (cC .i64) nm []::cM Cp eA lm []::F) h):
 (Uq t.1 t.2.1 t.2.2.1 t.2.2.2.1 t.2.2.2.2.1 t.2.2.2.2.2.1 ap fz nm lm).wp bW (MD (Ar (OfS φ0 F r))) h:=by
 unfold Uq;unfold RK at hd;obtain ⟨en,hen,hd⟩:=bS hd;obtain ⟨rd,hrd,hd⟩:=bS hd;obtain ⟨inc,hinc,hd⟩:=bS hd;obtain ⟨g1,hg1,hd⟩:=bS hd;obtain ⟨g2,hg2,hd⟩:=bS hd;obtain ⟨L,hL,hd⟩:=bS hd;obtain rfl:=iS hd;refine AV (vs:=lkV t ap fz ((none,0,0):Slc) nm lm) s0 ?_;intro r17 h1 s1;have s2:St φ (enC r17 t ap fz nm lm ⟨((none,0,0):Slc),[],[]⟩ ++(cM Cp eA lm []::F)) h1:=(fY 224 PW s1).at1;refine AI (Ug kA kP (x:=⟨((none,0,0):Slc),[],[]⟩) hen s2) ?_;rintro _ h2 ⟨rfl,ψ2,x,le2,hx,s3⟩;refine ⟨(),rfl,?_⟩;obtain ⟨sl,steps,num⟩:=x;obtain rfl:=hx;obtain ⟨ψ3,le3,cB,s4⟩:=eO s3;obtain ⟨ψ4,le4,ks,s5⟩:=cH (t:=sl) s4;have le04:=(le2.trans le3).trans le4;have K:LkK ψ4 ⟨r17,0,none⟩ t ap fz sl nm lm p A fa steps:=⟨cB.mono le4,kP.mono le04,kA.mono le04,f0.mono le04,f1.mono le04,f2.mono le04,f3,ks⟩;refine AI (Sz K hrd s5) ?_;rintro _ h5 ⟨ψ5,y1,y2,ps,le5,rfl,hps,k1,k2,s6⟩;refine ⟨_,rfl,?_⟩;have le05:=le04.trans le5;have s7:St ψ5 (cM Cp (cC .i64) nm num::(AP ps rd.1++(cM Cp eA lm []::F))) h5:=s6.perm (cD (l₁:=AP ps rd.1));refine AI (O8 (gk.mono le05) (K.mono le5) hinc s7) ?_;rintro _ h6 ⟨ψ6,y3,le6,rfl,k3,s8⟩;refine ⟨_,rfl,?_⟩;have le06:=le05.trans le6;refine AI (OC (gk.mono le06) (k2.mono le6) (k1.mono le6) hps s8.tail hg1) ?_;rintro _ h7 ⟨ψ7,y4,qs,le7,rfl,hqs,s9⟩;refine ⟨_,rfl,?_⟩;have le07:=le06.trans le7;obtain ⟨ψ8,le8,k4,s10⟩:=cH (t:=y4) s9;have le08:=le07.trans le8;refine AI (OC (gk.mono le08) (k3.mono (le7.trans le8)) k4 hqs s10 hg2) ?_;rintro _ h8 ⟨ψ9,y5,us,le9,rfl,hus,s11⟩;refine ⟨_,rfl,?_⟩;obtain ⟨ψ10,le10,k5,s12⟩:=cH (t:=y5) s11;have le010:=(le08.trans le9).trans le10;have le410:=(((((le5.trans le6).trans le7).trans le8).trans le9).trans le10);have s13:St ψ10 (giC lm [] [] (AP us g2++(AP qs g1++(AP ps rd.1++F)))) h8:=by
  refine s12.perm ?_;show (AP us g2++(AP qs g1++(AP ps rd.1++(cM Cp eA lm []::F)))).Perm (cM Cp eA lm []::(AP us g2++(AP qs g1++(AP ps rd.1++F))));rw [←cF,←cF,←cF (AP us g2),←cF (AP us g2++AP qs g1)];exact cD
 refine AI (Up (gk.mono le010) (K.mono le410) k5 hus hL s13) ?_;rintro _ h9 ⟨rfl,ψ11,vs,le11,hvs,s14⟩;refine ⟨(),rfl,?_⟩;refine AB ⟨ψ11,some ⟨r17,0,none⟩,_,(le0.trans le010).trans le11,rfl,rfl,?_⟩;refine fQ (p:=S1) (Γ:=giC lm vs L []) ⟨⟨r17,0,none⟩,t,ap,fz,sl,nm,lm,vs,rfl,K.mono (le410.trans le11),hvs,rfl⟩ ?_;rw [O9,eW];have s15:St ψ11 ((AP us g2++(AP qs g1++AP ps rd.1)) ++(giC lm vs L F)) h9:=by
  refine s14.perm ?_;show (cM Cp eA lm (mz vs L)::(AP vs (L.map (·.2)) ++(AP us g2++(AP qs g1++(AP ps rd.1++F))))).Perm ((AP us g2++(AP qs g1++AP ps rd.1)) ++(cM Cp eA lm (mz vs L)::(AP vs (L.map (·.2)) ++F)));rw [show AP us g2++(AP qs g1++(AP ps rd.1++F))=(AP us g2++(AP qs g1++AP ps rd.1)) ++F by simp [cF]]
  generalize AP us g2++(AP qs g1++AP ps rd.1)=X
  refine (bU _ ?_).trans (cD (l₁:=X)).symm;rw [←cF,←cF];exact bV F List.perm_append_comm
 exact St.drop _ s15
set_option maxHeartbeats 4000000 in
theorem Ur {p_0:Slc×Slc×Slc×Slc×Slc×Slc×Unit}{d0 d1:List ByteArray}{d2:List Ay}{d3 d4:List Int}{d5:List ByteArray}{d6:dtA}{a_1:Option Addr}(gk:Dg.Glob φ)
 (k0:Ro.SliceIs dD φ p_0.1 d0) (k1:Ro.SliceIs dD φ p_0.2.1 d1) (k2:Ro.SliceIs CR φ p_0.2.2.1 d2) (k3:Ro.SliceIs (cC .i64) φ p_0.2.2.2.1 d3) (k4:Ro.SliceIs (cC .i64) φ p_0.2.2.2.2.1 d4) (k5:Ro.SliceIs dD φ p_0.2.2.2.2.2.1 d5) (kA:Pt GR φ a_1 d6) (s0:St φ F h) {r:Option LkD} (hd:Ry (d0,d1,d2,d3,d4,d5) d6=some r):
 CallsH bW 69 [.agg #[sv p_0.1,sv p_0.2.1,sv p_0.2.2.1,sv p_0.2.2.2.1,sv p_0.2.2.2.2.1,sv p_0.2.2.2.2.2.1],.pointer a_1] h (Ar (OfS φ F r)):=by
 refine AO mixed Tryz.func69 ?_;rw [QB];unfold OJ;obtain ⟨fa,hfa,hd⟩:=bS hd;have hd:RK (d0,d1,d2,d3,d4,d5) d6 fa=some r:=hd;have kP:PlK φ p_0 (d0,d1,d2,d3,d4,d5):=⟨k0,k1,k2,k3,k4,k5⟩;refine AV (vs:=plV p_0) s0 ?_;intro r1 h1 s1;obtain ⟨φ1,le1,cB,s1⟩:=eO s1;have hc:∀ {ψ:AD} {Γ:List Chk} {h':AH},Sub φ1 ψ→St ψ Γ h'→ ∀j v,(plV p_0)[j]? =some v→BI h' ⟨r1,j,none⟩=some v:=fun {ψ Γ h'} le st j v hv=>by
  have:=AE st.sub ((cB.mono le).at j hv)
  rw [DX,fI]at this;exact this
 have hc1:=hc (bZ _) s1;refine Es hc1<|Es hc1 ?_;have gk1:=gk.mono le1;have kP1:=kP.mono le1;have kA1:=kA.mono le1;have call:∀ {Γ:List Chk} {w:AH} {K:(Slc×Slc×Slc×Int×Unit)→T} {Q:BU→AH→Prop},St φ1 Γ w→
  (∀(ψ:AD) (fz:Slc×Slc×Slc×Int×Unit) (w':AH),Sub φ1 ψ→Ro.SliceIs bY ψ fz.1 fa.1→Ro.SliceIs (dS (cC .i64)) ψ fz.2.1 fa.2.1→Ro.SliceIs (dS (cC .i64)) ψ fz.2.2.1 fa.2.2.1→fz.2.2.2.1=fa.2.2.2→St ψ Γ w'→(K fz).wp bW Q w')→
  (cI 106 [(.agg #[(sv p_0.1),(sv p_0.2.1),(sv p_0.2.2.1),(sv p_0.2.2.2.1),(sv p_0.2.2.2.2.1),(sv p_0.2.2.2.2.2.1)])] (.one (.agg [.slice,.slice,.slice,(.int .i64)])) K).wp bW Q w:=by
  intro Γ w K Q st hk;refine AI (O5 gk1 kP1 st hfa) ?_;rintro _ w' ⟨ψ,y,le,rfl,g0,g1,g2,g3,st'⟩;exact ⟨y,rfl,hk ψ y w' le g0 g1 g2 g3 st'⟩
 refine Eb ?_ (Eb ?_ ?_)
 ·refine call s1 ?_;intro ψ fz w le g0 g1 g2 g3 st;have hcc:=fun {Γ:List Chk} {h':AH} (st:St ψ Γ h')=>hc le st
  repeat refine AM (hcc st _ _ rfl) ?_
  refine Eb ?_ ?_
  ·refine DF Cp (cC .i64) st ?_;intro r15 w2 st2
   repeat refine AM (hcc st2 _ _ rfl) ?_
   refine DF Cp eA st2 ?_;intro r16 w3 st3
   repeat refine AM (hcc st3 _ _ rfl) ?_
   exact GK (le1.trans le) (gk1.mono le) (kP1.mono le) (kA1.mono le) g0 g1 g2 g3 hd st3.at1
  ·refine DF Cp eA st ?_;intro r15 w2 st2
   repeat refine AM (hcc st2 _ _ rfl) ?_
   refine DF Cp (cC .i64) st2 ?_;intro r16 w3 st3
   repeat refine AM (hcc st3 _ _ rfl) ?_
   exact GK (le1.trans le) (gk1.mono le) (kP1.mono le) (kA1.mono le) g0 g1 g2 g3 hd st3
 ·refine DF Cp (cC .i64) s1 ?_;intro r33 w2 st2;have hc2:=hc (bZ _) st2
  repeat refine AM (hc2 _ _ rfl) ?_
  refine Eb ?_ ?_
  ·refine call st2 ?_;intro ψ fz w le g0 g1 g2 g3 st;have hcc:=fun {Γ:List Chk} {h':AH} (st:St ψ Γ h')=>hc le st
   repeat refine AM (hcc st _ _ rfl) ?_
   refine DF Cp eA st ?_;intro r35 w3 st3
   repeat refine AM (hcc st3 _ _ rfl) ?_
   exact GK (le1.trans le) (gk1.mono le) (kP1.mono le) (kA1.mono le) g0 g1 g2 g3 hd st3.at1
  ·refine DF Cp eA st2 ?_;intro r35 w3 st3;have hc3:=hc (bZ _) st3
   repeat refine AM (hc3 _ _ rfl) ?_
   refine call st3 ?_;intro ψ fz w le g0 g1 g2 g3 st;have hcc:=fun {Γ:List Chk} {h':AH} (st:St ψ Γ h')=>hc le st
   repeat refine AM (hcc st _ _ rfl) ?_
   exact GK (le1.trans le) (gk1.mono le) (kP1.mono le) (kA1.mono le) g0 g1 g2 g3 hd st.at1
 ·refine DF Cp eA s1 ?_;intro r33 w2 st2;have hc2:=hc (bZ _) st2
  repeat refine AM (hc2 _ _ rfl) ?_
  refine Eb ?_ ?_
  ·refine call st2 ?_;intro ψ fz w le g0 g1 g2 g3 st;have hcc:=fun {Γ:List Chk} {h':AH} (st:St ψ Γ h')=>hc le st
   repeat refine AM (hcc st _ _ rfl) ?_
   refine DF Cp (cC .i64) st ?_;intro r35 w3 st3
   repeat refine AM (hcc st3 _ _ rfl) ?_
   exact GK (le1.trans le) (gk1.mono le) (kP1.mono le) (kA1.mono le) g0 g1 g2 g3 hd st3
  ·refine DF Cp (cC .i64) st2 ?_;intro r35 w3 st3;have hc3:=hc (bZ _) st3
   repeat refine AM (hc3 _ _ rfl) ?_
   refine call st3 ?_;intro ψ fz w le g0 g1 g2 g3 st;have hcc:=fun {Γ:List Chk} {h':AH} (st:St ψ Γ h')=>hc le st
   repeat refine AM (hcc st _ _ rfl) ?_
   exact GK (le1.trans le) (gk1.mono le) (kP1.mono le) (kA1.mono le) g0 g1 g2 g3 hd st
end
def trE (p:dtP) (n:Nat) (es:List Edge):List (Stp×Int):=(es.filter fun e=> !(decide (0≤e.1) && decide (e.1<nT p))).map fun e=>(((n:Int),e.1),e.2)
def trs (p:dtP) (E:List (List Edge)) (n:Nat):List (Stp×Int):=(fS n).flatMap fun k=>trE p k (E[k]?.getD [])
theorem NR (p:dtP) (E:List (List Edge)) (n:Nat):trs p E (n+1)=trs p E n++trE p n (E[n]?.getD []):=by
 unfold trs;rw [List.range_succ,List.flatMap_append];simp
theorem Us (p:dtP) (E:List (List Edge)) {n m:Nat}(h:n≤m):trs p E n<+:trs p E m:=by
 induction h with
 |refl=>exact List.prefix_refl _
 |step _ ih=>rw [NR];exact ih.trans (List.prefix_append _ _)
theorem QI {p:dtP}{n:Nat}{es:List Edge}{j:Nat}{e:Edge}(h:es[j]? =some e):trE p n (es.take (j+1))=trE p n (es.take j) ++trE p n [e]:=by
 unfold trE;rw [eC,h,eK,dG];rfl
theorem V0 (p:dtP) (n:Nat) (es:List Edge) (j:Nat):trE p n (es.take j) <+:trE p n es:=by
 unfold trE;obtain ⟨r,hr⟩:=List.take_prefix j es;refine ⟨(r.filter fun e=> !(decide (0≤e.1) && decide (e.1<nT p))).map fun e=>(((n:Int),e.1),e.2),?_⟩;rw [←dG,←eK,hr]
section
variable {p:dtP}{B:List dtK}{E:List (List Edge)}{tt:Int}
theorem R1 (V:VPp p) (H:Fin p B E) (hB:B.length≤1000000) {σ:Type}{f:σ→Stp→Int→Option σ}{s:σ}(I:List (Stp×Int)→σ→Prop) (h0:I [] s)
 (hs:∀pre x s,pre++ [x] <+:trs p E B.length→I pre s→Ok (f s x.1 x.2) (I (pre++ [x]))):Ok (Nt p (DS p B E tt) f s) (I (trs p E B.length)):=by
 unfold Nt;refine AS (NI H)<|Bw (n:=B.length) (fun k s=>I (trs p E k) s) (by omega) h0 fun k s hk hI=> ?_;have hb:=bR hk;obtain ⟨es,he⟩:=H.edge hb;refine AS (P3 V H hb he) ?_;have hl:=H.edges_len V hb he;have hsucc:trs p E (k+1)=trs p E k++trE p k es:=by rw [NR,he];rfl
 have hpre:=Us p E (show k+1≤B.length from hk);rw [hsucc]at hpre;obtain ⟨s',e1,e2⟩:=Bw (f:=fun j s=>(idx es j).bind fun e=>(BV p e.1).bind fun t=>cond (!t) (f s ((k:Int),e.1) e.2) (some s)) (n:=es.length) (fun j s=>I (trs p E k++trE p k (es.take j)) s) (by omega) (s:=s) (by
  rw [List.take_zero];show I (trs p E k++ []) s;rw [List.append_nil];exact hI) fun j s hj hI=>by
   have hx:=bR hj;refine AW hx (AS (IE p _) ?_);rw [QI hx];cases hc:(decide (0≤es[j].1) && decide (es[j].1<nT p)) with
   |true=>
    have e:trE p k [es[j]] = []:=by unfold trE;rw [fO,hc];rfl
    rw [e,List.append_nil];refine Ak ?_ (AG hI);show (!(decide (0≤es[j].1) && decide (es[j].1<nT p)))=false;rw [hc];rfl
   |false=>
    have e:trE p k [es[j]] = [(((k:Int),es[j].1),es[j].2)]:=by unfold trE;rw [fO,hc];rfl
    rw [e];refine Cu ?_ ?_
    ·show (!(decide (0≤es[j].1) && decide (es[j].1<nT p)))=true;rw [hc];rfl
    ·rw [←cF];refine hs _ (((k:Int),es[j].1),es[j].2) s ?_ hI;rw [cF,←e,←QI hx];exact ((List.prefix_append_right_inj _).2 (V0 p k es (j+1))).trans hpre
 refine ⟨s',e1,?_⟩;rw [dB (cK _)]at e2;show I (trs p E (k+1)) s';rw [hsucc];exact e2
theorem Ut (H:Fin p B E) {n:Nat}{b:dtK}{e:List Edge}(hb:B[n]? =some b) (he:E[n]? =some e) {s t:Int}:(s,t)∈e↔JV p.2.2.1 B b e s t∧t≠-1:=by
 have hd:=H.done n b e hb he;constructor
 ·intro h;obtain ⟨q,bt,h1,h2,h3,h4⟩:=hd.2 _ h;dsimp only at h1 h4;exact ⟨.inl ⟨by rw [←hd.1];exact List.mem_map.2 ⟨_,h,rfl⟩,q,bt,h1,h2,h3,h4,h⟩,by omega⟩
 ·rintro ⟨⟨_,q,bt,_,_,_,_,h⟩|⟨_,h⟩,h2⟩
  ·exact h
  ·exact absurd h h2
theorem II (H:Fin p B E) {n:Nat}{e:List Edge}(hn:n<B.length) (he:E[n]? =some e) {s t:Int}:(s,t)∈e↔∃m:Nat,t=(m:Int)∧TrB p B E n s m:=by
 have hb:=bR hn;rw [Ut H hb he];constructor
 ·rintro ⟨hg,h2⟩;have hg':=hg;rcases hg with ⟨_,q,bt,h3,_⟩|⟨_,h⟩
  ·subst h3;exact ⟨q,rfl,_,e,hb,he,hg'⟩
  ·exact absurd h h2
 ·rintro ⟨m,rfl,b',e',hb',he',hg⟩;rw [hb]at hb';cases hb';rw [he]at he';cases he';exact ⟨hg,by omega⟩
theorem Jv (V:VPp p) (H:Fin p B E) {x:Stp×Int}:x∈trs p E B.length↔∃(n:Nat) (s:Int) (m:Nat),x=(((n:Int),s),(m:Int))∧nT p≤s∧TrB p B E n s m:=by
 unfold trs trE;rw [List.mem_flatMap];constructor
 ·rintro ⟨n,hn,hx⟩;have hn:=List.mem_range.1 hn;obtain ⟨e,he⟩:=H.edge (bR hn);rw [he]at hx;obtain ⟨y,hy,rfl⟩:=List.mem_map.1 hx;obtain ⟨h1,h2⟩:=List.mem_filter.1 hy;obtain ⟨m,hm,ht⟩:=(II H hn he (s:=y.1) (t:=y.2)).1 h1;have h0:=((LO V H).st ht).2.2.2;refine ⟨n,y.1,m,by rw [hm],?_,ht⟩;rw [decide_eq_true h0,Bool.true_and,dU,decide_eq_false_iff_not]at h2;omega
 ·rintro ⟨n,s,m,rfl,hs,ht⟩;have hn:n<B.length:=((LO V H).st ht).1;obtain ⟨e,he⟩:=H.edge (bR hn);have h0:=((LO V H).st ht).2.2.2;refine ⟨n,List.mem_range.2 hn,?_⟩;rw [he];refine List.mem_map.2 ⟨(s,(m:Int)),List.mem_filter.2 ⟨(II H hn he).2 ⟨m,rfl,ht⟩,?_⟩,rfl⟩;rw [decide_eq_false (show ¬s<nT p by omega),Bool.and_false];rfl
theorem ON (V:VPp p) (H:Fin p B E):((trs p E B.length).map (·.1)).Nodup:=by
 have key:∀n,n≤B.length→((trs p E n).map (·.1)).Nodup∧ ∀x∈(trs p E n).map (·.1),x.1< (n:Int):=by
  intro n
  induction n with
  |zero=>intro _;exact ⟨by simp [trs],by simp [trs]⟩
  |succ n ih=>
   intro hn;obtain ⟨h1,h2⟩:=ih (by omega);have hb:=bR (show n<B.length from hn);obtain ⟨e,he⟩:=H.edge hb;have hd:=(H.done n _ e hb he).1;have hu:=Xj p.2.2.1 B[n].2.1;rw [←hd]at hu;have h3:∀x∈(trE p n e).map (·.1),x.1=(n:Int):=by
    intro x hx;obtain ⟨y,hy,rfl⟩:=List.mem_map.1 hx;obtain ⟨z,_,rfl⟩:=List.mem_map.1 hy;rfl
   have h4:((trE p n e).map (·.1)).Nodup:=by
    unfold trE;rw [List.map_map];have hsub:((e.filter fun e=> !(decide (0≤e.1) && decide (e.1<nT p))).map (·.1)).Pairwise (· < ·):=hu.sublist (List.Sublist.map _ List.filter_sublist);rw [List.nodup_iff_pairwise_ne,fK];rw [fK]at hsub;exact hsub.imp fun {a b} h g=>by
     have:=(Prod.mk.inj g).2
     omega
   rw [NR,he];show ((trs p E n++trE p n e).map (·.1)).Nodup∧ ∀x∈(trs p E n++trE p n e).map (·.1),x.1< ((n+1:Nat):Int);rw [dG];refine ⟨List.nodup_append.2 ⟨h1,h4,fun a ha b hb g=> ?_⟩,fun x hx=> ?_⟩
   ·have:=h2 a ha
    have:=h3 b hb
    subst g;omega
   ·rcases List.mem_append.1 hx with h | h
    ·have:=h2 x h;omega
    ·have:=h3 x h;omega
 exact (key _ (cK _)).1
theorem V1 (V:VPp p) (H:Fin p B E) (hV:∀n s m,TrB p B E n s m→s<nT p+(p.2.1.length:Int)):(trs p E B.length).length≤B.length *p.2.1.length:=by
 have h:=List.Nodup.length_le_of_subset (l₂:=(fS B.length).flatMap fun a=>(fS p.2.1.length).map fun b=>(((a:Nat):Int),nT p+((b:Nat):Int))) (ON V H) fun x hx=>by
  obtain ⟨y,hy,rfl⟩:=List.mem_map.1 hx;obtain ⟨n,s,m,rfl,hs,ht⟩:=(Jv V H).1 hy;have h1:=hV n s m ht;have hn:n<B.length:=((LO V H).st ht).1;refine List.mem_flatMap.2 ⟨n,List.mem_range.2 hn,List.mem_map.2 ⟨(s - nT p).toNat,List.mem_range.2 (by omega),Prod.ext rfl ?_⟩⟩;dsimp only;omega
 rw [cS,List.length_flatMap]at h;simp only [cS,List.length_range,List.map_const',List.sum_replicate_nat]at h;exact h
structure Num (st:List Stp) (nm:List (Stp×Int)):Prop where
 at_:∀(i:Nat) k,st[i]? =some k→BG k nm=some (i:Int)
 none:∀k,k∉st→BG k nm=none
theorem Uu (V:VPp p) (H:Fin p B E) (hB:B.length≤1000000) (hl:(trs p E B.length).length≤100000):Ok (Nt p (DS p B E tt) Je ([],[])) fun st=>st.1=(trs p E B.length).map (·.1)∧Num st.1 st.2:=by
 have hnd:=ON V H;refine R1 V H hB (fun pre (st:EnS)=>st.1=pre.map (·.1)∧Num st.1 st.2) ⟨rfl,fun i k h=>by simp at h,fun _ _=>rfl⟩ fun pre x st hpre hI=> ?_;obtain ⟨st1,nm⟩:=st;obtain ⟨rfl,hN⟩:=hI;dsimp only at hN ⊢;have hlen:pre.length+1≤(trs p E B.length).length:=by
  have:=hpre.length_le
  simpa using this
 have hnew:x.1∉pre.map (·.1):=by
  obtain ⟨r,hr⟩:=hpre;rw [←hr,dG,dG]at hnd
  have:=(List.nodup_append.1 (List.nodup_append.1 hnd).1).2.2
  intro hm;exact this _ hm x.1 (by simp) rfl
 unfold Je;dsimp only;refine Bo (by simp;omega) (AG ⟨by simp,fun i k h=> ?_,fun k hk=> ?_⟩)
 ·dsimp only at h ⊢;rw [Cm];rcases fL i pre.length with g | g
  ·rw [dZ (by simpa using g)]at h;rw [if_neg (fun e=>hnew (by rw [←e];exact bX h))];exact hN.at_ i k h
  ·rw [eL (by simpa using g),cS]at h
   have:i - pre.length=0:=by
    have:=(List.getElem?_eq_some_iff.1 h).1
    simp at this;omega
   rw [this]at h;simp at h;rw [if_pos h.symm];congr 1;simp;omega
 ·dsimp only at hk ⊢;rw [eG]at hk;rw [Cm,if_neg fun e=>hk (.inr (by simp [e])),hN.none k fun h=>hk (.inl h)]
end
structure DU (p:dtP) (B:List dtK) (E:List (List Edge)) (fa:dtF):Prop where
 vp:VPp p
 sy:Sy p
 fin:Fin p B E
 gr:Gr (nT p) p.2.2.1
 few:B.length≤300
 vars:p.2.1.length≤24
 fa:Ue p fa
 zero:∃st,p.2.2.1[0]? =some (nT p+(p.2.1.length:Int),[st],0)
section
variable {p:dtP}{B:List dtK}{E:List (List Edge)}{fa:dtF}{tt:Int}{steps:List Stp}{o1 o2:Option Nat}
theorem DU.aut (H:DU p B E fa):Aut p.2.2.1 (SB B) (KB B) (TrB p B E):=LO H.vp H.fin
theorem DU.sym (H:DU p B E fa) {n m:Nat}{s:Int}(h:TrB p B E n s m):0≤s∧s<nT p+(p.2.1.length:Int):=by
 have A:=H.aut;obtain ⟨y,h1,h2⟩:=A.some_ h;obtain ⟨k,d,rfl,_,_⟩:=A.form (A.st h).1 h1;obtain ⟨r,h3,h4⟩:=HO H.gr h2 (A.st h).2.2.2;exact H.sy.right r (bX h3) s (bX h4)
theorem DU.lens (H:DU p B E fa):(trs p E B.length).length≤7200:=by
 have h:=V1 H.vp H.fin fun n s m ht=>(H.sym ht).2;have h1:=H.few;have h2:=H.vars;have h3:B.length *p.2.1.length≤300 *24:=Nat.mul_le_mul h1 h2;omega
theorem R4 (H:DU p B E fa) {n:Nat}(hn:n<B.length) {k:Nat}{r:Ay}(hr:p.2.2.1[k]? =some r):
 Ok (BX (lkT p (DS p B E tt) fa steps o1 o2) (n:Int) (k:Int)) fun b=>b=true↔It p.2.2.1 (KB B) n k r.2.1.length:=by
 have hk:=BZ hr;have hb:=bR hn;have hg:=(H.fin.good H.vp hb).2.2.2.2;unfold BX;refine AN (Q:=fun c=>c=false) (Ak (decide_eq_false (by omega)) (AG (decide_eq_false (by dsimp only;omega)))) fun c hc=> ?_;subst hc;refine Ak rfl (AW hr (AS (P2 H.vp H.fin hb) (AS (JU (by omega)) (AG ?_))));rw [decide_eq_true_eq];exact FJ H.vp H.fin hb _
def Dir (p:dtP) (B:List dtK) (E:List (List Edge)) (m:Nat) (j:Int):Prop:=(j<nT p∧ ∃q,TrB p B E m j q)∨(j=0∧It p.2.2.1 (KB B) m 0 1)
structure RdI (p:dtP) (B:List dtK) (E:List (List Edge)) (num:List (Stp×Int)) (x:Stp×Int) (d:AU) (l:List Int):Prop where
 ok:OkS d∧d.1=nT p
 mem:∀m:Nat,x.2=(m:Int)→ ∀j,Dg.mem d j=true↔Dir p B E m j
 few:l.length≤20000
 next:∀m:Nat,x.2=(m:Int)→ ∀k,k∈l↔∃c q,TrB p B E m c q∧nT p≤c∧Nul p.2.2.1 c∧(BG ((m:Int),c) num).getD 0=k
theorem BH {α:Type}{l:List α}{k:Nat}{x:α}(h:l[k]? =some x) {y:α}:y∈l.take (k+1)↔y∈l.take k∨y=x:=by
 rw [eC,h,eG];simp
theorem Uv (H:DU p B E fa) {num:List (Stp×Int)}{x:Stp×Int}{st:RdS}(hx:x∈trs p E B.length) (h1:st.1.length≤100000) (h2:st.2.length≤100000):
 Ok (NO p (DS p B E tt) fa steps num st x.1 x.2) fun st'=>∃d l,st'=(st.1++ [d],st.2++ [l])∧RdI p B E num x d l:=by
 obtain ⟨n,s,m,rfl,hs,ht⟩:=(Jv H.vp H.fin).1 hx;have A:=H.aut;have hm:m<B.length:=(A.st ht).2.1;have hT:=H.sy.t1;have hV:=H.vars;have hnT:nT p=(p.1.length:Int):=rfl;have hb:=bR hm;obtain ⟨es,he⟩:=H.fin.edge hb;have hel:=H.fin.edges_len H.vp hb he;have cl:=LQ H.sy;obtain ⟨z,hz⟩:=H.zero;unfold NO;dsimp only;obtain ⟨s0,e0,k1,k2,k3⟩:=Dg.new_ok (nT p);refine AS e0 (AN (R4 H hm (k:=0) hz) fun b hbd=> ?_);have hbd:b=true↔It p.2.2.1 (KB B) m 0 1:=hbd;refine AN (Q:=fun (u:AU)=>OkS u∧u.1=nT p∧ ∀j,mem u j=true↔(j=0∧It p.2.2.1 (KB B) m 0 1)) (Ae (fun hc=> ?_) fun hc=>AG ⟨k1,k2.trans cl,fun j=> ?_⟩) fun u hu=> ?_
 ·obtain ⟨u,a1,a2,a3,a4⟩:=Dg.add_ok k1 0;refine AS a1 (AG ⟨a2,a3.trans (k2.trans cl),fun j=> ?_⟩);dsimp only;rw [a4,k3,fF,decide_eq_true_eq];exact ⟨fun h=>⟨h.1,hbd.1 hc⟩,fun h=>⟨h.1,by omega,by rw [k2,cl];omega⟩⟩
 ·rw [k3];constructor
  ·intro h;cases h
  ·intro h;have:=hbd.2 h.2;rw [hc]at this;cases this
 obtain ⟨u1,u2,u3⟩:=hu;refine AS (P3 H.vp H.fin hb he)<|B8 (fun j (z:AU×List Int)=>OkS z.1∧z.1.1=nT p∧(∀i,mem z.1 i=true↔(mem u i=true∨ ∃e∈es.take j,e.1=i∧e.1<nT p))∧z.2.length≤j∧ ∀k,k∈z.2↔∃e∈es.take j,nT p≤e.1∧Nul p.2.2.1 e.1∧(BG ((m:Int),e.1) num).getD 0=k) (by omega)
  ⟨u1,u2,fun i=>by simp,by simp,fun k=>by simp⟩ (fun j z hj hz=> ?_) fun z hz=> ?_
 ·obtain ⟨zs,zl⟩:=z;obtain ⟨z1,z2,z3,z4,z5⟩:=hz;dsimp only at z1 z2 z3 z4 z5 ⊢;have hx:=bR hj;obtain ⟨e,hee⟩:∃e,es[j] =e:=⟨_,rfl⟩;rw [hee]at hx;obtain ⟨q,hq,htq⟩:=(II H.fin hm he (s:=e.1) (t:=e.2)).1 (bX hx);obtain ⟨g0,g1⟩:=H.sym htq;refine AW hx (AS (IE p _) (Ae (fun hc=> ?_) fun hc=> ?_))
  ·rw [dY,decide_eq_true_eq,decide_eq_true_eq]at hc;obtain ⟨v,a1,a2,a3,a4⟩:=Dg.add_ok z1 e.1;refine AS a1 (AG ⟨a2,a3.trans z2,fun i=> ?_,by dsimp only;omega,fun k=> ?_⟩)
   ·dsimp only;rw [a4,dR,z3,decide_eq_true_eq,z2];constructor
    ·rintro ((h | ⟨e',h1,h2⟩)|h)
     ·exact .inl h
     ·exact .inr ⟨e',(BH hx).2 (.inl h1),h2⟩
     ·exact .inr ⟨e,(BH hx).2 (.inr rfl),h.1.symm,by omega⟩
    ·rintro (h | ⟨e',h1,h2,h3⟩)
     ·exact .inl (.inl h)
     ·rcases (BH hx).1 h1 with h1 | rfl
      ·exact .inl (.inr ⟨e',h1,h2,h3⟩)
      ·exact .inr ⟨h2.symm,g0,h3⟩
   ·dsimp only;rw [z5];constructor
    ·rintro ⟨e',h1,h2⟩;exact ⟨e',(BH hx).2 (.inl h1),h2⟩
    ·rintro ⟨e',h1,h2⟩;rcases (BH hx).1 h1 with h1 | rfl
     ·exact ⟨e',h1,h2⟩
     ·omega
  ·rw [eX,decide_eq_false_iff_not,decide_eq_false_iff_not]at hc;have hge:nT p≤e.1:=by omega
   have ee:bT .i64 (e.1 - nT p)=(((e.1 - nT p).toNat:Nat):Int):=by rw [w64 (by omega) (by omega)];omega
   have hn:=H.fa.len;have hlt:(e.1 - nT p).toNat<fa.1.length:=by omega
   have hbb:=bR hlt;have hnul:=H.fa.nul e.1 hge;rw [hbb]at hnul;rw [ee];refine AW hbb ?_;have sets:∀i,mem zs i=true↔(mem u i=true∨ ∃e∈es.take (j+1),e.1=i∧e.1<nT p):=fun i=>by
    rw [z3];constructor
    ·rintro (h | ⟨e',h1,h2⟩)
     ·exact .inl h
     ·exact .inr ⟨e',(BH hx).2 (.inl h1),h2⟩
    ·rintro (h | ⟨e',h1,h2,h3⟩)
     ·exact .inl h
     ·rcases (BH hx).1 h1 with h1 | rfl
      ·exact .inr ⟨e',h1,h2,h3⟩
      ·omega
   refine Ae (fun hc2=>Bo (by simp;omega) (AG ⟨z1,z2,sets,by simp;omega,fun k=> ?_⟩)) fun hc2=>AG ⟨z1,z2,sets,by dsimp only;omega,fun k=> ?_⟩
   ·dsimp only;rw [eG,z5,fH];constructor
    ·rintro (⟨e',h1,h2⟩|h)
     ·exact ⟨e',(BH hx).2 (.inl h1),h2⟩
     ·exact ⟨e,(BH hx).2 (.inr rfl),hge,hnul.1 (by rw [hc2]),h.symm⟩
    ·rintro ⟨e',h1,h2,h3,h4⟩;rcases (BH hx).1 h1 with h1 | rfl
     ·exact .inl ⟨e',h1,h2,h3,h4⟩
     ·exact .inr h4.symm
   ·dsimp only;rw [z5];constructor
    ·rintro ⟨e',h1,h2⟩;exact ⟨e',(BH hx).2 (.inl h1),h2⟩
    ·rintro ⟨e',h1,h2,h3,h4⟩;rcases (BH hx).1 h1 with h1 | rfl
     ·exact ⟨e',h1,h2,h3,h4⟩
     ·have:=hnul.2 h3
      rw [hc2]at this;cases this
 ·obtain ⟨zs,zl⟩:=z;obtain ⟨z1,z2,z3,z4,z5⟩:=hz;dsimp only at z1 z2 z3 z4 z5 ⊢;rw [dB (cK _)]at z3 z5;refine Bo (by simp;omega) (Bo (by simp;omega) (AG ⟨zs,zl,rfl,⟨⟨z1,z2⟩,fun m' hm' j=> ?_,by omega,fun m' hm' k=> ?_⟩⟩))
  ·have:m'=m:=by dsimp only at hm';omega
   subst this;rw [z3,u3];unfold Dir;constructor
   ·rintro (h | ⟨e,h1,rfl,h3⟩)
    ·exact .inr h
    ·obtain ⟨q,_,hq⟩:=(II H.fin hm he (s:=e.1) (t:=e.2)).1 h1;exact .inl ⟨h3,q,hq⟩
   ·rintro (⟨h1,q,hq⟩|h)
    ·exact .inr ⟨(j,(q:Int)),(II H.fin hm he).2 ⟨q,rfl,hq⟩,rfl,h1⟩
    ·exact .inl h
  ·have:m'=m:=by dsimp only at hm';omega
   subst this;rw [z5];constructor
   ·rintro ⟨e,h1,h2,h3,h4⟩;obtain ⟨q,_,hq⟩:=(II H.fin hm he (s:=e.1) (t:=e.2)).1 h1;exact ⟨e.1,q,hq,h2,h3,h4⟩
   ·rintro ⟨c,q,hq,h2,h3,h4⟩;exact ⟨(c,(q:Int)),(II H.fin hm he).2 ⟨q,rfl,hq⟩,h2,h3,h4⟩
theorem V2 {α:Type}{l:List α}{i:Nat}{x y:α}(h:(l++ [x])[i]? =some y):(i<l.length∧l[i]? =some y)∨(i=l.length∧y=x):=by
 rcases fL i l.length with g | g
 ·rw [dZ g]at h;exact .inl ⟨g,h⟩
 ·rw [eL g]at h
  have:i - l.length=0:=by
   have:=(List.getElem?_eq_some_iff.1 h).1
   simp at this;omega
  rw [this]at h;simp at h;exact .inr ⟨by omega,h.symm⟩
theorem OO {α:Type}(l:List α) (x:α):(l++ [x])[l.length]? =some x:=by simp
theorem Uw (H:DU p B E fa) {num:List (Stp×Int)}:
 Ok (L0 p (DS p B E tt) fa steps num) fun r=>r.1.length=(trs p E B.length).length∧r.2.length=(trs p E B.length).length∧ ∀(i:Nat) x,(trs p E B.length)[i]? =some x→ ∃d l,r.1[i]? =some d∧r.2[i]? =some l∧RdI p B E num x d l:=by
 have hl:=H.lens;unfold L0;refine R1 H.vp H.fin (by have:=H.few;omega) (fun pre (r:RdS)=>r.1.length=pre.length∧r.2.length=pre.length∧ ∀(i:Nat) x,pre[i]? =some x→ ∃d l,r.1[i]? =some d∧r.2[i]? =some l∧RdI p B E num x d l) ⟨rfl,rfl,fun i x h=>by simp at h⟩ fun pre x st hpre hI=> ?_;obtain ⟨h1,h2,h3⟩:=hI;have hlen:=hpre.length_le;rw [dP,eY]at hlen;refine (Uv H (hpre.mem (by simp)) (by omega) (by omega)).mono ?_;rintro _ ⟨d,l,rfl,hR⟩;refine ⟨by simp [h1],by simp [h2],fun i y hy=> ?_⟩;rcases V2 hy with ⟨g,hy⟩|⟨rfl,rfl⟩
 ·obtain ⟨d',l',a1,a2,a3⟩:=h3 i y hy;exact ⟨d',l',Du a1,Du a2,a3⟩
 ·exact ⟨d,l,by rw [←h1];exact OO _ _,by rw [←h2];exact OO _ _,hR⟩
theorem LV {ll:List (List Int)}{n x y:Int}:y∈Cj ll x n↔x< (ll.length:Int)∧y∈ll[x.toNat]?.getD [] ∧0≤y∧y<n:=by
 unfold Cj JN;split
 ·constructor
  ·intro h;cases h
  ·intro h;omega
 ·rw [List.mem_filter];constructor
  ·rintro ⟨h1,h2⟩;rw [dU,cV,decide_eq_false_iff_not,decide_eq_false_iff_not]at h2;exact ⟨by omega,h1,by omega,by omega⟩
  ·rintro ⟨h1,h2,h3,h4⟩;refine ⟨h2,?_⟩;rw [dU,cV,decide_eq_false_iff_not,decide_eq_false_iff_not];omega
theorem NS (H:DU p B E fa) {num:List (Stp×Int)}(hN:Num ((trs p E B.length).map (·.1)) num) {n m:Nat}{s:Int}(hs:nT p≤s) (ht:TrB p B E n s m):∃i:Nat,(trs p E B.length)[i]? =some (((n:Int),s),(m:Int))∧BG ((n:Int),s) num=some (i:Int):=by
 obtain ⟨i,hi⟩:=cY ((Jv H.vp H.fin).2 ⟨n,s,m,rfl,hs,ht⟩);exact ⟨i,hi,hN.at_ i _ (by rw [dI,hi];rfl)⟩
theorem NT {a:List AU}{i:Nat}{d:AU}(h:a[i]? =some d) (j:Int):mem (gv a (i:Int)) j=mem d j:=by rw [Rt h]
theorem XK (H:DU p B E fa) {num:List (Stp×Int)}(hN:Num ((trs p E B.length).map (·.1)) num) {ds:List AU}{es:List (List Int)}(h1:ds.length=(trs p E B.length).length) (h2:es.length=(trs p E B.length).length)
 (h3:∀(i:Nat) x,(trs p E B.length)[i]? =some x→ ∃d l,ds[i]? =some d∧es[i]? =some l∧RdI p B E num x d l):
 Ok (HN es ds) fun r=>r.length=(trs p E B.length).length∧ ∀(i:Nat) (n:Int) (s:Int) (m:Nat),(trs p E B.length)[i]? =some ((n,s),(m:Int))→ ∃d,r[i]? =some d∧(OkS d∧d.1=nT p)∧ ∀j,mem d j=true↔Rdd (nT p) p.2.2.1 (KB B) (TrB p B E) m j:=by
 have hT:=H.sy.t1;have hl:=H.lens;have hnT:nT p=(p.1.length:Int):=rfl;have A:=H.aut;obtain ⟨r,e1,e2,e3⟩:=P7 (ll:=es) (B:=ds) (wide:=nT p) (by omega) (by omega) (by omega) (fun l hl=>by
  obtain ⟨i,hi⟩:=cY hl;have hlt:=BZ hi;obtain ⟨d,l',_,g2,g3⟩:=h3 i _ (bR (by omega));rw [hi]at g2;cases g2
  have:=g3.few
  omega) (fun k s hk=>by
  have hlt:=BZ hk;obtain ⟨d,l',g1,_,g3⟩:=h3 k _ (bR (by omega));rw [hk]at g1;cases g1;exact g3.ok)
 refine ⟨r,e1,e2.trans h1,fun i n s m hi=> ?_⟩;have hlt:=BZ hi;have hr:=bR (l:=r) (i:=i) (by omega);obtain ⟨k1,k2,k3⟩:=e3 i _ hr;refine ⟨_,hr,⟨k1,k2⟩,fun j=> ?_⟩;rw [k3];constructor
 ·rintro ⟨z,hz,hj⟩;have key:∀(v z:Int),Dg.Reach es (ds.length:Int) v z→mem (gv ds z) j=true→ ∀(i:Nat) (n s:Int) (m:Nat),v=(i:Int)→(trs p E B.length)[i]? =some ((n,s),(m:Int))→Rdd (nT p) p.2.2.1 (KB B) (TrB p B E) m j:=by
   intro v z hv
   induction hv with
   |refl v=>
    intro hj i n s m hv hi;obtain ⟨d,l,g1,_,g3⟩:=h3 i _ hi;subst hv;rw [NT g1]at hj;rcases (g3.mem m rfl j).1 hj with ⟨a1,q,a2⟩|⟨rfl,a2⟩
    ·exact .term a2 a1
    ·exact .fin a2
   | @step x y z hy _ ih=>
    intro hj i n s m hv hi;subst hv;obtain ⟨d,l,g1,g2,g3⟩:=h3 i _ hi;obtain ⟨f1,f2,f3,f4⟩:=LV.1 hy;rw [cA,g2]at f2;obtain ⟨c,q,a1,a2,a3,a4⟩:=(g3.next m rfl y).1 f2;obtain ⟨i',b1,b2⟩:=NS H hN a2 a1;rw [b2]at a4;exact .next a1 a2 a3 (ih hj i' _ _ q a4.symm b1)
  exact key _ _ hz hj i n s m rfl hi
 ·intro h;have key:∀ {m:Nat} {j:Int},Rdd (nT p) p.2.2.1 (KB B) (TrB p B E) m j→ ∀(i:Nat) (n s:Int),(trs p E B.length)[i]? =some ((n,s),(m:Int))→KW es (ds.length:Int) ds (i:Int) j:=by
   intro m j h
   induction h with
   |term a1 a2=>
    intro i n s hi;obtain ⟨d,l,g1,_,g3⟩:=h3 i _ hi;exact ⟨_,.refl _,by rw [NT g1];exact (g3.mem _ rfl _).2 (.inl ⟨a2,_,a1⟩)⟩
   |fin a1=>
    intro i n s hi;obtain ⟨d,l,g1,_,g3⟩:=h3 i _ hi;exact ⟨_,.refl _,by rw [NT g1];exact (g3.mem _ rfl _).2 (.inr ⟨rfl,a1⟩)⟩
   | @next m q c t a1 a2 a3 _ ih=>
    intro i n s hi;obtain ⟨d,l,g1,g2,g3⟩:=h3 i _ hi;obtain ⟨i',b1,b2⟩:=NS H hN a2 a1;refine KW.back (.step (LV.2 ⟨by have:=BZ hi;omega,?_,by omega,by have:=BZ b1;omega⟩) (.refl _)) (ih i' _ _ b1);rw [cA,g2];exact (g3.next m rfl _).2 ⟨c,q,a1,a2,a3,by rw [b2];rfl⟩
  exact key h i n s hi
end
section
variable {p:dtP}{B:List dtK}{E:List (List Edge)}{fa:dtF}{tt:Int}{steps:List Stp}{o1 o2:Option Nat}
theorem V3 (H:DU p B E fa) {s:Int}(h:s<nT p):¬Nul p.2.2.1 s:=fun g=>by have:=g.var H.gr;omega
theorem S2 {s o:AU}(H:OkS s) (K:OkS o):Ok (Ov s o) fun r=>OkS r.2:=by
 unfold Ov;exact Ba ⟨H,K⟩ (AG (LF H K).1)
theorem NU {s:AU}(H:OkS s):Ok (OD s) fun _=>True:=by
 unfold OD;rw [Hf H];exact AG trivial
theorem XL (H:DU p B E fa) {seq:List Int}(hs:∀s∈seq,0≤s∧s<nT p+(p.2.1.length:Int)) (hq:seq.length≤1000):Ok (Cv fa p seq) fun r=>r.2=true↔∀s∈seq,Nul p.2.2.1 s:=by
 have hT:=H.sy.t1;have hV:=H.vars;have hnT:nT p=(p.1.length:Int):=rfl;have hF:=H.fa;have cl:=LQ H.sy;unfold Cv;obtain ⟨s0,e0,k1,k2,_⟩:=Dg.new_ok (nT p);refine AS e0<|Gb (fun k (z:AU)=>OkS z∧ ∀s∈seq.take k,Nul p.2.2.1 s) (fun b=>b.2=false∧ ¬ ∀s∈seq,Nul p.2.2.1 s) (by omega) ⟨k1,by simp⟩ (fun k z hk hz=> ?_) (fun z hz=> ?_) fun b hb=>AG ⟨fun h=>(by rw [hb.1]at h;cases h),fun h=>absurd h hb.2⟩
 ·obtain ⟨z1,z2⟩:=hz;have hsk:=bR hk;have hmem:=dC hk;obtain ⟨b0,b1⟩:=hs _ hmem;refine AN (Q:=fun (e:Ab AU (List Int×Bool))=>(∃s',e= .next s'∧OkS s'∧ ∀s∈seq.take (k+1),Nul p.2.2.1 s)∨ ∃b,e= .done b∧b.2=false∧ ¬ ∀s∈seq,Nul p.2.2.1 s) ?_ fun e he=> ?_
  ·refine AW hsk (AS (IE p seq[k]) (Ae (fun hc=> ?_) fun hc=> ?_))
   ·rw [dY,decide_eq_true_eq,decide_eq_true_eq]at hc;obtain ⟨v,a1,a2,_⟩:=Dg.add_ok z1 seq[k];refine AS a1 (AN (NU a2) fun l _=>AG (.inr ⟨_,rfl,rfl,fun h=>V3 H (by omega) (h _ hmem)⟩))
   ·rw [eX,decide_eq_false_iff_not,decide_eq_false_iff_not]at hc;have ee:bT .i64 (seq[k] - (p.1.length:Int))=(((seq[k] - nT p).toNat:Nat):Int):=by rw [w64 (by omega) (by omega)];omega
    rw [ee];have hn:=hF.len;have hfl:=hF.flen;refine AN (Q:=fun c=>c=false) (Ak (decide_eq_false (by omega)) (AG (decide_eq_false (by omega)))) fun c hc2=> ?_;subst hc2;refine Ak rfl ?_;have hf:=bR (l:=fa.2.1) (i:=(seq[k] - nT p).toNat) (by omega);have hfew:=hF.few _ (bX hf);obtain ⟨o,e1,o1,_⟩:=Dg.of_ok (nT p) fa.2.1[(seq[k] - nT p).toNat] (by omega);have hb:=bR (l:=fa.1) (i:=(seq[k] - nT p).toNat) (by omega);have hnul:=hF.nul seq[k] (by omega);rw [hb]at hnul;refine AW hf (AS e1 (AN (S2 z1 o1) fun u hu=>AW hb (Ae (fun hc2=>AN (NU hu) fun l _=>AG (.inr ⟨_,rfl,rfl,fun h=> ?_⟩)) fun hc2=>AG (.inl ⟨_,rfl,hu,fun s hs'=> ?_⟩))))
    ·have:=hnul.2 (h _ hmem)
     rw [dU]at hc2;rw [hc2]at this;cases this
    ·rcases (BH hsk).1 hs' with h | rfl
     ·exact z2 s h
     ·refine hnul.1 ?_;rw [Bool.not_eq_false']at hc2;rw [hc2]
  ·rcases he with ⟨s',rfl,h1,h2⟩|⟨b,rfl,h1,h2⟩
   ·exact CX ⟨h1,h2⟩
   ·exact Bj ⟨h1,h2⟩
 ·obtain ⟨z1,z2⟩:=hz;rw [dB (cK _)]at z2;exact AN (NU z1) fun l _=>AG ⟨fun _=>z2,fun _=>rfl⟩
def Hit (p:dtP) (B:List dtK) (E:List (List Edge)) (num:List (Stp×Int)) (n k i:Nat) (kk:Nat):Prop:=
 ∃(q m':Nat) (r:Ay) (c:Int),((trs p E B.length).map (·.1))[n]? =some ((q:Int),r.1)∧p.2.2.1[k]? =some r∧r.2.1[i]? =some c∧(∀s∈r.2.1.drop (i+1),Nul p.2.2.1 s)∧nT p≤c∧Pth (TrB p B E) q (r.2.1.take i) m'∧BG ((m':Int),c) num=some (kk:Int)
def Bef (n k i n' k' i':Nat):Prop:=n'<n∨(n'=n∧(k'<k∨(k'=k∧i'<i)))
structure NV (p:dtP) (B:List dtK) (E:List (List Edge)) (num:List (Stp×Int)) (n k i:Nat) (X:List (List Int)):Prop where
 len:X.length=(trs p E B.length).length
 few:∀l∈X,l.length≤(n *100+k) *100+i
 mem:∀(kk:Nat) l,X[kk]? =some l→ ∀z,z∈l↔∃n' k' i',z=((n':Nat):Int)∧Bef n k i n' k' i'∧Hit p B E num n' k' i' kk
theorem NV.same {num:List (Stp×Int)}{n k i n2 k2 i2:Nat}{X:List (List Int)}(h:NV p B E num n k i X) (hc:(n *100+k) *100+i≤(n2 *100+k2) *100+i2) (hb:∀n' k' i' kk,Hit p B E num n' k' i' kk→(Bef n k i n' k' i'↔Bef n2 k2 i2 n' k' i')):NV p B E num n2 k2 i2 X:=
 ⟨h.len,fun l hl=>Nat.le_trans (h.few l hl) hc,fun kk l hl z=>by
  rw [h.mem kk l hl z];constructor
  ·rintro ⟨n',k',i',h1,h2,h3⟩;exact ⟨n',k',i',h1,(hb _ _ _ _ h3).1 h2,h3⟩
  ·rintro ⟨n',k',i',h1,h2,h3⟩;exact ⟨n',k',i',h1,(hb _ _ _ _ h3).2 h2,h3⟩⟩
theorem Jw (H:DU p B E fa) {n:Nat}(hn:n< (trs p E B.length).length):∃(q m:Nat) (s:Int),(trs p E B.length)[n]? =some (((q:Int),s),(m:Int))∧((trs p E B.length).map (·.1))[n]? =some ((q:Int),s)∧nT p≤s∧TrB p B E q s m:=by
 obtain ⟨q,s,m,h1,h2,h3⟩:=(Jv H.vp H.fin).1 (dC hn);exact ⟨q,m,s,by rw [bR hn,h1],by rw [dI,bR hn,h1];rfl,h2,h3⟩
theorem Xs (H:DU p B E fa) {n m:Nat}{s:Int}(h:TrB p B E n s m):BN (DS p B E tt) (n:Int) s=some (m:Int):=by
 obtain ⟨b,e,hb,he,hg⟩:=h;obtain ⟨x,h1,h2⟩:=WR (t:=tt) H.vp H.fin hb he s;rw [h1,JV.unique H.fin h2 hg]
theorem Ho {n k i n' k' i':Nat}:Bef n k (i+1) n' k' i'↔Bef n k i n' k' i'∨(n'=n∧k'=k∧i'=i):=by
 unfold Bef;omega
set_option maxHeartbeats 1000000 in
theorem V4 (H:DU p B E fa) {num:List (Stp×Int)}(hN:Num ((trs p E B.length).map (·.1)) num) {n k:Nat}{q:Nat}{r:Ay}{m:Nat}(hs:((trs p E B.length).map (·.1))[n]? =some ((q:Int),r.1)) (hr:p.2.2.1[k]? =some r) (ht:TrB p B E q r.1 m)
 {i:Nat} {c:Int} (hc:r.2.1[i]? =some c) {m':Nat} (hp:Pth (TrB p B E) q (r.2.1.take i) m') {X:List (List Int)} (hX:NV p B E num n k i X) (hn:n≤7200):
 Ok (Ui p (DS p B E tt) fa num (n:Int) r.2.1 (i:Int) ((m':Int),X)) fun z=>∃m2:Nat,z.1=(m2:Int)∧Pth (TrB p B E) q (r.2.1.take (i+1)) m2∧NV p B E num n k (i+1) z.2:=by
 have A:=H.aut;have hi:=BZ hc;have hmem:=bX hr;have hk:=BZ hr;have hkf:=H.vp.few;have hsh:=H.vp.short r hmem;obtain ⟨hk0,hit⟩:=A.starts H.gr hr ht;have hq:SB B q:=(A.st ht).1;have hm':=A.part H.gr hq hr hit (l:=r.2.1.take i) (l':=r.2.1.drop i) (eZ _ _).symm hp;rw [eQ,Nat.min_eq_left (by omega)]at hm';obtain ⟨m2,g1,g2⟩:=A.step H.gr (A.at0 hq hp) hm' hr hc;unfold Ui;have e1:((i:Int)+1).toNat=i+1:=by omega
 rw [e1];refine AW hc (Ba ⟨by omega,by omega⟩ (AN (XL H (seq:=r.2.1.drop (i+1)) (fun s hs=>H.sy.right r hmem s (fA hs)) (by simp;omega)) fun sq hsq=> ?_));refine AN (Q:=fun b=>b=true↔(∀s∈r.2.1.drop (i+1),Nul p.2.2.1 s)∧nT p≤c) (Ae (fun h=>AS (IE p c) (AG ?_)) fun h=>AG ?_) fun b hb=> ?_
 ·have h0:=(H.sy.right r hmem c (bX hc)).1;rw [decide_eq_true h0,Bool.true_and,dU,decide_eq_false_iff_not];exact ⟨fun g=>⟨hsq.1 h,Int.not_lt.1 g⟩,fun g=>Int.not_lt.2 g.2⟩
 ·constructor
  ·intro g;cases g
  ·intro g;rw [hsq.2 g.1]at h;cases h
 have next:Pth (TrB p B E) q (r.2.1.take (i+1)) m2:=by
  rw [eC,hc];exact Pth.app.2 ⟨m',hp,m2,g1,rfl⟩
 refine AN (Q:=fun X'=>NV p B E num n k (i+1) X') (Ae (fun h=> ?_) fun h=>AG ?_) fun X' hX'=> ?_
 ·obtain ⟨ha,hc0⟩:=hb.1 h;obtain ⟨kk,b1,b2⟩:=NS H hN hc0 g1;rw [b2];have hkk:kk<X.length:=by rw [hX.len];exact BZ b1
  have hrow:=bR hkk;have hrf:=hX.few _ (dC hkk);refine AW (i:=kk) hrow (Bo (by simp;omega) ?_);show Ok (DL X ((kk:Nat):Int) (X[kk] ++ [(n:Int)])) _;rw [G3 (by omega) (by omega),cA];refine AG ⟨by simp [hX.len],fun l hl=> ?_,fun k3 l hl z=> ?_⟩
  ·rcases dE hl with h | rfl
   ·have:=hX.few l h;omega
   ·rw [dP,eY];omega
  ·have hit1:Hit p B E num n k i kk:=⟨q,m',r,c,hs,hr,hc,ha,hc0,hp,b2⟩;rw [cZ]at hl;split at hl
   ·rename_i e
    subst e;try rw [if_pos hkk]at hl
    cases hl;rw [eG,hX.mem kk _ hrow,fH];constructor
    ·rintro (⟨n',k',i',h1,h2,h3⟩|rfl)
     ·exact ⟨n',k',i',h1,Ho.2 (.inl h2),h3⟩
     ·exact ⟨n,k,i,rfl,Ho.2 (.inr ⟨rfl,rfl,rfl⟩),hit1⟩
    ·rintro ⟨n',k',i',h1,h2,h3⟩;rcases Ho.1 h2 with h2 | ⟨rfl,rfl,rfl⟩
     ·exact .inl ⟨n',k',i',h1,h2,h3⟩
     ·exact .inr h1
   ·rename_i e
    rw [hX.mem k3 l hl];constructor
    ·rintro ⟨n',k',i',h1,h2,h3⟩;exact ⟨n',k',i',h1,Ho.2 (.inl h2),h3⟩
    ·rintro ⟨n',k',i',h1,h2,h3⟩;rcases Ho.1 h2 with h2 | ⟨rfl,rfl,rfl⟩
     ·exact ⟨n',k',i',h1,h2,h3⟩
     ·exfalso;obtain ⟨q2,m3,r2,c2,j1,j2,j3,_,_,j6,j7⟩:=h3;rw [hr]at j2;cases j2;rw [hc]at j3;cases j3;rw [hs]at j1;have hqq:q=q2:=by have:=(Prod.mk.inj (Option.some.inj j1)).1;omega
      subst hqq
      have:=Pth.fn A hp j6
      subst this;rw [b2]at j7
      have:=Option.some.inj j7
      omega
 ·refine hX.same (by omega) fun n' k' i' kk hh=> ?_;rw [Ho];constructor
  ·exact fun g=>.inl g
  ·rintro (g | ⟨rfl,rfl,rfl⟩)
   ·exact g
   ·exfalso;obtain ⟨q2,m3,r2,c2,j1,j2,j3,j4,j5,_,_⟩:=hh;rw [hr]at j2;cases j2;rw [hc]at j3;cases j3
    have:=hb.2 ⟨j4,j5⟩
    rw [h]at this;cases this
 ·refine AS (Xs H g1) (AG ⟨m2,rfl,next,hX'⟩)
set_option maxHeartbeats 1000000 in
theorem QJ (H:DU p B E fa) {num:List (Stp×Int)}(hN:Num ((trs p E B.length).map (·.1)) num):
 Ok (GJ p (DS p B E tt) fa ((trs p E B.length).map (·.1)) num) fun X=>NV p B E num (trs p E B.length).length 0 0 X:=by
 have hl:=H.lens;have A:=H.aut;have hkf:=H.vp.few;unfold GJ;rw [cS];refine AS (x:=cU (trs p E B.length).length []) (by unfold Dw;rw [if_pos ⟨by omega,by omega⟩,cA])<|Bw (n:=(trs p E B.length).length) (fun n X=>NV p B E num n 0 0 X) (by omega) ⟨by simp,fun l hl=>by rw [(List.mem_replicate.1 hl).2];simp,fun kk l hl z=> ?_⟩ fun n X hn hX=> ?_
 ·rw [eR]at hl;split at hl
  ·cases hl;constructor
   ·intro h;cases h
   ·rintro ⟨n',k',i',_,h2,_⟩;unfold Bef at h2;omega
  ·cases hl
 obtain ⟨q,m,s,h1,h2,h3,h4⟩:=Jw H hn;refine AW h2 ?_;obtain ⟨X',e1,e2⟩:=Bw (f:=fun k X=>(idx p.2.2.1 k).bind fun r=>cond (r.1 !=s) (some X) ((forS (σ:=Int×List (List Int)) 0 (r.2.1.length:Int) ((q:Int),X) (Ui p (DS p B E tt) fa num (n:Int) r.2.1)).bind fun z=>some z.2)) (n:=p.2.2.1.length) (fun k X=>NV p B E num n k 0 X) (by omega) (s:=X) hX fun k X hk hX=>by
  have hr:=bR hk;obtain ⟨r,hre⟩:∃r,p.2.2.1[k] =r:=⟨_,rfl⟩;rw [hre]at hr;have hsh:=H.vp.short r (bX hr);refine AW hr (Ae (fun hc=>AG ?_) fun hc=> ?_)
  ·refine hX.same (by omega) fun n' k' i' kk hh=> ?_;constructor
   ·unfold Bef;omega
   ·intro g;by_cases e:n'=n∧k'=k
    ·obtain ⟨rfl,rfl⟩:=e;exfalso;obtain ⟨q2,m3,r2,c2,j1,j2,_⟩:=hh;rw [hr]at j2;cases j2;rw [h2]at j1
     have:=(Prod.mk.inj (Option.some.inj j1)).2
     rw [this]at hc;simp at hc
    ·unfold Bef at g ⊢;omega
  ·have hsr:r.1=s:=by simpa using hc
   subst hsr;refine B8 (fun i (z:Int×List (List Int))=>∃m':Nat,z.1=(m':Int)∧Pth (TrB p B E) q (r.2.1.take i) m'∧NV p B E num n k i z.2) (by omega) ⟨q,rfl,by rw [List.take_zero];rfl,hX⟩ (fun i z hi hz=> ?_) fun z hz=> ?_
   ·obtain ⟨z1,z2⟩:=z;obtain ⟨m',rfl,g1,g2⟩:=hz;exact V4 H hN h2 hr h4 (bR hi) g1 g2 (by omega)
   ·obtain ⟨m',_,_,g2⟩:=hz;refine AG (g2.same (by omega) fun n' k' i' kk hh=> ?_);constructor
    ·unfold Bef;omega
    ·intro g;by_cases e:n'=n∧k'=k
     ·obtain ⟨rfl,rfl⟩:=e;obtain ⟨q2,m3,r2,c2,_,j2,j3,_⟩:=hh;rw [hr]at j2;cases j2
      have:=BZ j3
      unfold Bef;omega
     ·unfold Bef at g ⊢;omega
 refine ⟨X',e1,e2.same (by omega) fun n' k' i' kk hh=> ?_⟩;obtain ⟨q2,m3,r2,c2,_,j2,_⟩:=hh
 have:=BZ j2
 unfold Bef;omega
theorem XM (H:DU p B E fa) {num:List (Stp×Int)}(hN:Num ((trs p E B.length).map (·.1)) num) {inc:List (List Int)}(hI:NV p B E num (trs p E B.length).length 0 0 inc) {f1:List AU}(h1:f1.length=(trs p E B.length).length)
 (h3:∀(i:Nat) (n:Int) (s:Int) (m:Nat),(trs p E B.length)[i]? =some ((n,s),(m:Int))→ ∃d,f1[i]? =some d∧(OkS d∧d.1=nT p)∧ ∀j,mem d j=true↔Rdd (nT p) p.2.2.1 (KB B) (TrB p B E) m j):
 Ok (HN inc f1) fun r=>r.length=(trs p E B.length).length∧ ∀(i:Nat) (n:Nat) (s:Int) (m:Nat),(trs p E B.length)[i]? =some (((n:Int),s),(m:Int))→ ∃d,r[i]? =some d∧(OkS d∧d.1=nT p)∧ ∀j,mem d j=true↔Fol (nT p) p.2.2.1 (KB B) (TrB p B E) n s j:=by
 have hT:=H.sy.t1;have hl:=H.lens;have hnT:nT p=(p.1.length:Int):=rfl;have A:=H.aut;obtain ⟨r,e1,e2,e3⟩:=P7 (ll:=inc) (B:=f1) (wide:=nT p) (by omega) (by omega) (by omega) (fun l hl=>by have:=hI.few l hl;omega) (fun k s hk=>by
  obtain ⟨q,m,s',g1,_⟩:=Jw H (n:=k) (by have:=BZ hk;omega);obtain ⟨d,g2,g3,_⟩:=h3 k _ _ _ g1;rw [hk]at g2;cases g2;exact g3)
 refine ⟨r,e1,e2.trans h1,fun i n s m hi=> ?_⟩;have hlt:=BZ hi;have hr:=bR (l:=r) (i:=i) (by omega);obtain ⟨k1,k2,k3⟩:=e3 i _ hr;refine ⟨_,hr,⟨k1,k2⟩,fun j=> ?_⟩;rw [k3];have tr:∀ {i n m:Nat} {s:Int},(trs p E B.length)[i]? =some (((n:Int),s),(m:Int))→nT p≤s∧TrB p B E n s m:=fun {i n m s} h=>by
  obtain ⟨n',s',m',g1,g2,g3⟩:=(Jv H.vp H.fin).1 (bX h);have a1:=(Prod.mk.inj (Prod.mk.inj g1).1).1;have a2:=(Prod.mk.inj (Prod.mk.inj g1).1).2;have a3:=(Prod.mk.inj g1).2
  have:n=n':=by omega
  subst this
  have:m=m':=by omega
  subst this;subst a2;exact ⟨g2,g3⟩
 constructor
 ·rintro ⟨z,hz,hj⟩;have key:∀(v z:Int),Dg.Reach inc (f1.length:Int) v z→mem (gv f1 z) j=true→ ∀(i n:Nat) (s:Int) (m:Nat),v=(i:Int)→(trs p E B.length)[i]? =some (((n:Int),s),(m:Int))→Fol (nT p) p.2.2.1 (KB B) (TrB p B E) n s j:=by
   intro v z hv
   induction hv with
   |refl v=>
    intro hj i n s m hv hi;subst hv;obtain ⟨d,g1,_,g3⟩:=h3 i _ _ _ hi;rw [NT g1]at hj;exact .read (tr hi).2 ((g3 j).1 hj)
   | @step x y z hy _ ih=>
    intro hj i n s m hv hi;subst hv;obtain ⟨w1,w2,w3,w4⟩:=LV.1 hy;have hil:i<inc.length:=by omega
    have hrow:=bR hil;rw [cA,hrow]at w2;obtain ⟨n',k',i',rfl,_,q,m',r,c,j1,j2,j3,j4,j5,j6,j7⟩:=(hI.mem i _ hrow y).1 w2;have hn':n'< (trs p E B.length).length:=by have:=BZ j1;rwa [cS]at this
    obtain ⟨q2,m2,s2,a1,a2,a3,a4⟩:=Jw H hn';rw [j1]at a2;have b1:=(Prod.mk.inj (Option.some.inj a2)).1;have b2:=(Prod.mk.inj (Option.some.inj a2)).2
    have:q=q2:=by omega
    subst this;subst b2;obtain ⟨hk0,hit⟩:=A.starts H.gr j2 a4;have hq:SB B q:=(A.st a4).1;have hpt:=A.part H.gr hq j2 hit (l:=r.2.1.take i') (l':=r.2.1.drop i') (eZ _ _).symm j6;rw [eQ,Nat.min_eq_left (by have:=BZ j3;omega)]at hpt;obtain ⟨mm,c1,c2⟩:=A.step H.gr (A.at0 hq j6) hpt j2 j3;obtain ⟨kk,d1,d2⟩:=NS H hN j5 c1;rw [j7]at d2
    have:kk=i:=by have:=Option.some.inj d2;omega
    subst this;rw [hi]at d1;have d1:=Option.some.inj d1;have e1:=(Prod.mk.inj (Prod.mk.inj d1).1).1;have e2:=(Prod.mk.inj (Prod.mk.inj d1).1).2;have e1:n=m':=by omega
    subst e1;subst e2;exact .incl (tr hi).2 j2 (Er j3) j4 hit j6 (ih hj n' q r.1 m2 rfl a1)
  exact key _ _ hz hj i n s m rfl hi
 ·intro h;have key:∀ {n:Nat} {s j:Int},Fol (nT p) p.2.2.1 (KB B) (TrB p B E) n s j→ ∀(i m:Nat),(trs p E B.length)[i]? =some (((n:Int),s),(m:Int))→KW inc (f1.length:Int) f1 (i:Int) j:=by
   intro n s j h
   induction h with
   |read a1 a2=>
    intro i m hi
    have:=A.fn a1 (tr hi).2
    subst this;obtain ⟨d,g1,_,g3⟩:=h3 i _ _ _ hi;exact ⟨_,.refl _,by rw [NT g1];exact (g3 _).2 a2⟩
   | @incl n m0 q k a t r b g a1 a2 a3 a4 a5 a6 a7 ih=>
    intro i m hi;obtain ⟨m2,a8⟩:=a7.tr;have hL:nT p≤r.1:=(H.sy.left r (bX a2)).1;obtain ⟨i',b1,b2⟩:=NS H hN hL a8;refine KW.back (.step (LV.2 ⟨by have:=BZ hi;have:=hI.len;omega,?_,by omega,by have:=BZ b1;omega⟩) (.refl _)) (ih i' m2 b1);have hil:i<inc.length:=by have:=BZ hi;have:=hI.len;omega
    have hrow:=bR hil;rw [cA,hrow];refine (hI.mem i _ hrow _).2 ⟨i',k,b.length,rfl,.inl (BZ b1),q,n,r,a,by rw [dI,b1];rfl,a2,by rw [a3];simp,fun s hs=>a4 s ?_,(tr hi).1,by rw [a3];simpa using a6,?_⟩
    ·rw [a3]at hs;have e:(b++a::g).drop (b.length+1)=g:=by simp
     rwa [e]at hs
    ·exact hN.at_ i _ (by rw [dI,hi];rfl)
  exact key h i m hi
end
section
variable {p:dtP}{B:List dtK}{E:List (List Edge)}{fa:dtF}{tt:Int}{steps:List Stp}{o1 o2:Option Nat}
theorem Ux (H:Fin p B E) {l:List Int}{n m:Nat}(hn:n<B.length) (h:Pth (TrB p B E) n l m):Walk p.2.2.1 B E (n:Int) l (m:Int):=(UY H hn).2 h
theorem V5 (H:DU p B E fa) {n m:Nat}{l:List Int}(hn:n<B.length) (hl:l.length≤1000000) (h:Pth (TrB p B E) n l m):Bq (DS p B E tt) (n:Int) l=some (m:Int):=by
 obtain ⟨x,h1,h2,_⟩:=Vh (t:=tt) H.vp H.fin hn hl;rw [h1,Walk.unique H.fin h2 (Ux H.fin hn h)]
def Nr (p:dtP) (B:List dtK) (E:List (List Edge)) (n k:Nat) (key:At) (q:Nat) (r:Ay):Prop:=
 ((trs p E B.length).map (·.1))[n]? =some ((q:Int),r.1)∧p.2.2.1[k]? =some r∧ ∃w:Nat,Pth (TrB p B E) q r.2.1 w∧key=((w:Int),(k:Int))
structure GiI (p:dtP) (B:List dtK) (E:List (List Edge)) (n k:Nat) (L:LkL):Prop where
 some_:∀key d,BG key L=some d→(OkS d∧d.1=nT p)∧(∃n' k' q r,Bef n k 0 n' k' 0∧Nr p B E n' k' key q r)∧ ∀j,mem d j=true↔∃n' k' q r,Bef n k 0 n' k' 0∧Nr p B E n' k' key q r∧Fol (nT p) p.2.2.1 (KB B) (TrB p B E) q r.1 j
 none_:∀key,BG key L=none→ ∀n' k' q r,Bef n k 0 n' k' 0→ ¬Nr p B E n' k' key q r
theorem Eu {n k n' k':Nat}:Bef n (k+1) 0 n' k' 0↔Bef n k 0 n' k' 0∨(n'=n∧k'=k):=by
 unfold Bef;omega
theorem GiI.same {n k n2 k2:Nat}{L:LkL}(h:GiI p B E n k L) (hb:∀n' k' key q r,Nr p B E n' k' key q r→(Bef n k 0 n' k' 0↔Bef n2 k2 0 n' k' 0)):GiI p B E n2 k2 L:=by
 refine ⟨fun key d hk=> ?_,fun key hk n' k' q r hb' hg=>h.none_ key hk n' k' q r ((hb _ _ _ _ _ hg).2 hb') hg⟩;obtain ⟨h1,⟨n',k',q,r,h2,h3⟩,h4⟩:=h.some_ key d hk;refine ⟨h1,⟨n',k',q,r,(hb _ _ _ _ _ h3).1 h2,h3⟩,fun j=> ?_⟩;rw [h4];constructor
 ·rintro ⟨n',k',q,r,a,b,c⟩;exact ⟨n',k',q,r,(hb _ _ _ _ _ b).1 a,b,c⟩
 ·rintro ⟨n',k',q,r,a,b,c⟩;exact ⟨n',k',q,r,(hb _ _ _ _ _ b).2 a,b,c⟩
theorem Uy (H:DU p B E fa) {fo:List AU}(hf:∀(i:Nat) (n:Nat) (s:Int) (m:Nat),(trs p E B.length)[i]? =some (((n:Int),s),(m:Int))→ ∃d,fo[i]? =some d∧(OkS d∧d.1=nT p)∧ ∀j,mem d j=true↔Fol (nT p) p.2.2.1 (KB B) (TrB p B E) n s j)
 {n k q m:Nat} {s:Int} (hn:(trs p E B.length)[n]? =some (((q:Int),s),(m:Int))) (ht:TrB p B E q s m) (hk:k<p.2.2.1.length) {L:LkL} (hL:GiI p B E n k L):
 Ok (QG p (DS p B E tt) fo (n:Int) ((q:Int),s) (k:Int) L) (GiI p B E n (k+1)):=by
 have A:=H.aut;have hT:=H.sy.t1;have hnT:nT p=(p.1.length:Int):=rfl;have cl:=LQ H.sy;have hr:=bR hk;obtain ⟨r,hre⟩:∃r,p.2.2.1[k] =r:=⟨_,rfl⟩;rw [hre]at hr;have hst:((trs p E B.length).map (·.1))[n]? =some ((q:Int),s):=by rw [dI,hn];rfl
 unfold QG;refine AW hr (Ae (fun hc=>AG ?_) fun hc=> ?_)
 ·refine hL.same fun n' k' key q' r' hg=> ?_;rw [Eu];constructor
  ·exact fun g=>.inl g
  ·rintro (g | ⟨rfl,rfl⟩)
   ·exact g
   ·exfalso;obtain ⟨j1,j2,_⟩:=hg;rw [hr]at j2;cases j2;rw [hst]at j1
    have:=(Prod.mk.inj (Option.some.inj j1)).2
    dsimp only at hc;rw [this]at hc;simp at hc
 ·have hsr:r.1=s:=by simpa using hc
  subst hsr;obtain ⟨hk0,hit⟩:=A.starts H.gr hr ht;have hq:SB B q:=(A.st ht).1;obtain ⟨w,hw,_⟩:=A.along H.gr hr hq hit (l:=r.2.1) rfl;have hsh:=H.sy.short r (bX hr);refine AS (V5 H hq (by omega) hw) ?_;obtain ⟨o,ho,⟨o1,o2⟩,o3⟩:=hf n q r.1 m hn;have hget:Nr p B E n k ((w:Int),(k:Int)) q r:=⟨hst,hr,w,hw,rfl⟩;have uniq:∀key q' r',Nr p B E n k key q' r'→key=((w:Int),(k:Int))∧q'=q∧r'=r:=fun key q' r' hg=>by
   obtain ⟨j1,j2,w',j3,j4⟩:=hg;rw [hr]at j2;cases j2;rw [hst]at j1;have hqq:q=q':=by have:=(Prod.mk.inj (Option.some.inj j1)).1;omega
   subst hqq
   have:=Pth.fn A hw j3
   subst this;exact ⟨j4,rfl,rfl⟩
  refine AN (Q:=fun L'=>∃d,BG ((w:Int),(k:Int)) L'=some d∧(OkS d∧d.1=nT p)∧(∀j,mem d j=true↔∃n' k' q' r',Bef n k 0 n' k' 0∧Nr p B E n' k' ((w:Int),(k:Int)) q' r'∧Fol (nT p) p.2.2.1 (KB B) (TrB p B E) q' r'.1 j)∧ ∀key,key≠((w:Int),(k:Int))→BG key L'=BG key L) ?_ fun L' hL'=> ?_
  ·cases hg:BG ((w:Int),(k:Int)) L with
   |none=>
    obtain ⟨s0,e0,k1,k2,k3⟩:=Dg.new_ok (nT p);refine Cu rfl (AS e0 (AG ⟨s0,by rw [Cm,if_pos rfl],⟨k1,k2.trans cl⟩,fun j=> ?_,fun key hne=>by rw [Cm,if_neg hne]⟩));rw [k3];constructor
    ·intro h;cases h
    ·rintro ⟨n',k',q',r',a,b,_⟩;exact absurd b (hL.none_ _ hg n' k' q' r' a)
   |some d=>
    obtain ⟨a1,a2,a3⟩:=hL.some_ _ d hg;exact Ak rfl (AG ⟨d,hg,a1,a3,fun _ _=>rfl⟩)
  ·obtain ⟨d,b1,⟨b2,b3⟩,b4,b5⟩:=hL';refine AW ho (AS b1 (Ba ⟨b2,o1⟩ (AG ?_)));obtain ⟨u1,u2,u3⟩:=LF b2 o1;refine ⟨fun key dd hkey=> ?_,fun key hkey n' k' q' r' hb hg=> ?_⟩
   ·rw [Cm]at hkey;by_cases he:key=((w:Int),(k:Int))
    ·subst he;rw [if_pos rfl]at hkey;cases hkey;refine ⟨⟨u1,u2.trans b3⟩,⟨n,k,q,r,Eu.2 (.inr ⟨rfl,rfl⟩),hget⟩,fun j=> ?_⟩;rw [u3,dR,dY,b4,o3,b3];constructor
     ·rintro (⟨n',k',q',r',a,b,c⟩|⟨h,_⟩)
      ·exact ⟨n',k',q',r',Eu.2 (.inl a),b,c⟩
      ·exact ⟨n,k,q,r,Eu.2 (.inr ⟨rfl,rfl⟩),hget,h⟩
     ·rintro ⟨n',k',q',r',a,b,c⟩;rcases Eu.1 a with a | ⟨rfl,rfl⟩
      ·exact .inl ⟨n',k',q',r',a,b,c⟩
      ·obtain ⟨_,e2,e3⟩:=uniq _ _ _ b;subst e2 e3;refine .inr ⟨c,decide_eq_true ?_⟩
       have:=Lj o1 ((o3 j).2 c)
       omega
    ·rw [if_neg he,b5 key he]at hkey;obtain ⟨a1,⟨n',k',q',r',a2,a3⟩,a4⟩:=hL.some_ key dd hkey;refine ⟨a1,⟨n',k',q',r',Eu.2 (.inl a2),a3⟩,fun j=> ?_⟩;rw [a4];constructor
     ·rintro ⟨n',k',q',r',a,b,c⟩;exact ⟨n',k',q',r',Eu.2 (.inl a),b,c⟩
     ·rintro ⟨n',k',q',r',a,b,c⟩;rcases Eu.1 a with a | ⟨rfl,rfl⟩
      ·exact ⟨n',k',q',r',a,b,c⟩
      ·exact absurd (uniq _ _ _ b).1 he
   ·rw [Cm]at hkey;by_cases he:key=((w:Int),(k:Int))
    ·rw [if_pos he]at hkey;cases hkey
    ·rw [if_neg he,b5 key he]at hkey;rcases Eu.1 hb with hb | ⟨rfl,rfl⟩
     ·exact hL.none_ key hkey n' k' q' r' hb hg
     ·exact he (uniq _ _ _ hg).1
structure XN (p:dtP) (B:List dtK) (E:List (List Edge)) (L:LkL):Prop where
 some_:∀key d,BG key L=some d→OkS d∧d.1=nT p∧ ∃s k:Nat,key=((s:Int),(k:Int))∧s<B.length∧k<p.2.2.1.length∧ ∀j,mem d j=true↔Lk (nT p) p.2.2.1 (KB B) (TrB p B E) s k j
 none_:∀(s k:Nat) j,BG ((s:Int),(k:Int)) L=none→k<p.2.2.1.length→ ¬Lk (nT p) p.2.2.1 (KB B) (TrB p B E) s k j
theorem V6 (H:DU p B E fa) {fo:List AU}(hf:∀(i:Nat) (n:Nat) (s:Int) (m:Nat),(trs p E B.length)[i]? =some (((n:Int),s),(m:Int))→ ∃d,fo[i]? =some d∧(OkS d∧d.1=nT p)∧ ∀j,mem d j=true↔Fol (nT p) p.2.2.1 (KB B) (TrB p B E) n s j):
 Ok (OL p (DS p B E tt) fa ((trs p E B.length).map (·.1)) fo) (XN p B E):=by
 have hl:=H.lens;have A:=H.aut;have hkf:=H.sy.few;have hBf:=H.few;have hT:=H.sy.t1;have hnT:nT p=(p.1.length:Int):=rfl;have cl:=LQ H.sy;obtain ⟨z0,hz0⟩:=H.zero;unfold OL;rw [cS];refine B8 (fun n L=>GiI p B E n 0 L) (by omega) ⟨(fun key d h=>by cases h),fun key _ n' k' q r hb=>(by unfold Bef at hb;omega)⟩ (fun n L hn hL=> ?_) fun L hL=> ?_
 ·obtain ⟨q,m,s,h1,h2,h3,h4⟩:=Jw H hn;refine AW h2 ?_;obtain ⟨L',e1,e2⟩:=Bw (f:=fun k L=>QG p (DS p B E tt) fo (n:Int) ((q:Int),s) k L) (n:=p.2.2.1.length) (fun k L=>GiI p B E n k L) (by omega) (s:=L) hL fun k L hk hL=>Uy H hf h1 h4 hk hL;refine ⟨L',e1,e2.same fun n' k' key q r hg=> ?_⟩
  have:=BZ hg.2.1
  unfold Bef;omega
 ·refine AS (NI H.fin) ?_;have conv:∀(w k:Nat) j,0<k→((∃n' k' q r,Bef (trs p E B.length).length 0 0 n' k' 0∧Nr p B E n' k' ((w:Int),(k:Int)) q r∧Fol (nT p) p.2.2.1 (KB B) (TrB p B E) q r.1 j)↔Lk (nT p) p.2.2.1 (KB B) (TrB p B E) w k j):=fun w k j hk=>by
   constructor
   ·rintro ⟨n',k',q,r,_,⟨j1,j2,w',j3,j4⟩,h⟩;have e1:w=w':=by have:=(Prod.mk.inj j4).1;omega
    have e2:k=k':=by have:=(Prod.mk.inj j4).2;omega
    subst e1 e2;obtain ⟨m,hm⟩:=h.tr;exact .inr ⟨hk,q,m,r,j2,hm,j3,h⟩
   ·rintro (⟨e,_⟩|⟨_,q,m,r,j1,j2,j3,j4⟩)
    ·omega
    ·have hL:nT p≤r.1:=(H.sy.left r (bX j1)).1;obtain ⟨i,hi⟩:=cY ((Jv H.vp H.fin).2 ⟨q,r.1,m,rfl,hL,j2⟩);exact ⟨i,k,q,r,.inl (BZ hi),⟨by rw [dI,hi];rfl,j1,w,j3,rfl⟩,j4⟩
  have pos:∀ {n' k':Nat} {key:At} {q:Nat} {r:Ay},Nr p B E n' k' key q r→0<k':=fun {n' k' key q r} hg=>by
   obtain ⟨j1,j2,_⟩:=hg;have hn':n'< (trs p E B.length).length:=by have:=BZ j1;rwa [cS]at this
   obtain ⟨q2,m2,s2,a1,a2,a3,a4⟩:=Jw H hn';rw [j1]at a2;have b1:=(Prod.mk.inj (Option.some.inj a2)).1;have b2:=(Prod.mk.inj (Option.some.inj a2)).2
   have:q=q2:=by omega
   subst this;subst b2;exact (A.starts H.gr j2 a4).1
  refine Bw (n:=B.length) (fun i (L':LkL)=>(∀(w k:Nat),0<k→BG ((w:Int),(k:Int)) L'=BG ((w:Int),(k:Int)) L)∧(∀key d,BG key L'=some d→OkS d∧d.1=nT p∧ ∃s k:Nat,key=((s:Int),(k:Int))∧s<B.length∧k<p.2.2.1.length)∧
   (∀w:Nat,(∀d,BG ((w:Int),(0:Int)) L'=some d→(w<i∧It p.2.2.1 (KB B) w 0 1)∧ ∀j,mem d j=true↔j=0)∧(BG ((w:Int),(0:Int)) L'=none→w<i→ ¬It p.2.2.1 (KB B) w 0 1))) (by omega) (s:=L) ⟨fun _ _ _=>rfl,fun key d hk=> ?_,fun w=>⟨fun d hd=> ?_,fun _ h=>by omega⟩⟩ (fun i L' hi hL'=> ?_) |>.elim fun L' hL'=>⟨L',hL'.1,?_⟩
  ·obtain ⟨⟨a1,a2⟩,⟨n',k',q,r,_,hg⟩,_⟩:=hL.some_ key d hk;obtain ⟨j1,j2,w,j3,j4⟩:=hg;have hn':n'< (trs p E B.length).length:=by have:=BZ j1;rwa [cS]at this
   obtain ⟨q2,m2,s2,b1,b2,b3,b4⟩:=Jw H hn';rw [j1]at b2;have c1:=(Prod.mk.inj (Option.some.inj b2)).1
   have:q=q2:=by omega
   subst this;exact ⟨a1,a2,w,k',j4,A.at0 (A.st b4).1 j3,BZ j2⟩
  ·obtain ⟨_,⟨n',k',q,r,_,hg⟩,_⟩:=hL.some_ _ d hd;have h0:=pos hg;obtain ⟨_,_,w',_,j4⟩:=hg
   have:=(Prod.mk.inj j4).2
   omega
  ·obtain ⟨i1,i2,i3⟩:=hL';refine AN (R4 (tt:=tt) (steps:=(trs p E B.length).map (·.1)) (o1:=none) (o2:=none) H hi (k:=0) hz0) fun b hb=> ?_;have hb:b=true↔It p.2.2.1 (KB B) i 0 1:=hb;refine Ae (fun hc=> ?_) fun hc=>AG ⟨i1,i2,fun w=>⟨fun d hd=>⟨⟨by have:=((i3 w).1 d hd).1.1;omega,((i3 w).1 d hd).1.2⟩,((i3 w).1 d hd).2⟩,fun hn hw hit=> ?_⟩⟩
   ·obtain ⟨o,e,a1,a2,a3⟩:=Dg.of_ok (nT p) [0] (by simp);refine AS e (AG ⟨fun w k hk=> ?_,fun key d hd=> ?_,fun w=>⟨fun d hd=> ?_,fun hn hw=> ?_⟩⟩)
    ·rw [Cm,if_neg (fun e=>by have:=(Prod.mk.inj e).2;omega)];exact i1 w k hk
    ·rw [Cm]at hd;split at hd
     ·rename_i he
      cases hd;exact ⟨a1,a2.trans cl,i,0,he,hi,BZ hz0⟩
     ·exact i2 key d hd
    ·rw [Cm]at hd;split at hd
     ·rename_i he
      cases hd
      have:w=i:=by have:=(Prod.mk.inj he).1;omega
      subst this;refine ⟨⟨by omega,hb.1 hc⟩,fun j=> ?_⟩;rw [a3,cl,dY,decide_eq_true_eq];constructor
      ·rintro ⟨_,h⟩;simpa using h
      ·rintro rfl;exact ⟨by omega,by simp⟩
     ·obtain ⟨⟨g1,g2⟩,g3⟩:=(i3 w).1 d hd;exact ⟨⟨by omega,g2⟩,g3⟩
    ·rw [Cm]at hn;split at hn
     ·cases hn
     ·rename_i he
      have:w≠i:=fun e=>he (by rw [e])
      exact (i3 w).2 hn (by omega)
   ·by_cases e:w=i
    ·subst e
     have:=hb.2 hit
     rw [hc]at this;cases this
    ·exact (i3 w).2 hn (by omega) hit
  ·obtain ⟨_,i1,i2,i3⟩:=hL';refine ⟨fun key d hd=> ?_,fun s k j hn hk=> ?_⟩
   ·obtain ⟨a1,a2,s,k,rfl,a3,a4⟩:=i2 key d hd;refine ⟨a1,a2,s,k,rfl,a3,a4,fun j=> ?_⟩;rcases eM k with rfl | hk
    ·obtain ⟨⟨_,g2⟩,g3⟩:=(i3 s).1 d hd;rw [g3];constructor
     ·rintro rfl;exact .inl ⟨rfl,rfl,g2⟩
     ·exact Rs
    ·rw [i1 s k hk]at hd;rw [((hL.some_ _ d hd).2.2 j),conv s k j hk]
   ·rcases eM k with rfl | hk0
    ·rintro (⟨_,_,h⟩|⟨h,_⟩)
     ·have hs:s<B.length:=by
       rcases fL s B.length with g | g
       ·exact g
       ·exfalso
        have:KB B s= []:=by unfold KB;rw [List.getElem?_eq_none g]
        unfold It at h;rw [this]at h;have key:∀x,Cl p.2.2.1 [] x→False:=fun x hx=>by
         induction hx with
         |base h=>cases h
         |step _ _ _ ih=>exact ih
        exact key _ h
      exact (i3 s).2 hn hs h
     ·omega
    ·rw [i1 s k hk0]at hn;intro h;obtain ⟨n',k',q,r,b1,b2,_⟩:=(conv s k j hk0).2 h
     exact hL.none_ _ hn n' k' q r b1 b2
theorem V7 {p:dtP}{B:List dtK}{E:List (List Edge)}{tt:Int}(H:∀fa,Ue p fa→DU p B E fa) (S:Sy p):Ok (Ry p (DS p B E tt)) fun r=>∃d,r=some d∧d.p=p∧d.A=DS p B E tt∧Ue p d.fa∧XN p B E d.L:=by
 unfold Ry;refine AN (Uf S) fun fa hfa=> ?_;have H:=H fa hfa;have hl:=H.lens;have hBf:=H.few;refine AN (Uu (tt:=tt) H.vp H.fin (by omega) (by omega)) fun st hst=> ?_;obtain ⟨st1,num⟩:=st;obtain ⟨rfl,hN⟩:=hst;dsimp only at hN ⊢;refine AN (Uw (tt:=tt) H) fun rd hrd=> ?_;obtain ⟨r1,r2,r3⟩:=hrd;refine AN (QJ (tt:=tt) H hN) fun inc hinc=>AN (XK H hN r1 r2 r3) fun f1 hf1=>AN (XM H hN hinc hf1.1 hf1.2) fun f2 hf2=>AN (V6 (tt:=tt) H hf2.2) fun L hL=>AG ⟨_,rfl,rfl,rfl,hfa,hL⟩
end
end Go.Proofs.YteolcjbobmpdiaaGreatDoor
namespace Go.Proofs.YteolcjbobmpdiaaGreatDoor
open Go Go.Eng
set_option linter.unusedVariables false
set_option maxRecDepth 100000
section
variable {φ:AD}{h:AH}{F:List Chk}
theorem R5 {φ:AD}{S S':List Slc}{E:List (List Edge)}{B B':List dtK}{c i:Nat}(hS:S.length=B.length) (hE:E.length=B.length) (H:DR φ S E c) (hf:Hk S E i) (h:(B'=B∧S'=S)∨ ∃x,B'=B++ [x] ∧S'=S++ [Fa]):
 S'.length=B'.length∧(Fb E B.length B'.length).length=B'.length∧DR φ S' (Fb E B.length B'.length) c∧Hk S' (Fb E B.length B'.length) i∧(∀(j:Nat) s,S[j]? =some s→S'[j]? =some s)∧(∀(j:Nat) e,E[j]? =some e→(Fb E B.length B'.length)[j]? =some e)∧ ∀(j:Nat) b,B[j]? =some b→B'[j]? =some b:=by
 rcases h with ⟨rfl,rfl⟩|⟨x,rfl,rfl⟩
 ·unfold Fb;rw [if_pos rfl];exact ⟨hS,hE,H,hf,fun _ _ h=>h,fun _ _ h=>h,fun _ _ h=>h⟩
 ·unfold Fb;rw [if_neg (by simp)];have ap:∀ {α:Type} {l:List α} {x y:α} {j:Nat},l[j]? =some y→(l++ [x])[j]? =some y:=fun {α l x y j} h=>by
   rw [dZ (List.getElem?_eq_some_iff.1 h).1];exact h
  exact ⟨by simp [hS],by simp [hE],H.snoc (by omega),hf.snoc,fun _ _ h=>ap h,fun _ _ h=>ap h,fun _ _ h=>ap h⟩
theorem Uz {S:List Slc}{E:List (List Edge)}{i:Nat}(H:Hk S E i) (h1:i<S.length) (h2:i<E.length):S[i]? =some Fa∧E[i]? =some []:=by
 have a:=bR h1;have b:=bR h2;exact ⟨by rw [a,(H i (cK _)).1 _ a],by rw [b,(H i (cK _)).2 _ b]⟩
theorem Hk.mono {S:List Slc}{E:List (List Edge)}{i i':Nat}(H:Hk S E i) (h:i≤i'):Hk S E i':=fun j hj=>H j (Nat.le_trans h hj)
theorem XO {φ:AD}{S:List Slc}{E:List (List Edge)}{i:Nat}{s:Slc}{e:List Edge}(H:DR φ S E i) (hf:Hk S E (i+1)):DR φ (S.set i s) (E.set i e) i∧Hk (S.set i s) (E.set i e) (i+1):=by
 refine ⟨fun j s' e' hj h1 h2=> ?_,fun j hj=>⟨fun s' h=> ?_,fun e' h=> ?_⟩⟩
 ·rw [dJ (by omega)]at h1 h2;exact H j s' e' hj h1 h2
 ·rw [dJ (by omega)]at h;exact (hf j hj).1 s' h
 ·rw [dJ (by omega)]at h;exact (hf j hj).2 e' h
theorem XP {φ:AD}{S:List Slc}{E:List (List Edge)}{i:Nat}{s:Slc}{e:List Edge}(H:DR φ S E i) (hs:S[i]? =some s) (he:E[i]? =some e) (k:Ro.SliceIs GO φ s e):DR φ S E (i+1):=by
 intro j s' e' hj h1 h2;by_cases hji:j=i
 ·subst hji;rw [hs]at h1;rw [he]at h2;cases h1;cases h2;exact k
 ·exact H j s' e' hji h1 h2
theorem St.to9' {e a0 a1 a2 a3 a4 a5 a6 a7 a8:Chk}(H:St φ (e::a4::a0::a1::a2::a3::a5::a6::a7::a8::F) h):St φ (a0::a1::a2::a3::a4::a5::a6::a7::a8::e::F) h:=
 H.at9.at9.at9.at9.at5.at9.at9.at9.at9
def WT (φ:AD) (c3 c4 c5 c6 m a r1 r2:Nat) (p:BA) (G:List Chk) (i:Nat) (y:BSt) (w:AH):Prop:= ∃(ψ:AD) (ls:Slc) (S:List Slc),Sub φ ψ∧S.length=y.2.1.length∧y.2.2.1.length=y.2.1.length∧DR ψ S y.2.2.1 i∧Hk S y.2.2.1 i∧St ψ (bC c3 c4 c5 c6 m a r1 r2 y.1 p ls 0 (EP y.2.1 S) y.2.2.2.1 y.2.2.2.2 G) w
def Xt (φ:AD) (c3 c4 c5 c6 m a r1 r2:Nat) (p:BA) (G:List Chk) (i:Nat) (b:dtK) (y:BSt) (w:AH):Prop:= ∃(ψ:AD) (ls:Slc) (S:List Slc) (s:Slc) (e:List Edge),Sub φ ψ∧S.length=y.2.1.length∧y.2.2.1.length=y.2.1.length∧DR ψ S y.2.2.1 i∧Hk S y.2.2.1 (i+1)∧S[i]? =some s∧y.2.2.1[i]? =some e∧y.2.1[i]? =some b∧St ψ (bC c3 c4 c5 c6 m a r1 r2 y.1 p ls 0 (EP y.2.1 S) y.2.2.2.1 y.2.2.2.2 (cR 73 GO s e::G)) w
set_option maxHeartbeats 4000000 in
theorem S5 {p_0:Slc×Slc×Slc×Slc×Slc×Slc×Unit}{d0:List ByteArray}{d1:List ByteArray}{d2:List Ay}{d3:List Int}{d4:List Int}{d5:List ByteArray}{st it:Int}
 (gk:Glob φ) (k0:Ro.SliceIs dD φ p_0.1 d0) (k1:Ro.SliceIs dD φ p_0.2.1 d1) (k2:Ro.SliceIs CR φ p_0.2.2.1 d2) (k3:Ro.SliceIs (cC .i64) φ p_0.2.2.2.1 d3) (k4:Ro.SliceIs (cC .i64) φ p_0.2.2.2.2.1 d4) (k5:Ro.SliceIs dD φ p_0.2.2.2.2.2.1 d5) (s0:St φ F h) {r:Option Da×Int} (hd:NB (d0,d1,d2,d3,d4,d5) st it=some r):
 CallsH bW 68 [(.agg #[.slice p_0.1.1 p_0.1.2.1 p_0.1.2.2,.slice p_0.2.1.1 p_0.2.1.2.1 p_0.2.1.2.2,.slice p_0.2.2.1.1 p_0.2.2.1.2.1 p_0.2.2.1.2.2,.slice p_0.2.2.2.1.1 p_0.2.2.2.1.2.1 p_0.2.2.2.1.2.2,.slice p_0.2.2.2.2.1.1 p_0.2.2.2.2.1.2.1 p_0.2.2.2.2.1.2.2,.slice p_0.2.2.2.2.2.1.1 p_0.2.2.2.2.2.1.2.1 p_0.2.2.2.2.2.1.2.2]),.int .i64 st,.int .i64 it] h (Ar fun v h'=>∃ψ:AD,∃y:Option Addr×Int×Unit,∃l1:Option Da,Sub φ ψ∧v=((.tuple [.atom .pointer,.atom (.int .i64)]):Sh).val y∧(l1,y.2.1)=r∧Np GR ψ y.1 l1∧St ψ F h'):=by
 refine AO mixed Tryz.func68 ?_;rw [Lf];unfold I9;unfold NB at hd;obtain ⟨rm,hrm,hd1⟩:=bS hd;clear hd;obtain ⟨cl,hcl,hd2⟩:=bS hd1;clear hd1;obtain ⟨ra,hra,hd⟩:=bS hd2;clear hd2;refine AV (vs:=[sv p_0.1,sv p_0.2.1,sv p_0.2.2.1,sv p_0.2.2.2.1,sv p_0.2.2.2.2.1,sv p_0.2.2.2.2.2.1]) s0 fun b1 h1 s1=>AA (x:=p_0.1) s1 rfl<|AA (x:=p_0.2.1) s1 rfl<|AA (x:=p_0.2.2.1) s1 rfl<|AA (x:=p_0.2.2.2.1) s1 rfl<|AA (x:=p_0.2.2.2.2.1) s1 rfl<|AA (x:=p_0.2.2.2.2.2.1) s1 rfl<|AV (vs:=[sv p_0.1,sv p_0.2.1,sv p_0.2.2.1,sv p_0.2.2.2.1,sv p_0.2.2.2.2.1,sv p_0.2.2.2.2.2.1,.slice none 0 0,.int .i64 (0:Int)]) s1 fun a h2 s2=>AV (vs:=[.pointer none]) s2 fun c4 h3 s3=>AR s3 rfl rfl fun h4 s4=>AI (KM s4 hrm) ?_;rintro _ h5 ⟨ψ1,y10,_,le1,rfl,rfl,s5⟩;refine ⟨y10,rfl,?_⟩;refine AI (KM s5 hcl) ?_;rintro _ h6 ⟨ψ2,y11,_,le2,rfl,rfl,s6⟩;refine ⟨y11,rfl,?_⟩;obtain ⟨r2,vs2,rfl,q2,s6⟩:=fW s6;have s6:=(fT s6 q2).at1;obtain ⟨r1,vs1,rfl,q1,s6⟩:=fW s6;have s6:=(fT s6 q1).at1;refine AV (vs:=[.pointer none]) s6 fun c5 h7 s7=>AV (vs:=[.pointer none]) s7 fun c6 h8 s8=>AR s8.at1 rfl rfl fun h9 s9=>AR s9.at1 rfl rfl fun h10 s10=>DF kyS (cC .i64) s10 fun m h11 s11=>AV (vs:=[.map none]) s11 fun c3 h12 s12=>AR s12 rfl rfl fun h13 s13=>AV (vs:=[.int .i64 (0:Int),.int .i64 (0:Int)]) s13 fun k16 h14 s14=> ?_;have s15:=eP (r:=Ck) (l:=[((0:Int),(0:Int))]) (n:=1) s14 (.cons (a:=[_,_]) ⟨[_],_,rfl,rfl,rfl⟩ .nil) rfl (by decide);obtain ⟨ψ3,le3,kk,s16⟩:=cH (t:=(some ⟨k16,0,none⟩,1,1)) s15;have le13:=(le1.trans le2).trans le3;have s17:=fT (r:=CM) (x:=qA (d0,d1,d2,d3,d4,d5) Fa 0) s16.at7 ⟨[_],_,rfl,⟨_,rfl,k0.mono le13⟩,[_],_,rfl,⟨_,rfl,k1.mono le13⟩,[_],_,rfl,⟨_,rfl,k2.mono le13⟩,[_],_,rfl,⟨_,rfl,k3.mono le13⟩,[_],_,rfl,⟨_,rfl,k4.mono le13⟩,[_],_,rfl,⟨_,rfl,k5.mono le13⟩,[_],_,rfl,rfl,rfl⟩;have s18:=(s17.nil 150 roB).at6.at5.at7.at7.at4.at5.at8.at8.at8;refine AI (Rh (B:=[]) (S:=[]) (ls:=Fa) (gk.mono le13) kk rfl s18 hra) ?_;rintro _ h15 ⟨ψ4,y17,ls0,S0,le4,rfl,e1,e2,hG0,s19⟩;refine ⟨y17,rfl,?_⟩;have le14:=le13.trans le4;refine AK hd (by rw [e2]) (fun _ hd=> ?_) (fun _ hd=> ?_)
 ·obtain rfl:=iS hd;exact AB ⟨ψ4,(none,y17.2.1,()),none,le14,rfl,by rw [e2],rfl,(St.tail9 s19).tail⟩
 obtain ⟨g,hg,hd⟩:=bS hd;refine Ap (fun (z:Int×Int×Option Addr×Unit) w (g:Ab BSt Int)=>∃y i,g=dQ y∧y.2.1.length≤i∧WT φ c3 c4 c5 c6 m a r1 r2 (d0,d1,d2,d3,d4,d5) (cW 32 b1 [sv p_0.1,sv p_0.2.1,sv p_0.2.2.1,sv p_0.2.2.2.1,sv p_0.2.2.2.2.1,sv p_0.2.2.2.2.2.1]::F) i y w) (g:=g) ?_ ?_
 ·unfold MZ at hg;refine DZ hg (fun (z:Int×Int×Option Addr×Unit) w (x:Int×BSt)=>z.1=x.1∧0≤x.1∧WT φ c3 c4 c5 c6 m a r1 r2 (d0,d1,d2,d3,d4,d5) (cW 32 b1 [sv p_0.1,sv p_0.2.1,sv p_0.2.2.1,sv p_0.2.2.2.1,sv p_0.2.2.2.2.1,sv p_0.2.2.2.2.2.1]::F) x.1.toNat x.2 w) ((0:Int),(0:Int),none,()) rfl ⟨rfl,Int.le_refl _,?_⟩ ?_
  ·obtain ⟨g1,g2,g3,g4,_⟩:=R5 (E:=[]) (c:=0) (i:=0) (φ:=ψ4) (S:=[]) (B:=[]) rfl rfl (fun j s e _ h _=>by simp at h) (fun j _=>⟨fun s h=>by simp at h,fun e h=>by simp at h⟩) hG0;exact ⟨ψ4,ls0,S0,le14,g1,g2,g3,g4,s19⟩
  rintro ⟨i,z2,z3,_⟩ w ⟨_,fd,B,E,rm',cl'⟩ eo ⟨rfl,hi0,ψ,ls,S,le,hS,hE,hok,hfr,s⟩ hd' hbo;dsimp only at hi0 hS hE hok hfr s hd' ⊢;have nL:=St.rowLen s.at4;have nM:=St.rowMax s.at4;rw [EE hS]at nL nM;refine AA (x:=some ⟨a,0,none⟩) s.at2 rfl<|AF _ rfl<|Lb ls (Q4 s)<|AK hd' (by rw [nL]) (fun hlt hd'=> ?_) (fun hge hd'=> ?_)
  ·have hlt:=of_decide_eq_true hlt;obtain ⟨b,hb,hd1⟩:=bS hd';clear hd';obtain ⟨es,hes,hd'⟩:=bS hd1;clear hd1;refine AA (x:=some ⟨a,0,none⟩) s.at2 rfl<|AF _ rfl<|Lb ls (Q4 s) ?_;obtain ⟨f1,f2⟩:=Uz hfr (by omega) (by omega);obtain ⟨a26,cs26,ea26,hi26,q26,cl26⟩:=fZ s.at4 (NC hb f1);refine AF _ ea26 (AY hi26 ?_);obtain ⟨_,_,rfl,⟨t0,rfl,q0⟩,_,_,rfl,⟨t1,rfl,q1⟩,_,_,rfl,rfl,_,_,rfl,rfl,rfl⟩:=q26;refine AC (x:=t1) (by rw [Ah];exact cl26 1 _ rfl) rfl<|AA (x:=some ⟨a,0,none⟩) s.at2 rfl ?_;unfold Ow at hes;obtain ⟨syms,hsy,hes1⟩:=bS hes;clear hes;have hes:=hes1;clear hes1;refine AI (Hh q1 s.at3 (by rw [Pw];exact hsy)) ?_;rintro _ w2 ⟨ψ5,y29,_,le5,rfl,rfl,k29,s20⟩;refine ⟨y29,rfl,?_⟩;have n29:=k29.length;have s20:=(St.back3 s20);have s21:=St.to9 (s20.nil 73 GO);refine Ap (fun (z:Int×Int×Option Addr×Unit) w (g:Ab BSt Int)=>∃y,g=dQ y∧Xt ψ5 c3 c4 c5 c6 m a r1 r2 (d0,d1,d2,d3,d4,d5) (cW 32 b1 [sv p_0.1,sv p_0.2.1,sv p_0.2.2.1,sv p_0.2.2.2.1,sv p_0.2.2.2.2.1,sv p_0.2.2.2.2.2.1]::F) i.toNat b y w) (g:=es) ?_ ?_
   ·refine Ld hes (fun j (z:Int×Int×Option Addr×Unit) w (y:BSt)=>z.1=j∧Xt ψ5 c3 c4 c5 c6 m a r1 r2 (d0,d1,d2,d3,d4,d5) (cW 32 b1 [sv p_0.1,sv p_0.2.1,sv p_0.2.2.1,sv p_0.2.2.2.1,sv p_0.2.2.2.2.1,sv p_0.2.2.2.2.2.1]::F) i.toNat b y w) ((0:Int),z2,z3,()) rfl ⟨rfl,ψ5,ls,S,Fa,[],bZ _,hS,hE,hok.mono le5,hfr.mono (by omega),f1,f2,(CL hb).2.2,s21⟩ ?_ ?_
    ·rintro _ ⟨j,u2,u3,_⟩ w3 ⟨fd3,B3,E3,rm3,cl3⟩ e3 ⟨rfl,ψ6,ls3,S3,s_,e_,le6,hS3,hE3,hok3,hfr3,hs3,he3,hb3,s22⟩ hd3 hj1 hj2 hw hbi;dsimp only at hS3 hE3 hok3 hfr3 he3 hb3 s22 hd3 hj1 hj2 hw ⊢;refine Aa (by rw [n29];exact decide_eq_true hj2) ?_;obtain ⟨sym,hsym,hd31⟩:=bS hd3;clear hd3;unfold Ri at hd31;obtain ⟨kn,hkn,hd32⟩:=bS hd31;clear hd31;obtain ⟨r3,hr3,hd3⟩:=bS hd32;clear hd32;dsimp only at hd3 hr3;obtain ⟨a32,cs32,ea32,hi32,q32,cl32⟩:=(k29.mono le6).get hsym;refine AF _ ea32 (AY hi32 ?_);obtain rfl:=q32;refine AC (x:=sym) (AE s22.sub (cl32 0 _ rfl)) rfl<|AA (x:=some ⟨a,0,none⟩) s22.at2 rfl<|AI (JR (q1.mono (le5.trans le6)) s22.at3 (by rw [UH];exact hkn)) ?_;rintro _ w4 ⟨ψ7,y35,_,le7,rfl,rfl,k35,s23⟩;refine ⟨y35,rfl,?_⟩;refine AI (Rh (gk.mono (((le.trans le5).trans le6).trans le7)) k35 hS3 (St.back3 s23) hr3) ?_;rintro _ w5 ⟨ψ8,y36,ls4,S4,le8,rfl,e31,e32,hG,s24⟩;refine ⟨y36,rfl,?_⟩;refine AK hd3 (by rw [e32]) (fun _ hd3=> ?_) (fun _ hd3=> ?_)
     ·obtain rfl:=iS hd3;obtain rfl:=hbi _ rfl;obtain rfl:=iS hd';obtain rfl:=hbo _ rfl;obtain rfl:=iS hd;exact Ag (Ai (Ag (Ai (AB ⟨ψ8,(none,y36.2.1,()),none,((((le.trans le5).trans le6).trans le7).trans le8),rfl,by rw [e32],rfl,(St.tail9 s24).tail.tail⟩))))
     obtain ⟨el,hel,hd34⟩:=bS hd3;clear hd3;obtain ⟨el',hel',hd35⟩:=bS hd34;clear hd34;obtain ⟨E',hE',hd3⟩:=bS hd35;clear hd35;obtain rfl:=iS hd3;obtain ⟨g1,g2,g3,g4,g5,g6,g7⟩:=R5 hS3 hE3 ((hok3.mono le7).mono le8) hfr3 hG;have hs4:=g5 _ _ hs3;have he4:=g6 _ _ he3;have hb4:=g7 _ _ hb3;obtain ⟨_,hlE,helx⟩:=CL hel;rw [he4]at helx;obtain rfl:=Option.some.inj helx;rw [←e31]at hel';have hbi4:idx r3.2.2.2.1 i=some b:=by unfold idx;rw [if_pos hi0];exact hb4
     refine AA (x:=some ⟨a,0,none⟩) s24.at2 rfl<|AF _ rfl<|Lb ls4 (Q4 s24)<|AA (x:=some ⟨a,0,none⟩) s24.at2 rfl<|AF _ rfl<|Lb ls4 (Q4 s24) ?_;obtain ⟨a43,cs43,ea43,hi43,q43,cl43⟩:=fZ s24.at4 (NC hbi4 hs4);refine AF _ ea43 (AY hi43 ?_);obtain ⟨_,_,rfl,⟨v0,rfl,p0⟩,_,_,rfl,⟨v1,rfl,p1⟩,_,_,rfl,rfl,_,_,rfl,rfl,rfl⟩:=q43;refine AC (x:=s_) (by rw [Ah];exact cl43 2 _ rfl) rfl<|KY (vs:=[.int .i64 sym,.int .i64 y36.1]) s24 fun r45 w6 keep s25=>AM (keep _ _ (by rw [Ah];exact cl43 2 _ rfl))<|AM (Q4 s25.tail)<|AM (fV s25.tail.at2 rfl)<|AM (Q4 s25.tail)<|AM (fV s25.tail.at2 rfl)<|Am (r:=GO) (ms:=[(sym,y36.1)]) Xh s25.tail.at9 rfl (fR s25) (.cons (a:=[_,_]) ⟨[_],_,rfl,rfl,rfl⟩ .nil) rfl hel' fun s46 w7 s26=>AM (Q4 s26.tail)<|AM (fV s26.tail.at2 rfl)<|AF _ ea43 (AY hi43 ?_);have hset:DL (EP r3.2.2.2.1 S4) i (LM b s46)=some (EP r3.2.2.2.1 (S4.set i.toNat s46)):=by
      unfold DL;rw [if_pos ⟨hi0,by rw [EE g1];omega⟩,UI _ hb4]
     refine Og (j:=2) s26.at5 (NC hbi4 hs4) hset (fun cs hq=> ?_) rfl rfl ea43 (Ah _ _ _) fun w8 s27=> ?_
     ·obtain ⟨_,_,rfl,⟨x0,rfl,o0⟩,_,_,rfl,⟨x1,rfl,o1⟩,_,_,rfl,rfl,_,_,rfl,rfl,rfl⟩:=hq;exact ⟨[_],_,rfl,⟨x0,rfl,o0⟩,[_],_,rfl,⟨x1,rfl,o1⟩,[_],_,rfl,rfl,[_],_,rfl,rfl,rfl⟩
     obtain ⟨_,_,rfl⟩:=Dr hE';obtain ⟨w1,w2⟩:=XO (s:=s46) (e:=el') g3 g4;have s28:=St.to9' s27.at1;exact Ad ((bT .i64 (j+(1:Int))),u2,u3,()) _ rfl rfl ⟨hw,ψ8,ls4,S4.set i.toNat s46,s46,el',(le6.trans le7).trans le8,by rw [cT];exact g1,by rw [cT];exact g2,w1,w2,by rw [eD (by omega)],by rw [eD (by omega)],hb4,s28⟩
    ·rintro _ ⟨j,u2,u3,_⟩ w3 y3 ⟨rfl,hI⟩ hge hr3;refine AT (by rw [n29];exact decide_eq_false (Int.not_lt.2 hge))<|AJ (AL (j,u2,u3,()) rfl ⟨y3,hr3,hI⟩)
   rintro ⟨z1,u2,u3,_⟩ w3 ⟨⟨fd3,B3,E3,rm3,cl3⟩,rfl,ψ6,ls3,S3,s_,e_,le6,hS3,hE3,hok3,hfr3,hs3,he3,hb3,s22⟩;dsimp only at hS3 hE3 hok3 hfr3 he3 hb3 s22;obtain rfl:=iS hd';obtain ⟨ψ7,le7,kE,s23⟩:=cH s22.at9;have hw:bT .i64 (i+1)=i+1:=w64 (by omega) (by unfold maxLen at nM;omega);have hi1:(i+1).toNat=i.toNat+1:=by omega
   refine Ad ((bT .i64 (i+(1:Int))),u2,u3,()) _ rfl rfl ⟨rfl,by rw [hw];omega,ψ7,ls3,S3,((le.trans le5).trans le6).trans le7,hS3,hE3,?_,?_,s23⟩
   ·rw [hw,hi1];exact XP (hok3.mono le7) hs3 he3 kE
   ·rw [hw,hi1];exact hfr3
  ·have hge:=of_decide_eq_false hge;obtain rfl:=iS hd';obtain rfl:=hbo _ rfl;exact AJ (AL (i,z2,z3,()) rfl ⟨_,i.toNat,rfl,by dsimp only;omega,ψ,ls,S,le,hS,hE,hok,hfr,s⟩)
 rintro ⟨z1,z2,z3,_⟩ w ⟨⟨fd,B,E,rm',cl'⟩,i,rfl,hi,ψ,ls,S,le,hS,hE,hok,hfr,s⟩;dsimp only at hd hi hS hE hok hfr s;obtain ⟨tot,ht,hd⟩:=bS hd;obtain rfl:=iS hd;refine AA (x:=some ⟨a,0,none⟩) s.at2 rfl<|AA (x:=some ⟨r2,0,none⟩) s.at7 rfl<|AI (JJ s.at8 ht) ?_;rintro _ w1 ⟨ψ5,y50,le5,rfl,rfl,s20⟩;refine ⟨y50,rfl,?_⟩;refine AM (fV s20.at3 rfl)<|AF _ rfl ?_;obtain ⟨b,vs,e,⟨_,_,rfl,⟨u0,rfl,kk0⟩,_,_,rfl,⟨u1,rfl,kk1⟩,_,_,rfl,⟨u2,rfl,kk2⟩,_,_,rfl,⟨u3,rfl,kk3⟩,_,_,rfl,⟨u4,rfl,kk4⟩,_,_,rfl,⟨u5,rfl,kk5⟩,_,_,rfl,rfl,rfl⟩,s21⟩:=fW s20.at4;obtain rfl:a=b:=by simpa using e
 refine AR s21 rfl rfl fun w2 s22=>AA (x:=some ⟨a,0,none⟩) s22.at4 rfl ?_;obtain ⟨ψ6,le6,kR,s23⟩:=cH s22.at5;have kS:=Sk hS hE (fun j s e h1 h2=>(hok j s e (by have:=(List.getElem?_eq_some_iff.1 h1).1;omega) h1 h2).mono (le5.trans le6)) kR;have s24:=fT (r:=GR) (x:=(d0,d1,d2,d3,d4,d5,EP B E,y50)) s23 ⟨[_],_,rfl,⟨u0,rfl,kk0.mono le6⟩,[_],_,rfl,⟨u1,rfl,kk1.mono le6⟩,[_],_,rfl,⟨u2,rfl,kk2.mono le6⟩,[_],_,rfl,⟨u3,rfl,kk3.mono le6⟩,[_],_,rfl,⟨u4,rfl,kk4.mono le6⟩,[_],_,rfl,⟨u5,rfl,kk5.mono le6⟩,[_],_,rfl,⟨ls,rfl,kS⟩,rfl⟩;obtain ⟨ψ7,le7,kP,s25⟩:=St.freezeR (Wh _) s24;exact AB ⟨ψ7,(some ⟨a,0,none⟩,(0:Int),()),some _,(((le.trans le5).trans le6).trans le7),rfl,rfl,kP,s25.tail.tail.tail.tail.tail.tail.tail.tail⟩
end
noncomputable def F4 (a_0_p:Option Addr) (a_0_n a_0_c:Nat) (b_1_p:Option Addr) (b_1_n b_1_c:Nat):T:=cond (((a_0_n:Nat):Int) !=((b_1_n:Nat):Int)) (dN (.bool false)) (cQ 0 [aI,aB] (dM [aI,aB] [(.int .i64 0),(.bool false)] fun (z2:Int×Bool×Unit)=>cond (decide (z2.1< ((a_0_n:Nat):Int))) (deref a_0_p fun a3=>chk (0≤z2.1∧z2.1< (a_0_n:Nat))<|aJ a3 z2.1 1 fun t4=>deref b_1_p fun a5=>chk (0≤z2.1∧z2.1< (b_1_n:Nat))<|aJ a5 z2.1 1 fun t6=>cond (t4 !=t6) (dN (.bool false)) (cG [(.int .i64 (wN z2.1)),(.bool z2.2.1)])) (dX 0 [(.int .i64 z2.1),(.bool z2.2.1)])) fun (z1:Int×Bool×Unit)=>dN (.bool true))
theorem Ip (a_0_p:Option Addr) (a_0_n a_0_c:Nat) (b_1_p:Option Addr) (b_1_n b_1_c:Nat):AZ bW Tryz.f21 [(.slice a_0_p a_0_n a_0_c),(.slice b_1_p b_1_n b_1_c)] =F4 a_0_p a_0_n a_0_c b_1_p b_1_n b_1_c:=by kernel_rfl
noncomputable def Fe (p_0:Pl6):T:=aD #[(sv p_0.1),(sv p_0.2.1),(sv p_0.2.2.1),(sv p_0.2.2.2.1),(sv p_0.2.2.2.2.1),(sv p_0.2.2.2.2.2.1)] 32 fun r1=>L6 r1 fun t2 t3 t4 t5 t6 t7=>cI 57 [(aH t2 t3 t4 t5 t6 t7)] (.one aS) fun (t8:Slc)=>L6 r1 fun t9 t10 t11 t12 t13 t14=>cI 58 [(aH t9 t10 t11 t12 t13 t14)] (.one aS) fun (t15:Slc)=>aA r1 0 fun t16=>cQ 0 [aI,aI,aI] (dM [aI,aI,aI] [(.int .i64 (t16.2.1:Int)),(.int .i64 0),(.int .i64 0)] fun (z18:Int×Int×Int×Unit)=>L6 r1 fun t19 t20 t21 t22 t23 t24=>cI 59 [(aH t19 t20 t21 t22 t23 t24)] (.one aI) fun (t25:Int)=>cond (decide (z18.1< (bT .i64 (t25 - 1)))) (deref t8.1 fun a26=>chk (0≤z18.1∧z18.1< (t8.2.1:Nat))<|bL a26 z18.1 1 fun t27=>cond (!t27) (dN (.tuple #[(.int .i64 z18.1),(.int .i64 18)])) (cG [(.int .i64 (wN z18.1)),(.int .i64 z18.2.1),(.int .i64 z18.2.2.1)])) (dX 0 [(.int .i64 z18.1),(.int .i64 z18.2.1),(.int .i64 z18.2.2.1)])) fun (z17:Int×Int×Int×Unit)=>aA r1 0 fun t28=>cQ 2 [aI,aI,aI] (dM [aI,aI,aI] [(.int .i64 (t28.2.1:Int)),(.int .i64 z17.2.1),(.int .i64 z17.2.2.1)] fun (z30:Int×Int×Int×Unit)=>L6 r1 fun t31 t32 t33 t34 t35 t36=>cI 59 [(aH t31 t32 t33 t34 t35 t36)] (.one aI) fun (t37:Int)=>cond (decide (z30.1< (bT .i64 (t37 - 1)))) (deref t15.1 fun a38=>chk (0≤z30.1∧z30.1< (t15.2.1:Nat))<|bL a38 z30.1 1 fun t39=>cond (!t39) (dN (.tuple #[(.int .i64 z30.1),(.int .i64 17)])) (cG [(.int .i64 (wN z30.1)),(.int .i64 z30.2.1),(.int .i64 z30.2.2.1)])) (dX 2 [(.int .i64 z30.1),(.int .i64 z30.2.1),(.int .i64 z30.2.2.1)])) fun (z29:Int×Int×Int×Unit)=>dN (.tuple #[(.int .i64 0),(.int .i64 0)])
theorem IJ (p_0:Pl6):AZ bW Tryz.f16 [(aG p_0)] =Fe p_0:=by kernel_rfl
noncomputable def Ff (p_0:Pl6):T:=aD #[(sv p_0.1),(sv p_0.2.1),(sv p_0.2.2.1),(sv p_0.2.2.2.1),(sv p_0.2.2.2.2.1),(sv p_0.2.2.2.2.2.1)] 32 fun r1=>L6 r1 fun t2 t3 t4 t5 t6 t7=>cI 59 [(aH t2 t3 t4 t5 t6 t7)] (.one aI) fun (t8:Int)=>eU (dH 60 (.int .i64 t8) (.int .i64 t8)) (.one aS) fun (t9:Slc)=>cQ 0 [aI] (dM [aI] [(.int .i64 0)] fun (z11:Int×Unit)=>aA r1 0 fun t12=>cond (decide (z11.1< (t12.2.1:Int))) (deref t9.1 fun a13=>chk (0≤z11.1∧z11.1< (t9.2.1:Nat))<|eH (a13.add (cN z11.1 *1)) (.bool true)<|cG [(.int .i64 (wN z11.1))]) (dX 0 [(.int .i64 z11.1)])) fun (z10:Int×Unit)=>cQ 2 [aB] (dM [aB] [(.bool true)] fun (z15:Bool×Unit)=>cond z15.1 (cQ 4 [aI,aB] (dM [aI,aB] [(.int .i64 0),(.bool false)] fun (z17:Int×Bool×Unit)=>aA r1 2 fun t18=>cond (decide (z17.1< (t18.2.1:Int))) (cQ 6 [aI,aB] (dM [aI,aB] [(.int .i64 0),(.bool true)] fun (z20:Int×Bool×Unit)=>aA r1 2 fun t21=>deref t21.1 fun a22=>chk (0≤z17.1∧z17.1< (t21.2.1:Nat))<|aM a22 z17.1 3 1 fun t23=>cond (decide (z20.1< (t23.2.1:Int))) (dK [aB] (cond z20.2.1 (aA r1 2 fun t25=>deref t25.1 fun a26=>chk (0≤z17.1∧z17.1< (t25.2.1:Nat))<|aM a26 z17.1 3 1 fun t27=>deref t27.1 fun a28=>chk (0≤z20.1∧z20.1< (t27.2.1:Nat))<|aJ a28 z20.1 1 fun t29=>deref t9.1 fun a30=>chk (0≤t29∧t29< (t9.2.1:Nat))<|bL a30 t29 1 fun t31=>cG [(.bool t31)]) (cG [(.bool false)])) fun (z24:Bool×Unit)=>cG [(.int .i64 (wN z20.1)),(.bool z24.1)]) (dX 6 [(.int .i64 z20.1),(.bool z20.2.1)])) fun (z19:Int×Bool×Unit)=>dK [aB] (cond z19.2.1 (aA r1 2 fun t33=>deref t33.1 fun a34=>chk (0≤z17.1∧z17.1< (t33.2.1:Nat))<|aJ a34 z17.1 3 fun t35=>deref t9.1 fun a36=>chk (0≤t35∧t35< (t9.2.1:Nat))<|bL a36 t35 1 fun t37=>cG [(.bool (!t37))]) (cG [(.bool false)])) fun (z32:Bool×Unit)=>dK [aB] (cond z32.1 (aA r1 2 fun t39=>deref t39.1 fun a40=>chk (0≤z17.1∧z17.1< (t39.2.1:Nat))<|aJ a40 z17.1 3 fun t41=>deref t9.1 fun a42=>chk (0≤t41∧t41< (t9.2.1:Nat))<|eH (a42.add (cN t41 *1)) (.bool true)<|cG [(.bool true)]) (cG [(.bool z17.2.1)])) fun (z38:Bool×Unit)=>cG [(.int .i64 (wN z17.1)),(.bool z38.1)]) (dX 4 [(.int .i64 z17.1),(.bool z17.2.1)])) fun (z16:Int×Bool×Unit)=>cG [(.bool z16.2.1)]) (dX 2 [(.bool z15.1)])) fun (z14:Bool×Unit)=>dN (sv t9)
theorem IK (p_0:Pl6):AZ bW Tryz.f57 [(aG p_0)] =Ff p_0:=by kernel_rfl
noncomputable def F5 (p_0:Pl6):T:=aD #[(sv p_0.1),(sv p_0.2.1),(sv p_0.2.2.1),(sv p_0.2.2.2.1),(sv p_0.2.2.2.2.1),(sv p_0.2.2.2.2.2.1)] 32 fun r1=>L6 r1 fun t2 t3 t4 t5 t6 t7=>cI 59 [(aH t2 t3 t4 t5 t6 t7)] (.one aI) fun (t8:Int)=>eU (dH 60 (.int .i64 t8) (.int .i64 t8)) (.one aS) fun (t9:Slc)=>L6 r1 fun t10 t11 t12 t13 t14 t15=>cI 59 [(aH t10 t11 t12 t13 t14 t15)] (.one aI) fun (t16:Int)=>deref t9.1 fun a17=>chk (0≤(bT .i64 (t16 - 1))∧(bT .i64 (t16 - 1)) < (t9.2.1:Nat))<|eH (a17.add (cN (bT .i64 (t16 - 1)) *1)) (.bool true)<|cQ 0 [aB] (dM [aB] [(.bool true)] fun (z19:Bool×Unit)=>cond z19.1 (cQ 2 [aI,aB] (dM [aI,aB] [(.int .i64 0),(.bool false)] fun (z21:Int×Bool×Unit)=>aA r1 2 fun t22=>cond (decide (z21.1< (t22.2.1:Int))) (cQ 4 [aI,aB] (dM [aI,aB] [(.int .i64 0),(.bool z21.2.1)] fun (z24:Int×Bool×Unit)=>aA r1 2 fun t25=>deref t25.1 fun a26=>chk (0≤z21.1∧z21.1< (t25.2.1:Nat))<|aM a26 z21.1 3 1 fun t27=>cond (decide (z24.1< (t27.2.1:Int))) (dK [aB] (aA r1 2 fun t29=>deref t29.1 fun a30=>chk (0≤z21.1∧z21.1< (t29.2.1:Nat))<|aJ a30 z21.1 3 fun t31=>deref t9.1 fun a32=>chk (0≤t31∧t31< (t9.2.1:Nat))<|bL a32 t31 1 fun t33=>cond t33 (aA r1 2 fun t34=>deref t34.1 fun a35=>chk (0≤z21.1∧z21.1< (t34.2.1:Nat))<|aM a35 z21.1 3 1 fun t36=>deref t36.1 fun a37=>chk (0≤z24.1∧z24.1< (t36.2.1:Nat))<|aJ a37 z24.1 1 fun t38=>deref t9.1 fun a39=>chk (0≤t38∧t38< (t9.2.1:Nat))<|bL a39 t38 1 fun t40=>cG [(.bool (!t40))]) (cG [(.bool false)])) fun (z28:Bool×Unit)=>dK [aB] (cond z28.1 (aA r1 2 fun t42=>deref t42.1 fun a43=>chk (0≤z21.1∧z21.1< (t42.2.1:Nat))<|aM a43 z21.1 3 1 fun t44=>deref t44.1 fun a45=>chk (0≤z24.1∧z24.1< (t44.2.1:Nat))<|aJ a45 z24.1 1 fun t46=>deref t9.1 fun a47=>chk (0≤t46∧t46< (t9.2.1:Nat))<|eH (a47.add (cN t46 *1)) (.bool true)<|cG [(.bool true)]) (cG [(.bool z24.2.1)])) fun (z41:Bool×Unit)=>cG [(.int .i64 (wN z24.1)),(.bool z41.1)]) (dX 4 [(.int .i64 z24.1),(.bool z24.2.1)])) fun (z23:Int×Bool×Unit)=>cG [(.int .i64 (wN z21.1)),(.bool z23.2.1)]) (dX 2 [(.int .i64 z21.1),(.bool z21.2.1)])) fun (z20:Int×Bool×Unit)=>cG [(.bool z20.2.1)]) (dX 0 [(.bool z19.1)])) fun (z18:Bool×Unit)=>dN (sv t9)
theorem Iq (p_0:Pl6):AZ bW Tryz.f58 [(aG p_0)] =F5 p_0:=by kernel_rfl
noncomputable def Fg (p_0:Pl6):T:=aD #[(sv p_0.1),(sv p_0.2.1),(sv p_0.2.2.1),(sv p_0.2.2.2.1),(sv p_0.2.2.2.2.1),(sv p_0.2.2.2.2.2.1)] 32 fun r1=>aA r1 0 fun t2=>aA r1 1 fun t3=>dN (.int .i64 (bT .i64 ((bT .i64 ((t2.2.1:Int)+(t3.2.1:Int)))+(1:Int))))
theorem IL (p_0:Pl6):AZ bW Tryz.f59 [(aG p_0)] =Fg p_0:=by kernel_rfl
noncomputable def Dm (small_0:Int×Int×Slc×Slc×Slc×Slc×Slc×Unit):T:=aD #[(.int .u8 small_0.1),(.int .u8 small_0.2.1),(sv small_0.2.2.1),(sv small_0.2.2.2.1),(sv small_0.2.2.2.2.1),(sv small_0.2.2.2.2.2.1),(sv small_0.2.2.2.2.2.2.1)] 25 fun r1=>cI 13 [] (.one aB) fun (t2:Bool)=>aE r1 0 fun t3=>aE r1 1 fun t4=>aA r1 2 fun t5=>aA r1 3 fun t6=>aA r1 4 fun t7=>aA r1 5 fun t8=>aA r1 6 fun t9=>cI 14 [(.agg #[(.int .u8 t3),(.int .u8 t4),(sv t5),(sv t6),(sv t7),(sv t8),(sv t9)]),(.int .i64 12),(.int .i64 5)] (.one aB) fun (t10:Bool)=>cond (!t10) (dN (.bool t2)) (aE r1 0 fun t11=>aE r1 1 fun t12=>aA r1 2 fun t13=>aA r1 3 fun t14=>aA r1 4 fun t15=>aA r1 5 fun t16=>aA r1 6 fun t17=>cI 19 [(.agg #[(.int .u8 t11),(.int .u8 t12),(sv t13),(sv t14),(sv t15),(sv t16),(sv t17)])] (.tuple [(.agg [.slice,.slice,.slice,.slice,.slice,.slice]),aP,aP,aB]) fun (t18:(Pl6)×(Option Addr)×(Option Addr)×Bool×Unit)=>aD #[(.slice none 0 0),(.slice none 0 0),(.slice none 0 0),(.slice none 0 0),(.slice none 0 0),(.slice none 0 0)] 32 fun r19=>aF r19 0 t18.1.1<|aF r19 1 t18.1.2.1<|aF r19 2 t18.1.2.2.1<|aF r19 3 t18.1.2.2.2.1<|aF r19 4 t18.1.2.2.2.2.1<|aF r19 5 t18.1.2.2.2.2.2.1<|cond (!t18.2.2.2.1) (dN (.bool t2)) (L6 r19 fun t20 t21 t22 t23 t24 t25=>cI 29 [(aH t20 t21 t22 t23 t24 t25)] (.one aP) fun (t26:Option Addr)=>cQ 0 [aI,aB] (dM [aI,aB] [(.int .i64 0),(.bool false)] fun (z28:Int×Bool×Unit)=>cI 20 [(.pointer t18.2.1)] (.one aI) fun (t29:Int)=>cond (decide (z28.1<t29)) (cI 22 [(.pointer t18.2.2.1),(.int .i64 z28.1)] (.one aS) fun (t30:Slc)=>cQ 2 [aI,aB] (dM [aI,aB] [(.int .i64 0),(.bool z28.2.1)] fun (z32:Int×Bool×Unit)=>cond (decide (z32.1< (t30.2.1:Int))) (dK [aB] (deref t30.1 fun a34=>chk (0≤z32.1∧z32.1< (t30.2.1:Nat))<|aJ a34 z32.1 1 fun t35=>cond (decide (t35< 0)) (cG [(.bool true)]) (deref t30.1 fun a36=>chk (0≤z32.1∧z32.1< (t30.2.1:Nat))<|aJ a36 z32.1 1 fun t37=>aA r19 2 fun t38=>cG [(.bool (decide (t37≥ (t38.2.1:Int))))])) fun (z33:Bool×Unit)=>cond z33.1 (dN (.bool false)) (deref t30.1 fun a39=>chk (0≤z32.1∧z32.1< (t30.2.1:Nat))<|aJ a39 z32.1 1 fun t40=>cI 24 [(.pointer t18.2.2.1),(.int .i64 z28.1),(.int .i64 t40)] (.one aS) fun (t41:Slc)=>deref t26 fun a42=>aL a42 2 fun t43=>aA r19 2 fun t44=>deref t30.1 fun a45=>chk (0≤z32.1∧z32.1< (t30.2.1:Nat))<|aJ a45 z32.1 1 fun t46=>deref t44.1 fun a47=>chk (0≤t46∧t46< (t44.2.1:Nat))<|aJ a47 t46 3 fun t48=>aA r19 0 fun t49=>deref t43.1 fun a50=>chk (0≤(bT .i64 (t48 - (t49.2.1:Int)))∧(bT .i64 (t48 - (t49.2.1:Int))) < (t43.2.1:Nat))<|aC a50 (bT .i64 (t48 - (t49.2.1:Int))) 1 fun t51=>cI 30 [(sv t51)] (.one aS) fun (t52:Slc)=>dK [aB] (cond ((t41.2.1:Int)==(0:Int)) (cG [(.bool true)]) (deref t30.1 fun a54=>chk (0≤z32.1∧z32.1< (t30.2.1:Nat))<|aJ a54 z32.1 1 fun t55=>cond (t55==(0:Int)) (aD #[(.int .i64 0)] 3 fun r56=>cI 21 [(sv t41),(.slice (some ⟨r56,0,none⟩) 1 1)] (.one aB) fun (t57:Bool)=>cG [(.bool (!t57))]) (cG [(.bool false)]))) fun (z53:Bool×Unit)=>cond z53.1 (dN (.bool false)) (cQ 4 [aI,aB] (dM [aI,aB] [(.int .i64 0),(.bool z32.2.1)] fun (z59:Int×Bool×Unit)=>cond (decide (z59.1< (t41.2.1:Int))) (deref t41.1 fun a60=>chk (0≤z59.1∧z59.1< (t41.2.1:Nat))<|aJ a60 z59.1 1 fun t61=>cI 31 [(sv t52),(.int .i64 t61)] (.one aB) fun (t62:Bool)=>cond (!t62) (dN (.bool false)) (cG [(.int .i64 (wN z59.1)),(.bool z59.2.1)])) (dX 4 [(.int .i64 z59.1),(.bool z59.2.1)])) fun (z58:Int×Bool×Unit)=>cG [(.int .i64 (wN z32.1)),(.bool z58.2.1)]))) (dX 2 [(.int .i64 z32.1),(.bool z32.2.1)])) fun (z31:Int×Bool×Unit)=>cG [(.int .i64 (wN z28.1)),(.bool z31.2.1)]) (dX 0 [(.int .i64 z28.1),(.bool z28.2.1)])) fun (z27:Int×Bool×Unit)=>dN (.bool t2)))
theorem Fo (small_0:Int×Int×Slc×Slc×Slc×Slc×Slc×Unit):AZ bW Tryz.f4 [(.agg #[(.int .u8 small_0.1),(.int .u8 small_0.2.1),(sv small_0.2.2.1),(sv small_0.2.2.2.1),(sv small_0.2.2.2.2.1),(sv small_0.2.2.2.2.2.1),(sv small_0.2.2.2.2.2.2.1)])] =Dm small_0:=by kernel_rfl
noncomputable def Fh:T:=cI 54 [] (.one (.agg [(.int .u8),(.int .u8),.slice,.slice,.slice,.slice,.slice])) fun (t1:Int×Int×Slc×Slc×Slc×Slc×Slc×Unit)=>cI 19 [(.agg #[(.int .u8 t1.1),(.int .u8 t1.2.1),(sv t1.2.2.1),(sv t1.2.2.2.1),(sv t1.2.2.2.2.1),(sv t1.2.2.2.2.2.1),(sv t1.2.2.2.2.2.2.1)])] (.tuple [(.agg [.slice,.slice,.slice,.slice,.slice,.slice]),aP,aP,aB]) fun (t2:(Pl6)×(Option Addr)×(Option Addr)×Bool×Unit)=>aD #[(.slice none 0 0),(.slice none 0 0),(.slice none 0 0),(.slice none 0 0),(.slice none 0 0),(.slice none 0 0)] 32 fun r3=>aF r3 0 t2.1.1<|aF r3 1 t2.1.2.1<|aF r3 2 t2.1.2.2.1<|aF r3 3 t2.1.2.2.2.1<|aF r3 4 t2.1.2.2.2.2.1<|aF r3 5 t2.1.2.2.2.2.2.1<|dK [aB] (cond (!t2.2.2.2.1) (cG [(.bool true)]) (aA r3 2 fun t5=>cG [(.bool ((t5.2.1:Int) !=(6:Int)))])) fun (z4:Bool×Unit)=>cond z4.1 (dN (.bool false)) (cI 41 [(.pointer t2.2.1),(.int .i64 0),(.int .i64 5)] (.one aI) fun (t6:Int)=>dK [aB] (cond (decide (t6>(0:Int))) (cI 22 [(.pointer t2.2.2.1),(.int .i64 t6)] (.one aS) fun (t8:Slc)=>aD #[(.int .i64 5)] 3 fun r9=>cI 21 [(sv t8),(.slice (some ⟨r9,0,none⟩) 1 1)] (.one aB) fun (t10:Bool)=>cond t10 (cI 24 [(.pointer t2.2.2.1),(.int .i64 t6),(.int .i64 5)] (.one aS) fun (t11:Slc)=>aD #[(.int .i64 0)] 3 fun r12=>cI 21 [(sv t11),(.slice (some ⟨r12,0,none⟩) 1 1)] (.one aB) fun (t13:Bool)=>cond t13 (cI 27 [(.pointer t2.2.2.1),(.int .i64 t6),(.int .i64 5)] (.one aS) fun (t14:Slc)=>cG [(.bool ((t14.2.1:Int)==(1:Int)))]) (cG [(.bool false)])) (cG [(.bool false)])) (cG [(.bool false)])) fun (z7:Bool×Unit)=>dN (.bool z7.1))
theorem IM:AZ bW Tryz.f13 [] =Fh:=by kernel_rfl
noncomputable def F6 (small_0:Int×Int×Slc×Slc×Slc×Slc×Slc×Unit):T:=aD #[(.int .u8 small_0.1),(.int .u8 small_0.2.1),(sv small_0.2.2.1),(sv small_0.2.2.2.1),(sv small_0.2.2.2.2.1),(sv small_0.2.2.2.2.2.1),(sv small_0.2.2.2.2.2.2.1)] 25 fun r1=>aD #[(.slice none 0 0),(.slice none 0 0),(.slice none 0 0),(.slice none 0 0),(.slice none 0 0),(.slice none 0 0)] 32 fun r2=>aE r1 0 fun t3=>aE r1 1 fun t4=>aA r1 2 fun t5=>aA r1 3 fun t6=>aA r1 4 fun t7=>aA r1 5 fun t8=>aA r1 6 fun t9=>cI 15 [(.agg #[(.int .u8 t3),(.int .u8 t4),(sv t5),(sv t6),(sv t7),(sv t8),(sv t9)])] (.one (.agg [.slice,.slice,.slice,.slice,.slice,.slice])) fun (t10:Pl6)=>aD #[(.slice none 0 0),(.slice none 0 0),(.slice none 0 0),(.slice none 0 0),(.slice none 0 0),(.slice none 0 0)] 32 fun r11=>aF r11 0 t10.1<|aF r11 1 t10.2.1<|aF r11 2 t10.2.2.1<|aF r11 3 t10.2.2.2.1<|aF r11 4 t10.2.2.2.2.1<|aF r11 5 t10.2.2.2.2.2.1<|L6 r11 fun t12 t13 t14 t15 t16 t17=>cI 16 [(aH t12 t13 t14 t15 t16 t17)] (.tuple [aI,aI]) fun (t18:Int×Int×Unit)=>cond (t18.2.1 !=(0:Int)) (L6 r11 fun t19 t20 t21 t22 t23 t24=>aF r2 0 t19<|aF r2 1 t20<|aF r2 2 t21<|aF r2 3 t22<|aF r2 4 t23<|aF r2 5 t24<|L6 r2 fun res25 res26 res27 res28 res29 res30=>dN (.tuple #[(aH res25 res26 res27 res28 res29 res30),(.pointer none),(.pointer none),(.bool false)])) (L6 r11 fun t31 t32 t33 t34 t35 t36=>cI 68 [(aH t31 t32 t33 t34 t35 t36),(.int .i64 300),(.int .i64 9000)] (.tuple [aP,aI]) fun (t37:(Option Addr)×Int×Unit)=>dK [aB] (cond (dL t37.1) (cG [(.bool true)]) (cI 20 [(.pointer t37.1)] (.one aI) fun (t39:Int)=>cG [(.bool (t39==(0:Int)))])) fun (z38:Bool×Unit)=>cond z38.1 (L6 r11 fun t40 t41 t42 t43 t44 t45=>aF r2 0 t40<|aF r2 1 t41<|aF r2 2 t42<|aF r2 3 t43<|aF r2 4 t44<|aF r2 5 t45<|L6 r2 fun res46 res47 res48 res49 res50 res51=>dN (.tuple #[(aH res46 res47 res48 res49 res50 res51),(.pointer none),(.pointer none),(.bool false)])) (L6 r11 fun t52 t53 t54 t55 t56 t57=>cI 69 [(aH t52 t53 t54 t55 t56 t57),(.pointer t37.1)] (.one aP) fun (t58:Option Addr)=>L6 r11 fun t59 t60 t61 t62 t63 t64=>aF r2 0 t59<|aF r2 1 t60<|aF r2 2 t61<|aF r2 3 t62<|aF r2 4 t63<|aF r2 5 t64<|L6 r2 fun res65 res66 res67 res68 res69 res70=>dN (.tuple #[(aH res65 res66 res67 res68 res69 res70),(.pointer t37.1),(.pointer t58),(.bool (!(dL t58)))])))
theorem Ir (small_0:Int×Int×Slc×Slc×Slc×Slc×Slc×Unit):AZ bW Tryz.f19 [(.agg #[(.int .u8 small_0.1),(.int .u8 small_0.2.1),(sv small_0.2.2.1),(sv small_0.2.2.2.1),(sv small_0.2.2.2.2.1),(sv small_0.2.2.2.2.2.1),(sv small_0.2.2.2.2.2.2.1)])] =F6 small_0:=by kernel_rfl
noncomputable def Fi:T:=aD #[(.int .u8 0),(.int .u8 0),(.slice none 0 0),(.slice none 0 0),(.slice none 0 0),(.slice none 0 0),(.slice none 0 0)] 25 fun r1=>aD #[(.int .u8 0),(.int .u8 0),(.int .u8 1),(.int .u8 1),(.int .u8 2)] 5 fun r2=>aD #[(.int .u8 4),(.int .u8 0),(.int .u8 5)] 5 fun r3=>aD #[(.int .u8 5)] 5 fun r4=>aD #[(.int .u8 1),(.int .u8 5)] 5 fun r5=>aD #[(.int .u8 2)] 5 fun r6=>aD #[(.int .u8 4)] 5 fun r7=>aD #[(.slice (some ⟨r3,0,none⟩) 3 3),(.slice (some ⟨r4,0,none⟩) 1 1),(.slice (some ⟨r5,0,none⟩) 2 2),(.slice (some ⟨r6,0,none⟩) 1 1),(.slice (some ⟨r7,0,none⟩) 1 1)] 22 fun r8=>aN r1 0 (.int .u8 2)<|aN r1 1 (.int .u8 2)<|aN r1 2 (.slice (some ⟨r2,0,none⟩) 5 5)<|aN r1 3 (.slice (some ⟨r8,0,none⟩) 5 5)<|aU r1 4<|aU r1 5<|aU r1 6<|aE r1 0 fun res9=>aE r1 1 fun res10=>aA r1 2 fun res11=>aA r1 3 fun res12=>aA r1 4 fun res13=>aA r1 5 fun res14=>aA r1 6 fun res15=>dN (.agg #[(.int .u8 res9),(.int .u8 res10),(sv res11),(sv res12),(sv res13),(sv res14),(sv res15)])
theorem IN:AZ bW Tryz.f54 [] =Fi:=by kernel_rfl
noncomputable def PA (r1 r18:Nat) (t19:Slc) (K:Int×Bool×Unit→T):T:=cQ 2 [aI,aB] (dM [aI,aB] [(.int .i64 0),(.bool false)] fun (z24:Int×Bool×Unit)=>aA r1 2 fun t25=>cond (decide (z24.1< (t25.2.1:Int))) (aA r1 2 fun t26=>deref t26.1 fun a27=>chk (0≤z24.1∧z24.1< (t26.2.1:Nat))<|aJ a27 z24.1 3 fun t28=>L6 r1 fun t29 t30 t31 t32 t33 t34=>aA r1 2 fun t35=>deref t35.1 fun a36=>chk (0≤z24.1∧z24.1< (t35.2.1:Nat))<|aM a36 z24.1 3 1 fun t37=>cI 75 [(.pointer (some ⟨r18,0,none⟩)),(aH t29 t30 t31 t32 t33 t34),(sv t37)] (.tuple [aS,aB]) fun (t38:Slc×Bool×Unit)=>aA r18 1 fun t39=>deref t39.1 fun a40=>chk (0≤(bT .i64 (t28 - (t19.2.1:Int)))∧(bT .i64 (t28 - (t19.2.1:Int))) < (t39.2.1:Nat))<|aC a40 (bT .i64 (t28 - (t19.2.1:Int))) 1 fun t41=>cI 76 [(sv t41),(sv t38.1)] (.one aB) fun (t42:Bool)=>dK [aB] (cond z24.2.1 (cG [(.bool true)]) (cond t42 (cG [(.bool true)]) (cond t38.2.1 (aA r18 0 fun t44=>deref t44.1 fun a45=>chk (0≤(bT .i64 (t28 - (t19.2.1:Int)))∧(bT .i64 (t28 - (t19.2.1:Int))) < (t44.2.1:Nat))<|bL a45 (bT .i64 (t28 - (t19.2.1:Int))) 1 fun t46=>cG [(.bool (!t46))]) (cG [(.bool false)])))) fun (z43:Bool×Unit)=>dK [] (aA r18 0 fun t48=>aA r18 0 fun t49=>deref t49.1 fun a50=>chk (0≤(bT .i64 (t28 - (t19.2.1:Int)))∧(bT .i64 (t28 - (t19.2.1:Int))) < (t49.2.1:Nat))<|bL a50 (bT .i64 (t28 - (t19.2.1:Int))) 1 fun t51=>cond t51 (deref t48.1 fun a52=>chk (0≤(bT .i64 (t28 - (t19.2.1:Int)))∧(bT .i64 (t28 - (t19.2.1:Int))) < (t48.2.1:Nat))<|eH (a52.add (cN (bT .i64 (t28 - (t19.2.1:Int))) *1)) (.bool true)<|cG []) (deref t48.1 fun a53=>chk (0≤(bT .i64 (t28 - (t19.2.1:Int)))∧(bT .i64 (t28 - (t19.2.1:Int))) < (t48.2.1:Nat))<|eH (a53.add (cN (bT .i64 (t28 - (t19.2.1:Int))) *1)) (.bool t38.2.1)<|cG [])) fun (z47:Unit)=>cG [(.int .i64 (wN z24.1)),(.bool z43.1)]) (dX 2 [(.int .i64 z24.1),(.bool z24.2.1)])) K
noncomputable def NW (r1 r18:Nat) (t19:Slc) (K:Int×Bool×Unit→T):T:=cQ 6 [aI,aB] (dM [aI,aB] [(.int .i64 0),(.bool false)] fun (z62:Int×Bool×Unit)=>aA r1 2 fun t63=>cond (decide (z62.1< (t63.2.1:Int))) (aA r1 2 fun t64=>deref t64.1 fun a65=>chk (0≤z62.1∧z62.1< (t64.2.1:Nat))<|aM a65 z62.1 3 1 fun t66=>cQ 8 [aI,aB] (dM [aI,aB] [(.int .i64 0),(.bool z62.2.1)] fun (z68:Int×Bool×Unit)=>cond (decide (z68.1< (t66.2.1:Int))) (cQ 9 [aB] (deref t66.1 fun a70=>chk (0≤z68.1∧z68.1< (t66.2.1:Nat))<|aJ a70 z68.1 1 fun t71=>cond (decide (t71< (t19.2.1:Int))) (dX 9 [(.bool z68.2.1)]) (L6 r1 fun t72 t73 t74 t75 t76 t77=>chk (0≤(wN z68.1)∧(wN z68.1) ≤(t66.2.1:Int)∧(t66.2.1:Int) ≤(t66.2.2:Nat))<|cI 75 [(.pointer (some ⟨r18,0,none⟩)),(aH t72 t73 t74 t75 t76 t77),(.slice (if t66.2.2=cN (wN z68.1) then t66.1 else Option.map (fun x=>Addr.add x (cN (wN z68.1) *1)) t66.1) (cN (t66.2.1:Int) - cN (wN z68.1)) (t66.2.2 - cN (wN z68.1)))] (.tuple [aS,aB]) fun (t78:Slc×Bool×Unit)=>aA r18 2 fun t79=>deref t66.1 fun a80=>chk (0≤z68.1∧z68.1< (t66.2.1:Nat))<|aJ a80 z68.1 1 fun t81=>deref t79.1 fun a82=>chk (0≤(bT .i64 (t81 - (t19.2.1:Int)))∧(bT .i64 (t81 - (t19.2.1:Int))) < (t79.2.1:Nat))<|aC a82 (bT .i64 (t81 - (t19.2.1:Int))) 1 fun t83=>cI 76 [(sv t83),(sv t78.1)] (.one aB) fun (t84:Bool)=>dK [aB] (cond z68.2.1 (cG [(.bool true)]) (cG [(.bool t84)])) fun (z85:Bool×Unit)=>dK [aB,aB] (cond t78.2.1 (aA r18 2 fun t87=>deref t66.1 fun a88=>chk (0≤z68.1∧z68.1< (t66.2.1:Nat))<|aJ a88 z68.1 1 fun t89=>deref t87.1 fun a90=>chk (0≤(bT .i64 (t89 - (t19.2.1:Int)))∧(bT .i64 (t89 - (t19.2.1:Int))) < (t87.2.1:Nat))<|aC a90 (bT .i64 (t89 - (t19.2.1:Int))) 1 fun t91=>aA r18 2 fun t92=>aA r1 2 fun t93=>deref t93.1 fun a94=>chk (0≤z62.1∧z62.1< (t93.2.1:Nat))<|aJ a94 z62.1 3 fun t95=>deref t92.1 fun a96=>chk (0≤(bT .i64 (t95 - (t19.2.1:Int)))∧(bT .i64 (t95 - (t19.2.1:Int))) < (t92.2.1:Nat))<|aC a96 (bT .i64 (t95 - (t19.2.1:Int))) 1 fun t97=>cI 76 [(sv t91),(sv t97)] (.one aB) fun (t98:Bool)=>dK [aB] (cond z85.1 (cG [(.bool true)]) (cG [(.bool t98)])) fun (z99:Bool×Unit)=>cG [(.bool z99.1),(.bool t98)]) (cG [(.bool z85.1),(.bool t84)])) fun (z86:Bool×Bool×Unit)=>cG [(.bool z86.1)])) fun (z69:Bool×Unit)=>cG [(.int .i64 (wN z68.1)),(.bool z69.1)]) (dX 8 [(.int .i64 z68.1),(.bool z68.2.1)])) fun (z67:Int×Bool×Unit)=>cG [(.int .i64 (wN z62.1)),(.bool z67.2.1)]) (dX 6 [(.int .i64 z62.1),(.bool z62.2.1)])) K
noncomputable def L3 (r1 r18:Nat):T:=aA r1 0 fun t19=>cQ 0 [aB] (dM [aB] [(.bool true)] fun (z21:Bool×Unit)=>cond z21.1 (aR r18 3 fun t22=>aT r18 3 (wN t22)<|PA r1 r18 t19 fun (z23:Int×Bool×Unit)=>cG [(.bool z23.2.1)]) (dX 0 [(.bool z21.1)])) fun (z20:Bool×Unit)=>aA r18 2 fun t54=>aA r1 1 fun t55=>deref t54.1 fun a56=>chk (0≤(t55.2.1:Int)∧(t55.2.1:Int) < (t54.2.1:Nat))<|aC a56 (t55.2.1:Int) 1 fun t57=>deref t57.1 fun a58=>chk (0≤(0:Int)∧(0:Int) < (t57.2.1:Nat))<|eH (a58.add (cN 0 *1)) (.bool true)<|cQ 4 [aB] (dM [aB] [(.bool true)] fun (z60:Bool×Unit)=>cond z60.1 (NW r1 r18 t19 fun (z61:Int×Bool×Unit)=>cG [(.bool z61.2.1)]) (dX 4 [(.bool z60.1)])) fun (z59:Bool×Unit)=>dN (.pointer (some ⟨r18,0,none⟩))
noncomputable def HD (p_0:Pl6):T:=aD #[(sv p_0.1),(sv p_0.2.1),(sv p_0.2.2.1),(sv p_0.2.2.2.1),(sv p_0.2.2.2.2.1),(sv p_0.2.2.2.2.2.1)] 32 fun r1=>aA r1 1 fun t2=>L6 r1 fun t3 t4 t5 t6 t7 t8=>L6 r1 fun t9 t10 t11 t12 t13 t14=>T.both (eU (dH 60 (.int .i64 (bT .i64 ((t2.2.1:Int)+(1:Int)))) (.int .i64 (bT .i64 ((t2.2.1:Int)+(1:Int))))) (.one aS) fun (t15:Slc)=>S6 r1 t9 t10 t11 t12 t13 t14<|S6 r1 t3 t4 t5 t6 t7 t8<|cI 74 [(aH t3 t4 t5 t6 t7 t8)] (.one aS) fun (t16:Slc)=>S6 r1 t9 t10 t11 t12 t13 t14<|cI 74 [(aH t9 t10 t11 t12 t13 t14)] (.one aS) fun (t17:Slc)=>aD #[(sv t15),(sv t16),(sv t17),(.int .i64 0)] 63 fun r18=>L3 r1 r18) (cI 74 [(aH t3 t4 t5 t6 t7 t8)] (.one aS) fun (t100:Slc)=>S6 r1 t9 t10 t11 t12 t13 t14<|aY r1 1 t2<|T.both (eU (dH 60 (.int .i64 (bT .i64 ((t2.2.1:Int)+(1:Int)))) (.int .i64 (bT .i64 ((t2.2.1:Int)+(1:Int))))) (.one aS) fun (t101:Slc)=>S6 r1 t9 t10 t11 t12 t13 t14<|cI 74 [(aH t9 t10 t11 t12 t13 t14)] (.one aS) fun (t102:Slc)=>aD #[(sv t101),(sv t100),(sv t102),(.int .i64 0)] 63 fun r103=>L3 r1 r103) (cI 74 [(aH t9 t10 t11 t12 t13 t14)] (.one aS) fun (t185:Slc)=>aY r1 1 t2<|eU (dH 60 (.int .i64 (bT .i64 ((t2.2.1:Int)+(1:Int)))) (.int .i64 (bT .i64 ((t2.2.1:Int)+(1:Int))))) (.one aS) fun (t186:Slc)=>aD #[(sv t186),(sv t100),(sv t185),(.int .i64 0)] 63 fun r187=>L3 r1 r187))
theorem KJ (p_0:Pl6):AZ bW Tryz.f29 [(aG p_0)] =HD p_0:=by kernel_rfl
noncomputable def F7 (b_0_p:Option Addr) (b_0_n b_0_c:Nat):T:=cQ 0 [aI,aS] (dM [aI,aS] [(.int .i64 0),(.slice none 0 0)] fun (z2:Int×Slc×Unit)=>cond (decide (z2.1< ((b_0_n:Nat):Int))) (deref b_0_p fun a3=>chk (0≤z2.1∧z2.1< (b_0_n:Nat))<|bL a3 z2.1 1 fun t4=>dK [aS] (cond t4 (aD #[(.int .i64 z2.1)] 3 fun r6=>eU (eV #[30,30] 30 #[(sv z2.2.1),(.slice (some ⟨r6,0,none⟩) 1 1)]) (.one aS) fun (t7:Slc)=>cG [(sv t7)]) (cG [(sv z2.2.1)])) fun (z5:Slc×Unit)=>cG [(.int .i64 (wN z2.1)),(sv z5.1)]) (dX 0 [(.int .i64 z2.1),(sv z2.2.1)])) fun (z1:Int×Slc×Unit)=>dN (sv z1.2.1)
theorem Is (b_0_p:Option Addr) (b_0_n b_0_c:Nat):AZ bW Tryz.f30 [(.slice b_0_p b_0_n b_0_c)] =F7 b_0_p b_0_n b_0_c:=by kernel_rfl
noncomputable def Fj (p_0:Pl6):T:=aD #[(sv p_0.1),(sv p_0.2.1),(sv p_0.2.2.1),(sv p_0.2.2.2.1),(sv p_0.2.2.2.2.1),(sv p_0.2.2.2.2.2.1)] 32 fun r1=>cQ 0 [aI,aS] (dM [aI,aS] [(.int .i64 0),(.slice none 0 0)] fun (z3:Int×Slc×Unit)=>aA r1 1 fun t4=>cond (decide (z3.1≤(t4.2.1:Int))) (aA r1 0 fun t5=>eU (dH 60 (.int .i64 (t5.2.1:Int)) (.int .i64 (t5.2.1:Int))) (.one aS) fun (t6:Slc)=>aD #[(sv t6)] 60 fun r7=>eU (eV #[61,61] 61 #[(sv z3.2.1),(.slice (some ⟨r7,0,none⟩) 1 1)]) (.one aS) fun (t8:Slc)=>cG [(.int .i64 (wN z3.1)),(sv t8)]) (dX 0 [(.int .i64 z3.1),(sv z3.2.1)])) fun (z2:Int×Slc×Unit)=>dN (sv z2.2.1)
theorem IP (p_0:Pl6):AZ bW Tryz.f74 [(aG p_0)] =Fj p_0:=by kernel_rfl
noncomputable def Do (f_0:Option Addr) (p_1:Pl6) (seq_2_p:Option Addr) (seq_2_n seq_2_c:Nat):T:=aD #[(sv p_1.1),(sv p_1.2.1),(sv p_1.2.2.1),(sv p_1.2.2.2.1),(sv p_1.2.2.2.2.1),(sv p_1.2.2.2.2.2.1)] 32 fun r1=>aA r1 0 fun t2=>eU (dH 60 (.int .i64 (t2.2.1:Int)) (.int .i64 (t2.2.1:Int))) (.one aS) fun (t3:Slc)=>cQ 0 [aI,aB,aS] (dM [aI,aB,aS] [(.int .i64 0),(.bool false),(.slice none 0 0)] fun (z5:Int×Bool×Slc×Unit)=>cond (decide (z5.1< ((seq_2_n:Nat):Int))) (cQ 1 [aB,aS] (dK [aB] (deref seq_2_p fun a8=>chk (0≤z5.1∧z5.1< (seq_2_n:Nat))<|aJ a8 z5.1 1 fun t9=>cond (decide (t9≥ 0)) (deref seq_2_p fun a10=>chk (0≤z5.1∧z5.1< (seq_2_n:Nat))<|aJ a10 z5.1 1 fun t11=>cG [(.bool (decide (t11< (t2.2.1:Int))))]) (cG [(.bool false)])) fun (z7:Bool×Unit)=>cond z7.1 (deref seq_2_p fun a12=>chk (0≤z5.1∧z5.1< (seq_2_n:Nat))<|aJ a12 z5.1 1 fun t13=>deref t3.1 fun a14=>chk (0≤t13∧t13< (t3.2.1:Nat))<|eH (a14.add (cN t13 *1)) (.bool true)<|dN (.tuple #[(sv t3),(.bool false)])) (deref seq_2_p fun a15=>chk (0≤z5.1∧z5.1< (seq_2_n:Nat))<|aJ a15 z5.1 1 fun t16=>dK [aB] (cond (decide ((bT .i64 (t16 - (t2.2.1:Int))) < 0)) (cG [(.bool true)]) (deref f_0 fun a18=>bM a18 fun t19=>cG [(.bool (decide ((bT .i64 (t16 - (t2.2.1:Int))) ≥ (t19.2.1:Int))))])) fun (z17:Bool×Unit)=>cond z17.1 (dX 1 [(.bool z5.2.1),(sv z5.2.2.1)]) (deref f_0 fun a20=>aL a20 1 fun t21=>deref t21.1 fun a22=>chk (0≤(bT .i64 (t16 - (t2.2.1:Int)))∧(bT .i64 (t16 - (t2.2.1:Int))) < (t21.2.1:Nat))<|aC a22 (bT .i64 (t16 - (t2.2.1:Int))) 1 fun t23=>cI 76 [(sv t3),(sv t23)] (.one aB) fun (t24:Bool)=>deref f_0 fun a25=>bM a25 fun t26=>deref t26.1 fun a27=>chk (0≤(bT .i64 (t16 - (t2.2.1:Int)))∧(bT .i64 (t16 - (t2.2.1:Int))) < (t26.2.1:Nat))<|bL a27 (bT .i64 (t16 - (t2.2.1:Int))) 1 fun t28=>cond (!t28) (dN (.tuple #[(sv t3),(.bool false)])) (cG [(.bool z5.2.1),(sv z5.2.2.1)])))) fun (z6:Bool×Slc×Unit)=>cG [(.int .i64 (wN z5.1)),(.bool z6.1),(sv z6.2.1)]) (dX 0 [(.int .i64 z5.1),(.bool z5.2.1),(sv z5.2.2.1)])) fun (z4:Int×Bool×Slc×Unit)=>dN (.tuple #[(sv t3),(.bool true)])
theorem Fp (f_0:Option Addr) (p_1:Pl6) (seq_2_p:Option Addr) (seq_2_n seq_2_c:Nat):AZ bW Tryz.f75 [(.pointer f_0),(aG p_1),(.slice seq_2_p seq_2_n seq_2_c)] =Do f_0 p_1 seq_2_p seq_2_n seq_2_c:=by kernel_rfl
noncomputable def ER (a_0_p:Option Addr) (a_0_n a_0_c:Nat) (b_1_p:Option Addr) (b_1_n b_1_c:Nat):T:=cQ 0 [aI,aB] (dM [aI,aB] [(.int .i64 0),(.bool false)] fun (z2:Int×Bool×Unit)=>cond (decide (z2.1< ((b_1_n:Nat):Int))) (dK [aB] (deref b_1_p fun a4=>chk (0≤z2.1∧z2.1< (b_1_n:Nat))<|bL a4 z2.1 1 fun t5=>cond t5 (deref a_0_p fun a6=>chk (0≤z2.1∧z2.1< (a_0_n:Nat))<|bL a6 z2.1 1 fun t7=>cG [(.bool (!t7))]) (cG [(.bool false)])) fun (z3:Bool×Unit)=>dK [aB] (cond z3.1 (deref a_0_p fun a9=>chk (0≤z2.1∧z2.1< (a_0_n:Nat))<|eH (a9.add (cN z2.1 *1)) (.bool true)<|cG [(.bool true)]) (cG [(.bool z2.2.1)])) fun (z8:Bool×Unit)=>cG [(.int .i64 (wN z2.1)),(.bool z8.1)]) (dX 0 [(.int .i64 z2.1),(.bool z2.2.1)])) fun (z1:Int×Bool×Unit)=>dN (.bool z1.2.1)
theorem Fk (a_0_p:Option Addr) (a_0_n a_0_c:Nat) (b_1_p:Option Addr) (b_1_n b_1_c:Nat):AZ bW Tryz.f76 [(.slice a_0_p a_0_n a_0_c),(.slice b_1_p b_1_n b_1_c)] =ER a_0_p a_0_n a_0_c b_1_p b_1_n b_1_c:=by kernel_rfl
section
variable {φ:AD}{h:AH}{F:List Chk}
theorem QK:N4 bW 60 4 (.bool false):=⟨Tryz.underlying60,⟨Tryz.t4,by kernel_rfl,rfl,⟨_,rfl,rfl⟩,by decide⟩⟩
noncomputable def BD (p_0:BA):Option Int:=some (bT .i64 ((bT .i64 ((p_0.1.length:Int)+(p_0.2.1.length:Int)))+1))
theorem Bx {p_0:Pl6}{a:List ByteArray}{b:List ByteArray}{d:List Ay}{e:List Int}{f:List Int}{g:List ByteArray}(i:Ro.SliceIs dD φ p_0.1 a) (j:Ro.SliceIs dD φ p_0.2.1 b) (n:Ro.SliceIs CR φ p_0.2.2.1 d) (o:Ro.SliceIs (cC .i64) φ p_0.2.2.2.1 e) (p:Ro.SliceIs (cC .i64) φ p_0.2.2.2.2.1 f) (q:Ro.SliceIs dD φ p_0.2.2.2.2.2.1 g) (s0:St φ (F) h) {r:Int}(hd:BD (a,b,d,e,f,g)=some r):
 CallsH bW 59 [(aG p_0)] h (Ar fun v h'=>∃ψ:AD,∃y:Int,Sub φ ψ∧v=((.one aI):Sh).val y∧y=r∧St ψ (F) h'):=by
 refine AO mixed Tryz.func59 ?_;rw [IL];unfold Fg;unfold BD at hd;have k:p_0.1.2.1=cJ a:=i.length;have l:p_0.2.1.2.1=cJ b:=j.length;refine AV (vs:=[sv p_0.1,sv p_0.2.1,sv p_0.2.2.1,sv p_0.2.2.2.1,sv p_0.2.2.2.2.1,sv p_0.2.2.2.2.2.1]) s0 fun r1 s c=>AA (x:=p_0.1) c rfl<|AA (x:=p_0.2.1) c rfl ?_;obtain rfl:=iS hd;have m:=c.tail;exact AB ⟨φ,(bT .i64 ((bT .i64 ((p_0.1.2.1:Int)+(p_0.2.1.2.1:Int)))+(1:Int))),(bZ _),rfl,(by rw [k,l]),m⟩
noncomputable def CO (p_0:BA):Option (List Bool):=(BD (p_0.1,p_0.2.1,p_0.2.2.1,p_0.2.2.2.1,p_0.2.2.2.2.1,p_0.2.2.2.2.2)).bind fun t8=>(Dw t8 false).bind fun t9=>(forS (σ:=List Bool) 0 (p_0.1.length:Int) t9 fun i_z11 z11=>(DL z11 i_z11 true).bind fun m57=>some m57).bind fun z10=>(loop (σ:=(Bool×List Bool)) (β:=List Bool) (true,z10) fun z15=>cond z15.1 ((forS (σ:=(Bool×List Bool)) 0 (p_0.2.2.1.length:Int) (false,z15.2) fun i_z17 z17=>(loop (σ:=(Int×Bool)) (β:=Bool) (0,true) fun z20=>(idx p_0.2.2.1 i_z17).bind fun e128=>cond (decide (z20.1< (e128.2.1.length:Int))) ((cond z20.2 ((idx p_0.2.2.1 i_z17).bind fun e146=>(idx e146.2.1 z20.1).bind fun e156=>(idx z17.2 e156).bind fun e159=>some e159) (some false)).bind fun z24=>some (dQ ((bT .i64 (z20.1+1)),z24))) (some (eF z20.2))).bind fun z19=>(cond z19 ((idx p_0.2.2.1 i_z17).bind fun e189=>(idx z17.2 e189.1).bind fun e199=>some (!e199)) (some false)).bind fun z32=>(cond z32 ((idx p_0.2.2.1 i_z17).bind fun e220=>(DL z17.2 e220.1 true).bind fun m240=>some (true,m240)) (some (z17.1,z17.2))).bind fun z38=>some (z38.1,z38.2)).bind fun z16=>some (dQ (z16.1,z16.2))) (some (eF z15.2))).bind fun z14=>some z14
theorem IQ {p_0:Pl6}{a0:List ByteArray}{a9:List ByteArray}{a1:List Ay}{aa:List Int}{ab:List Int}{ac:List ByteArray}(ad:Ro.SliceIs dD φ p_0.1 a0) (b3:Ro.SliceIs dD φ p_0.2.1 a9) (k:Ro.SliceIs CR φ p_0.2.2.1 a1) (b4:Ro.SliceIs (cC .i64) φ p_0.2.2.2.1 aa) (b5:Ro.SliceIs (cC .i64) φ p_0.2.2.2.2.1 ab) (b6:Ro.SliceIs dD φ p_0.2.2.2.2.2.1 ac) (s0:St φ (F) h) {r:(List Bool)}(hd:CO (a0,a9,a1,aa,ab,ac)=some r):
 CallsH bW 57 [(aG p_0)] h (Ar fun v h'=>∃ψ:AD,∃y:Slc,∃ae:List Bool,Sub φ ψ∧v=((.one aS):Sh).val y∧ae=r∧Ro.SliceIs bY ψ y ae∧St ψ (F) h'):=by
 refine AO mixed Tryz.func57 ?_;rw [IK];unfold Ff;unfold CO at hd;have af:p_0.1.2.1=cJ a0:=ad.length;have ag:p_0.2.2.1.2.1=cJ a1:=k.length;refine AV (vs:=[sv p_0.1,sv p_0.2.1,sv p_0.2.2.1,sv p_0.2.2.2.1,sv p_0.2.2.2.2.1,sv p_0.2.2.2.2.2.1]) s0 fun r1 e6 j=>AA (x:=p_0.1) j rfl<|AA (x:=p_0.2.1) j rfl<|AA (x:=p_0.2.2.1) j rfl<|AA (x:=p_0.2.2.2.1) j rfl<|AA (x:=p_0.2.2.2.2.1) j rfl<|AA (x:=p_0.2.2.2.2.2.1) j rfl ?_;obtain ⟨e7,b7,hd⟩:=bS hd;refine AI (Bx (p_0:=(p_0.1,p_0.2.1,p_0.2.2.1,p_0.2.2.2.1,p_0.2.2.2.2.1,p_0.2.2.2.2.2.1,())) ad b3 k b4 b5 b6 j b7) ?_;rintro _ e8 ⟨ah,t8,m,rfl,rfl,b8⟩;refine ⟨t8,rfl,?_⟩;obtain ⟨b9,ba,hd⟩:=bS hd;refine FA (r:=bY) (x:=false) QK b8 rfl rfl ba ?_;intro t9 e9 bb;obtain ⟨ea,bc,hd⟩:=bS hd;refine B9 bc (fun bd (y:Int×Unit) w_ g=>∃ψ:AD,∃ai:List Bool,Sub ah ψ∧y.1=bd∧ai=g∧St ψ (cR 4 bY t9 ai::Wq2 r1 p_0::F) w_) ((0:Int),()) rfl ⟨ah,b9,(bZ _),rfl,rfl,bb.at1.at1⟩ ?_ ?_ ?_
 ·rintro _ z11 eb _ _ ⟨be,ec,bf,rfl,rfl,a2⟩ u bg aj ak;try dsimp only at u bg aj ak
  refine AA (x:=p_0.1) a2.at1 rfl<|Aa (dT af aj) ?_;obtain ⟨bh,al,u⟩:=bS u;obtain ⟨ed,am,bi⟩:=a2.there al;refine AF _ am (AY bi (FO a2 al rfl am ?_));intro ee bj;obtain rfl:=iS u;exact Ad ((wN z11.1),()) _ rfl rfl ⟨be,bh,bf,ak,rfl,bj.at1.at1⟩
 ·rintro _ z11 ef ⟨bk,bl,bm,rfl,rfl,an⟩ bn;refine AA (x:=p_0.1) an.at1 rfl<|AT (dF af bn)<|AJ (AL (z11.1,()) rfl ⟨_,bk,bl,bm,rfl,rfl,an.at1.at1⟩)
 rintro z10 eg ⟨_,a3,bo,n,_,rfl,bp⟩;try dsimp only at hd
 obtain ⟨bq,br,hd⟩:=bS hd;refine Ap (fun (y:Bool×Unit) w_ g=>∃ψ:AD,∃ao:List Bool,Sub a3 ψ∧ao=g∧St ψ (cR 4 bY t9 ao::Wq2 r1 p_0::F) w_) (g:=bq) ?_ ?_
 ·refine DZ br (fun (y:Bool×Unit) w_ g=>∃ψ:AD,∃ap:List Bool,Sub a3 ψ∧(y.1,ap)=g∧St ψ (cR 4 bY t9 ap::Wq2 r1 p_0::F) w_) (true,()) rfl ⟨a3,bo,(bZ _),rfl,bp.at1.at1⟩ ?_
  ·rintro z15 eh _ _ ⟨a4,aq,l,rfl,ar⟩ d bs;try dsimp only at d
   refine AK d rfl (fun _ d=> ?_) (fun _ d=> ?_)
   ·have bt:=ar.at1;obtain ⟨ei,bu,d⟩:=bS d;refine B9 bu (fun bv (y:Int×Bool×Unit) w_ g=>∃ψ:AD,∃au:List Bool,Sub a4 ψ∧y.1=bv∧(y.2.1,au)=g∧St ψ (cR 4 bY t9 au::Wq2 r1 p_0::F) w_) ((0:Int),false,()) rfl ⟨a4,aq,(bZ _),rfl,rfl,bt.at1⟩ ?_ ?_ ?_
    ·rintro _ z17 ej _ _ ⟨a5,o,p,rfl,rfl,av⟩ a bw aw ax;try dsimp only at a bw aw ax
     refine AA (x:=p_0.2.2.1) av.at1 rfl<|Aa (dT ag aw) ?_;obtain ⟨bx,bz,a⟩:=bS a;refine Ap (fun (y:Int×Bool×Unit) w_ g=>∃ψ:AD,Sub a5 ψ∧y.2.1=g∧St ψ (cR 4 bY t9 o::Wq2 r1 p_0::F) w_) (g:=bx) ?_ ?_
     ·refine DZ bz (fun (y:Int×Bool×Unit) w_ g=>∃ψ:AD,Sub a5 ψ∧(y.1,y.2.1)=g∧St ψ (cR 4 bY t9 o::Wq2 r1 p_0::F) w_) ((0:Int),true,()) rfl ⟨a5,(bZ _),rfl,av.at1.at1⟩ ?_
      ·rintro z20 ek _ _ ⟨w,z,rfl,e⟩ b c0;try dsimp only at b
       refine AA (x:=p_0.2.2.1) e.at1 rfl ?_;obtain ⟨el,c1,b⟩:=bS b;obtain ⟨em,en,c2,c3,c4,c5⟩:=(k.mono ((((m.trans n).trans l).trans p).trans z)).get c1;refine AF _ c2 (AY c3 ?_);obtain ⟨_,_,rfl,rfl,⟨_,_,rfl,⟨ca,rfl,cb⟩,c9⟩⟩:=c4;have cc:=cb.length;obtain rfl:=c9;refine AC (x:=ca) (by rw [Ah];exact (AE e.sub (c5 1 _ rfl))) rfl<|AK b (by rw [cc] <;>rfl) (fun _ b=> ?_) (fun _ b=> ?_)
       ·obtain ⟨cd,c,b⟩:=bS b;refine Aj (fun (y:Bool×Unit) w_ g=>∃ψ:AD,Sub w ψ∧y.1=g∧St ψ (cR 4 bY t9 o::Wq2 r1 p_0::F) w_) (g:=cd) ?_ ?_
        ·refine AK c rfl (fun _ c=> ?_) (fun _ c=> ?_)
         ·refine AA (x:=p_0.2.2.1) e.at1 rfl ?_;obtain ⟨eo,ce,c⟩:=bS c;obtain ⟨ep,er,cf,cg,ch,ci⟩:=(k.mono ((((m.trans n).trans l).trans p).trans z)).get ce;refine AF _ cf (AY cg ?_);obtain ⟨_,_,rfl,rfl,⟨_,_,rfl,⟨cn,rfl,co⟩,rfl⟩⟩:=ch;refine AC (x:=cn) (by rw [Ah];exact (AE e.sub (ci 1 _ rfl))) rfl ?_;obtain ⟨es,cp,c⟩:=bS c;refine Ce co cp e.sub ?_;obtain ⟨cq,cr,c⟩:=bS c;refine EK e cr ?_;obtain rfl:=iS c;exact AQ (cq,()) rfl ⟨w,(bZ _),rfl,e.at1.at1⟩
         obtain rfl:=iS c;exact AQ (false,()) rfl ⟨w,(bZ _),rfl,e.at1.at1⟩
        rintro z24 eu ⟨cs,ct,rfl,cu⟩;try dsimp only at b
        obtain rfl:=iS b;exact Ad ((wN z20.1),z24.1,()) _ rfl rfl ⟨cs,(z.trans ct),rfl,cu.at1.at1⟩
       obtain rfl:=iS b;obtain rfl:=c0 _ rfl;exact AJ (AL (z20.1,z20.2.1,()) rfl ⟨w,z,rfl,e.at1.at1⟩)
     rintro z19 ev ⟨a6,a7,rfl,q⟩;try dsimp only at a
     obtain ⟨cv,f,a⟩:=bS a;refine Aj (fun (y:Bool×Unit) w_ g=>∃ψ:AD,Sub a6 ψ∧y.1=g∧St ψ (cR 4 bY t9 o::Wq2 r1 p_0::F) w_) (g:=cv) ?_ ?_
     ·refine AK f rfl (fun _ f=> ?_) (fun _ f=> ?_)
      ·refine AA (x:=p_0.2.2.1) q.at1 rfl ?_;obtain ⟨cw,cx,f⟩:=bS f;obtain ⟨ew,ex,cy,cz,d0,d1⟩:=(k.mono ((((m.trans n).trans l).trans p).trans a7)).get cx;refine AF _ cy (AY cz ?_);obtain ⟨_,_,rfl,rfl,⟨_,_,rfl,⟨ey,rfl,ez⟩,rfl⟩⟩:=d0;refine AC (x:=cw.1) (AE q.sub (d1 0 _ rfl)) rfl ?_;obtain ⟨d6,d7,f⟩:=bS f;refine EK q d7 ?_;obtain rfl:=iS f;exact AQ ((!d6),()) rfl ⟨a6,(bZ _),rfl,q.at1.at1⟩
      obtain rfl:=iS f;exact AQ (false,()) rfl ⟨a6,(bZ _),rfl,q.at1.at1⟩
     rintro z32 f0 ⟨a8,ay,rfl,s⟩;try dsimp only at a
     obtain ⟨d8,i,a⟩:=bS a;refine Aj (fun (y:Bool×Unit) w_ g=>∃ψ:AD,∃az:List Bool,Sub a8 ψ∧(y.1,az)=g∧St ψ (cR 4 bY t9 az::Wq2 r1 p_0::F) w_) (g:=d8) ?_ ?_
     ·refine AK i rfl (fun _ i=> ?_) (fun _ i=> ?_)
      ·refine AA (x:=p_0.2.2.1) s.at1 rfl ?_;obtain ⟨d9,da,i⟩:=bS i;obtain ⟨f1,f2,db,dc,dd,de⟩:=(k.mono (((((m.trans n).trans l).trans p).trans a7).trans ay)).get da;refine AF _ db (AY dc ?_);obtain ⟨_,_,rfl,rfl,⟨_,_,rfl,⟨f3,rfl,f4⟩,rfl⟩⟩:=dd;refine AC (x:=d9.1) (AE s.sub (de 0 _ rfl)) rfl ?_;obtain ⟨dj,b0,i⟩:=bS i;obtain ⟨f5,b1,dk⟩:=s.there b0;refine AF _ b1 (AY dk (FO s b0 rfl b1 ?_));intro f6 dl;obtain rfl:=iS i;exact AQ (true,()) rfl ⟨a8,dj,(bZ _),rfl,dl.at1.at1⟩
      obtain rfl:=iS i;exact AQ (z17.2.1,()) rfl ⟨a8,o,(bZ _),rfl,s.at1.at1⟩
     rintro z38 f7 ⟨dm,dn,dp,rfl,dq⟩;try dsimp only at a
     obtain rfl:=iS a;exact Ad ((wN z17.1),z38.1,()) _ rfl rfl ⟨dm,dn,(((p.trans a7).trans ay).trans dp),ax,rfl,dq.at1.at1⟩
    ·rintro _ z17 f8 ⟨dr,ds,dt,rfl,rfl,b2⟩ du;refine AA (x:=p_0.2.2.1) b2.at1 rfl<|AT (dF ag du)<|AJ (AL (z17.1,z17.2.1,()) rfl ⟨_,dr,ds,dt,rfl,rfl,b2.at1.at1⟩)
    rintro z16 f9 ⟨_,dv,dw,dx,_,rfl,dy⟩;try dsimp only at d
    obtain rfl:=iS d;exact Ad (z16.2.1,()) _ rfl rfl ⟨dv,dw,(l.trans dx),rfl,dy.at1.at1⟩
   obtain rfl:=iS d;obtain rfl:=bs _ rfl;exact AJ (AL (z15.1,()) rfl ⟨a4,aq,l,rfl,ar.at1.at1⟩)
 rintro z14 fa ⟨fb,dz,e0,rfl,e1⟩;try dsimp only at hd
 obtain ⟨e2,e3,e4,e5⟩:=cH (t:=t9) e1;obtain rfl:=iS hd;exact AB ⟨e2,t9,dz,(((m.trans n).trans e0).trans e3),rfl,rfl,e4,e5.tail⟩
noncomputable def CZ (p_0:BA):Option (List Bool):=(BD (p_0.1,p_0.2.1,p_0.2.2.1,p_0.2.2.2.1,p_0.2.2.2.2.1,p_0.2.2.2.2.2)).bind fun t8=>(Dw t8 false).bind fun t9=>(BD (p_0.1,p_0.2.1,p_0.2.2.1,p_0.2.2.2.1,p_0.2.2.2.2.1,p_0.2.2.2.2.2)).bind fun t16=>(DL t9 (bT .i64 (t16 - 1)) true).bind fun m45=>(loop (σ:=(Bool×List Bool)) (β:=List Bool) (true,m45) fun z19=>cond z19.1 ((forS (σ:=(Bool×List Bool)) 0 (p_0.2.2.1.length:Int) (false,z19.2) fun i_z21 z21=>(loop (σ:=(Int×Bool×List Bool)) (β:=(Bool×List Bool)) (0,z21.1,z21.2) fun z24=>(idx p_0.2.2.1 i_z21).bind fun e101=>cond (decide (z24.1< (e101.2.1.length:Int))) (((idx p_0.2.2.1 i_z21).bind fun e119=>(idx z24.2.2 e119.1).bind fun e129=>cond e129 ((idx p_0.2.2.1 i_z21).bind fun e138=>(idx e138.2.1 z24.1).bind fun e148=>(idx z24.2.2 e148).bind fun e151=>some (!e151)) (some false)).bind fun z28=>(cond z28 ((idx p_0.2.2.1 i_z21).bind fun e172=>(idx e172.2.1 z24.1).bind fun e182=>(DL z24.2.2 e182 true).bind fun m195=>some (true,m195)) (some (z24.2.1,z24.2.2))).bind fun z41=>some (dQ ((bT .i64 (z24.1+1)),z41.1,z41.2))) (some (eF (z24.2.1,z24.2.2)))).bind fun z23=>some (z23.1,z23.2)).bind fun z20=>some (dQ (z20.1,z20.2))) (some (eF z19.2))).bind fun z18=>some z18
theorem Iu {p_0:Pl6}{a3:List ByteArray}{a4:List ByteArray}{u:List Ay}{a5:List Int}{a6:List Int}{a7:List ByteArray}(a8:Ro.SliceIs dD φ p_0.1 a3) (a9:Ro.SliceIs dD φ p_0.2.1 a4) (i:Ro.SliceIs CR φ p_0.2.2.1 u) (aa:Ro.SliceIs (cC .i64) φ p_0.2.2.2.1 a5) (ab:Ro.SliceIs (cC .i64) φ p_0.2.2.2.2.1 a6) (ac:Ro.SliceIs dD φ p_0.2.2.2.2.2.1 a7) (s0:St φ (F) h) {r:(List Bool)}(hd:CZ (a3,a4,u,a5,a6,a7)=some r):
 CallsH bW 58 [(aG p_0)] h (Ar fun v h'=>∃ψ:AD,∃y:Slc,∃ad:List Bool,Sub φ ψ∧v=((.one aS):Sh).val y∧ad=r∧Ro.SliceIs bY ψ y ad∧St ψ (F) h'):=by
 refine AO mixed Tryz.func58 ?_;rw [Iq];unfold F5;unfold CZ at hd;have ae:p_0.2.2.1.2.1=cJ u:=i.length;refine AV (vs:=[sv p_0.1,sv p_0.2.1,sv p_0.2.2.1,sv p_0.2.2.2.1,sv p_0.2.2.2.2.1,sv p_0.2.2.2.2.2.1]) s0 fun r1 dn j=>AA (x:=p_0.1) j rfl<|AA (x:=p_0.2.1) j rfl<|AA (x:=p_0.2.2.1) j rfl<|AA (x:=p_0.2.2.2.1) j rfl<|AA (x:=p_0.2.2.2.2.1) j rfl<|AA (x:=p_0.2.2.2.2.2.1) j rfl ?_;obtain ⟨dp,az,hd⟩:=bS hd;refine AI (Bx (p_0:=(p_0.1,p_0.2.1,p_0.2.2.1,p_0.2.2.2.1,p_0.2.2.2.2.1,p_0.2.2.2.2.2.1,())) a8 a9 i aa ab ac j az) ?_;rintro _ dq ⟨dr,t8,d,rfl,rfl,b0⟩;refine ⟨t8,rfl,?_⟩;obtain ⟨ds,b1,hd⟩:=bS hd;refine FA (r:=bY) (x:=false) QK b0 rfl rfl b1 ?_;intro t9 dt k;refine AA (x:=p_0.1) k.at1 rfl<|AA (x:=p_0.2.1) k.at1 rfl<|AA (x:=p_0.2.2.1) k.at1 rfl<|AA (x:=p_0.2.2.2.1) k.at1 rfl<|AA (x:=p_0.2.2.2.2.1) k.at1 rfl<|AA (x:=p_0.2.2.2.2.2.1) k.at1 rfl ?_;obtain ⟨du,b2,hd⟩:=bS hd;refine AI (Bx (p_0:=(p_0.1,p_0.2.1,p_0.2.2.1,p_0.2.2.2.1,p_0.2.2.2.2.1,p_0.2.2.2.2.2.1,())) (a8.mono d) (a9.mono d) (i.mono d) (aa.mono d) (ab.mono d) (ac.mono d) k b2) ?_;rintro _ dv ⟨w,t16,o,rfl,rfl,af⟩;refine ⟨t16,rfl,?_⟩;obtain ⟨b3,ag,hd⟩:=bS hd;obtain ⟨dw,ah,b4⟩:=af.there ag;refine AF _ ah (AY b4 (FO af ag rfl ah ?_));intro dx b5;obtain ⟨b6,b7,hd⟩:=bS hd;refine Ap (fun (y:Bool×Unit) w_ g=>∃ψ:AD,∃ai:List Bool,Sub w ψ∧ai=g∧St ψ (cR 4 bY t9 ai::Wq2 r1 p_0::F) w_) (g:=b6) ?_ ?_
 ·refine DZ b7 (fun (y:Bool×Unit) w_ g=>∃ψ:AD,∃aj:List Bool,Sub w ψ∧(y.1,aj)=g∧St ψ (cR 4 bY t9 aj::Wq2 r1 p_0::F) w_) (true,()) rfl ⟨w,b3,(bZ _),rfl,b5.at1.at1⟩ ?_
  ·rintro z19 dy _ _ ⟨z,ak,l,rfl,al⟩ f b8;try dsimp only at f
   refine AK f rfl (fun _ f=> ?_) (fun _ f=> ?_)
   ·have b9:=al.at1;obtain ⟨dz,ba,f⟩:=bS f;refine B9 ba (fun bb (y:Int×Bool×Unit) w_ g=>∃ψ:AD,∃am:List Bool,Sub z ψ∧y.1=bb∧(y.2.1,am)=g∧St ψ (cR 4 bY t9 am::Wq2 r1 p_0::F) w_) ((0:Int),false,()) rfl ⟨z,ak,(bZ _),rfl,rfl,b9.at1⟩ ?_ ?_ ?_
    ·rintro _ z21 e0 _ _ ⟨a0,bc,p,rfl,rfl,an⟩ q bd ao ap;try dsimp only at q bd ao ap
     refine AA (x:=p_0.2.2.1) an.at1 rfl<|Aa (dT ae ao) ?_;obtain ⟨be,bf,q⟩:=bS q;refine Ap (fun (y:Int×Bool×Unit) w_ g=>∃ψ:AD,∃aq:List Bool,Sub a0 ψ∧(y.2.1,aq)=g∧St ψ (cR 4 bY t9 aq::Wq2 r1 p_0::F) w_) (g:=be) ?_ ?_
     ·refine DZ bf (fun (y:Int×Bool×Unit) w_ g=>∃ψ:AD,∃ar:List Bool,Sub a0 ψ∧(y.1,y.2.1,ar)=g∧St ψ (cR 4 bY t9 ar::Wq2 r1 p_0::F) w_) ((0:Int),z21.2.1,()) rfl ⟨a0,bc,(bZ _),rfl,an.at1.at1⟩ ?_
      ·rintro z24 e1 _ _ ⟨s,a1,m,rfl,c⟩ b bg;try dsimp only at b
       refine AA (x:=p_0.2.2.1) c.at1 rfl ?_;obtain ⟨e2,bh,b⟩:=bS b;obtain ⟨e3,e4,bi,bj,bk,bl⟩:=(i.mono ((((d.trans o).trans l).trans p).trans m)).get bh;refine AF _ bi (AY bj ?_);obtain ⟨_,_,rfl,rfl,⟨_,_,rfl,⟨bq,rfl,br⟩,bp⟩⟩:=bk;have bs:=br.length;obtain rfl:=bp;refine AC (x:=bq) (by rw [Ah];exact (AE c.sub (bl 1 _ rfl))) rfl<|AK b (by rw [bs] <;>rfl) (fun _ b=> ?_) (fun _ b=> ?_)
       ·obtain ⟨bt,a,b⟩:=bS b;refine Aj (fun (y:Bool×Unit) w_ g=>∃ψ:AD,Sub s ψ∧y.1=g∧St ψ (cR 4 bY t9 a1::Wq2 r1 p_0::F) w_) (g:=bt) ?_ ?_
        ·refine AA (x:=p_0.2.2.1) c.at1 rfl ?_;obtain ⟨bu,bv,a⟩:=bS a;obtain ⟨e5,e6,bw,bx,bz,c0⟩:=(i.mono ((((d.trans o).trans l).trans p).trans m)).get bv;refine AF _ bw (AY bx ?_);obtain ⟨_,_,rfl,rfl,⟨_,_,rfl,⟨e7,rfl,e8⟩,rfl⟩⟩:=bz;refine AC (x:=bu.1) (AE c.sub (c0 0 _ rfl)) rfl ?_;obtain ⟨e9,c5,a⟩:=bS a;refine EK c c5<|AK a rfl (fun _ a=> ?_) (fun _ a=> ?_)
         ·refine AA (x:=p_0.2.2.1) c.at1 rfl ?_;obtain ⟨ea,c6,a⟩:=bS a;obtain ⟨eb,ec,c7,c8,c9,ca⟩:=(i.mono ((((d.trans o).trans l).trans p).trans m)).get c6;refine AF _ c7 (AY c8 ?_);obtain ⟨_,_,rfl,rfl,⟨_,_,rfl,⟨cf,rfl,cg⟩,rfl⟩⟩:=c9;refine AC (x:=cf) (by rw [Ah];exact (AE c.sub (ca 1 _ rfl))) rfl ?_;obtain ⟨ed,ch,a⟩:=bS a;refine Ce cg ch c.sub ?_;obtain ⟨ci,cj,a⟩:=bS a;refine EK c cj ?_;obtain rfl:=iS a;exact AQ ((!ci),()) rfl ⟨s,(bZ _),rfl,c.at1.at1⟩
         obtain rfl:=iS a;exact AQ (false,()) rfl ⟨s,(bZ _),rfl,c.at1.at1⟩
        rintro z28 ee ⟨a2,au,rfl,n⟩;try dsimp only at b
        obtain ⟨ck,e,b⟩:=bS b;refine Aj (fun (y:Bool×Unit) w_ g=>∃ψ:AD,∃av:List Bool,Sub a2 ψ∧(y.1,av)=g∧St ψ (cR 4 bY t9 av::Wq2 r1 p_0::F) w_) (g:=ck) ?_ ?_
        ·refine AK e rfl (fun _ e=> ?_) (fun _ e=> ?_)
         ·refine AA (x:=p_0.2.2.1) n.at1 rfl ?_;obtain ⟨ef,cl,e⟩:=bS e;obtain ⟨eg,eh,cm,cn,co,cp⟩:=(i.mono (((((d.trans o).trans l).trans p).trans m).trans au)).get cl;refine AF _ cm (AY cn ?_);obtain ⟨_,_,rfl,rfl,⟨_,_,rfl,⟨cu,rfl,cv⟩,rfl⟩⟩:=co;refine AC (x:=cu) (by rw [Ah];exact (AE n.sub (cp 1 _ rfl))) rfl ?_;obtain ⟨ei,cw,e⟩:=bS e;refine Ce cv cw n.sub ?_;obtain ⟨cx,aw,e⟩:=bS e;obtain ⟨ej,ax,cy⟩:=n.there aw;refine AF _ ax (AY cy (FO n aw rfl ax ?_));intro ek cz;obtain rfl:=iS e;exact AQ (true,()) rfl ⟨a2,cx,(bZ _),rfl,cz.at1.at1⟩
         obtain rfl:=iS e;exact AQ (z24.2.1,()) rfl ⟨a2,a1,(bZ _),rfl,n.at1.at1⟩
        rintro z41 el ⟨d0,d1,d2,rfl,d3⟩;try dsimp only at b
        obtain rfl:=iS b;exact Ad ((wN z24.1),z41.1,()) _ rfl rfl ⟨d0,d1,((m.trans au).trans d2),rfl,d3.at1.at1⟩
       obtain rfl:=iS b;obtain rfl:=bg _ rfl;exact AJ (AL (z24.1,z24.2.1,()) rfl ⟨s,a1,m,rfl,c.at1.at1⟩)
     rintro z23 em ⟨d4,d5,d6,rfl,d7⟩;try dsimp only at q
     obtain rfl:=iS q;exact Ad ((wN z21.1),z23.2.1,()) _ rfl rfl ⟨d4,d5,(p.trans d6),ap,rfl,d7.at1.at1⟩
    ·rintro _ z21 en ⟨d8,d9,da,rfl,rfl,ay⟩ db;refine AA (x:=p_0.2.2.1) ay.at1 rfl<|AT (dF ae db)<|AJ (AL (z21.1,z21.2.1,()) rfl ⟨_,d8,d9,da,rfl,rfl,ay.at1.at1⟩)
    rintro z20 eo ⟨_,dc,dd,de,_,rfl,df⟩;try dsimp only at f
    obtain rfl:=iS f;exact Ad (z20.2.1,()) _ rfl rfl ⟨dc,dd,(l.trans de),rfl,df.at1.at1⟩
   obtain rfl:=iS f;obtain rfl:=b8 _ rfl;exact AJ (AL (z19.1,()) rfl ⟨z,ak,l,rfl,al.at1.at1⟩)
 rintro z18 ep ⟨er,dg,dh,rfl,di⟩;try dsimp only at hd
 obtain ⟨dj,dk,dl,dm⟩:=cH (t:=t9) di;obtain rfl:=iS hd;exact AB ⟨dj,t9,dg,(((d.trans o).trans dh).trans dk),rfl,rfl,dl,dm.tail⟩
noncomputable def CP (p_0:BA):Option (Int×Int):=
 (CO (p_0.1,p_0.2.1,p_0.2.2.1,p_0.2.2.2.1,p_0.2.2.2.2.1,p_0.2.2.2.2.2)).bind fun t8=>
 (CZ (p_0.1,p_0.2.1,p_0.2.2.1,p_0.2.2.2.1,p_0.2.2.2.2.1,p_0.2.2.2.2.2)).bind fun t15=>
 (loop (σ:=Int) (β:=Ab Unit (Int×Int)) (p_0.1.length:Int) fun z18=>
  (BD (p_0.1,p_0.2.1,p_0.2.2.1,p_0.2.2.2.1,p_0.2.2.2.2.1,p_0.2.2.2.2.2)).bind fun t25=>
  cond (decide (z18< (bT .i64 (t25 - 1))))
  ((idx t8 z18).bind fun e49=>
   cond (!e49)
   (some (eF (eF (z18,18))))
   (some (dQ (bT .i64 (z18+1)))))
  (some (eF (dQ ())))).bind fun e_z17=>match e_z17 with
 |.next z17=>
  (loop (σ:=Int) (β:=Ab Unit (Int×Int)) (p_0.1.length:Int) fun z30=>
   (BD (p_0.1,p_0.2.1,p_0.2.2.1,p_0.2.2.2.1,p_0.2.2.2.2.1,p_0.2.2.2.2.2)).bind fun t37=>
   cond (decide (z30< (bT .i64 (t37 - 1))))
   ((idx t15 z30).bind fun e74=>
    cond (!e74)
    (some (eF (eF (z30,17))))
    (some (dQ (bT .i64 (z30+1)))))
   (some (eF (dQ ())))).bind fun e_z29=>match e_z29 with
  |.next z29=>
   some (0,0)
  |.done q84=>some q84
 |.done q85=>some q85
theorem IS {p_0:Pl6}{a1:List ByteArray}{a6:List ByteArray}{a7:List Ay}{a8:List Int}{a9:List Int}{aa:List ByteArray}(n:Ro.SliceIs dD φ p_0.1 a1) (o:Ro.SliceIs dD φ p_0.2.1 a6) (p:Ro.SliceIs CR φ p_0.2.2.1 a7) (q:Ro.SliceIs (cC .i64) φ p_0.2.2.2.1 a8) (s:Ro.SliceIs (cC .i64) φ p_0.2.2.2.2.1 a9) (t:Ro.SliceIs dD φ p_0.2.2.2.2.2.1 aa) (s0:St φ (F) h) {r:(Int×Int)}(hd:CP (a1,a6,a7,a8,a9,aa)=some r):
 CallsH bW 16 [(aG p_0)] h (Ar fun v h'=>∃ψ:AD,∃y:Int×Int×Unit,Sub φ ψ∧v=((.tuple [aI,aI]):Sh).val y∧(y.1,y.2.1)=r∧St ψ (F) h'):=by
 refine AO mixed Tryz.func16 ?_;rw [IJ];unfold Fe;unfold CP at hd;have ab:p_0.1.2.1=cJ a1:=n.length;refine AV (vs:=[sv p_0.1,sv p_0.2.1,sv p_0.2.2.1,sv p_0.2.2.2.1,sv p_0.2.2.2.2.1,sv p_0.2.2.2.2.2.1]) s0 fun r1 ax j=>AA (x:=p_0.1) j rfl<|AA (x:=p_0.2.1) j rfl<|AA (x:=p_0.2.2.1) j rfl<|AA (x:=p_0.2.2.2.1) j rfl<|AA (x:=p_0.2.2.2.2.1) j rfl<|AA (x:=p_0.2.2.2.2.2.1) j rfl ?_;obtain ⟨ay,ag,hd⟩:=bS hd;refine AI (IQ (p_0:=(p_0.1,p_0.2.1,p_0.2.2.1,p_0.2.2.2.1,p_0.2.2.2.2.1,p_0.2.2.2.2.2.1,())) n o p q s t j ag) ?_;rintro _ az ⟨b0,t8,b1,a,rfl,rfl,ah,k⟩;refine ⟨t8,rfl,?_⟩;refine AA (x:=p_0.1) k rfl<|AA (x:=p_0.2.1) k rfl<|AA (x:=p_0.2.2.1) k rfl<|AA (x:=p_0.2.2.2.1) k rfl<|AA (x:=p_0.2.2.2.2.1) k rfl<|AA (x:=p_0.2.2.2.2.2.1) k rfl ?_;obtain ⟨b2,ai,hd⟩:=bS hd;refine AI (Iu (p_0:=(p_0.1,p_0.2.1,p_0.2.2.1,p_0.2.2.2.1,p_0.2.2.2.2.1,p_0.2.2.2.2.2.1,())) (n.mono a) (o.mono a) (p.mono a) (q.mono a) (s.mono a) (t.mono a) k ai) ?_;rintro _ b3 ⟨a2,t15,b4,b,rfl,rfl,aj,ac⟩;refine ⟨t15,rfl,?_⟩;refine AA (x:=p_0.1) ac rfl ?_;obtain ⟨ak,al,hd⟩:=bS hd;refine Ap (fun (y:Int×Int×Int×Unit) w_ g=>∃ψ:AD,Sub a2 ψ∧dQ ()=g∧St ψ (Wq2 r1 p_0::F) w_) (g:=ak) ?_ ?_
 ·refine DZ al (fun (y:Int×Int×Int×Unit) w_ g=>∃ψ:AD,Sub a2 ψ∧y.1=g∧St ψ (Wq2 r1 p_0::F) w_) ((p_0.1.2.1:Int),(0:Int),(0:Int),()) rfl ⟨a2,(bZ _),(by rw [ab]),ac⟩ ?_
  ·rintro z18 b5 _ _ ⟨b6,e,rfl,l⟩ c ad;try dsimp only at c
   refine AA (x:=p_0.1) l rfl<|AA (x:=p_0.2.1) l rfl<|AA (x:=p_0.2.2.1) l rfl<|AA (x:=p_0.2.2.2.1) l rfl<|AA (x:=p_0.2.2.2.2.1) l rfl<|AA (x:=p_0.2.2.2.2.2.1) l rfl ?_;obtain ⟨b7,am,c⟩:=bS c;refine AI (Bx (p_0:=(p_0.1,p_0.2.1,p_0.2.2.1,p_0.2.2.2.1,p_0.2.2.2.2.1,p_0.2.2.2.2.2.1,())) (n.mono ((a.trans b).trans e)) (o.mono ((a.trans b).trans e)) (p.mono ((a.trans b).trans e)) (q.mono ((a.trans b).trans e)) (s.mono ((a.trans b).trans e)) (t.mono ((a.trans b).trans e)) l am) ?_;rintro _ b8 ⟨a3,t25,u,rfl,rfl,w⟩;refine ⟨t25,rfl,?_⟩;refine AK c rfl (fun _ c=> ?_) (fun _ c=> ?_)
   ·obtain ⟨b9,an,c⟩:=bS c;refine Ce ah an (eI ((b.trans e).trans u) w.sub)<|AK c rfl (fun _ c=> ?_) (fun _ c=> ?_)
    ·obtain rfl:=iS c;obtain rfl:=ad _ rfl;try dsimp only at hd
     obtain rfl:=iS hd;exact Ag (Ai (AB ⟨a3,(z18.1,(18:Int),()),(((a.trans b).trans e).trans u),rfl,rfl,w.tail⟩))
    obtain rfl:=iS c;exact Ad ((wN z18.1),z18.2.1,z18.2.2.1,()) _ rfl rfl ⟨a3,(e.trans u),rfl,w⟩
   obtain rfl:=iS c;obtain rfl:=ad _ rfl;exact AJ (AL (z18.1,z18.2.1,z18.2.2.1,()) rfl ⟨a3,(e.trans u),rfl,w⟩)
 rintro z17 ba ⟨a4,i,rfl,ae⟩;try dsimp only at hd
 refine AA (x:=p_0.1) ae rfl ?_;obtain ⟨ao,ap,hd⟩:=bS hd;refine Ap (fun (y:Int×Int×Int×Unit) w_ g=>∃ψ:AD,Sub a4 ψ∧dQ ()=g∧St ψ (Wq2 r1 p_0::F) w_) (g:=ao) ?_ ?_
 ·refine DZ ap (fun (y:Int×Int×Int×Unit) w_ g=>∃ψ:AD,Sub a4 ψ∧y.1=g∧St ψ (Wq2 r1 p_0::F) w_) ((p_0.1.2.1:Int),z17.2.1,z17.2.2.1,()) rfl ⟨a4,(bZ _),(by rw [ab]),ae⟩ ?_
  ·rintro z30 bb _ _ ⟨bc,f,rfl,m⟩ d af;try dsimp only at d
   refine AA (x:=p_0.1) m rfl<|AA (x:=p_0.2.1) m rfl<|AA (x:=p_0.2.2.1) m rfl<|AA (x:=p_0.2.2.2.1) m rfl<|AA (x:=p_0.2.2.2.2.1) m rfl<|AA (x:=p_0.2.2.2.2.2.1) m rfl ?_;obtain ⟨bd,aq,d⟩:=bS d;refine AI (Bx (p_0:=(p_0.1,p_0.2.1,p_0.2.2.1,p_0.2.2.2.1,p_0.2.2.2.2.1,p_0.2.2.2.2.2.1,())) (n.mono (((a.trans b).trans i).trans f)) (o.mono (((a.trans b).trans i).trans f)) (p.mono (((a.trans b).trans i).trans f)) (q.mono (((a.trans b).trans i).trans f)) (s.mono (((a.trans b).trans i).trans f)) (t.mono (((a.trans b).trans i).trans f)) m aq) ?_;rintro _ be ⟨a5,t37,z,rfl,rfl,a0⟩;refine ⟨t37,rfl,?_⟩;refine AK d rfl (fun _ d=> ?_) (fun _ d=> ?_)
   ·obtain ⟨bf,ar,d⟩:=bS d;refine Ce aj ar (eI ((i.trans f).trans z) a0.sub)<|AK d rfl (fun _ d=> ?_) (fun _ d=> ?_)
    ·obtain rfl:=iS d;obtain rfl:=af _ rfl;try dsimp only at hd
     obtain rfl:=iS hd;exact Ag (Ai (AB ⟨a5,(z30.1,(17:Int),()),((((a.trans b).trans i).trans f).trans z),rfl,rfl,a0.tail⟩))
    obtain rfl:=iS d;exact Ad ((wN z30.1),z30.2.1,z30.2.2.1,()) _ rfl rfl ⟨a5,(f.trans z),rfl,a0⟩
   obtain rfl:=iS d;obtain rfl:=af _ rfl;exact AJ (AL (z30.1,z30.2.1,z30.2.2.1,()) rfl ⟨a5,(f.trans z),rfl,a0⟩)
 rintro z29 bg ⟨au,av,rfl,aw⟩;try dsimp only at hd
 obtain rfl:=iS hd;exact AB ⟨au,((0:Int),(0:Int),()),(((a.trans b).trans i).trans av),rfl,rfl,aw.tail⟩
noncomputable def B5 (a_0:List Int) (b_1:List Int):Option Bool:=
 cond ((a_0.length:Int) !=(b_1.length:Int))
 (some false)
 ((C2 (σ:=Unit) (β:=Bool) 0 (a_0.length:Int) () fun i_z2 z2=>
  (idx a_0 i_z2).bind fun e19=>
  (idx b_1 i_z2).bind fun e22=>
  cond (e19 !=e22)
  (some (eF false))
  (some (dQ ()))).bind fun e_z1=>match e_z1 with
  |.next z1=>
   some true
  |.done q35=>some q35)
theorem DN {a_0:Slc}{d:List Int}{b_1:Slc}{e:List Int}(i:Ro.SliceIs (cC .i64) φ a_0 d) (j:Ro.SliceIs (cC .i64) φ b_1 e) (s0:St φ (F) h) {r:Bool}(hd:B5 d e=some r):
 CallsH bW 21 [(sv a_0),(sv b_1)] h (Ar fun v h'=>∃ψ:AD,∃y:Bool,Sub φ ψ∧v=((.one aB):Sh).val y∧y=r∧St ψ (F) h'):=by
 refine AO mixed Tryz.func21 ?_;rw [Ip];unfold F4;unfold B5 at hd;have f:a_0.2.1=cJ d:=i.length;have n:b_1.2.1=cJ e:=j.length;refine AK hd (by rw [f,n] <;>rfl) (fun _ hd=> ?_) (fun _ hd=> ?_)
 ·obtain rfl:=iS hd;exact AB ⟨φ,false,(bZ _),rfl,rfl,s0⟩
 obtain ⟨a5,o,hd⟩:=bS hd;refine BK o (fun p (y:Int×Bool×Unit) w_ g=>∃ψ:AD,Sub φ ψ∧y.1=p∧()=g∧St ψ (F) w_) ((0:Int),false,()) rfl ⟨φ,(bZ _),rfl,rfl,s0⟩ ?_ ?_ ?_
 ·rintro _ z2 a6 _ _ ⟨k,b,rfl,rfl,c⟩ a q l m s;try dsimp only at a q l m
  refine Aa (dT f l) ?_;obtain ⟨a7,t,a⟩:=bS a;refine Ce i t (eI b c.sub) ?_;obtain ⟨a8,u,a⟩:=bS a;refine Ce j u (eI b c.sub)<|AK a rfl (fun _ a=> ?_) (fun _ a=> ?_)
  ·obtain rfl:=iS a;obtain rfl:=s _ rfl;try dsimp only at hd
   obtain rfl:=iS hd;exact Ag (Ai (AB ⟨k,false,b,rfl,rfl,c⟩))
  obtain rfl:=iS a;exact Ad ((wN z2.1),z2.2.1,()) _ rfl rfl ⟨k,b,m,rfl,c⟩
 ·rintro _ z2 a9 _ ⟨w,x,rfl,rfl,z⟩ a0 a1;subst a1;refine AT (dF f a0)<|AJ (AL (z2.1,z2.2.1,()) rfl ⟨_,rfl,_,w,x,rfl,rfl,z⟩)
 rintro z1 aa ⟨_,rfl,_,a2,a3,_,rfl,a4⟩;try dsimp only at hd
 obtain rfl:=iS hd;exact AB ⟨a2,true,a3,rfl,rfl,a4⟩
noncomputable def Bd (a_0:List Bool) (b_1:List Bool):Option (Bool×List Bool):=(forS (σ:=(Bool×List Bool)) 0 (b_1.length:Int) (false,a_0) fun i_z2 z2=>((idx b_1 i_z2).bind fun e26=>cond e26 ((idx z2.2 i_z2).bind fun e29=>some (!e29)) (some false)).bind fun z3=>(cond z3 ((DL z2.2 i_z2 true).bind fun m50=>some (true,m50)) (some (z2.1,z2.2))).bind fun z8=>some (z8.1,z8.2)).bind fun z1=>some (z1.1,z1.2)
theorem CJ {a_0:Slc}{f:List Bool}{b_1:Slc}{c:List Bool}(s0:St φ (cR 4 bY a_0 f::cR 4 bY b_1 c::F) h) {r:(Bool×List Bool)}(hd:Bd f c=some r):
 CallsH bW 76 [(sv a_0),(sv b_1)] h (Ar fun v h'=>∃ψ:AD,∃y:Bool,∃l:List Bool,Sub φ ψ∧v=((.one aB):Sh).val y∧(y,l)=r∧St ψ (cR 4 bY b_1 c::cR 4 bY a_0 l::F) h'):=by
 refine AO mixed Tryz.func76 ?_;rw [Fk];unfold ER;unfold Bd at hd;have m:b_1.2.1=cJ c:=(s0.at1).rowLen;obtain ⟨an,w,hd⟩:=bS hd;refine B9 w (fun x (y:Int×Bool×Unit) w_ g=>∃ψ:AD,∃n:List Bool,Sub φ ψ∧y.1=x∧(y.2.1,n)=g∧St ψ (cR 4 bY a_0 n::cR 4 bY b_1 c::F) w_) ((0:Int),false,()) rfl ⟨φ,f,(bZ _),rfl,rfl,s0.at1.at1⟩ ?_ ?_ ?_
 ·rintro _ z2 ao _ _ ⟨i,o,z,rfl,rfl,e⟩ b a0 p q;try dsimp only at b a0 p q
  refine Aa (dT m p) ?_;obtain ⟨a1,a,b⟩:=bS b;refine Aj (fun (y:Bool×Unit) w_ g=>∃ψ:AD,Sub i ψ∧y.1=g∧St ψ (cR 4 bY a_0 o::cR 4 bY b_1 c::F) w_) (g:=a1) ?_ ?_
  ·obtain ⟨ap,a2,a⟩:=bS a;refine EK e.at1 a2<|AK a rfl (fun _ a=> ?_) (fun _ a=> ?_)
   ·obtain ⟨a3,a4,a⟩:=bS a;refine EK e a4 ?_;obtain rfl:=iS a;exact AQ ((!a3),()) rfl ⟨i,(bZ _),rfl,e.at1.at1⟩
   obtain rfl:=iS a;exact AQ (false,()) rfl ⟨i,(bZ _),rfl,e.at1.at1⟩
  rintro z3 aq ⟨j,a5,rfl,k⟩;try dsimp only at b
  obtain ⟨a6,d,b⟩:=bS b;refine Aj (fun (y:Bool×Unit) w_ g=>∃ψ:AD,∃s:List Bool,Sub j ψ∧(y.1,s)=g∧St ψ (cR 4 bY a_0 s::cR 4 bY b_1 c::F) w_) (g:=a6) ?_ ?_
  ·refine AK d rfl (fun _ d=> ?_) (fun _ d=> ?_)
   ·obtain ⟨a7,t,d⟩:=bS d;obtain ⟨ar,u,a8⟩:=k.there t;refine AF _ u (AY a8 (FO k t rfl u ?_));intro au a9;obtain rfl:=iS d;exact AQ (true,()) rfl ⟨j,a7,(bZ _),rfl,a9.at1.at1⟩
   obtain rfl:=iS d;exact AQ (z2.2.1,()) rfl ⟨j,o,(bZ _),rfl,k.at1.at1⟩
  rintro z8 av ⟨aa,ab,ac,rfl,ad⟩;try dsimp only at b
  obtain rfl:=iS b;exact Ad ((wN z2.1),z8.1,()) _ rfl rfl ⟨aa,ab,((z.trans a5).trans ac),q,rfl,ad.at1.at1⟩
 ·rintro _ z2 aw ⟨ae,af,ag,rfl,rfl,ah⟩ ai;refine AT (dF m ai)<|AJ (AL (z2.1,z2.2.1,()) rfl ⟨_,ae,af,ag,rfl,rfl,ah.at1.at1⟩)
 rintro z1 ax ⟨_,aj,ak,al,_,rfl,am⟩;try dsimp only at hd
 obtain rfl:=iS hd;exact AB ⟨aj,z1.2.1,ak,al,rfl,rfl,am.at1⟩
noncomputable def CQ (p_0:BA):Option (List (List Bool)):=(loop (σ:=(Int×List (List Bool))) (β:=List (List Bool)) (0,([]:List (List Bool))) fun z3=>cond (decide (z3.1≤(p_0.2.1.length:Int))) ((Dw (p_0.1.length:Int) false).bind fun t6=>(app z3.2 ([t6]:List (List Bool))).bind fun t8=>some (dQ ((bT .i64 (z3.1+1)),t8))) (some (eF z3.2))).bind fun z2=>some z2
noncomputable def Ca (b_0:List Bool):Option (List Int):=(forS (σ:=List Int) 0 (b_0.length:Int) ([]:List Int) fun i_z2 z2=>(idx b_0 i_z2).bind fun e23=>(cond e23 ((app z2 ([i_z2]:List Int)).bind fun t7=>some t7) (some z2)).bind fun z5=>some z5).bind fun z1=>some z1
theorem Iv {b_0:Slc}{d:List Bool}(i:Ro.SliceIs bY φ b_0 d) (s0:St φ (F) h) {r:(List Int)}(hd:Ca d=some r):
 CallsH bW 30 [(sv b_0)] h (Ar fun v h'=>∃ψ:AD,∃y:Slc,∃j:List Int,Sub φ ψ∧v=((.one aS):Sh).val y∧j=r∧Ro.SliceIs (cC .i64) ψ y j∧St ψ (F) h'):=by
 refine AO mixed Tryz.func30 ?_;rw [Is];unfold F7;unfold Ca at hd;have k:b_0.2.1=cJ d:=i.length;obtain ⟨ak,s,hd⟩:=bS hd;refine B9 s (fun u (y:Int×Slc×Unit) w_ g=>∃ψ:AD,∃l:List Int,Sub φ ψ∧y.1=u∧l=g∧St ψ (cR 3 (cC .i64) y.2.1 l::F) w_) ((0:Int),((none,0,0):Slc),()) rfl ⟨φ,[],(bZ _),rfl,rfl,(s0.nil 3 (cC .i64))⟩ ?_ ?_ ?_
 ·rintro _ z2 al _ _ ⟨e,w,m,rfl,rfl,f⟩ b x n o;try dsimp only at b x n o
  refine Aa (dT k n) ?_;obtain ⟨am,z,b⟩:=bS b;refine Ce i z (eI m f.sub) ?_;obtain ⟨a0,c,b⟩:=bS b;refine Aj (fun (y:Slc×Unit) w_ g=>∃ψ:AD,∃p:List Int,Sub e ψ∧p=g∧St ψ (cR 3 (cC .i64) y.1 p::F) w_) (g:=a0) ?_ ?_
  ·refine AK c rfl (fun _ c=> ?_) (fun _ c=> ?_)
   ·refine AV (vs:=[.int .i64 z2.1]) f fun r6 an q=> ?_;obtain ⟨a1,a2,c⟩:=bS c;refine Am (r:=(cC .i64)) (ms:=([z2.1]:List Int)) FG q.tail rfl (fR q) (.cons (a:=[_]) rfl .nil) rfl a2 ?_;intro t7 ao a3;obtain rfl:=iS c;exact AQ (t7,()) rfl ⟨e,a1,(bZ _),rfl,a3⟩
   obtain rfl:=iS c;exact AQ (z2.2.1,()) rfl ⟨e,w,(bZ _),rfl,f⟩
  rintro z5 ap ⟨a4,a5,a6,rfl,a7⟩;try dsimp only at b
  obtain rfl:=iS b;exact Ad ((wN z2.1),z5.1,()) _ rfl rfl ⟨a4,a5,(m.trans a6),o,rfl,a7⟩
 ·rintro _ z2 aq ⟨a8,a9,aa,rfl,rfl,ab⟩ ac;refine AT (dF k ac)<|AJ (AL (z2.1,z2.2.1,()) rfl ⟨_,a8,a9,aa,rfl,rfl,ab⟩)
 rintro z1 ar ⟨_,au,ad,ae,_,rfl,af⟩;try dsimp only at hd
 obtain ⟨ag,ah,ai,aj⟩:=cH (t:=z1.2.1) af;obtain rfl:=iS hd;exact AB ⟨ag,z1.2.1,ad,(ae.trans ah),rfl,rfl,ai,aj⟩
noncomputable def Dp:Option (Int×Int×List Int×List (List Int)×List Int×List Int×List Int):=some (2,2,([(0:Int),0,1,1,2]:List Int),([([(4:Int),0,5]:List Int),([(5:Int)]:List Int),([(1:Int),5]:List Int),([(2:Int)]:List Int),([(4:Int)]:List Int)]:List (List Int)),([]:List Int),([]:List Int),([]:List Int))
theorem IT (s0:St φ (F) h) {r:(Int×Int×List Int×List (List Int)×List Int×List Int×List Int)}(hd:Dp=some r):
 CallsH bW 54 [] h (Ar fun v h'=>∃ψ:AD,∃y:Int×Int×Slc×Slc×Slc×Slc×Slc×Unit,∃i:List Int,∃j:List (List Int),∃k:List Int,∃m:List Int,∃o:List Int,Sub φ ψ∧v=((.one (.agg [(.int .u8),(.int .u8),.slice,.slice,.slice,.slice,.slice])):Sh).val y∧(y.1,y.2.1,i,j,k,m,o)=r∧Ro.SliceIs (cC .u8) ψ y.2.2.1 i∧Ro.SliceIs (dS (cC .u8)) ψ y.2.2.2.1 j∧Ro.SliceIs (cC .u8) ψ y.2.2.2.2.1 k∧Ro.SliceIs (cC .u8) ψ y.2.2.2.2.2.1 m∧Ro.SliceIs (cC .u8) ψ y.2.2.2.2.2.2.1 o∧St ψ (F) h'):=by
 refine AO mixed Tryz.func54 ?_;rw [IN];unfold Fi;unfold Dp at hd;refine AV (vs:=[.int .u8 (0:Int),.int .u8 (0:Int),.slice none 0 0,.slice none 0 0,.slice none 0 0,.slice none 0 0,.slice none 0 0]) s0 fun r1 ay s=>AV (vs:=[.int .u8 (0:Int),.int .u8 (0:Int),.int .u8 (1:Int),.int .u8 (1:Int),.int .u8 (2:Int)]) s fun r2 az u=>AV (vs:=[.int .u8 (4:Int),.int .u8 (0:Int),.int .u8 (5:Int)]) u fun r3 b0 w=>AV (vs:=[.int .u8 (5:Int)]) w fun r4 b1 z=>AV (vs:=[.int .u8 (1:Int),.int .u8 (5:Int)]) z fun r5 b2 a0=>AV (vs:=[.int .u8 (2:Int)]) a0 fun r6 b3 a1=>AV (vs:=[.int .u8 (4:Int)]) a1 fun r7 b4 a2=>AV (vs:=[.slice (some ⟨r3,0,none⟩) 3 3,.slice (some ⟨r4,0,none⟩) 1 1,.slice (some ⟨r5,0,none⟩) 2 2,.slice (some ⟨r6,0,none⟩) 1 1,.slice (some ⟨r7,0,none⟩) 1 1]) a2 fun r8 b5 a3=>AR a3.at7 rfl rfl fun b6 a4=>AR a4 rfl rfl fun b7 a5=>AR a5 rfl rfl fun b8 a6=>AR a6 rfl rfl fun b9 a7=>AR a7 rfl rfl fun ba a8=>AR a8 rfl rfl fun bb a9=>AR a9 rfl rfl fun bc b=>AA (x:=(2:Int)) b rfl<|AA (x:=(2:Int)) b rfl<|AA (x:=((some ⟨r2,0,none⟩,5,5):Slc)) b rfl<|AA (x:=((some ⟨r8,0,none⟩,5,5):Slc)) b rfl<|AA (x:=((none,0,0):Slc)) b rfl<|AA (x:=((none,0,0):Slc)) b rfl<|AA (x:=((none,0,0):Slc)) b rfl ?_;have aa:=eP (r:=(cC .u8)) (l:=([(0:Int),(0:Int),(1:Int),(1:Int),(2:Int)]:List Int)) (n:=5) b.at7 (.cons (a:=[_]) rfl (.cons (a:=[_]) rfl (.cons (a:=[_]) rfl (.cons (a:=[_]) rfl (.cons (a:=[_]) rfl .nil))))) rfl (by decide);obtain ⟨bd,ab,ac,ad⟩:=cH (t:=((some ⟨r2,0,none⟩,5,5):Slc)) aa;have ae:=eP (r:=(cC .u8)) (l:=([(4:Int),(0:Int),(5:Int)]:List Int)) (n:=3) ad.at6 (.cons (a:=[_]) rfl (.cons (a:=[_]) rfl (.cons (a:=[_]) rfl .nil))) rfl (by decide);obtain ⟨be,p,af,ag⟩:=cH (t:=((some ⟨r3,0,none⟩,3,3):Slc)) ae;have ah:=eP (r:=(cC .u8)) (l:=([(5:Int)]:List Int)) (n:=1) ag.at5 (.cons (a:=[_]) rfl .nil) rfl (by decide);obtain ⟨bf,g,ai,aj⟩:=cH (t:=((some ⟨r4,0,none⟩,1,1):Slc)) ah;have ak:=eP (r:=(cC .u8)) (l:=([(1:Int),(5:Int)]:List Int)) (n:=2) aj.at4 (.cons (a:=[_]) rfl (.cons (a:=[_]) rfl .nil)) rfl (by decide);obtain ⟨bg,e,al,am⟩:=cH (t:=((some ⟨r5,0,none⟩,2,2):Slc)) ak;have an:=eP (r:=(cC .u8)) (l:=([(2:Int)]:List Int)) (n:=1) am.at3 (.cons (a:=[_]) rfl .nil) rfl (by decide);obtain ⟨bh,d,ao,ap⟩:=cH (t:=((some ⟨r6,0,none⟩,1,1):Slc)) an;have aq:=eP (r:=(cC .u8)) (l:=([(4:Int)]:List Int)) (n:=1) ap.at2 (.cons (a:=[_]) rfl .nil) rfl (by decide);obtain ⟨bi,c,ar,au⟩:=cH (t:=((some ⟨r7,0,none⟩,1,1):Slc)) aq;have av:=eP (r:=(dS (cC .u8))) (l:=([([(4:Int),(0:Int),(5:Int)]:List Int),([(5:Int)]:List Int),([(1:Int),(5:Int)]:List Int),([(2:Int)]:List Int),([(4:Int)]:List Int)]:List (List Int))) (n:=5) au.at1 (.cons (a:=[_]) ⟨((some ⟨r3,0,none⟩,3,3):Slc),rfl,(af.mono (((g.trans e).trans d).trans c))⟩ (.cons (a:=[_]) ⟨((some ⟨r4,0,none⟩,1,1):Slc),rfl,(ai.mono ((e.trans d).trans c))⟩ (.cons (a:=[_]) ⟨((some ⟨r5,0,none⟩,2,2):Slc),rfl,(al.mono (d.trans c))⟩ (.cons (a:=[_]) ⟨((some ⟨r6,0,none⟩,1,1):Slc),rfl,(ao.mono c)⟩ (.cons (a:=[_]) ⟨((some ⟨r7,0,none⟩,1,1):Slc),rfl,ar⟩ .nil))))) rfl (by decide);obtain ⟨f,q,aw,ax⟩:=cH (t:=((some ⟨r8,0,none⟩,5,5):Slc)) av;obtain rfl:=iS hd;exact AB ⟨f,((2:Int),(2:Int),((some ⟨r2,0,none⟩,5,5):Slc),((some ⟨r8,0,none⟩,5,5):Slc),((none,0,0):Slc),((none,0,0):Slc),((none,0,0):Slc),()),([(0:Int),(0:Int),(1:Int),(1:Int),(2:Int)]:List Int),([([(4:Int),(0:Int),(5:Int)]:List Int),([(5:Int)]:List Int),([(1:Int),(5:Int)]:List Int),([(2:Int)]:List Int),([(4:Int)]:List Int)]:List (List Int)),[],[],[],((((((ab.trans p).trans g).trans e).trans d).trans c).trans q),rfl,rfl,(ac.mono (((((p.trans g).trans e).trans d).trans c).trans q)),aw,(eJ (cC .u8) f),(eJ (cC .u8) f),(eJ (cC .u8) f),ax.tail⟩
noncomputable def B6 (small_0:Le):Option (List ByteArray×List ByteArray×List Ay×List Int×List Int×List ByteArray×Option Da×(Option LkD)×Bool):=(Bf (small_0.1,small_0.2.1,small_0.2.2.1,small_0.2.2.2.1,small_0.2.2.2.2.1,small_0.2.2.2.2.2.1,small_0.2.2.2.2.2.2)).bind fun t10=>(CP (t10.1,t10.2.1,t10.2.2.1,t10.2.2.2.1,t10.2.2.2.2.1,t10.2.2.2.2.2)).bind fun t18=>cond (t18.2 !=0) (some (t10.1,t10.2.1,t10.2.2.1,t10.2.2.2.1,t10.2.2.2.2.1,t10.2.2.2.2.2,none,none,false)) ((NB (t10.1,t10.2.1,t10.2.2.1,t10.2.2.2.1,t10.2.2.2.2.1,t10.2.2.2.2.2) 300 9000).bind fun t37=>(cond (dL t37.1) (some true) (t37.1.bind fun e100=>(BW e100).bind fun t39=>some (t39==0))).bind fun z38=>cond z38 (some (t10.1,t10.2.1,t10.2.2.1,t10.2.2.2.1,t10.2.2.2.2.1,t10.2.2.2.2.2,none,none,false)) (t37.1.bind fun e134=>(Ry (t10.1,t10.2.1,t10.2.2.1,t10.2.2.2.1,t10.2.2.2.2.1,t10.2.2.2.2.2) e134).bind fun t58=>some (t10.1,t10.2.1,t10.2.2.1,t10.2.2.2.1,t10.2.2.2.2.1,t10.2.2.2.2.2,(some e134),t58,(!(dL t58)))))
theorem E8 {small_0:Int×Int×Slc×Slc×Slc×Slc×Slc×Unit}{a9:List Int}{aa:List (List Int)}{ab:List Int}{ac:List Int}{ad:List Int}(gk:MN φ) (ap:Ro.SliceIs (cC .u8) φ small_0.2.2.1 a9) (aq:Ro.SliceIs (dS (cC .u8)) φ small_0.2.2.2.1 aa) (ar:Ro.SliceIs (cC .u8) φ small_0.2.2.2.2.1 ab) (au:Ro.SliceIs (cC .u8) φ small_0.2.2.2.2.2.1 ac) (av:Ro.SliceIs (cC .u8) φ small_0.2.2.2.2.2.2.1 ad) (s0:St φ (F) h) {r:(List ByteArray×List ByteArray×List Ay×List Int×List Int×List ByteArray×Option Da×(Option LkD)×Bool)}(hd:B6 (small_0.1,small_0.2.1,a9,aa,ab,ac,ad)=some r):
 CallsH bW 19 [(.agg #[(.int .u8 small_0.1),(.int .u8 small_0.2.1),(sv small_0.2.2.1),(sv small_0.2.2.2.1),(sv small_0.2.2.2.2.1),(sv small_0.2.2.2.2.2.1),(sv small_0.2.2.2.2.2.2.1)])] h (Ar fun v h'=>∃ψ:AD,∃y:(Pl6)×(Option Addr)×(Option Addr)×Bool×Unit,∃ae:List ByteArray,∃af:List ByteArray,∃ag:List Ay,∃ah:List Int,∃ai:List Int,∃aj:List ByteArray,∃ak:Option Da,∃al:(Option LkD),Sub φ ψ∧v=((.tuple [(.agg [.slice,.slice,.slice,.slice,.slice,.slice]),aP,aP,aB]):Sh).val y∧(ae,af,ag,ah,ai,aj,ak,al,y.2.2.2.1)=r∧Ro.SliceIs dD ψ y.1.1 ae∧Ro.SliceIs dD ψ y.1.2.1 af∧Ro.SliceIs CR ψ y.1.2.2.1 ag∧Ro.SliceIs (cC .i64) ψ y.1.2.2.2.1 ah∧Ro.SliceIs (cC .i64) ψ y.1.2.2.2.2.1 ai∧Ro.SliceIs dD ψ y.1.2.2.2.2.2.1 aj∧Np GR ψ y.2.1 ak∧St ψ (⟨Et,[.pointer y.2.2.1],al⟩::F) h'):=by
 refine AO mixed Tryz.func19 ?_;rw [Ir];unfold F6;unfold B6 at hd;refine AV (vs:=[.int .u8 small_0.1,.int .u8 small_0.2.1,sv small_0.2.2.1,sv small_0.2.2.2.1,sv small_0.2.2.2.2.1,sv small_0.2.2.2.2.2.1,sv small_0.2.2.2.2.2.2.1]) s0 fun r1 c4 aw=>AV (vs:=[.slice none 0 0,.slice none 0 0,.slice none 0 0,.slice none 0 0,.slice none 0 0,.slice none 0 0]) aw fun r2 c5 k=>AA (x:=small_0.1) k.at1 rfl<|AA (x:=small_0.2.1) k.at1 rfl<|AA (x:=small_0.2.2.1) k.at1 rfl<|AA (x:=small_0.2.2.2.1) k.at1 rfl<|AA (x:=small_0.2.2.2.2.1) k.at1 rfl<|AA (x:=small_0.2.2.2.2.2.1) k.at1 rfl<|AA (x:=small_0.2.2.2.2.2.2.1) k.at1 rfl ?_;obtain ⟨c6,ax,hd⟩:=bS hd;refine AI (GE (s_0:=(small_0.1,small_0.2.1,small_0.2.2.1,small_0.2.2.2.1,small_0.2.2.2.2.1,small_0.2.2.2.2.2.1,small_0.2.2.2.2.2.2.1,())) ap aq ar au av k ax) ?_;rintro _ c7 ⟨c8,t10,a2,a3,a4,a5,a6,a7,a1,rfl,rfl,s,t,u,w,z,a0,ay⟩;refine ⟨t10,rfl,?_⟩;try dsimp only at hd
 refine AV (vs:=[.slice none 0 0,.slice none 0 0,.slice none 0 0,.slice none 0 0,.slice none 0 0,.slice none 0 0]) ay fun r11 c9 az=>AR az rfl rfl fun ca b0=>AR b0 rfl rfl fun cb b1=>AR b1 rfl rfl fun cc b2=>AR b2 rfl rfl fun cd b3=>AR b3 rfl rfl fun ce b4=>AR b4 rfl rfl fun cf n=>AA (x:=t10.1) n rfl<|AA (x:=t10.2.1) n rfl<|AA (x:=t10.2.2.1) n rfl<|AA (x:=t10.2.2.2.1) n rfl<|AA (x:=t10.2.2.2.2.1) n rfl<|AA (x:=t10.2.2.2.2.2.1) n rfl ?_;obtain ⟨cg,b5,hd⟩:=bS hd;refine AI (IS (p_0:=(t10.1,t10.2.1,t10.2.2.1,t10.2.2.2.1,t10.2.2.2.2.1,t10.2.2.2.2.2.1,())) s t u w z a0 n b5) ?_;rintro _ ch ⟨b6,t18,c,rfl,rfl,f⟩;refine ⟨t18,rfl,?_⟩;try dsimp only at hd
 refine AK hd rfl (fun _ hd=> ?_) (fun _ hd=> ?_)
 ·refine AA (x:=t10.1) f rfl<|AA (x:=t10.2.1) f rfl<|AA (x:=t10.2.2.1) f rfl<|AA (x:=t10.2.2.2.1) f rfl<|AA (x:=t10.2.2.2.2.1) f rfl<|AA (x:=t10.2.2.2.2.2.1) f rfl<|AR f.at1 rfl rfl fun ci b7=>AR b7 rfl rfl fun cj b8=>AR b8 rfl rfl fun ck b9=>AR b9 rfl rfl fun cl ba=>AR ba rfl rfl fun cm bb=>AR bb rfl rfl fun cn o=>AA (x:=t10.1) o rfl<|AA (x:=t10.2.1) o rfl<|AA (x:=t10.2.2.1) o rfl<|AA (x:=t10.2.2.2.1) o rfl<|AA (x:=t10.2.2.2.2.1) o rfl<|AA (x:=t10.2.2.2.2.2.1) o rfl ?_;obtain rfl:=iS hd;exact AB ⟨b6,((t10.1,t10.2.1,t10.2.2.1,t10.2.2.2.1,t10.2.2.2.2.1,t10.2.2.2.2.2.1,()),none,none,false,()),a2,a3,a4,a5,a6,a7,none,none,(a1.trans c),rfl,rfl,(s.mono c),(t.mono c),(u.mono c),(w.mono c),(z.mono c),(a0.mono c),(Np.none _ _),((((R0 o).at1.tail).at1.tail).at1.tail)⟩
 refine AA (x:=t10.1) f rfl<|AA (x:=t10.2.1) f rfl<|AA (x:=t10.2.2.1) f rfl<|AA (x:=t10.2.2.2.1) f rfl<|AA (x:=t10.2.2.2.2.1) f rfl<|AA (x:=t10.2.2.2.2.2.1) f rfl ?_;obtain ⟨co,bc,hd⟩:=bS hd;refine AI (S5 (p_0:=(t10.1,t10.2.1,t10.2.2.1,t10.2.2.2.1,t10.2.2.2.2.1,t10.2.2.2.2.2.1,())) (gk.a.mono (a1.trans c)) (s.mono c) (t.mono c) (u.mono c) (w.mono c) (z.mono c) (a0.mono c) f bc) ?_;rintro _ cp ⟨am,t37,cq,e,rfl,rfl,a8,an⟩;refine ⟨t37,rfl,?_⟩;try dsimp only at hd
 have bd:=a8.nil;obtain ⟨be,j,hd⟩:=bS hd;refine Aj (fun (y:Bool×Unit) w_ g=>∃ψ:AD,Sub am ψ∧y.1=g∧St ψ (cW 32 r11 [sv t10.1,sv t10.2.1,sv t10.2.2.1,sv t10.2.2.2.1,sv t10.2.2.2.2.1,sv t10.2.2.2.2.2.1]::Wq5 r2::Wq0 r1 small_0::F) w_) (g:=be) ?_ ?_
 ·refine AK j (by rw [bd] <;>rfl) (fun _ j=> ?_) (fun _ j=> ?_)
  ·have bf:=an.at2;obtain rfl:=iS j;exact AQ (true,()) rfl ⟨am,(bZ _),rfl,bf.at2.at2⟩
  obtain ⟨cr,bg,j⟩:=bS j;obtain ⟨cs,bh,j⟩:=bS j;refine AI (CY ((a8).get bg) an bh) ?_;rintro _ ct ⟨bi,t39,bj,rfl,rfl,bk⟩;refine ⟨t39,rfl,?_⟩;obtain rfl:=iS j;exact AQ ((t39==(0:Int)),()) rfl ⟨bi,bj,rfl,bk.at2.at2.at2⟩
 rintro z38 cu ⟨bl,d,rfl,i⟩;try dsimp only at hd
 refine AK hd rfl (fun _ hd=> ?_) (fun _ hd=> ?_)
 ·refine AA (x:=t10.1) i rfl<|AA (x:=t10.2.1) i rfl<|AA (x:=t10.2.2.1) i rfl<|AA (x:=t10.2.2.2.1) i rfl<|AA (x:=t10.2.2.2.2.1) i rfl<|AA (x:=t10.2.2.2.2.2.1) i rfl<|AR i.at1 rfl rfl fun cv bm=>AR bm rfl rfl fun cw bn=>AR bn rfl rfl fun cx bo=>AR bo rfl rfl fun cy bp=>AR bp rfl rfl fun cz bq=>AR bq rfl rfl fun d0 p=>AA (x:=t10.1) p rfl<|AA (x:=t10.2.1) p rfl<|AA (x:=t10.2.2.1) p rfl<|AA (x:=t10.2.2.2.1) p rfl<|AA (x:=t10.2.2.2.2.1) p rfl<|AA (x:=t10.2.2.2.2.2.1) p rfl ?_;obtain rfl:=iS hd;exact AB ⟨bl,((t10.1,t10.2.1,t10.2.2.1,t10.2.2.2.1,t10.2.2.2.2.1,t10.2.2.2.2.2.1,()),none,none,false,()),a2,a3,a4,a5,a6,a7,none,none,(((a1.trans c).trans e).trans d),rfl,rfl,(s.mono ((c.trans e).trans d)),(t.mono ((c.trans e).trans d)),(u.mono ((c.trans e).trans d)),(w.mono ((c.trans e).trans d)),(z.mono ((c.trans e).trans d)),(a0.mono ((c.trans e).trans d)),(Np.none _ _),((((R0 p).at1.tail).at1.tail).at1.tail)⟩
 refine AA (x:=t10.1) i rfl<|AA (x:=t10.2.1) i rfl<|AA (x:=t10.2.2.1) i rfl<|AA (x:=t10.2.2.2.1) i rfl<|AA (x:=t10.2.2.2.2.1) i rfl<|AA (x:=t10.2.2.2.2.2.1) i rfl ?_;obtain ⟨br,bs,hd⟩:=bS hd;have ao:=((a8.mono d)).get bs;obtain ⟨d1,bt,hd⟩:=bS hd;refine AI (Ur (p_0:=(t10.1,t10.2.1,t10.2.2.1,t10.2.2.2.1,t10.2.2.2.2.1,t10.2.2.2.2.2.1,())) (gk.b.mono (((a1.trans c).trans e).trans d)) (s.mono ((c.trans e).trans d)) (t.mono ((c.trans e).trans d)) (u.mono ((c.trans e).trans d)) (w.mono ((c.trans e).trans d)) (z.mono ((c.trans e).trans d)) (a0.mono ((c.trans e).trans d)) ao i bt) ?_;rintro _ d2 ⟨bu,t58,bv,l,rfl,rfl,m⟩;refine ⟨t58,rfl,?_⟩;have bw:=XJ m;refine AA (x:=t10.1) m.at1 rfl<|AA (x:=t10.2.1) m.at1 rfl<|AA (x:=t10.2.2.1) m.at1 rfl<|AA (x:=t10.2.2.2.1) m.at1 rfl<|AA (x:=t10.2.2.2.2.1) m.at1 rfl<|AA (x:=t10.2.2.2.2.2.1) m.at1 rfl<|AR m.at2 rfl rfl fun d3 bx=>AR bx rfl rfl fun d4 bz=>AR bz rfl rfl fun d5 c0=>AR c0 rfl rfl fun d6 c1=>AR c1 rfl rfl fun d7 c2=>AR c2 rfl rfl fun d8 q=>AA (x:=t10.1) q rfl<|AA (x:=t10.2.1) q rfl<|AA (x:=t10.2.2.1) q rfl<|AA (x:=t10.2.2.2.1) q rfl<|AA (x:=t10.2.2.2.2.1) q rfl<|AA (x:=t10.2.2.2.2.2.1) q rfl ?_;obtain rfl:=iS hd;have c3:=q.tail.at1.tail.at1.tail;exact AB ⟨bu,((t10.1,t10.2.1,t10.2.2.1,t10.2.2.2.1,t10.2.2.2.2.1,t10.2.2.2.2.2.1,()),t37.1,t58,(!(dL t58)),()),a2,a3,a4,a5,a6,a7,(some br),bv,((((a1.trans c).trans e).trans d).trans l),rfl,(by rw [bw]),(s.mono (((c.trans e).trans d).trans l)),(t.mono (((c.trans e).trans d).trans l)),(u.mono (((c.trans e).trans d).trans l)),(w.mono (((c.trans e).trans d).trans l)),(z.mono (((c.trans e).trans d).trans l)),(a0.mono (((c.trans e).trans d).trans l)),(ao.mono l),c3⟩
end
end Go.Proofs.YteolcjbobmpdiaaGreatDoor
namespace Go.Proofs.YteolcjbobmpdiaaGreatDoor
open Go Go.Eng Dg
set_option linter.unusedVariables false
set_option maxRecDepth 100000
section
variable {p:dtP}
theorem NX (S:Sy p):BD p=some ((p.1.length+p.2.1.length+1:Nat):Int):=by
 have hT:=S.t1;have hV:=S.v1;unfold BD;congr 1;rw [w64 (n:=(p.1.length:Int)+(p.2.1.length:Int)) (by omega) (by omega),w64 (by omega) (by omega)];omega
def B7 (l:List Bool):Nat:=l.countP fun b=> !b
theorem NY {l:List Bool}{i:Nat}(h:l[i]? =some false):B7 (l.set i true)+1=B7 l:=GI h
theorem R6 {l:List Bool}{i j:Nat}(h:(l.set i true)[j]? =some true):j=i∨l[j]? =some true:=by
 rw [cZ]at h;split at h
 ·rename_i e;exact .inl e.symm
 ·exact .inr h
set_option maxHeartbeats 1000000 in
theorem U0 (S:Sy p):Ok (CO p) fun l=>l.length=p.1.length+p.2.1.length+1∧ ∀s:Nat,l[s]? =some true→Pro (nT p) p.2.2.1 (s:Int):=by
 have hT:=S.t1;have hV:=S.v1;have hF:=S.few;have hnT:nT p=(p.1.length:Int):=rfl;unfold CO;refine AS (x:=((p.1.length+p.2.1.length+1:Nat):Int)) (NX S) (AS (x:=cU (p.1.length+p.2.1.length+1) false) (by unfold Dw;rw [if_pos ⟨by omega,by omega⟩,cA]) ?_);refine B8 (fun k (l:List Bool)=>l.length=p.1.length+p.2.1.length+1∧ ∀s:Nat,l[s]? =some true→s<k) (by omega) ⟨by simp,fun s h=> ?_⟩ (fun k l hk hl=> ?_) fun l hl=> ?_
 ·rw [eR]at h;split at h<;>simp at h
 ·refine Ek (by omega) (by omega) (AG ⟨by simp [hl.1],fun s h=> ?_⟩);rw [cA]at h;rcases R6 h with h | h
  ·omega
  ·have:=hl.2 s h;omega
 ·obtain ⟨l1,l2⟩:=hl;refine C4 (fun (z:Bool×List Bool)=>z.2.length=p.1.length+p.2.1.length+1∧ ∀s:Nat,z.2[s]? =some true→Pro (nT p) p.2.2.1 (s:Int)) (fun z=>B7 z.2 *2+(if z.1 then 1 else 0)) (fun l=>l.length=p.1.length+p.2.1.length+1∧ ∀s:Nat,l[s]? =some true→Pro (nT p) p.2.2.1 (s:Int)) ⟨l1,fun s h=>.term (by omega) (by have:=l2 s h;omega)⟩ (fun z hz=> ?_) fun l hl=>AG hl;obtain ⟨c,m⟩:=z;obtain ⟨m1,m2⟩:=hz;dsimp only at m1 m2 ⊢;refine Ae (fun hc=> ?_) fun hc=>Bj ⟨m1,m2⟩;subst hc;refine B8 (fun k (z:Bool×List Bool)=>z.2.length=p.1.length+p.2.1.length+1∧(∀s:Nat,z.2[s]? =some true→Pro (nT p) p.2.2.1 (s:Int))∧B7 z.2≤B7 m∧(z.1=true→B7 z.2<B7 m)) (by omega) ⟨m1,m2,cK _,by simp⟩ (fun k z hk hz=> ?_) fun z hz=>CX ⟨⟨hz.1,hz.2.1⟩,?_⟩
  ·obtain ⟨g,w⟩:=z;obtain ⟨w1,w2,w3,w4⟩:=hz;dsimp only at w1 w2 w3 w4 ⊢;have hr:=bR hk;have hmem:=dC hk;obtain ⟨r,hre⟩:∃r,p.2.2.1[k] =r:=⟨_,rfl⟩;rw [hre]at hr hmem;have hL:=S.left r hmem;have hR:=S.right r hmem;have hS:=S.short r hmem;refine C4 (fun (z:Int×Bool)=>∃j:Nat,z.1=(j:Int)∧j≤r.2.1.length∧(z.2=true→ ∀s∈r.2.1.take j,Pro (nT p) p.2.2.1 s)) (fun z=>r.2.1.length - z.1.toNat) (fun b=>b=true→ ∀s∈r.2.1,Pro (nT p) p.2.2.1 s) ⟨0,rfl,eN _,by simp⟩ (fun z hz=> ?_) fun b hb=> ?_
   ·obtain ⟨j',b⟩:=z;obtain ⟨j,h1,h2,h3⟩:=hz;dsimp only at h1 h3 ⊢;subst h1;refine AW hr (Ae (fun hc=> ?_) fun hc=>Bj ?_)
    ·have hlt:j<r.2.1.length:=by have:=of_decide_eq_true hc;omega
     have hj:=bR hlt;have hs:=hR _ (dC hlt);refine AN (Q:=fun b'=>b'=true→ ∀s∈r.2.1.take (j+1),Pro (nT p) p.2.2.1 s) (Ae (fun hb=> ?_) fun hb=>AG (by simp)) fun b' hb'=> ?_
     ·have hw:(r.2.1[j]).toNat<w.length:=by omega
      refine AW hr (AW hj (DC hs.1 (bR hw) (AG fun ht s hs'=> ?_)));rcases (BH hj).1 hs' with h | rfl
      ·exact h3 hb s h
      ·have:=w2 _ (by rw [bR hw,ht])
       rwa [cL hs.1]at this
     ·refine CX ⟨⟨j+1,by rw [w64 (by omega) (by omega)];omega,hlt,hb'⟩,?_⟩;rw [w64 (by omega) (by omega)];omega
    ·have:j=r.2.1.length:=by have:=of_decide_eq_false hc;omega
     subst this;rw [dB (cK _)]at h3;exact h3
   ·have hw:r.1.toNat<w.length:=by omega
    have hwg:=bR hw;refine AN (Q:=fun c=>c=true→b=true∧w[r.1.toNat]? =some false) (Ae (fun h=>AW hr (DC (by omega) hwg (AG fun h'=>⟨h,by rw [hwg];simpa using h'⟩))) fun h=>AG (by simp)) fun c hc=>AN (Q:=fun (z:Bool×List Bool)=>z.2.length=p.1.length+p.2.1.length+1∧(∀s:Nat,z.2[s]? =some true→Pro (nT p) p.2.2.1 (s:Int))∧B7 z.2≤B7 m∧(z.1=true→B7 z.2<B7 m)) (Ae (fun h=> ?_) fun h=>AG ⟨w1,w2,w3,w4⟩) fun z hz=>AG hz;obtain ⟨c1,c2⟩:=hc h;have hfs:=NY c2;refine AW hr (Ek (by omega) (by omega) (AG ⟨by simp [w1],fun s hs=> ?_,by dsimp only;omega,fun _=>by dsimp only;omega⟩));rcases R6 hs with rfl | h
    ·rw [cL (by omega)];exact .rule hmem (hb c1)
    ·exact w2 s h
  ·obtain ⟨_,_,w3,w4⟩:=hz;obtain ⟨g,w⟩:=z;dsimp only at w3 w4 ⊢;cases g with
   |true=>have:=w4 rfl;simp;omega
   |false=>simp;omega
set_option maxHeartbeats 1000000 in
theorem V8 (S:Sy p):Ok (CZ p) fun l=>l.length=p.1.length+p.2.1.length+1:=by
 have hT:=S.t1;have hV:=S.v1;have hF:=S.few;have hnT:nT p=(p.1.length:Int):=rfl;unfold CZ;refine AS (x:=((p.1.length+p.2.1.length+1:Nat):Int)) (NX S) (AS (x:=cU (p.1.length+p.2.1.length+1) false) (by unfold Dw;rw [if_pos ⟨by omega,by omega⟩,cA]) (AS (x:=((p.1.length+p.2.1.length+1:Nat):Int)) (NX S) ?_));have e1:bT .i64 (((p.1.length+p.2.1.length+1:Nat):Int) - 1)=((p.1.length+p.2.1.length:Nat):Int):=by rw [w64 (by omega) (by omega)];omega
 rw [e1];refine Ek (by omega) (by simp;omega)<|C4 (fun (z:Bool×List Bool)=>z.2.length=p.1.length+p.2.1.length+1) (fun z=>B7 z.2 *2+(if z.1 then 1 else 0)) (fun l=>l.length=p.1.length+p.2.1.length+1) (by simp) (fun z hz=> ?_) fun l hl=>AG hl;obtain ⟨c,m⟩:=z;dsimp only at hz ⊢;refine Ae (fun hc=> ?_) fun hc=>Bj hz;subst hc;refine B8 (fun k (z:Bool×List Bool)=>z.2.length=p.1.length+p.2.1.length+1∧B7 z.2≤B7 m∧(z.1=true→B7 z.2<B7 m)) (by omega) ⟨hz,cK _,by simp⟩ (fun k z hk hz=> ?_) fun z hz=>CX ⟨hz.1,?_⟩
 ·obtain ⟨g,w⟩:=z;have hr:=bR hk;have hmem:=dC hk;obtain ⟨r,hre⟩:∃r,p.2.2.1[k] =r:=⟨_,rfl⟩;rw [hre]at hr hmem;have hL:=S.left r hmem;have hR:=S.right r hmem;have hS:=S.short r hmem;refine C4 (fun (z:Int×Bool×List Bool)=>∃j:Nat,z.1=(j:Int)∧j≤r.2.1.length∧z.2.2.length=p.1.length+p.2.1.length+1∧B7 z.2.2≤B7 m∧(z.2.1=true→B7 z.2.2<B7 m)) (fun z=>r.2.1.length - z.1.toNat) (fun (z:Bool×List Bool)=>z.2.length=p.1.length+p.2.1.length+1∧B7 z.2≤B7 m∧(z.1=true→B7 z.2<B7 m)) ⟨0,rfl,eN _,hz⟩ (fun z hz=> ?_) fun b hb=>AG hb;obtain ⟨j',b,w⟩:=z;obtain ⟨j,h1,h2,h3,h4,h5⟩:=hz;dsimp only at h1 h3 h4 h5 ⊢;subst h1;refine AW hr (Ae (fun hc=> ?_) fun hc=>Bj ⟨h3,h4,h5⟩);have hlt:j<r.2.1.length:=by have:=of_decide_eq_true hc;omega
  have hj:=bR hlt;have hs:=hR _ (dC hlt);have hw:r.1.toNat<w.length:=by omega
  have hw2:(r.2.1[j]).toNat<w.length:=by omega
  have hwg:=bR hw2;refine AN (Q:=fun c=>c=true→w[(r.2.1[j]).toNat]? =some false) (AW hr (DC (by omega) (bR hw) (Ae (fun h=>AW hr (AW hj (DC hs.1 hwg (AG fun h'=>by rw [hwg];simpa using h')))) fun h=>AG (by simp)))) fun c hc=> ?_;refine AN (Q:=fun (z:Bool×List Bool)=>z.2.length=p.1.length+p.2.1.length+1∧B7 z.2≤B7 m∧(z.1=true→B7 z.2<B7 m)) (Ae (fun h=> ?_) fun h=>AG ⟨h3,h4,h5⟩) fun z hz=> ?_
  ·have hfs:=NY (hc h);exact AW hr (AW hj (Ek hs.1 (by omega) (AG ⟨by simp [h3],by dsimp only;omega,fun _=>by dsimp only;omega⟩)))
  ·refine CX ⟨⟨j+1,by rw [w64 (by omega) (by omega)];omega,hlt,hz⟩,?_⟩;rw [w64 (by omega) (by omega)];omega
 ·obtain ⟨_,w3,w4⟩:=hz;obtain ⟨g,w⟩:=z;dsimp only at w3 w4 ⊢;cases g with
  |true=>have:=w4 rfl;simp;omega
  |false=>simp;omega
theorem U1 (S:Sy p):Ok (CP p) fun r=>r.2=0→ ∀v:Nat,v<p.2.1.length→Pro (nT p) p.2.2.1 ((p.1.length+v:Nat):Int):=by
 have hT:=S.t1;have hV:=S.v1;unfold CP;refine AN (U0 S) fun l hl=>AN (V8 S) fun l' hl'=> ?_;obtain ⟨l1,l2⟩:=hl;have l1:l.length=p.1.length+p.2.1.length+1:=l1;have hl':l'.length=p.1.length+p.2.1.length+1:=hl';have e1:bT .i64 (((p.1.length+p.2.1.length+1:Nat):Int) - 1)=((p.1.length+p.2.1.length:Nat):Int):=by rw [w64 (by omega) (by omega)];omega
 refine C4 (fun z=>∃k:Nat,z=((p.1.length+k:Nat):Int)∧k≤p.2.1.length∧ ∀v,v<k→l[p.1.length+v]? =some true) (fun z=>p.1.length+p.2.1.length - z.toNat)
  (fun b=>(∃z,b= .done (z,18))∨(b= .next ()∧ ∀v,v<p.2.1.length→l[p.1.length+v]? =some true)) ⟨0,rfl,eN _,fun v hv=>by omega⟩ (fun z hz=> ?_) fun b hb=> ?_
 ·obtain ⟨k,rfl,h1,h2⟩:=hz;refine AS (x:=((p.1.length+p.2.1.length+1:Nat):Int)) (NX S) ?_;rw [e1];refine Ae (fun hc=> ?_) fun hc=>Bj (.inr ⟨rfl,fun v hv=>h2 v (by have:=of_decide_eq_false hc;omega)⟩);have hlt:k<p.2.1.length:=by have:=of_decide_eq_true hc;omega
  have hg:=bR (l:=l) (i:=p.1.length+k) (by omega);refine AW hg (Ae (fun h=>Bj (.inl ⟨_,rfl⟩)) fun h=>CX ⟨⟨k+1,by rw [w64 (by omega) (by omega)];omega,hlt,fun v hv=> ?_⟩,?_⟩)
  ·rcases Nat.lt_succ_iff_lt_or_eq.1 hv with hv | rfl
   ·exact h2 v hv
   ·rw [hg]
    have:l[p.1.length+v] =true:=by simpa using h
    rw [this]
  ·rw [w64 (by omega) (by omega)];omega
 ·rcases hb with ⟨z,rfl⟩|⟨rfl,hb⟩
  ·exact AG fun h=>by simp at h
  ·refine C4 (fun z=>∃k:Nat,z=((p.1.length+k:Nat):Int)∧k≤p.2.1.length) (fun z=>p.1.length+p.2.1.length - z.toNat)
    (fun b=>(∃z,b= .done (z,17))∨b= .next ()) ⟨0,rfl,eN _⟩ (fun z hz=> ?_) fun b hb'=> ?_
   ·obtain ⟨k,rfl,h1⟩:=hz;refine AS (x:=((p.1.length+p.2.1.length+1:Nat):Int)) (NX S) ?_;rw [e1];refine Ae (fun hc=> ?_) fun hc=>Bj (.inr rfl);have hlt:k<p.2.1.length:=by have:=of_decide_eq_true hc;omega
    have hg:=bR (l:=l') (i:=p.1.length+k) (by omega);refine AW hg (Ae (fun h=>Bj (.inl ⟨_,rfl⟩)) fun h=>CX ⟨⟨k+1,by rw [w64 (by omega) (by omega)];omega,hlt⟩,?_⟩);rw [w64 (by omega) (by omega)];omega
   ·rcases hb' with ⟨z,rfl⟩|rfl
    ·exact AG fun h=>by simp at h
    ·exact AG fun _ v hv=>l2 _ (hb v hv)
end
structure MkI (p:dtP) (B:List dtK) (E:List (List Edge)) (d:LkD) (tt:Int):Prop where
 all:DU p B E d.fa
 dp:d.p=p
 dA:d.A=DS p B E tt
 lk:XN p B E d.L
theorem WU {nt nl:Nat}{p:dtP}(H:Pl nt nl p):Sy p:=by
 have hT:=H.terms.len;have hn:=H.nt5;have hv:=H.vars;have hr:=H.room;have hnT:nT p=(p.1.length:Int):=rfl;obtain ⟨st,s1,s2,s3⟩:=H.first;have each:∀r∈p.2.2.1,(nT p≤r.1∧r.1≤nT p+(p.2.1.length:Int))∧(∀s∈r.2.1,0≤s∧s<nT p+(p.2.1.length:Int))∧r.2.1.length≤1000:=fun r hm=>by
  obtain ⟨k,hk⟩:=cY hm;rcases eM k with rfl | h
  ·rw [s3]at hk;cases hk;refine ⟨⟨by dsimp only;omega,by dsimp only;omega⟩,fun s hs=> ?_,by simp⟩
   have:s=st:=by simpa using hs
   omega
  ·have:=H.rules k r h hk
   have hl:=this.left;refine ⟨⟨by omega,by omega⟩,fun s hs=> ?_,by have:=this.few;omega⟩
   have:=this.right s hs
   omega
 exact ⟨by omega,by omega,by omega,fun r hm=>(each r hm).1,fun r hm=>(each r hm).2.1,fun r hm=>(each r hm).2.2⟩
theorem U2 {nt nl:Nat}{p:dtP}(H:Pl nt nl p) (hp:∀v:Nat,v<p.2.1.length→Pro (nT p) p.2.2.1 ((p.1.length+v:Nat):Int)) {B:List dtK}{E:List (List Edge)}(hF:Fin p B E) (hB:B.length≤300) {fa:dtF}(hfa:Ue p fa):DU p B E fa:=by
 have hT:=H.terms.len;have hv:=H.vars;have hnT:nT p=(p.1.length:Int):=rfl;obtain ⟨st,s1,s2,s3⟩:=H.first;refine ⟨H.vp,WU H,hF,Xm H hp,hB,by omega,hfa,st,?_⟩;rw [s3];congr 2;omega
theorem V9 {s:Le}(G:SmG s) (F:SmF 12 5 s):Ok (B6 s) fun r=>r.2.2.2.2.2.2.2.2=false∨(r.2.2.2.2.2.2.2.2=true∧ ∃(p:dtP) (B:List dtK) (E:List (List Edge)) (d:LkD) (tt:Int) (nt nl:Nat),
 (r.1,r.2.1,r.2.2.1,r.2.2.2.1,r.2.2.2.2.1,r.2.2.2.2.2.1)=p∧r.2.2.2.2.2.2.1=some (DS p B E tt)∧r.2.2.2.2.2.2.2.1=some d∧Pl nt nl p∧MkI p B E d tt):=by
 unfold B6;refine AN (Vd G F.up) fun p ⟨nt,nl,hp⟩=> ?_;have S:=WU hp;refine AN (U1 S) fun e he=>Ae (fun _=>AG (.inl rfl)) fun hc=> ?_;have he0:e.2=0:=by simpa using hc
 have hpro:=he he0;refine AN (UV hp.vp hp.pos (st:=300) (it:=9000) (fun n m hl=>by
  have:held 300=300:=by decide
  omega)) fun r hr=> ?_
 rcases hr with ⟨n,h1,h2,rfl⟩|⟨rfl,_⟩
 ·have H:=W7 hp.vp hp.pos h1;have hB:(stM p n).1.length≤300:=by
   have:=h2.1
   have e:held 300=300:=by decide
   omega
  have hpos:1≤(stM p n).1.length:=BZ H.zero;refine AN (Q:=fun c=>c=false) (Ak rfl (AS rfl (AS (NI H) (AG ?_)))) fun c hc=> ?_
  ·simp only [beq_eq_false_iff_ne];omega
  subst hc;refine Ak rfl (AS rfl (AN (V7 (tt:=((tot (stM p n).1:Nat):Int)) (fun fa hfa=>U2 hp hpro H hB hfa) S) fun l hl=> ?_));obtain ⟨d,rfl,d1,d2,d3,d4⟩:=hl;exact AG (.inr ⟨rfl,p,_,_,d,_,nt,nl,rfl,rfl,rfl,hp,U2 hp hpro H hB d3,d1,d2,d4⟩)
 ·refine AN (Q:=fun c=>c=true) (Cu rfl (AG rfl)) fun c hc=> ?_;subst hc;exact Cu rfl (AG (.inl rfl))
def Fl (R:Rl) (l:List Item):List Int:=(l.filter fun x=>match R[x.1.toNat]? with
 |some r=>x.2==(r.2.1.length:Int)
 |none=>false).map (·.1)
section
variable {p:dtP}{B:List dtK}{E:List (List Edge)}{d:LkD}{tt:Int}
theorem OP (R:Rl) (l:List Item):(Fl R l).length≤l.length:=by
 unfold Fl;rw [cS];exact List.length_filter_le _ _
theorem RL {R:Rl}{l:List Item}{x:Item}{r:Ay}(h:R[x.1.toNat]? =some r):Fl R (l++ [x])=if x.2=(r.2.1.length:Int) then Fl R l++ [x.1] else Fl R l:=by
 unfold Fl;rw [eK,dG];by_cases e:x.2=(r.2.1.length:Int)
 ·rw [if_pos e];simp [h,e]
 ·rw [if_neg e];simp [h,e]
theorem S7 (M:MkI p B E d tt) {n:Nat}{b:dtK}(hb:B[n]? =some b):LU (some d) (n:Int)=some (Fl p.2.2.1 b.2.1):=by
 obtain ⟨p',A',fa,steps,L⟩:=d;obtain ⟨H,e1,e2,hL⟩:=M;dsimp only at H e1 e2 hL;subst e1;subst e2;obtain ⟨g1,g2,g3,g4,g5⟩:=H.fin.good H.vp hb;refine Ok.eq ?_;unfold LU Cw;rw [fP];refine AS (P2 H.vp H.fin hb)<|B8 (fun k (z:List Int)=>z=Fl p'.2.2.1 (b.2.1.take k)) (by omega) (by simp [Fl]) (fun k z hk hz=> ?_) fun z hz=>AG ?_
 ·subst hz;have hx:=bR hk;obtain ⟨x,hxe⟩:∃x,b.2.1[k] =x:=⟨_,rfl⟩;rw [hxe]at hx;obtain ⟨x0,x1,r,hr,hr2⟩:=g2.ok x (bX hx);have hd:(Fl p'.2.2.1 (b.2.1.take k)).length≤10100:=by
   have:=OP p'.2.2.1 (b.2.1.take k)
   rw [eQ]at this;omega
  refine AW hx (DC x0 hr ?_);have hs:b.2.1.take (k+1)=b.2.1.take k++ [x]:=by rw [eC,hx];rfl
  rw [hs,RL hr];refine AN (Q:=fun z=>z=if x.2=(r.2.1.length:Int) then Fl p'.2.2.1 (b.2.1.take k) ++ [x.1] else Fl p'.2.2.1 (b.2.1.take k)) (Ae (fun hc=> ?_) fun hc=>AG ?_) fun z hz=>AG hz
  ·rw [if_pos (eq_of_beq hc)];exact Bo (by simp;omega) (AG rfl)
  ·rw [if_neg (by simpa using hc)]
 ·subst hz;rw [dB (cK _)]
theorem U3 (M:MkI p B E d tt) {n:Nat}{b:dtK}(hb:B[n]? =some b) {k:Int}:k∈Fl p.2.2.1 b.2.1↔∃(k':Nat) (r:Ay),k=(k':Int)∧p.2.2.1[k']? =some r∧It p.2.2.1 (KB B) n k' r.2.1.length:=by
 have H:=M.all;obtain ⟨g1,g2,g3,g4,g5⟩:=H.fin.good H.vp hb;unfold Fl;rw [List.mem_map];constructor
 ·rintro ⟨x,hx,rfl⟩;obtain ⟨h1,h2⟩:=List.mem_filter.1 hx;obtain ⟨x0,x1,r,hr,hr2⟩:=g2.ok x h1;rw [hr]at h2;refine ⟨x.1.toNat,r,by omega,hr,?_⟩;have e:x=((x.1.toNat:Int),(r.2.1.length:Int)):=Prod.ext (by simp only;omega) (eq_of_beq h2);unfold It;rw [←e];exact (FJ H.vp H.fin hb x).1 h1
 ·rintro ⟨k',r,rfl,hr,hi⟩;refine ⟨((k':Int),(r.2.1.length:Int)),List.mem_filter.2 ⟨(FJ H.vp H.fin hb _).2 hi,?_⟩,rfl⟩;dsimp only;rw [cA,hr];simp
theorem WA (M:MkI p B E d tt) {s k:Nat}(hk:k<p.2.2.1.length):Ok (NP (some d) (s:Int) (k:Int)) fun t=>(∀j,j∈t↔Lk (nT p) p.2.2.1 (KB B) (TrB p B E) s k j)∧t.length≤64000:=by
 obtain ⟨p',A',fa,steps,L⟩:=d;obtain ⟨H,e1,e2,hL⟩:=M;dsimp only at H e1 e2 hL;subst e1;subst e2;unfold NP;rw [fP];dsimp only;cases hg:BG ((s:Int),(k:Int)) L with
 |none=>exact AG ⟨fun j=>⟨(fun h=>by cases h),fun h=>absurd h (hL.none_ s k j hg hk)⟩,by simp⟩
 |some x=>
  obtain ⟨a1,a2,s',k',e,_,_,a5⟩:=hL.some_ _ _ hg;have e1:s=s':=by have:=(Prod.mk.inj e).1;omega
  have e2:k=k':=by have:=(Prod.mk.inj e).2;omega
  subst e1 e2;dsimp only;rw [Hf a1];refine AG ⟨fun j=>by rw [EU a1,a5],?_⟩;have h1:=Ly x;have h2:=a1.len;have h3:=a1.hi;omega
end
end Go.Proofs.YteolcjbobmpdiaaGreatDoor
namespace Go.Proofs.YteolcjbobmpdiaaGreatDoor
open Go Go.Eng
set_option linter.unusedVariables false
set_option maxRecDepth 100000
noncomputable def Cx:Option Bool:=(Dp).bind fun t1=>(B6 (t1.1,t1.2.1,t1.2.2.1,t1.2.2.2.1,t1.2.2.2.2.1,t1.2.2.2.2.2.1,t1.2.2.2.2.2.2)).bind fun t2=>(cond (!t2.2.2.2.2.2.2.2.2) (some true) (some ((t2.2.2.1.length:Int) !=6))).bind fun z4=>cond z4 (some false) (t2.2.2.2.2.2.2.1.bind fun e81=>(BN e81 0 5).bind fun t6=>(cond (decide (t6>0)) ((LU t2.2.2.2.2.2.2.2.1 t6).bind fun t8=>(B5 t8 ([(5:Int)]:List Int)).bind fun t10=>cond t10 ((NP t2.2.2.2.2.2.2.2.1 t6 5).bind fun t11=>(B5 t11 ([(0:Int)]:List Int)).bind fun t13=>cond t13 ((Rz t2.2.2.2.2.2.2.2.1 t6 5).bind fun t14=>some ((t14.length:Int)==1)) (some false)) (some false)) (some false)).bind fun z7=>some z7)
theorem IU {φ:AD}{h:AH}{F:List Chk}(gk:MN φ) (s0:St φ (F) h) {r:Bool}(hd:Cx=some r):
 CallsH bW 13 [] h (Ar fun v h'=>∃ψ:AD,∃y:Bool,Sub φ ψ∧v=((.one aB):Sh).val y∧y=r∧St ψ (F) h'):=by
 refine AO mixed Tryz.func13 ?_;rw [IM];unfold Fh;unfold Cx at hd;obtain ⟨bp,a5,hd⟩:=bS hd;refine AI (IT s0 a5) ?_;rintro _ bq ⟨br,t1,bs,bt,bu,bv,bw,f,rfl,rfl,a6,a7,a8,a9,aa,ab⟩;refine ⟨t1,rfl,?_⟩;try dsimp only at hd
 obtain ⟨bx,ac,hd⟩:=bS hd;refine AI (E8 (small_0:=(t1.1,t1.2.1,t1.2.2.1,t1.2.2.2.1,t1.2.2.2.2.1,t1.2.2.2.2.2.1,t1.2.2.2.2.2.2.1,())) (gk.mono f) a6 a7 a8 a9 aa ab ac) ?_;rintro _ bz ⟨m,t2,c0,c1,c2,c3,c4,c5,c6,s,o,rfl,rfl,c7,c8,ad,c9,ca,cb,ae,af⟩;refine ⟨t2,rfl,?_⟩;try dsimp only at hd
 have ag:=ad.length;refine AV (vs:=[.slice none 0 0,.slice none 0 0,.slice none 0 0,.slice none 0 0,.slice none 0 0,.slice none 0 0]) af fun r3 cc ah=>AR ah rfl rfl fun cd ai=>AR ai rfl rfl fun ce aj=>AR aj rfl rfl fun cf ak=>AR ak rfl rfl fun cg al=>AR al rfl rfl fun ch am=>AR am rfl rfl fun ci p=> ?_;obtain ⟨an,d,hd⟩:=bS hd;refine Aj (fun (y:Bool×Unit) w_ g=>∃ψ:AD,Sub m ψ∧y.1=g∧St ψ (cW 32 r3 [sv t2.1.1,sv t2.1.2.1,sv t2.1.2.2.1,sv t2.1.2.2.2.1,sv t2.1.2.2.2.2.1,sv t2.1.2.2.2.2.2.1]::⟨Et,[.pointer t2.2.2.1],s⟩::F) w_) (g:=an) ?_ ?_
 ·refine AK d rfl (fun _ d=> ?_) (fun _ d=> ?_)
  ·have ao:=p.at1;obtain rfl:=iS d;exact AQ (true,()) rfl ⟨m,(bZ _),rfl,ao.at1⟩
  refine AA (x:=t2.1.2.2.1) p rfl ?_;have ap:=p.at1.at1;obtain rfl:=iS d;exact AQ (((t2.1.2.2.1.2.1:Int) !=(6:Int)),()) rfl ⟨m,(bZ _),(by rw [ag]),ap⟩
 rintro z4 cj ⟨aq,i,rfl,u⟩;try dsimp only at hd
 refine AK hd rfl (fun _ hd=> ?_) (fun _ hd=> ?_)
 ·obtain rfl:=iS hd;exact AB ⟨aq,false,((f.trans o).trans i),rfl,rfl,u.tail.tail⟩
 obtain ⟨ck,ar,hd⟩:=bS hd;obtain ⟨cl,au,hd⟩:=bS hd;refine AI (DE (((ae.mono i)).get ar) u au) ?_;rintro _ cm ⟨w,t6,z,rfl,rfl,a0⟩;refine ⟨t6,rfl,?_⟩;obtain ⟨av,c,hd⟩:=bS hd;refine Aj (fun (y:Bool×Unit) w_ g=>∃ψ:AD,Sub w ψ∧y.1=g∧St ψ (cW 32 r3 [sv t2.1.1,sv t2.1.2.1,sv t2.1.2.2.1,sv t2.1.2.2.2.1,sv t2.1.2.2.2.2.1,sv t2.1.2.2.2.2.2.1]::⟨Et,[.pointer t2.2.2.1],s⟩::F) w_) (g:=av) ?_ ?_
 ·refine AK c rfl (fun _ c=> ?_) (fun _ c=> ?_)
  ·have aw:=a0.at1;obtain ⟨cn,ax,c⟩:=bS c;refine AI (NQ aw ax) ?_;rintro _ co ⟨cp,t8,cq,j,rfl,rfl,ay,az⟩;refine ⟨t8,rfl,?_⟩;refine AV (vs:=[.int .i64 (5:Int)]) az fun r9 cr b0=> ?_;have b1:=eP (r:=(cC .i64)) (l:=([(5:Int)]:List Int)) (n:=1) b0 (.cons (a:=[_]) rfl .nil) rfl (by decide);obtain ⟨cs,e,b2,b3⟩:=cH (t:=((some ⟨r9,0,none⟩,1,1):Slc)) b1;obtain ⟨ct,b4,c⟩:=bS c;refine AI (DN (ay.mono e) b2 b3 b4) ?_;rintro _ cu ⟨b5,t10,k,rfl,rfl,a1⟩;refine ⟨t10,rfl,?_⟩;refine AK c rfl (fun _ c=> ?_) (fun _ c=> ?_)
   ·obtain ⟨cv,b6,c⟩:=bS c;refine AI (QH (gk.b.mono ((((((f.trans o).trans i).trans z).trans j).trans e).trans k)) a1 b6) ?_;rintro _ cw ⟨cx,t11,cy,a2,rfl,rfl,b7,b8⟩;refine ⟨t11,rfl,?_⟩;refine AV (vs:=[.int .i64 (0:Int)]) b8 fun r12 cz b9=> ?_;have ba:=eP (r:=(cC .i64)) (l:=([(0:Int)]:List Int)) (n:=1) b9 (.cons (a:=[_]) rfl .nil) rfl (by decide);obtain ⟨d0,q,bb,bc⟩:=cH (t:=((some ⟨r12,0,none⟩,1,1):Slc)) ba;obtain ⟨d1,bd,c⟩:=bS c;refine AI (DN (b7.mono q) bb bc bd) ?_;rintro _ d2 ⟨be,t13,a3,rfl,rfl,a4⟩;refine ⟨t13,rfl,?_⟩;refine AK c rfl (fun _ c=> ?_) (fun _ c=> ?_)
    ·obtain ⟨d3,bf,c⟩:=bS c;refine AI (RJ a4 bf) ?_;rintro _ d4 ⟨bg,t14,d5,bh,rfl,rfl,bi,bj⟩;refine ⟨t14,rfl,?_⟩;have bk:=bi.length;have bl:=bj.at1;obtain rfl:=iS c;exact AQ (((t14.2.1:Int)==(1:Int)),()) rfl ⟨bg,((((((j.trans e).trans k).trans a2).trans q).trans a3).trans bh),(by rw [bk]),bl⟩
    obtain rfl:=iS c;exact AQ (false,()) rfl ⟨be,(((((j.trans e).trans k).trans a2).trans q).trans a3),rfl,a4.at1⟩
   obtain rfl:=iS c;exact AQ (false,()) rfl ⟨b5,((j.trans e).trans k),rfl,a1.at1⟩
  obtain rfl:=iS c;exact AQ (false,()) rfl ⟨w,(bZ _),rfl,a0.at1.at1⟩
 rintro z7 d6 ⟨bm,bn,rfl,bo⟩;try dsimp only at hd
 obtain rfl:=iS hd;exact AB ⟨bm,z7.1,((((f.trans o).trans i).trans z).trans bn),rfl,rfl,bo.tail.tail⟩
set_option maxRecDepth 1000000
theorem RM:Cx=some true:=by kernel_rfl
end Go.Proofs.YteolcjbobmpdiaaGreatDoor
namespace Go.Proofs.YteolcjbobmpdiaaGreatDoor
open Go Go.Eng Dg
set_option linter.unusedVariables false
set_option maxRecDepth 100000
theorem S8 {β γ:Type}{P:γ→Prop}{f:Int→Option (Ab Int (Ab Unit β))}{k:Ab Unit β→Option γ}(n:Nat) (hn:n≤1000000) (hs:∀i:Nat,i<n→Ok (f (i:Int)) (fun e=>e= .next ((i+1:Nat):Int))) (he:f (n:Int)=some (.done (.next ()))) (hk:Ok (k (.next ())) P):Ok ((loop (0:Int) f).bind k) P:=by
 refine C4 (fun z=>∃i:Nat,z=(i:Int)∧i≤n) (fun z=>n - z.toNat) (fun b=>b= .next ()) ⟨0,rfl,eN _⟩ (fun z hz=> ?_) fun b hb=>by rw [hb];exact hk
 obtain ⟨i,rfl,hi⟩:=hz;rcases Nat.lt_or_eq_of_le hi with h | rfl
 ·obtain ⟨e,e1,rfl⟩:=hs i h;exact ⟨_,e1,.inl ⟨_,rfl,⟨i+1,rfl,h⟩,by omega⟩⟩
 ·exact ⟨_,he,.inr ⟨_,rfl,rfl⟩⟩
theorem wr1 {i n:Nat}(h:i<n) (hn:n≤1000000):bT .i64 ((i:Int)+(1:Int))=((i+1:Nat):Int):=by rw [w64 (by omega) (by omega)];omega
theorem R7 {β γ:Type}{P:γ→Prop}{f:Int→Unit→Option (Ab Unit β)}{k:Ab Unit β→Option γ}(n:Nat) (hn:n≤1000000000) (hs:∀i:Nat,i<n→f (i:Int) ()=some (.next ())) (hk:Ok (k (.next ())) P):Ok ((C2 (0:Int) (n:Int) () f).bind k) P:=by
 refine Gb (fun _ _=>True) (fun _=>False) (by omega) trivial (fun j _ hj _=>⟨_,hs j hj,.inl ⟨(),rfl,trivial⟩⟩) (fun _ _=>hk) fun b hb=>hb.elim
section
variable {p:dtP}{B:List dtK}{E:List (List Edge)}{d:LkD}{tt:Int}
theorem S9 {l:List Int}{b:dtK}(M:MkI p B E d tt) {n:Nat}(hb:B[n]? =some b):(Fl p.2.2.1 b.2.1).length≤10100:=by
 have:=OP p.2.2.1 b.2.1
 have:=(M.all.fin.good M.all.vp hb).2.2.2.2
 omega
theorem TA (M:MkI p B E d tt) {n:Nat}{b:dtK}(hb:B[n]? =some b) {i:Nat}{k:Int}(h:(Fl p.2.2.1 b.2.1)[i]? =some k):∃(k':Nat) (r:Ay),k=(k':Int)∧p.2.2.1[k']? =some r∧It p.2.2.1 (KB B) n k' r.2.1.length:=(U3 M hb).1 (bX h)
end
theorem Xu:HG bW 61 61 60 1:=⟨fM,.inl fM,⟨Tryz.t60,by kernel_rfl,rfl,⟨_,rfl,rfl⟩,by decide,by decide⟩,by decide⟩
abbrev rB (us:List Slc) (A:List (List Bool)):List Chk:=ME 4 bY us A
theorem WB {us:List Slc}{A:List (List Bool)}(h:us.length=A.length) (u:Slc) (l:List Bool):rB (us++ [u]) (A++ [l])=rB us A++ [cR 4 bY u l]:=by
 unfold rB ME;rw [List.zipWith_append h];rfl
section
variable {φ ψ:AD}{h:AH}{F:List Chk}{t:Slc×Slc×Slc×Slc×Slc×Slc×Unit}{p:dtP}
theorem Hp (k:PlK φ t p) (s0:St φ F h) {r:List (List Bool)}(hd:CQ p=some r):
 CallsH bW 74 [.agg #[.slice t.1.1 t.1.2.1 t.1.2.2,.slice t.2.1.1 t.2.1.2.1 t.2.1.2.2,.slice t.2.2.1.1 t.2.2.1.2.1 t.2.2.1.2.2,.slice t.2.2.2.1.1 t.2.2.2.1.2.1 t.2.2.2.1.2.2,.slice t.2.2.2.2.1.1 t.2.2.2.2.1.2.1 t.2.2.2.2.1.2.2,.slice t.2.2.2.2.2.1.1 t.2.2.2.2.2.1.2.1 t.2.2.2.2.2.1.2.2]] h
  (Ar fun v h'=>∃(ψ:AD) (y:Slc) (us:List Slc),Sub φ ψ∧v=((.one aS):Sh).val y∧us.length=r.length∧Ro.SliceIs dW ψ y us∧St ψ (rB us r++F) h'):=by
 refine AO mixed Tryz.func74 ?_;rw [IP];unfold Fj;unfold CQ at hd;obtain ⟨l,hl,hd⟩:=bS hd;obtain rfl:=iS hd;have n0:t.1.2.1=p.1.length:=k.k0.length;have n1:t.2.1.2.1=p.2.1.length:=k.k1.length;refine AV (vs:=plV t) s0 ?_;intro r1 h1 s1;obtain ⟨φ1,le1,cB,s1⟩:=eO s1;refine Ap (fun (y:Int×Slc×Unit) w (g:List (List Bool))=>∃ψ us,Sub φ1 ψ∧us.length=g.length∧St ψ (cR 60 dW y.2.1 us::(rB us g++F)) w) (g:=l) ?_ ?_
 ·refine DZ hl (fun (y:Int×Slc×Unit) w (g:Int×List (List Bool))=>y.1=g.1∧ ∃ψ us,Sub φ1 ψ∧us.length=g.2.length∧St ψ (cR 60 dW y.2.1 us::(rB us g.2++F)) w) ((0:Int),((none,0,0):Slc),()) rfl ⟨rfl,φ1,[],bZ _,rfl,fY _ _ s1⟩ ?_;rintro y w ⟨gi,gl⟩ e ⟨hy,ψ,us,le,hu,st⟩ he hb;dsimp only at hy hu st he;subst hy;refine AC (x:=t.2.1) (Bk (cB.mono le) st (j:=1) rfl) rfl<|AK he (by rw [n1]) (fun _ he=> ?_) (fun _ he=> ?_)
  ·obtain ⟨row,hrow,he⟩:=bS he;obtain ⟨gl',hgl,he⟩:=bS he;obtain rfl:=iS he;refine AC (x:=t.1) (Bk (cB.mono le) st (j:=0) rfl) rfl<|FA (r:=bY) (x:=false) Jd st rfl rfl (by rw [n0];exact hrow) ?_;intro t6 h2 s2;refine AV (vs:=[sv t6]) s2 ?_;intro r7 h3 s3;have cw:=fR s3;obtain ⟨hap,rfl⟩:=JQ hgl hu t6;refine Am (r:=dW) (ms:=[t6]) Xu (s3.at2) rfl cw (.cons (a:=[_]) rfl .nil) rfl hap ?_;intro t8 h4 s4;refine Ad (bT .i64 (y.1+(1:Int)),t8,()) _ rfl rfl ⟨rfl,ψ,us++ [t6],le,by simp [hu],?_⟩;dsimp only;rw [WB hu,cF];exact s4.at1.tail.perm (bU _ (cD (l₁:=rB us gl)).symm)
  ·obtain rfl:=iS he;obtain rfl:=hb _ rfl;exact AJ (AL y rfl ⟨ψ,us,le,hu,st⟩)
 ·rintro y w ⟨ψ,us,le,hu,st⟩;obtain ⟨ψ2,le2,k2,st2⟩:=cH (t:=y.2.1) st;exact AB ⟨ψ2,y.2.1,us,(le1.trans le).trans le2,rfl,hu,k2,st2⟩
end
section
variable {φ ψ:AD}{h:AH}{F:List Chk}{t:Slc×Slc×Slc×Slc×Slc×Slc×Unit}{p:dtP}
theorem U4 {a:Slc}{l:List Bool}(s0:St φ (cR 4 bY a l::F) h) (hl:l.length≤1000000):
 CallsH bW 76 [.slice a.1 a.2.1 a.2.2,.slice a.1 a.2.1 a.2.2] h (Ar fun v h'=>v=((.one aB):Sh).val false∧St φ (cR 4 bY a l::F) h'):=by
 refine AO mixed Tryz.func76 ?_;rw [Fk];unfold ER;have n1:a.2.1=l.length:=s0.rowLen;have hf:forS (σ:=Unit) (0:Int) (l.length:Int) () (fun _ _=>some ())=some ():=by
  obtain ⟨s,hs,_⟩:=Bw (σ:=Unit) (f:=fun _ _=>some ()) (n:=l.length) (fun _ _=>True) (by omega) (s:=()) trivial (fun i s h0 _=>⟨(),rfl,trivial⟩);rw [hs]
 refine Ap (fun (y:Int×Bool×Unit) w (_:Unit)=>y.2.1=false∧St φ (cR 4 bY a l::F) w) (g:=()) ?_ ?_
 ·refine CD hf (fun i (y:Int×Bool×Unit) w (_:Unit)=>y.1=i∧y.2.1=false∧St φ (cR 4 bY a l::F) w) ((0:Int),false,()) rfl ⟨rfl,rfl,s0⟩ ?_ ?_
  ·rintro _ z w _ _ ⟨rfl,hz,st⟩ he h0 hlt hw;refine Aa (by rw [n1];exact decide_eq_true hlt) ?_;obtain ⟨x,hx⟩:∃x,idx l z.1=some x:=⟨l[z.1.toNat]'(by omega),by unfold idx;rw [if_pos h0];exact bR _⟩;refine Aj (fun (y:Bool×Unit) w (_:Unit)=>y.1=false∧St φ (cR 4 bY a l::F) w) (g:=()) ?_ ?_
   ·refine EK st hx ?_;cases x
    ·exact AT rfl (AQ (false,()) rfl ⟨rfl,st⟩)
    ·refine Aa rfl (EK st hx ?_);exact AQ (false,()) rfl ⟨rfl,st⟩
   ·rintro y w2 ⟨hy,st2⟩;refine Aj (fun (y:Bool×Unit) w (_:Unit)=>y.1=false∧St φ (cR 4 bY a l::F) w) (g:=()) ?_ ?_
    ·exact AT hy (AQ (z.2.1,()) rfl ⟨hz,st2⟩)
    ·rintro y3 w3 ⟨hy3,st3⟩;exact Ad (bT .i64 (z.1+(1:Int)),y3.1,()) _ rfl rfl ⟨hw,hy3,st3⟩
  ·rintro _ z w ⟨rfl,hz,st⟩ hge;refine AT (by rw [n1];exact decide_eq_false (Int.not_lt.2 hge))<|AJ (AL (z.1,z.2.1,()) rfl ⟨hz,st⟩)
 ·rintro z w ⟨hz,st⟩;exact AB ⟨by rw [hz];rfl,st⟩
abbrev C7 (r:Nat) (n f g:Slc) (c:Int) (null:List Bool) (us:List Slc) (A:List (List Bool)) (vs:List Slc) (B:List (List Bool)):List Chk:=
 cR 4 bY n null::(rB us A++(rB vs B++ [⟨fC 63,[.pointer (some ⟨r,0,none⟩)],[sv n,sv f,sv g,.int .i64 c]⟩]))
variable {r:Nat}{n f g:Slc}{c:Int}{null:List Bool}{us vs:List Slc}{A B:List (List Bool)}
theorem Xv (c:Int):∃rest,∀c' F,(C7 r n f g c' null us A vs B++F).Perm (⟨fC 63,[.pointer (some ⟨r,0,none⟩)],[sv n,sv f,sv g,.int .i64 c']⟩::(rest++F)):=by
 refine ⟨cR 4 bY n null::(rB us A++rB vs B),fun c' F=> ?_⟩;have e:C7 r n f g c' null us A vs B++F=(cR 4 bY n null::(rB us A++rB vs B)) ++(⟨fC 63,[.pointer (some ⟨r,0,none⟩)],[sv n,sv f,sv g,.int .i64 c']⟩::F):=by
  simp [C7,cF]
 rw [e];exact cD
theorem Dq (st:St φ (C7 r n f g c null us A vs B++F) h) {j:Nat}{v:Value}(hv: [sv n,sv f,sv g,.int .i64 c][j]? =some v):BI h ⟨r,j,none⟩=some v:=by
 obtain ⟨rest,hp⟩:=Xv (r:=r) (n:=n) (f:=f) (g:=g) (null:=null) (us:=us) (A:=A) (vs:=vs) (B:=B) c;exact (st.perm (hp c F)).cell hv
theorem GL {α:Type}{l:List α}{k:Nat}{x:α}(h:l[k]? =some x):l.set k x=l:=by
 refine List.ext_getElem? fun i=> ?_;rw [cZ];split
 ·next e=>subst e;rw [h];simp [(List.getElem?_eq_some_iff.1 h).1]
 ·rfl
theorem OQ {us:List Slc}{A:List (List Bool)}{k:Nat}{u:Slc}{l:List Bool}(hu:us[k]? =some u) (hA:A[k]? =some l):∃rest,(rB us A).Perm (cR 4 bY u l::rest)∧ ∀l',(rB us (A.set k l')).Perm (cR 4 bY u l'::rest):=by
 obtain ⟨rest,h1,h2⟩:=Jk (f:=cR 4 bY) hu hA;refine ⟨rest,h1,fun l'=> ?_⟩
 have:=h2 u l'
 rwa [GL hu]at this
theorem Xw {k:Nat}{u:Slc}{l:List Bool}(hu:us[k]? =some u) (hA:A[k]? =some l):∃rest,∀F,(C7 r n f g c null us A vs B++F).Perm (cR 4 bY u l::(rest++F))∧ ∀l',(C7 r n f g c null us (A.set k l') vs B++F).Perm (cR 4 bY u l'::(rest++F)):=by
 obtain ⟨rest,h1,h2⟩:=OQ hu hA;refine ⟨cR 4 bY n null::(rest++(rB vs B++ [⟨fC 63,[.pointer (some ⟨r,0,none⟩)],[sv n,sv f,sv g,.int .i64 c]⟩])),fun F=>⟨?_,fun l'=> ?_⟩⟩
 ·exact (bV F (bU _ (bV _ h1))).trans (cE _ _ _)
 ·exact (bV F (bU _ (bV _ (h2 l')))).trans (cE _ _ _)
theorem XQ {k:Nat}{u:Slc}{l:List Bool}(hu:vs[k]? =some u) (hB:B[k]? =some l):∃rest,∀F,(C7 r n f g c null us A vs B++F).Perm (cR 4 bY u l::(rest++F))∧ ∀l',(C7 r n f g c null us A vs (B.set k l') ++F).Perm (cR 4 bY u l'::(rest++F)):=by
 obtain ⟨rest,h1,h2⟩:=OQ hu hB;have key:∀(X:List Chk) (x:Chk) (T:List Chk),(cR 4 bY n null::(rB us A++((x::rest) ++T))).Perm (x::(cR 4 bY n null::(rB us A++(rest++T)))):=fun X x T=>
  (bU _ cD).trans (cE _ _ _)
 refine ⟨cR 4 bY n null::(rB us A++(rest++ [⟨fC 63,[.pointer (some ⟨r,0,none⟩)],[sv n,sv f,sv g,.int .i64 c]⟩])),fun F=>⟨?_,fun l'=> ?_⟩⟩
 ·exact bV F ((bU _ (cP _ (bV _ h1))).trans (key [] _ _))
 ·exact bV F ((bU _ (cP _ (bV _ (h2 l')))).trans (key [] _ _))
theorem RN {α β:Type}{f:α→β→Chk}:∀ {ps:List α}{ss:List β}{i j:Nat}{p q:α}{s t:β},i≠j→ps[i]? =some p→ss[i]? =some s→ps[j]? =some q→ss[j]? =some t→
 ∃rest,(fJ f ps ss).Perm (f p s::f q t::rest)∧ ∀s',(fJ f ps (ss.set i s')).Perm (f p s'::f q t::rest):=by
 intro ps
 induction ps with
 |nil=>intro ss i j p q s t _ h;simp at h
 |cons x ps ih=>
  intro ss i j p q s t hij hp hs hq ht;cases ss with
  |nil=>simp at hs
  |cons y ss=>
   cases i with
   |zero=>
    cases j with
    |zero=>exact (hij rfl).elim
    |succ j=>
     simp only [eS,Option.some.injEq,eB]at hp hs hq ht;subst hp hs;obtain ⟨rest,h1,_⟩:=Jk (f:=f) hq ht;exact ⟨rest,bU _ h1,fun s'=>bU _ h1⟩
   |succ i=>
    cases j with
    |zero=>
     simp only [eS,Option.some.injEq,eB]at hp hs hq ht;subst hq ht;obtain ⟨rest,h1,h2⟩:=Jk (f:=f) hp hs;refine ⟨rest,(bU _ h1).trans (cE _ _ _),fun s'=> ?_⟩
     have:=h2 p s'
     rw [GL hp]at this;exact (bU _ this).trans (cE _ _ _)
    |succ j=>
     simp only [eB]at hp hs hq ht;obtain ⟨rest,h1,h2⟩:=ih (fun e=>hij (by rw [e])) hp hs hq ht;exact ⟨f x y::rest,(bU _ h1).trans ((cE _ _ _).trans (bU _ (cE _ _ _))),fun s'=>(bU _ (h2 s')).trans ((cE _ _ _).trans (bU _ (cE _ _ _)))⟩
theorem Xx {k j:Nat}{u v:Slc}{l m:List Bool}(hkj:k≠j) (hu:vs[k]? =some u) (hB:B[k]? =some l) (hv:vs[j]? =some v) (hC:B[j]? =some m):
 ∃rest,∀F,(C7 r n f g c null us A vs B++F).Perm (cR 4 bY u l::cR 4 bY v m::(rest++F))∧ ∀l',(C7 r n f g c null us A vs (B.set k l') ++F).Perm (cR 4 bY u l'::cR 4 bY v m::(rest++F)):=by
 obtain ⟨rest,h1,h2⟩:=RN (f:=cR 4 bY) hkj hu hB hv hC;have key:∀(x y:Chk) (T:List Chk),(cR 4 bY n null::(rB us A++((x::y::rest) ++T))).Perm (x::y::(cR 4 bY n null::(rB us A++(rest++T)))):=fun x y T=>
  (bU _ (List.perm_middle.trans (bU _ cD))).trans ((cE _ _ _).trans (bU _ (cE _ _ _)))
 refine ⟨cR 4 bY n null::(rB us A++(rest++ [⟨fC 63,[.pointer (some ⟨r,0,none⟩)],[sv n,sv f,sv g,.int .i64 c]⟩])),fun F=>⟨?_,fun l'=> ?_⟩⟩
 ·exact bV F ((bU _ (cP _ (bV _ h1))).trans (key _ _ _))
 ·exact bV F ((bU _ (cP _ (bV _ (h2 l')))).trans (key _ _ _))
end
noncomputable def L4 (nt:Int) (null:List Bool) (first:List (List Bool)) (seq:List Int):Option (List Bool×Bool):=
 (Dw nt false).bind fun out0=>
 (C2 (σ:=List Bool) (β:=List Bool×Bool) 0 (seq.length:Int) out0 fun i out=>
  (idx seq i).bind fun s=>
  cond (decide (s≥0) && decide (s<nt))
   ((DL out s true).bind fun o=>some (.done (o,false)))
   (cond (decide (bT .i64 (s - nt) <0) || decide (bT .i64 (s - nt) ≥ (null.length:Int)))
    (some (.next out))
    ((idx first (bT .i64 (s - nt))).bind fun row=>(Bd out row).bind fun r=>
     (idx null (bT .i64 (s - nt))).bind fun b=>cond b (some (.next r.2)) (some (.done (r.2,false)))))).bind fun e=>
 match e with
 |.next z=>some (z,true)
 |.done r=>some r
section
variable {φ ψ:AD}{h:AH}{F:List Chk}{t:Slc×Slc×Slc×Slc×Slc×Slc×Unit}{p:dtP}{r:Nat}{n f g:Slc}{c:Int}{null:List Bool}{us vs:List Slc}{A B:List (List Bool)}
set_option maxHeartbeats 1000000 in
theorem OR (k:PlK φ t p) (kf:Ro.SliceIs dW φ f us) (hus:us.length=A.length) {sq:Slc}{seq:List Int}(ks:Ro.SliceIs (cC .i64) φ sq seq) (s0:St φ (C7 r n f g c null us A vs B++F) h) {x:List Bool×Bool}(hd:L4 (nT p) null A seq=some x):
 CallsH bW 75 [.pointer (some ⟨r,0,none⟩),.agg #[.slice t.1.1 t.1.2.1 t.1.2.2,.slice t.2.1.1 t.2.1.2.1 t.2.1.2.2,.slice t.2.2.1.1 t.2.2.1.2.1 t.2.2.1.2.2,.slice t.2.2.2.1.1 t.2.2.2.1.2.1 t.2.2.2.1.2.2,.slice t.2.2.2.2.1.1 t.2.2.2.2.1.2.1 t.2.2.2.2.1.2.2,.slice t.2.2.2.2.2.1.1 t.2.2.2.2.2.1.2.1 t.2.2.2.2.2.1.2.2],.slice sq.1 sq.2.1 sq.2.2] h
  (Ar fun v h'=>∃(ψ:AD) (y:Slc),Sub φ ψ∧v=((.tuple [aS,aB]):Sh).val (y,x.2,())∧St ψ (cR 4 bY y x.1::(C7 r n f g c null us A vs B++F)) h'):=by
 refine AO mixed Tryz.func75 ?_;rw [Fp];unfold Do;unfold L4 at hd;have n0:t.1.2.1=p.1.length:=k.k0.length;have nq:=ks.length;obtain ⟨o0,ho0,hd⟩:=bS hd;obtain ⟨e3,hx3,hd⟩:=bS hd;refine AV (vs:=plV t) s0 ?_;intro r1 h1 s1;refine AA (b:=r1) (j:=0) (x:=t.1) s1 rfl<|FA (r:=bY) (x:=false) Jd s1.tail rfl (by rw [n0];rfl) ho0 ?_;intro o h2 s2;have hnT:(t.1.2.1:Int)=nT p:=by rw [n0];rfl
 refine Ap (fun (y:Int×Bool×Slc×Unit) w g'=>∃(z:List Bool),g'=dQ z∧ ∃ψ,Sub φ ψ∧St ψ (cR 4 bY o z::(C7 r n f g c null us A vs B++F)) w) (g:=e3) ?_ ?_
 ·refine Ld hx3 (fun i (y:Int×Bool×Slc×Unit) w z=>y.1=i∧ ∃ψ,Sub φ ψ∧St ψ (cR 4 bY o z::(C7 r n f g c null us A vs B++F)) w) ((0:Int),false,((none,0,0):Slc),()) rfl ⟨rfl,φ,bZ _,s2⟩ ?_ ?_
  ·rintro _ y w z e ⟨rfl,ψ,le,st⟩ he h0 hlt hw hb;try dsimp only at st he
   refine Aa (by rw [nq];exact decide_eq_true hlt) ?_;obtain ⟨s,hs,he⟩:=bS he;have kq:=ks.mono le;have hsym:∀ {K:Int→T} {P:BU→AH→Prop} {w':AH} {ψ':AD} {Γ:List Chk},Sub ψ ψ'→St ψ' Γ w'→(K s).wp bW P w'→(deref sq.1 fun A=>chk (0≤y.1∧y.1< (sq.2.1:Nat))<|eT (.int .i64) (A.add (cN y.1 *1)) K).wp bW P w':=fun {K P w' ψ' Γ} le' st' hK=>Ce (a:=.int .i64) kq hs (eI le' st'.sub) hK;refine Ap (fun (y':Bool×Slc×Unit) w (g':Unit)=>∃(z':List Bool),e=dQ z'∧ ∃ψ,Sub φ ψ∧St ψ (cR 4 bY o z'::(C7 r n f g c null us A vs B++F)) w) (g:=()) ?_ ?_
   ·refine Aj (fun (y':Bool×Unit) w' (_:Unit)=>y'.1=(decide (s≥0) && decide (s<nT p))∧St ψ (cR 4 bY o z::(C7 r n f g c null us A vs B++F)) w') (g:=()) ?_ ?_
    ·refine hsym (bZ _) st ?_;by_cases hs0:s≥0
     ·refine Aa (decide_eq_true hs0)<|hsym (bZ _) st<|AQ (decide (s< (t.1.2.1:Int)),()) rfl ⟨by rw [hnT,decide_eq_true hs0];rfl,st⟩
     ·refine AT (decide_eq_false hs0)<|AQ (false,()) rfl ⟨by rw [decide_eq_false hs0];rfl,st⟩
    ·rintro y7 w7 ⟨hy7,st7⟩;refine AK he hy7 (fun _ he=> ?_) (fun _ he=> ?_)
     ·obtain ⟨o',ho',he⟩:=bS he;obtain rfl:=iS he;obtain rfl:=hb _ rfl;obtain rfl:=iS hd;refine hsym (bZ _) st7 ?_;obtain ⟨A4,ea4,q4⟩:=st7.there ho';refine AF _ ea4 (AY q4 (FO st7 ho' rfl ea4 ?_));intro h8 st8;exact Ai (Ag (Ai (AB ⟨ψ,o,le,rfl,st8⟩)))
     ·refine hsym (bZ _) st7<|Aj (fun (y':Bool×Unit) w' (_:Unit)=>y'.1=(decide (bT .i64 (s - nT p) <0) || decide (bT .i64 (s - nT p) ≥ (null.length:Int)))∧St ψ (cR 4 bY o z::(C7 r n f g c null us A vs B++F)) w') (g:=()) ?_ ?_
      ·rw [hnT];by_cases hs0:bT .i64 (s - nT p) <0
       ·refine Aa (decide_eq_true hs0)<|AQ (true,()) rfl ⟨by rw [decide_eq_true hs0];rfl,st7⟩
       ·refine AT (decide_eq_false hs0)<|AF _ rfl<|AC (x:=n) (Dq st7.tail (j:=0) rfl) rfl ?_;have nn:n.2.1=null.length:=(st7.tail).rowLen;exact AQ (decide (bT .i64 (s - nT p) ≥ (n.2.1:Int)),()) rfl ⟨by rw [nn,decide_eq_false hs0];rfl,st7⟩
      ·rintro y9 w9 ⟨hy9,st9⟩;refine AK he hy9 (fun _ he=> ?_) (fun hc9 he=> ?_)
       ·obtain rfl:=iS he;exact Mk (y.2.1,y.2.2.1,()) rfl ⟨z,rfl,ψ,le,st9⟩
       ·obtain ⟨row,hrow,he⟩:=bS he;obtain ⟨pr,hpr,he⟩:=bS he;obtain ⟨b,hb1,he⟩:=bS he;rw [hnT];obtain ⟨y0,y1,y2⟩:=CL hrow;obtain ⟨kk,hkk⟩:∃k:Nat,bT .i64 (s - nT p)=(k:Int):=⟨_,(cL y0).symm⟩;rw [hkk]at hrow hb1 ⊢;have hA:=Ns hrow;have hku:kk<us.length:=by rw [hus];exact (List.getElem?_eq_some_iff.1 hA).1
        have hu:us[kk]? =some us[kk]:=bR hku;refine AF _ rfl<|AC (x:=f) (Dq st9.tail (j:=1) rfl) rfl ?_;obtain ⟨A2,cs2,ea2,hi2,r2,cl2⟩:=(kf.mono le).get (i:=(kk:Int)) (by rw [CI];exact hu);refine AF _ ea2 (AY hi2 ?_);obtain rfl:=r2;refine AC (x:=us[kk]) (AE st9.sub (cl2 0 _ rfl)) rfl ?_;obtain ⟨rest,hp⟩:=Xw (r:=r) (n:=n) (f:=f) (g:=g) (c:=c) (null:=null) (vs:=vs) (B:=B) hu hA;refine AI (CJ (st9.perm (bU _ (hp F).1)) hpr) ?_;rintro _ h10 ⟨ψ10,yb,l10,le10,rfl,hl10,st10⟩;refine ⟨yb,rfl,?_⟩;obtain rfl:l10=pr.2:=by rw [←hl10]
        have st11:St ψ10 (cR 4 bY o pr.2::(C7 r n f g c null us A vs B++F)) h10:=st10.perm ((cE _ _ _).trans (bU _ (hp F).1.symm));refine AF _ rfl<|AC (x:=n) (Dq st11.tail (j:=0) rfl) rfl<|EK (a:=.bool) st11.tail hb1 ?_;cases b
        ·obtain rfl:=iS he;obtain rfl:=hb _ rfl;obtain rfl:=iS hd;refine Aa rfl<|Ai (Ag (Ai (AB ⟨ψ10,o,le.trans le10,rfl,st11⟩)))
        ·obtain rfl:=iS he;refine AT rfl<|Lc (y.2.1,y.2.2.1,()) rfl ⟨pr.2,rfl,ψ10,le.trans le10,st11⟩
   ·rintro y' w' ⟨z',rfl,ψ',le',st'⟩;exact Ad (bT .i64 (y.1+(1:Int)),y'.1,y'.2.1,()) _ rfl rfl ⟨hw,ψ',le',st'⟩
  ·rintro i y w z ⟨rfl,ψ,le,st⟩ hge hr;subst hr;refine AT (by rw [nq];exact decide_eq_false (Int.not_lt.2 hge))<|AJ (AL y rfl ⟨z,rfl,ψ,le,st⟩)
 ·rintro y w ⟨z,rfl,ψ,le,st⟩;obtain rfl:=iS hd;exact AB ⟨ψ,o,le,rfl,st⟩
end
noncomputable def NZ (p:dtP) (null:List Bool) (first:List (List Bool)):Option (Bool×List Bool×List (List Bool)):=forS (σ:=Bool×List Bool×List (List Bool)) 0 (p.2.2.1.length:Int) (false,null,first) fun i z=>(idx p.2.2.1 i).bind fun ru=>(L4 (nT p) z.2.1 z.2.2 ru.2.1).bind fun b=>(idx z.2.2 (bT .i64 (ru.1 - nT p))).bind fun row=>(Bd row b.1).bind fun pr=>(idx z.2.1 (bT .i64 (ru.1 - nT p))).bind fun nl=>(DL z.2.1 (bT .i64 (ru.1 - nT p)) (nl || b.2)).bind fun null'=>some (z.1 || pr.1 || (b.2 && !nl),null',z.2.2.set (bT .i64 (ru.1 - nT p)).toNat pr.2)
noncomputable def LW (p:dtP) (null:List Bool) (first follow:List (List Bool)):Option (Bool×List (List Bool)):=forS (σ:=Bool×List (List Bool)) 0 (p.2.2.1.length:Int) (false,follow) fun i z=>(idx p.2.2.1 i).bind fun ru=>forS (σ:=Bool×List (List Bool)) 0 (ru.2.1.length:Int) z fun j z=>(idx ru.2.1 j).bind fun s=>cond (decide (s<nT p)) (some z) ((L4 (nT p) null first (ru.2.1.drop (j+1).toNat)).bind fun b=>(idx z.2 (bT .i64 (s - nT p))).bind fun row=>(Bd row b.1).bind fun pr=>(cond b.2 ((idx z.2 (bT .i64 (ru.1 - nT p))).bind fun row3=>cond (decide (bT .i64 (s - nT p)=bT .i64 (ru.1 - nT p))) (need (pr.2.length≤1000000)<|some (false,pr.2)) (Bd pr.2 row3)) (some (false,pr.2))).bind fun q=>some (z.1 || pr.1 || q.1,z.2.set (bT .i64 (s - nT p)).toNat q.2))
section
variable {φ ψ:AD}{h:AH}{F:List Chk}{t:Slc×Slc×Slc×Slc×Slc×Slc×Unit}{p:dtP}{r r1:Nat}{n f g:Slc}{c:Int}{us vs:List Slc}
theorem Hq (cB:CV φ (some ⟨r1,0,none⟩) (plV t)) {Γ:List Chk}(st:St φ Γ h):∀j v,(plV t)[j]? =some v→BI h ⟨r1,j,none⟩=some v:=fun j v hv=>by
 have:=AE st.sub (cB.at j hv)
 rwa [DX,fI]at this
set_option maxHeartbeats 1000000 in
theorem RO {null:List Bool}{A B:List (List Bool)}{K:Int×Bool×Unit→T}{P:BU→AH→Prop}(cB:CV φ (some ⟨r1,0,none⟩) (plV t)) (k:PlK φ t p) (kf:Ro.SliceIs dW φ f us) (hus:us.length=A.length)
 (s0:St φ (C7 r n f g c null us A vs B++F) h) {x:Bool×List Bool×List (List Bool)} (hd:NZ p null A=some x)
 (hK:∀ψ y h',Sub φ ψ→y.2.1=x.1→us.length=x.2.2.length→St ψ (C7 r n f g c x.2.1 us x.2.2 vs B++F) h'→(K y).wp bW P h'):
 (PA r1 r t.1 K).wp bW P h:=by
 unfold PA;unfold NZ at hd;have n0:t.1.2.1=p.1.length:=k.k0.length;have nk:=k.k2.length;have hnT:(t.1.2.1:Int)=nT p:=by rw [n0];rfl
 rw [hnT];refine Ap (fun (y:Int×Bool×Unit) w g'=>∃(ψ:AD),Sub φ ψ∧y.2.1=g'.1∧us.length=g'.2.2.length∧St ψ (C7 r n f g c g'.2.1 us g'.2.2 vs B++F) w) (g:=x) ?_ ?_
 ·refine CD hd (fun i (y:Int×Bool×Unit) w g'=>y.1=i∧ ∃(ψ:AD),Sub φ ψ∧y.2.1=g'.1∧us.length=g'.2.2.length∧St ψ (C7 r n f g c g'.2.1 us g'.2.2 vs B++F) w) ((0:Int),false,()) rfl ⟨rfl,φ,bZ _,rfl,hus,s0⟩ ?_ ?_
  ·rintro _ y w ⟨gr,nu,A1⟩ e ⟨rfl,ψ,le,hg,hl1,st⟩ he h0 hlt hw;dsimp only at hg hl1 st he;subst hg;refine AC (x:=t.2.2.1) (Hq (cB.mono le) st 2 _ rfl) rfl<|Aa (by rw [nk];exact decide_eq_true hlt) ?_;obtain ⟨ru,hru,he⟩:=bS he;obtain ⟨b,hb,he⟩:=bS he;obtain ⟨row,hrow,he⟩:=bS he;obtain ⟨pr,hpr,he⟩:=bS he;obtain ⟨nl,hnl,he⟩:=bS he;obtain ⟨nu',hnu,he⟩:=bS he;obtain rfl:=iS he;refine AC (x:=t.2.2.1) (Hq (cB.mono le) st 2 _ rfl) rfl ?_;obtain ⟨D1,cs1,ea1,hi1,q1,cl1⟩:=(k.k2.mono le).get hru;refine AF _ ea1 (AY hi1 ?_);obtain ⟨_,_,rfl,rfl,⟨_,_,rfl,q4,q5⟩⟩:=q1;obtain ⟨u,rfl,ku⟩:=q4;obtain rfl:=q5;refine AC (x:=ru.1) (AE st.sub (cl1 0 _ rfl)) rfl<|Es (Hq (cB.mono le) st)<|AC (x:=t.2.2.1) (Hq (cB.mono le) st 2 _ rfl) rfl<|AF _ ea1 (AY hi1 ?_);refine AC (x:=u) (by rw [Ah];exact AE st.sub (cl1 1 _ rfl)) rfl<|AI (OR (k.mono le) (kf.mono le) hl1 ku st hb) ?_;rintro _ h2 ⟨ψ2,yb,le2,rfl,st2⟩;refine ⟨(yb,b.2,()),rfl,?_⟩;have le':=le.trans le2;obtain ⟨y0,y1,y2⟩:=CL hrow;obtain ⟨kk,hkk⟩:∃k:Nat,bT .i64 (ru.1 - nT p)=(k:Int):=⟨_,(cL y0).symm⟩;rw [hkk]at hrow hnl hnu ⊢;rw [cA];have hA:=Ns hrow;have hku:kk<us.length:=by rw [hl1];exact (List.getElem?_eq_some_iff.1 hA).1
   have hu:us[kk]? =some us[kk]:=bR hku;refine AC (x:=f) (Dq st2.tail (j:=1) rfl) rfl ?_;obtain ⟨D2,cs2,ea2,hi2,r2,cl2⟩:=(kf.mono le').get (i:=(kk:Int)) (by rw [CI];exact hu);refine AF _ ea2 (AY hi2 ?_);obtain rfl:=r2;refine AC (x:=us[kk]) (AE st2.sub (cl2 0 _ rfl)) rfl ?_;obtain ⟨rest,hp⟩:=Xw (r:=r) (n:=n) (f:=f) (g:=g) (c:=c) (null:=nu) (vs:=vs) (B:=B) hu hA;refine AI (CJ (st2.perm ((bU _ (hp F).1).trans (cE _ _ _))) hpr) ?_;rintro _ h10 ⟨ψ10,gw,l10,le10,rfl,hl10,st10⟩;refine ⟨gw,rfl,?_⟩;obtain rfl:(gw,l10)=pr:=hl10;have st11:St ψ10 (C7 r n f g c nu us (A1.set kk l10) vs B++F) h10:=st10.tail.perm ((hp F).2 l10).symm;have le'':=le'.trans le10;refine Aj (fun (y':Bool×Unit) w (_:Unit)=>y'=(y.2.1 || gw || (b.2 && !nl),())∧St ψ10 (C7 r n f g c nu us (A1.set kk l10) vs B++F) w) (g:=()) ?_ ?_
   ·cases hz:y.2.1
    ·refine AT rfl ?_;cases gw
     ·refine AT rfl ?_;cases hbn:b.2
      ·refine AT (by dsimp only)<|AQ (false,()) rfl ⟨by simp,st11⟩
      ·refine Aa (by dsimp only)<|AC (x:=n) (Dq st11 (j:=0) rfl) rfl<|EK (a:=.bool) st11 hnl<|AQ (!nl,()) rfl ⟨by simp,st11⟩
     ·refine Aa rfl<|AQ (true,()) rfl ⟨by simp,st11⟩
    ·refine Aa rfl<|AQ (true,()) rfl ⟨by simp,st11⟩
   ·rintro y' h4 ⟨rfl,st4⟩;refine Aj (fun (y':Unit) w (_:Unit)=>St ψ10 (C7 r n f g c nu' us (A1.set kk l10) vs B++F) w) (g:=()) ?_ ?_
    ·refine AC (x:=n) (Dq st4 (j:=0) rfl) rfl<|AC (x:=n) (Dq st4 (j:=0) rfl) rfl<|EK (a:=.bool) st4 hnl ?_;obtain ⟨D4,ea4,q4⟩:=St.there st4 hnu;cases nl
     ·refine AT rfl<|AF _ ea4 (AY q4 (FO st4 hnu rfl ea4 ?_));intro h5 st5;exact AQ () rfl st5
     ·refine Aa rfl<|AF _ ea4 (AY q4 (FO st4 hnu rfl ea4 ?_));intro h5 st5;exact AQ () rfl st5
    ·rintro _ h5 st5;exact Ad (bT .i64 (y.1+(1:Int)),y.2.1 || gw || (b.2 && !nl),()) _ rfl rfl ⟨hw,ψ10,le'',rfl,by rw [cT];exact hl1,st5⟩
  ·rintro _ y w ⟨rfl,ψ,le,hg,hl1,st⟩ hge;refine AC (x:=t.2.2.1) (Hq (cB.mono le) st 2 _ rfl) rfl<|AT (by rw [nk];exact decide_eq_false (Int.not_lt.2 hge))<|AJ (AL y rfl ⟨ψ,le,hg,hl1,st⟩)
 ·rintro y w ⟨ψ,le,hg,hl1,st⟩;exact hK ψ y w le hg hl1 st
end
section
variable {φ ψ:AD}{h:AH}{F:List Chk}{t:Slc×Slc×Slc×Slc×Slc×Slc×Unit}{p:dtP}{r r1:Nat}{n f g:Slc}{c:Int}{us vs:List Slc}
theorem orT {a b:Bool}{K:Bool×Unit→T}{Q:BU→AH→Prop}(H:(K (a || b,())).wp bW Q h):(dK [.atom .bool] (cond a (cG [.bool true]) (cG [.bool b])) K).wp bW Q h:=by
 refine Aj (fun y w (_:Unit)=>y=(a || b,())∧w=h) (g:=()) ?_ (fun y h' ⟨e1,e2⟩=>by subst e1 e2;exact H);cases a
 ·exact AT rfl (AQ (b,()) rfl ⟨rfl,rfl⟩)
 ·exact Aa rfl (AQ (true,()) rfl ⟨rfl,rfl⟩)
set_option maxHeartbeats 2000000 in
theorem QL {null:List Bool}{A B:List (List Bool)}{K:Int×Bool×Unit→T}{P:BU→AH→Prop}(cB:CV φ (some ⟨r1,0,none⟩) (plV t)) (k:PlK φ t p) (kf:Ro.SliceIs dW φ f us) (kg:Ro.SliceIs dW φ g vs) (hus:us.length=A.length) (hvs:vs.length=B.length)
 (s0:St φ (C7 r n f g c null us A vs B++F) h) {x:Bool×List (List Bool)} (hd:LW p null A B=some x)
 (hK:∀ψ y h',Sub φ ψ→y.2.1=x.1→vs.length=x.2.length→St ψ (C7 r n f g c null us A vs x.2++F) h'→(K y).wp bW P h'):
 (NW r1 r t.1 K).wp bW P h:=by
 unfold NW;unfold LW at hd;have n0:t.1.2.1=p.1.length:=k.k0.length;have nk:=k.k2.length;have hnT:(t.1.2.1:Int)=nT p:=by rw [n0];rfl
 rw [hnT];refine Ap (fun (y:Int×Bool×Unit) w g'=>∃(ψ:AD),Sub φ ψ∧y.2.1=g'.1∧vs.length=g'.2.length∧St ψ (C7 r n f g c null us A vs g'.2++F) w) (g:=x) ?_ ?_
 ·refine CD hd (fun i (y:Int×Bool×Unit) w g'=>y.1=i∧ ∃(ψ:AD),Sub φ ψ∧y.2.1=g'.1∧vs.length=g'.2.length∧St ψ (C7 r n f g c null us A vs g'.2++F) w) ((0:Int),false,()) rfl ⟨rfl,φ,bZ _,rfl,hvs,s0⟩ ?_ ?_
  ·rintro _ y w ⟨gr,B1⟩ e ⟨rfl,ψ,le,hg,hl1,st⟩ he h0 hlt hw;dsimp only at hg hl1 st he;subst hg;refine AC (x:=t.2.2.1) (Hq (cB.mono le) st 2 _ rfl) rfl<|Aa (by rw [nk];exact decide_eq_true hlt) ?_;obtain ⟨ru,hru,he⟩:=bS he;refine AC (x:=t.2.2.1) (Hq (cB.mono le) st 2 _ rfl) rfl ?_;obtain ⟨D1,cs1,ea1,hi1,q1,cl1⟩:=(k.k2.mono le).get hru;refine AF _ ea1 (AY hi1 ?_);obtain ⟨_,_,rfl,rfl,⟨_,_,rfl,⟨u,rfl,ku⟩,rfl⟩⟩:=q1;refine AC (x:=u) (by rw [Ah];exact AE st.sub (cl1 1 _ rfl)) rfl ?_;have nu:=ku.length;refine Ap (fun (y':Int×Bool×Unit) w g'=>∃(ψ':AD),Sub ψ ψ'∧y'.2.1=g'.1∧vs.length=g'.2.length∧St ψ' (C7 r n f g c null us A vs g'.2++F) w) (g:=e) ?_ ?_
   ·refine CD he (fun i (y':Int×Bool×Unit) w g'=>y'.1=i∧ ∃(ψ':AD),Sub ψ ψ'∧y'.2.1=g'.1∧vs.length=g'.2.length∧St ψ' (C7 r n f g c null us A vs g'.2++F) w) ((0:Int),y.2.1,()) rfl ⟨rfl,ψ,bZ _,rfl,hl1,st⟩ ?_ ?_
    ·rintro _ z w2 ⟨gr2,B2⟩ e2 ⟨rfl,ψ2,le2,hg2,hl2,st2⟩ he2 h02 hlt2 hw2;dsimp only at hg2 hl2 st2 he2;subst hg2;have le02:=le.trans le2;refine Aa (by rw [nu];exact decide_eq_true hlt2) ?_;obtain ⟨s,hs,he2⟩:=bS he2;have kq:=ku.mono le2;have hsym:∀ {K:Int→T} {P:BU→AH→Prop} {w':AH} {ψ':AD} {Γ:List Chk},Sub ψ2 ψ'→St ψ' Γ w'→(K s).wp bW P w'→(deref u.1 fun A=>chk (0≤z.1∧z.1< (u.2.1:Nat))<|eT (.int .i64) (A.add (cN z.1 *1)) K).wp bW P w':=fun {K P w' ψ' Γ} le' st' hK=>Ce (a:=.int .i64) kq hs (eI le' st'.sub) hK;refine Ap (fun (y':Bool×Unit) w (_:Unit)=>y'.1=e2.1∧vs.length=e2.2.length∧ ∃(ψ':AD),Sub ψ ψ'∧St ψ' (C7 r n f g c null us A vs e2.2++F) w) (g:=()) ?_ ?_
     ·refine hsym (bZ _) st2<|AK he2 rfl (fun _ he2=> ?_) (fun _ he2=> ?_)
      ·obtain rfl:=iS he2;exact Mk (z.2.1,()) rfl ⟨rfl,hl2,ψ2,le2,st2⟩
      ·obtain ⟨b,hb,he2⟩:=bS he2;obtain ⟨row,hrow,he2⟩:=bS he2;obtain ⟨pr,hpr,he2⟩:=bS he2;obtain ⟨q,hq,he2⟩:=bS he2;obtain rfl:=iS he2;refine Es (Hq (cB.mono le02) st2) ?_;obtain ⟨q1,kt⟩:=kq.cut (Oj kq (lo:=bT .i64 (z.1+1)) (by rw [hw2];omega) (by rw [hw2];omega)) (sz:=1) rfl;refine AY q1 ?_;rw [←hw2]at hb;refine AI (OR (k.mono le02) (kf.mono le02) hus kt st2 hb) ?_;rintro _ h3 ⟨ψ3,yb,le3,rfl,st3⟩;refine ⟨(yb,b.2,()),rfl,?_⟩;have le03:=le02.trans le3;have le23:=le2.trans le3;obtain ⟨y0,y1,y2⟩:=CL hrow;obtain ⟨kk,hkk⟩:∃k:Nat,bT .i64 (s - nT p)=(k:Int):=⟨_,(cL y0).symm⟩;rw [hkk]at hrow hq ⊢;rw [cA];have hB:=Ns hrow;have hku:kk<vs.length:=by rw [hl2];exact (List.getElem?_eq_some_iff.1 hB).1
       have hu:vs[kk]? =some vs[kk]:=bR hku;have hrowL:∀ {K:Slc→T} {P:BU→AH→Prop} {w':AH} {ψ':AD} {Γ:List Chk},Sub ψ3 ψ'→St ψ' Γ w'→(K vs[kk]).wp bW P w'→(deref g.1 fun A=>chk (0≤(kk:Int)∧(kk:Int) < (g.2.1:Nat))<|eT .slice (A.add (cN (kk:Int) *1)) K).wp bW P w':=fun {K P w' ψ' Γ} le' st' hK=>by
        obtain ⟨D2,cs2,ea2,hi2,r2,cl2⟩:=(kg.mono (le03.trans le')).get (i:=(kk:Int)) (by rw [CI];exact hu);refine AF _ ea2 (AY hi2 ?_);obtain rfl:=r2;exact AC (x:=vs[kk]) (AE st'.sub (cl2 0 _ rfl)) rfl hK
       refine AC (x:=g) (Dq st3.tail (j:=2) rfl) rfl<|hsym le3 st3 ?_;rw [hkk];refine hrowL (bZ _) st3 ?_;obtain ⟨rest,hp⟩:=XQ (r:=r) (n:=n) (f:=f) (g:=g) (c:=c) (null:=null) (us:=us) (A:=A) hu hB;refine AI (CJ (st3.perm ((bU _ (hp F).1).trans (cE _ _ _))) hpr) ?_;rintro _ h10 ⟨ψ10,gw,l10,le10,rfl,hl10,st10⟩;refine ⟨gw,rfl,?_⟩;obtain rfl:(gw,l10)=pr:=hl10;have st11:St ψ10 (C7 r n f g c null us A vs (B2.set kk l10) ++F) h10:=st10.tail.perm ((hp F).2 l10).symm;have le0A:=le03.trans le10;have leA:=le23.trans le10;have hB':(B2.set kk l10)[kk]? =some l10:=by rw [eD];rw [←hl2];exact hku
       refine Aj (fun (y':Bool×Unit) w (_:Unit)=>y'=(z.2.1 || gw,())∧St ψ10 (C7 r n f g c null us A vs (B2.set kk l10) ++F) w) (g:=()) ?_ ?_
       ·cases hz:z.2.1
        ·exact AT rfl (AQ (gw,()) rfl ⟨rfl,st11⟩)
        ·exact Aa rfl (AQ (true,()) rfl ⟨rfl,st11⟩)
       ·rintro _ h4 ⟨rfl,st4⟩;refine Aj (fun (y':Bool×Bool×Unit) w (_:Unit)=>y'.1=(z.2.1 || gw || q.1)∧ ∃ψ',Sub ψ ψ'∧St ψ' (C7 r n f g c null us A vs (B2.set kk q.2) ++F) w) (g:=()) ?_ ?_
        ·refine AK hq rfl (fun _ hq=> ?_) (fun _ hq=> ?_)
         ·obtain ⟨row3,hrow3,hq⟩:=bS hq;obtain ⟨x0,x1,x2⟩:=CL hrow3;obtain ⟨k3,hk3⟩:∃k:Nat,bT .i64 (ru.1 - nT p)=(k:Int):=⟨_,(cL x0).symm⟩;rw [hk3]at hrow3 hq;have hB3:=Ns hrow3;have hku3:k3<vs.length:=by rw [hl2];exact (List.getElem?_eq_some_iff.1 hB3).1
          have hu3:vs[k3]? =some vs[k3]:=bR hku3;refine AC (x:=g) (Dq st4 (j:=2) rfl) rfl<|hsym (le3.trans le10) st4 ?_;rw [hkk];refine hrowL le10 st4<|AC (x:=g) (Dq st4 (j:=2) rfl) rfl<|AC (x:=t.2.2.1) (Hq (cB.mono le0A) st4 2 _ rfl) rfl<|AF _ ea1 (AY hi1 ?_);refine AC (x:=ru.1) (AE st4.sub ((Al leA) (cl1 0 _ rfl))) rfl ?_;rw [hk3];obtain ⟨D2,cs2,ea2,hi2,r2,cl2⟩:=(kg.mono le0A).get (i:=(k3:Int)) (by rw [CI];exact hu3);refine AF _ ea2 (AY hi2 ?_);obtain rfl:=r2;refine AC (x:=vs[k3]) (AE st4.sub (cl2 0 _ rfl)) rfl ?_;by_cases he:kk=k3
          ·subst he;rw [decide_eq_true rfl]at hq;obtain ⟨hlen,hq⟩:=Br hq;obtain rfl:=iS hq;obtain ⟨rest2,hp2⟩:=XQ (r:=r) (n:=n) (f:=f) (g:=g) (c:=c) (null:=null) (us:=us) (A:=A) hu hB';refine AI (U4 (st4.perm (hp2 F).1) hlen) ?_;rintro _ h5 ⟨rfl,st5⟩;refine ⟨false,rfl,?_⟩;exact orT (AQ (z.2.1 || gw || false,false,()) rfl ⟨rfl,ψ10,leA,st5.perm (hp2 F).1.symm⟩)
          ·rw [decide_eq_false (fun e=>he (by omega))]at hq;have hB3':(B2.set kk l10)[k3]? =some row3:=by rw [dJ he];exact hB3
           obtain ⟨rest2,hp2⟩:=Xx (r:=r) (n:=n) (f:=f) (g:=g) (c:=c) (null:=null) (us:=us) (A:=A) he hu hB' hu3 hB3';refine AI (CJ (st4.perm (hp2 F).1) hq) ?_;rintro _ h5 ⟨ψ5,gw5,l5,le5,rfl,hl5,st5⟩;refine ⟨gw5,rfl,?_⟩;obtain rfl:(gw5,l5)=q:=hl5;have st6:=(st5.perm (cE _ _ _)).perm ((hp2 F).2 l5).symm;rw [List.set_set]at st6;exact orT (AQ (z.2.1 || gw || gw5,gw5,()) rfl ⟨rfl,ψ5,leA.trans le5,st6⟩)
         ·obtain rfl:=iS hq;exact AQ (z.2.1 || gw,gw,()) rfl ⟨by simp,ψ10,leA,st4⟩
        ·rintro y' h5 ⟨hy5,ψ5,le5,st5⟩;exact Lc (y'.1,()) rfl ⟨hy5,by rw [cT];exact hl2,ψ5,le5,st5⟩
     ·rintro y' h6 ⟨hy6,hl6,ψ6,le6,st6⟩;exact Ad (bT .i64 (z.1+(1:Int)),y'.1,()) _ rfl rfl ⟨hw2,ψ6,le6,hy6,hl6,st6⟩
    ·rintro _ z w2 ⟨rfl,H⟩ hge;refine AT (by rw [nu];exact decide_eq_false (Int.not_lt.2 hge))<|AJ (AL z rfl H)
   ·rintro z w2 ⟨ψ2,le2,hg2,hl2,st2⟩;exact Ad (bT .i64 (y.1+(1:Int)),z.2.1,()) _ rfl rfl ⟨hw,ψ2,le.trans le2,hg2,hl2,st2⟩
  ·rintro _ y w ⟨rfl,ψ,le,hg,hl1,st⟩ hge;refine AC (x:=t.2.2.1) (Hq (cB.mono le) st 2 _ rfl) rfl<|AT (by rw [nk];exact decide_eq_false (Int.not_lt.2 hge))<|AJ (AL y rfl ⟨ψ,le,hg,hl1,st⟩)
 ·rintro y w ⟨ψ,le,hg,hl1,st⟩;exact hK ψ y w le hg hl1 st
end
abbrev MR:Type:=List Bool×List (List Bool)×List (List Bool)×Int
noncomputable def LX (p:dtP) (null:List Bool) (f0:List (List Bool)):Option MR:=(loop (σ:=Bool×Int×List Bool×List (List Bool)) (β:=Int×List Bool×List (List Bool)) (true,0,null,f0) fun z=>cond z.1 ((NZ p z.2.2.1 z.2.2.2).bind fun r=>some (.next (r.1,bT .i64 (z.2.1+1),r.2))) (some (.done z.2))).bind fun z=>(idx f0 (p.2.1.length:Int)).bind fun row=>(DL row 0 true).bind fun row'=>(loop (σ:=Bool×List (List Bool)) (β:=List (List Bool)) (true,f0.set p.2.1.length row') fun y=>cond y.1 ((LW p z.2.1 z.2.2 y.2).bind fun r=>some (.next r)) (some (.done y.2))).bind fun fo=>some (z.2.1,z.2.2,fo,z.1)
noncomputable def Na (p:dtP):Option MR:=(Dw (bT .i64 ((p.2.1.length:Int)+1)) false).bind fun null=>(CQ p).bind fun f0=>LX p null f0
abbrev U5:Ro MR:=fX (dS bY) (fX (dS (dS bY)) (fX (dS (dS bY)) (cC .i64)))
section
variable {φ ψ φ0:AD}{h:AH}{F:List Chk}{t:Slc×Slc×Slc×Slc×Slc×Slc×Unit}{p:dtP}{r r1:Nat}{n f g:Slc}{us vs:List Slc}
set_option maxHeartbeats 1000000 in
theorem TB {null:List Bool}{f0:List (List Bool)}{P:BU→AH→Prop}(cB:CV φ (some ⟨r1,0,none⟩) (plV t)) (k:PlK φ t p) (kf:Ro.SliceIs dW φ f us) (kg:Ro.SliceIs dW φ g vs) (hus:us.length=f0.length) (hvs:vs.length=f0.length)
 (s0:St φ (C7 r n f g 0 null us f0 vs f0++F) h) {x:MR} (hd:LX p null f0=some x)
 (hK:∀ψ y h',Sub φ ψ→Pt U5 ψ y x→St ψ F h'→P (.ret (.pointer y)) h'):
 (L3 r1 r).wp bW P h:=by
 unfold L3;unfold LX at hd;obtain ⟨z1,hz1,hd⟩:=bS hd;obtain ⟨row,hrow,hd⟩:=bS hd;obtain ⟨row',hrow',hd⟩:=bS hd;obtain ⟨fo,hfo,hd⟩:=bS hd;obtain rfl:=iS hd;have n1:t.2.1.2.1=p.2.1.length:=k.k1.length;refine AC (x:=t.1) (Hq cB s0 0 _ rfl) rfl<|Ap (fun (y:Bool×Unit) w (z:Int×List Bool×List (List Bool))=>∃(ψ:AD),Sub φ ψ∧us.length=z.2.2.length∧St ψ (C7 r n f g z.1 z.2.1 us z.2.2 vs f0++F) w) (g:=z1) ?_ ?_
 ·refine DZ hz1 (fun (y:Bool×Unit) w (z:Bool×Int×List Bool×List (List Bool))=>y.1=z.1∧ ∃(ψ:AD),Sub φ ψ∧us.length=z.2.2.2.length∧St ψ (C7 r n f g z.2.1 z.2.2.1 us z.2.2.2 vs f0++F) w) (true,()) rfl ⟨rfl,φ,bZ _,hus,s0⟩ ?_;rintro y w ⟨mo,c,nu,A⟩ e ⟨hy,ψ,le,hl,st⟩ he hb;dsimp only at hy hl st he;refine AK he hy (fun _ he=> ?_) (fun _ he=> ?_)
  ·obtain ⟨ro,hro,he⟩:=bS he;obtain rfl:=iS he;obtain ⟨rest,hp⟩:=Xv (r:=r) (n:=n) (f:=f) (g:=g) (null:=nu) (us:=us) (A:=A) (vs:=vs) (B:=f0) c;refine AA (b:=r) (j:=3) (x:=c) (st.perm (hp c F)) rfl<|CS (b:=r) (j:=3) (v:=.int .i64 (bT .i64 (c+1))) (st.perm (hp c F)) rfl (by simp) ?_;intro h2 st2;have st3:St ψ (C7 r n f g (bT .i64 (c+1)) nu us A vs f0++F) h2:=st2.perm (hp _ F).symm;refine RO (cB.mono le) (k.mono le) (kf.mono le) hl st3 hro ?_;intro ψ4 y4 h4 le4 hy4 hl4 st4;exact Ad (y4.2.1,()) _ rfl rfl ⟨hy4,ψ4,le.trans le4,hl4,st4⟩
  ·obtain rfl:=iS he;obtain rfl:=hb _ rfl;exact AJ (AL y rfl ⟨ψ,le,hl,st⟩)
 ·rintro y w ⟨ψ,le,hl,st⟩;obtain ⟨c,nu,A⟩:=z1;dsimp only at hl st hfo;refine AC (x:=g) (Dq st (j:=2) rfl) rfl<|AC (x:=t.2.1) (Hq (cB.mono le) st 1 _ rfl) rfl ?_;rw [n1];have hB:=Ns hrow;have hku:p.2.1.length<vs.length:=by rw [hvs];exact (List.getElem?_eq_some_iff.1 hB).1
  have hu:vs[p.2.1.length]? =some vs[p.2.1.length]:=bR hku;obtain ⟨D2,cs2,ea2,hi2,r2,cl2⟩:=(kg.mono le).get (i:=(p.2.1.length:Int)) (by rw [CI];exact hu);refine AF _ ea2 (AY hi2 ?_);obtain rfl:=r2;refine AC (x:=vs[p.2.1.length]) (AE st.sub (cl2 0 _ rfl)) rfl ?_;obtain ⟨rest,hp⟩:=XQ (r:=r) (n:=n) (f:=f) (g:=g) (c:=c) (null:=nu) (us:=us) (A:=A) hu hB;have st2:=st.perm (hp F).1;obtain ⟨D4,ea4,q4⟩:=St.there st2 hrow';refine AF _ ea4 (AY q4 (FO st2 hrow' rfl ea4 ?_));intro h3 st3;have st4:=st3.perm ((hp F).2 row').symm;refine Ap (fun (y:Bool×Unit) w (z:List (List Bool))=>∃(ψ:AD),Sub φ ψ∧vs.length=z.length∧St ψ (C7 r n f g c nu us A vs z++F) w) (g:=fo) ?_ ?_
  ·refine DZ hfo (fun (y:Bool×Unit) w (z:Bool×List (List Bool))=>y.1=z.1∧ ∃(ψ:AD),Sub φ ψ∧vs.length=z.2.length∧St ψ (C7 r n f g c nu us A vs z.2++F) w) (true,()) rfl ⟨rfl,ψ,le,by rw [cT];exact hvs,st4⟩ ?_;rintro y w ⟨mo,B⟩ e ⟨hy,ψ,le,hl2,st⟩ he hb;dsimp only at hy hl2 st he;refine AK he hy (fun _ he=> ?_) (fun _ he=> ?_)
   ·obtain ⟨ro,hro,he⟩:=bS he;obtain rfl:=iS he;refine QL (cB.mono le) (k.mono le) (kf.mono le) (kg.mono le) hl hl2 st hro ?_;intro ψ4 y4 h4 le4 hy4 hl4 st4;exact Ad (y4.2.1,()) _ rfl rfl ⟨hy4,ψ4,le.trans le4,hl4,st4⟩
   ·obtain rfl:=iS he;obtain rfl:=hb _ rfl;exact AJ (AL y rfl ⟨ψ,le,hl2,st⟩)
  ·rintro y w ⟨ψ,le,hl2,st⟩;obtain ⟨ψ1,le1,kn,st1⟩:=cH (t:=n) st;have st2:St ψ1 (rB us A++(rB vs fo++(⟨fC 63,[.pointer (some ⟨r,0,none⟩)],[sv n,sv f,sv g,.int .i64 c]⟩::F))) w:=by
    have e:∀(a b:List Chk) (x:Chk),(a++(b++ [x])) ++F=a++(b++(x::F)):=fun a b x=>by simp [cF]
    rw [←e];exact st1
   obtain ⟨ψ2,le2,kA,st3⟩:=fD hl st2;obtain ⟨ψ3,le3,kB,st4⟩:=fD hl2 st3;obtain ⟨ψ4,le4,kC,st5⟩:=eO st4;have le24:=(le2.trans le3).trans le4;have le34:=le3.trans le4;have le04:=(le.trans le1).trans le24;refine hK ψ4 (some ⟨r,0,none⟩) w le04 ⟨_,_,rfl,?_,kC⟩ st5;refine ⟨[sv n],[sv f,sv g,.int .i64 c],rfl,⟨n,rfl,kn.mono le24⟩,[sv f],[sv g,.int .i64 c],rfl,⟨f,rfl,?_⟩,[sv g],[.int .i64 c],rfl,⟨g,rfl,?_⟩,rfl⟩
   ·exact Kk hl (fun i u l h1 h2=>(kA i u l h1 h2).mono le34) (kf.mono le04)
   ·exact Kk hl2 (fun i u l h1 h2=>(kB i u l h1 h2).mono le4) (kg.mono le04)
theorem U6 (cB:CV φ (some ⟨r1,0,none⟩) (plV t)) (k:PlK φ t p) (le0:Sub φ0 φ) {null:List Bool}{f0:List (List Bool)}(kf:Ro.SliceIs dW φ f us) (kg:Ro.SliceIs dW φ g vs) (hus:us.length=f0.length) (hvs:vs.length=f0.length) {x:MR}(hd:LX p null f0=some x)
 (s0:St φ (cR 4 bY n null::(rB us f0++(rB vs f0++F))) h):
 (T.new (.cells #[.slice n.1 n.2.1 n.2.2,.slice f.1 f.2.1 f.2.2,.slice g.1 g.2.1 g.2.2,.int .i64 (0:Int)] 63 (0,0)) fun r18=>L3 r1 r18).wp bW (MD (Ar fun v h'=>∃ψ:AD,∃y:Option Addr,∃l:MR,Sub φ0 ψ∧v=((.one aP):Sh).val y∧l=x∧Pt U5 ψ y l∧St ψ F h')) h:=by
 refine AV (vs:=[sv n,sv f,sv g,.int .i64 0]) s0 ?_;intro r18 h1 s1;have e:∀(b d:List Chk) (x m:Chk),(x::m::(b++(d++F))).Perm ((m::(b++(d++ [x]))) ++F):=fun b d x m=>by
  have:(m::(b++(d++ [x]))) ++F=(m::(b++d)) ++(x::F):=by simp [cF]
  rw [this];refine List.Perm.trans ?_ List.perm_middle.symm;simp [cF]
 refine TB (n:=n) (f:=f) (g:=g) cB k kf kg hus hvs (s1.perm (e _ _ _ _)) hd ?_;intro ψ y h' le pt st;exact AB ⟨ψ,y,x,le0.trans le,rfl,rfl,pt,st⟩
end
def Hs (l:List Bool) (t:Int):Prop:=0≤t∧l[t.toNat]? =some true
def Hr (ls:List (List Bool)) (k:Nat) (t:Int):Prop:= ∃l,ls[k]? =some l∧Hs l t
def fz (l:List Bool):Nat:=l.countP fun b=> !b
def fzs (ls:List (List Bool)):Nat:=(ls.map fz).sum
theorem U7 {l:List Bool}{k:Nat}(h:l[k]? =some false):fz (l.set k true)+1=fz l:=GI h
theorem R8:∀ {ls:List (List Bool)}{k:Nat}{a b:List Bool},ls[k]? =some a→fzs (ls.set k b)+fz a=fzs ls+fz b:=by
 intro ls
 induction ls with
 |nil=>intro k a b h;simp at h
 |cons x ls ih=>
  intro k a b h;cases k with
  |zero=>
   obtain rfl:x=a:=by simpa using h
   simp only [List.set_cons_zero,fzs,fE,List.sum_cons];omega
  |succ k=>
   have:=ih (k:=k) (a:=a) (b:=b) (by simpa using h)
   simp only [fzs]at this;simp only [fG,fzs,fE,List.sum_cons];omega
theorem RP {l:List Bool}{k:Nat}{t:Int}(h:Hs l t):Hs (l.set k true) t:=by
 refine ⟨h.1,?_⟩;rw [cZ];split
 ·next e=>subst e;rw [if_pos (List.getElem?_eq_some_iff.1 h.2).1]
 ·exact h.2
theorem PB {l:List Bool}{t:Int}(h0:0≤t) (h1:t< (l.length:Int)):Hs (l.set t.toNat true) t:=by
 refine ⟨h0,?_⟩;rw [cZ,if_pos rfl,if_pos (by omega)]
theorem PC {a b:List Bool}(h:a.length=b.length) (hl:b.length≤1000000):Ok (Bd a b) fun r=>r.2.length=a.length∧(∀t,Hs a t∨Hs b t→Hs r.2 t)∧fz r.2≤fz a∧(r.1=true→fz r.2<fz a)∧(r.1=false→r.2=a):=by
 unfold Bd;refine B8 (fun j (z:Bool×List Bool)=>z.2.length=a.length∧(∀t,Hs a t→Hs z.2 t)∧(∀t,t< (j:Int)→Hs b t→Hs z.2 t)∧fz z.2≤fz a∧(z.1=true→fz z.2<fz a)∧(z.1=false→z.2=a)) (by omega) ⟨rfl,fun t ht=>ht,fun t h0 h1=>by have:=h1.1;omega,cK _,(fun e=>by cases e),fun _=>rfl⟩ (fun j z hj hz=> ?_) fun z hz=> ?_
 ·obtain ⟨z1,z2,z3,z4,z5,z6⟩:=hz;have hb:=bR hj;obtain ⟨x,hx⟩:∃x,b[j] =x:=⟨_,rfl⟩;rw [hx]at hb;have hzj:j<z.2.length:=by omega
  have hzz:=bR hzj;obtain ⟨y,hy⟩:∃y,z.2[j] =y:=⟨_,rfl⟩;rw [hy]at hzz;refine AN (Q:=fun c=>c=(x && !y)) (AW hb ?_) fun c hc=> ?_
  ·cases x
   ·exact Ak rfl (AG rfl)
   ·exact Cu rfl (AW hzz (AG rfl))
  refine AN (Q:=fun (e:Bool×List Bool)=>e=if (x && !y)=true then (true,z.2.set j true) else z) ?_ fun e he=>AG ?_
  ·refine Ae (fun h=> ?_) fun h=> ?_
   ·rw [hc]at h;rw [if_pos h];refine Ek (by omega) (by omega) (AG ?_);rw [cA]
   ·rw [hc]at h;rw [if_neg (by rw [h];simp)];exact AG rfl
  ·subst he;split
   ·next hxy=>
    rw [dY]at hxy;obtain ⟨rfl,hy2⟩:=hxy;obtain rfl:y=false:=by simpa using hy2
    have hf:=U7 hzz;refine ⟨by simp [z1],fun t ht=>RP (z2 t ht),fun t h0 h1=> ?_,by dsimp only;omega,fun _=>by dsimp only;omega,fun e=>by cases e⟩;by_cases e:t=(j:Int)
    ·subst e
     have:=PB (l:=z.2) (t:=(j:Int)) (by omega) (by omega)
     rwa [cA]at this
    ·exact RP (z3 t (by omega) h1)
   ·next hxy=>
    refine ⟨z1,z2,fun t h0 h1=> ?_,z4,z5,z6⟩;by_cases e:t=(j:Int)
    ·subst e;have h2:=h1.2;rw [cA,hb]at h2;obtain rfl:x=true:=by simpa using h2
     refine ⟨by omega,?_⟩;rw [cA,hzz];cases y
     ·simp at hxy
     ·rfl
    ·exact z3 t (by omega) h1
 ·obtain ⟨z1,z2,z3,z4,z5,z6⟩:=hz;refine AG ⟨z1,fun t ht=> ?_,z4,z5,z6⟩;rcases ht with ht | ht
  ·exact z2 t ht
  ·have h2:=(List.getElem?_eq_some_iff.1 ht.2).1
   have:=ht.1
   exact z3 t (by omega) ht
theorem Nb {α:Type}{n:Int}{x:α}(h0:0≤n) (h1:n≤1073741824):Dw n x=some (cU n.toNat x):=if_pos ⟨h0,h1⟩
def Bg (nt:Int) (null:List Bool) (first:List (List Bool)):List Int→Int→Prop
 | [],_=>False
 |s::l,t=>if s<nt then t=s else Hr first (s - nt).toNat t∨(null[(s - nt).toNat]? =some true∧Bg nt null first l t)
def Bn (nt:Int) (null:List Bool):List Int→Prop
 | [] =>True
 |s::l=>nt≤s∧null[(s - nt).toNat]? =some true∧Bn nt null l
structure ShT (N m:Nat) (null:List Bool) (first:List (List Bool)):Prop where
 n:null.length=m
 f:first.length=m
 w:∀l∈first,l.length=N
theorem QM {N m:Nat}{null:List Bool}{first:List (List Bool)}(S:ShT N m null first) (hN:N≤1000) (hm:m≤1001) {seq:List Int}(hs:∀s∈seq,0≤s∧s< (N:Int)+(m:Int)) (hl:seq.length≤1000):
 Ok (L4 (N:Int) null first seq) fun r=>r.1.length=N∧(∀t,Bg (N:Int) null first seq t→Hs r.1 t)∧(Bn (N:Int) null seq→r.2=true):=by
 unfold L4;refine AS (Nb (by omega) (by omega)) ?_;rw [cA];refine Gb (fun j (out:List Bool)=>out.length=N∧(∀t,Bg (N:Int) null first seq t→Hs out t∨Bg (N:Int) null first (seq.drop j) t)∧(Bn (N:Int) null seq→Bn (N:Int) null (seq.drop j))) (fun (r:List Bool×Bool)=>r.1.length=N∧(∀t,Bg (N:Int) null first seq t→Hs r.1 t)∧ ¬Bn (N:Int) null seq) (by omega) ⟨by simp,fun t ht=>.inr ht,fun h=>h⟩ (fun j out hj hz=> ?_) (fun out hz=> ?_) fun b hb=> ?_
 ·obtain ⟨z1,z2,z3⟩:=hz;have hx:=bR hj;obtain ⟨s,hse⟩:∃s,seq[j] =s:=⟨_,rfl⟩;rw [hse]at hx;obtain ⟨s0,s1⟩:=hs s (bX hx);have hd:=Ma hx;refine AW hx ?_;by_cases hlt:s< (N:Int)
  ·refine Cu (by rw [decide_eq_true s0,decide_eq_true hlt];rfl) (Ek s0 (by omega) (Bj ⟨by simp [z1],fun t ht=> ?_,fun hn=> ?_⟩))
   ·rcases z2 t ht with h | h
    ·exact RP h
    ·rw [hd]at h;unfold Bg at h;rw [if_pos hlt]at h;subst h;exact PB s0 (by omega)
   ·have:=z3 hn
    rw [hd]at this
    have:=this.1
    omega
  ·refine Ak (by rw [decide_eq_false hlt,Bool.and_false]) ?_;have hw:bT .i64 (s - (N:Int))=s - (N:Int):=w64 (by omega) (by omega);rw [hw];have hk:(s - (N:Int)).toNat<m:=by omega
   have hfr:=bR (l:=first) (i:=(s - (N:Int)).toNat) (by rw [S.f];exact hk);have hnl:=bR (l:=null) (i:=(s - (N:Int)).toNat) (by rw [S.n];exact hk);have hrl:=S.w _ (bX hfr);obtain ⟨row,hrow⟩:∃row,first[(s - (N:Int)).toNat]'(by rw [S.f];exact hk)=row:=⟨_,rfl⟩;obtain ⟨nl,hnle⟩:∃nl,null[(s - (N:Int)).toNat]'(by rw [S.n];exact hk)=nl:=⟨_,rfl⟩;rw [hrow]at hfr hrl;rw [hnle]at hnl;have hSn:=S.n;refine Ak (by rw [decide_eq_false (by omega),decide_eq_false (by omega)];rfl) (DC (by omega) hfr (AN (PC (by omega) (by omega)) fun r hr=>DC (by omega) hnl ?_));obtain ⟨r1,r2,_,_,_⟩:=hr;refine Ae (fun hb=> ?_) fun hb=> ?_
   ·subst hb;refine CX ⟨by omega,fun t ht=> ?_,fun hn=> ?_⟩
    ·rcases z2 t ht with h | h
     ·exact .inl (r2 t (.inl h))
     ·rw [hd]at h;unfold Bg at h;rw [if_neg hlt]at h;rcases h with ⟨l,h1,h2⟩|⟨_,h⟩
      ·rw [hfr]at h1;cases h1;exact .inl (r2 t (.inr h2))
      ·exact .inr h
    ·have:=z3 hn
     rw [hd]at this;exact this.2.2
   ·subst hb;refine Bj ⟨by dsimp only;omega,fun t ht=> ?_,fun hn=> ?_⟩
    ·rcases z2 t ht with h | h
     ·exact r2 t (.inl h)
     ·rw [hd]at h;unfold Bg at h;rw [if_neg hlt]at h;rcases h with ⟨l,h1,h2⟩|⟨h,_⟩
      ·rw [hfr]at h1;cases h1;exact r2 t (.inr h2)
      ·rw [hnl]at h;cases h
    ·have:=z3 hn
     rw [hd]at this
     have:=this.2.1
     rw [hnl]at this;cases this
 ·obtain ⟨z1,z2,z3⟩:=hz;refine AG ⟨z1,fun t ht=> ?_,fun _=>rfl⟩;rcases z2 t ht with h | h
  ·exact h
  ·rw [List.drop_of_length_le (cK _)]at h;exact h.elim
 ·exact AG ⟨hb.1,hb.2.1,fun h=>(hb.2.2 h).elim⟩
section
variable {p:dtP}
theorem U8 {α:Type}{o:Option α}{P:α→Prop}(h:Ok (o.bind some) P):Ok o P:=by cases o<;>exact h
def Cl1 (p:dtP) (null:List Bool) (first:List (List Bool)) (ru:Ay):Prop:=
 (∀t,Bg (nT p) null first ru.2.1 t→Hr first (ru.1 - nT p).toNat t)∧(Bn (nT p) null ru.2.1→null[(ru.1 - nT p).toNat]? =some true)
def Cl2 (p:dtP) (null:List Bool) (first follow:List (List Bool)) (ru:Ay) (j:Nat):Prop:=
 ∀s,ru.2.1[j]? =some s→nT p≤s→(∀t,Bg (nT p) null first (ru.2.1.drop (j+1)) t→Hr follow (s - nT p).toNat t)∧(Bn (nT p) null (ru.2.1.drop (j+1))→ ∀t,Hr follow (ru.1 - nT p).toNat t→Hr follow (s - nT p).toNat t)
def PD (null:List Bool) (first:List (List Bool)):Nat:=fz null+fzs first
theorem XR {N m:Nat}{null null':List Bool}{first:List (List Bool)}(S:ShT N m null first) {k:Nat}{l:List Bool}(hl:l.length=N) (hn:null'.length=null.length):ShT N m null' (first.set k l):=
 ⟨hn.trans S.n,by rw [cT];exact S.f,fun x hx=>by
  rcases dE hx with h | rfl
  ·exact S.w x h
  ·exact hl⟩
set_option maxHeartbeats 1000000 in
theorem RQ (H:Sy p) {null:List Bool}{first:List (List Bool)}(S:ShT p.1.length (p.2.1.length+1) null first):
 Ok (NZ p null first) fun r=>ShT p.1.length (p.2.1.length+1) r.2.1 r.2.2∧(r.1=true→PD r.2.1 r.2.2<PD null first)∧(r.1=false→r.2=(null,first)∧ ∀ru∈p.2.2.1,Cl1 p null first ru):=by
 unfold NZ;have hT:=H.t1;have hV:=H.v1;have hF:=H.few;refine U8 (B8 (fun j (z:Bool×List Bool×List (List Bool))=>ShT p.1.length (p.2.1.length+1) z.2.1 z.2.2∧PD z.2.1 z.2.2≤PD null first∧(z.1=true→PD z.2.1 z.2.2<PD null first)∧(z.1=false→z.2=(null,first)∧ ∀(i:Nat) ru,i<j→p.2.2.1[i]? =some ru→Cl1 p null first ru))
  (by omega) ⟨S,cK _,(fun e=>by cases e),fun _=>⟨rfl,fun i ru hi=>by omega⟩⟩ (fun j z hj hz=> ?_) fun x hx2=>AG ⟨hx2.1,hx2.2.2.1,fun e=>⟨(hx2.2.2.2 e).1,fun ru hru=> ?_⟩⟩)
 ·obtain ⟨z1,z2,z3,z4⟩:=hz;have hx:=bR hj;obtain ⟨ru,hru⟩:∃ru,p.2.2.1[j] =ru:=⟨_,rfl⟩;rw [hru]at hx;have hmem:=bX hx;obtain ⟨l0,l1⟩:=H.left ru hmem;have hnT:nT p=(p.1.length:Int):=rfl;refine AW hx (AN (QM z1 (by omega) (by omega) (fun s hs=> ?_) (H.short ru hmem)) fun b hb=> ?_)
  ·have:=H.right ru hmem s hs
   rw [hnT]at this;omega
  obtain ⟨b1,b2,b3⟩:=hb;have hw:bT .i64 (ru.1 - nT p)=ru.1 - nT p:=w64 (by omega) (by omega);rw [hw];obtain ⟨k,hk⟩:∃k:Nat,ru.1 - nT p=(k:Int):=⟨_,(cL (by omega)).symm⟩;have hkm:k<p.2.1.length+1:=by omega
  rw [hk,cA];have hfr:=bR (l:=z.2.2) (i:=k) (by rw [z1.f];exact hkm);have hnl:=bR (l:=z.2.1) (i:=k) (by rw [z1.n];exact hkm);have hrl:=z1.w _ (bX hfr);obtain ⟨row,hrow⟩:∃row,z.2.2[k]'(by rw [z1.f];exact hkm)=row:=⟨_,rfl⟩;obtain ⟨nl,hnle⟩:∃nl,z.2.1[k]'(by rw [z1.n];exact hkm)=nl:=⟨_,rfl⟩;rw [hrow]at hfr hrl;rw [hnle]at hnl;have hzn:=z1.n;refine AW hfr (AN (PC (by omega) (by omega)) fun r hr=>AW hnl (Ek (by omega) (by omega) (AG ?_)));obtain ⟨r1,r2,r3,r4,r5⟩:=hr;rw [cA];have hs1:=R8 (b:=r.2) hfr;have hs2:fz (z.2.1.set k (nl || b.2)) ≤fz z.2.1∧((b.2 && !nl)=true→fz (z.2.1.set k (nl || b.2)) <fz z.2.1)∧((b.2 && !nl)=false→z.2.1.set k (nl || b.2)=z.2.1):=by
   cases nl with
   |true=>
    rw [Bool.true_or,GL hnl];exact ⟨cK _,fun h=>by simp at h,fun _=>rfl⟩
   |false=>
    cases hb2:b.2 with
    |true=>
     have:=U7 hnl
     rw [fF];exact ⟨by omega,fun _=>by omega,fun h=>by simp at h⟩
    |false=>
     rw [fF,GL hnl];exact ⟨cK _,fun h=>by simp at h,fun _=>rfl⟩
  refine ⟨XR z1 (r1.trans hrl) (by simp),?_,?_,?_⟩
  ·unfold PD at z2 ⊢;dsimp only;omega
  ·dsimp only;intro e;unfold PD at z2 z3 ⊢;rcases dR _ _ |>.mp e with e | e
   ·rcases dR _ _ |>.mp e with e | e
    ·have:=z3 e
     omega
    ·have:=r4 e
     omega
   ·have:=hs2.2.1 e
    omega
  ·dsimp only;intro e;rw [cV,cV]at e;obtain ⟨⟨e1,e2⟩,e3⟩:=e;obtain ⟨g1,g2⟩:=z4 e1;have hr5:=r5 e2;rw [hr5,GL hfr,hs2.2.2 e3];refine ⟨g1,fun i ru' hi h'=> ?_⟩;rcases Nat.lt_succ_iff_lt_or_eq.1 hi with h | rfl
   ·exact g2 i ru' h h'
   ·rw [hx]at h';cases h';have gn:z.2.1=null:=congrArg Prod.fst g1;have gf:z.2.2=first:=congrArg Prod.snd g1;rw [gn,gf]at b2;rw [gn]at b3 hnl;rw [gf]at hfr;unfold Cl1;rw [hk,cA];refine ⟨fun t ht=>⟨row,hfr,?_⟩,fun hn=> ?_⟩
    ·have:=r2 t (.inr (b2 t ht))
     rwa [hr5]at this
    ·have:=b3 hn
     rw [this]at e3;rw [hnl];cases nl
     ·simp at e3
     ·rfl
 ·obtain ⟨i,hi⟩:=cY hru;exact (hx2.2.2.2 e).2 i ru (List.getElem?_eq_some_iff.1 hi).1 hi
end
section
variable {p:dtP}
structure Iw (p:dtP) (follow:List (List Bool)) (C:Prop) (z:Bool×List (List Bool)):Prop where
 f:z.2.length=p.2.1.length+1
 w:∀l∈z.2,l.length=p.1.length
 up:∀k t,Hr follow k t→Hr z.2 k t
 le:fzs z.2≤fzs follow
 lt:z.1=true→fzs z.2<fzs follow
 eq:z.1=false→z.2=follow∧C
theorem XS {ls:List (List Bool)}{k:Nat}{a b:List Bool}(h:ls[k]? =some a) (hab:∀t,Hs a t→Hs b t) {i:Nat}{t:Int}(H:Hr ls i t):Hr (ls.set k b) i t:=by
 obtain ⟨l,h1,h2⟩:=H;by_cases e:k=i
 ·subst e;rw [h]at h1;cases h1;exact ⟨b,by rw [cZ,if_pos rfl,if_pos (List.getElem?_eq_some_iff.1 h).1],hab t h2⟩
 ·exact ⟨l,by rw [dJ e];exact h1,h2⟩
set_option maxHeartbeats 1000000 in
theorem QN (H:Sy p) {null:List Bool}{first follow:List (List Bool)}(S:ShT p.1.length (p.2.1.length+1) null first) (hf:follow.length=p.2.1.length+1) (hw:∀l∈follow,l.length=p.1.length):
 Ok (LW p null first follow) (Iw p follow (∀ru∈p.2.2.1,∀j,Cl2 p null first follow ru j)):=by
 unfold LW;have hT:=H.t1;have hV:=H.v1;have hF:=H.few;have hnT:nT p=(p.1.length:Int):=rfl;refine U8 (B8 (fun i=>Iw p follow (∀(i':Nat) ru,i'<i→p.2.2.1[i']? =some ru→ ∀j,Cl2 p null first follow ru j)) (by omega) ⟨hf,hw,fun _ _ h=>h,cK _,(fun e=>by cases e),fun _=>⟨rfl,fun i' ru hi=>by omega⟩⟩ (fun i y hi hy=> ?_) fun x hx=>AG ⟨hx.f,hx.w,hx.up,hx.le,hx.lt,fun e=>⟨(hx.eq e).1,fun ru hru=> ?_⟩⟩)
 ·have hx:=bR hi;obtain ⟨ru,hru⟩:∃ru,p.2.2.1[i] =ru:=⟨_,rfl⟩;rw [hru]at hx;have hmem:=bX hx;obtain ⟨l0,l1⟩:=H.left ru hmem;have hsh:=H.short ru hmem;refine AW hx (U8 (B8 (fun j=>Iw p follow ((∀(i':Nat) ru,i'<i→p.2.2.1[i']? =some ru→ ∀j,Cl2 p null first follow ru j)∧ ∀j':Nat,j'<j→Cl2 p null first follow ru j')) (by omega) ⟨hy.f,hy.w,hy.up,hy.le,hy.lt,fun e=>⟨(hy.eq e).1,(hy.eq e).2,fun j' h=>by omega⟩⟩ (fun j z hj hz=> ?_) fun x hx'=>AG ⟨hx'.f,hx'.w,hx'.up,hx'.le,hx'.lt,fun e=>⟨(hx'.eq e).1,fun i' ru' hi' hr'=> ?_⟩⟩))
  ·have hxs:=bR hj;obtain ⟨s,hse⟩:∃s,ru.2.1[j] =s:=⟨_,rfl⟩;rw [hse]at hxs;obtain ⟨s0,s1⟩:=H.right ru hmem s (bX hxs);refine AW hxs (Ae (fun hlt=>AG ?_) fun hlt=> ?_)
   ·have hlt:=of_decide_eq_true hlt;refine ⟨hz.f,hz.w,hz.up,hz.le,hz.lt,fun e=>⟨(hz.eq e).1,(hz.eq e).2.1,fun j' h=> ?_⟩⟩;rcases Nat.lt_succ_iff_lt_or_eq.1 h with h | rfl
    ·exact (hz.eq e).2.2 j' h
    ·intro s' h' hn;rw [hxs]at h';cases h';omega
   ·have hlt:=of_decide_eq_false hlt;have hdr:(ru.2.1.drop (((j:Nat):Int)+1).toNat)=ru.2.1.drop (j+1):=by rw [show (((j:Nat):Int)+1).toNat=j+1 by omega]
    rw [hdr];refine AN (QM S (by omega) (by omega) (fun x hx=> ?_) (by rw [List.length_drop];omega)) fun b hb=> ?_
    ·have:=H.right ru hmem x (fA hx)
     rw [hnT]at this;omega
    obtain ⟨b1,b2,b3⟩:=hb;have hw1:bT .i64 (s - nT p)=s - nT p:=w64 (by omega) (by omega);have hw2:bT .i64 (ru.1 - nT p)=ru.1 - nT p:=w64 (by omega) (by omega);rw [hw1,hw2];obtain ⟨k,hk⟩:∃k:Nat,s - nT p=(k:Int):=⟨_,(cL (by omega)).symm⟩;obtain ⟨k3,hk3⟩:∃k:Nat,ru.1 - nT p=(k:Int):=⟨_,(cL (by omega)).symm⟩;have hkm:k<p.2.1.length+1:=by omega
    have hkm3:k3<p.2.1.length+1:=by omega
    rw [hk,hk3,cA];have hfr:=bR (l:=z.2) (i:=k) (by rw [hz.f];exact hkm);have hfr3:=bR (l:=z.2) (i:=k3) (by rw [hz.f];exact hkm3);have hrl:=hz.w _ (bX hfr);have hrl3:=hz.w _ (bX hfr3);obtain ⟨row,hrow⟩:∃row,z.2[k]'(by rw [hz.f];exact hkm)=row:=⟨_,rfl⟩;obtain ⟨row3,hrow3⟩:∃row,z.2[k3]'(by rw [hz.f];exact hkm3)=row:=⟨_,rfl⟩;rw [hrow]at hfr hrl;rw [hrow3]at hfr3 hrl3;refine AW hfr (AN (PC (by omega) (by omega)) fun r hr=> ?_);obtain ⟨r1,r2,r3,r4,r5⟩:=hr;refine AN (Q:=fun (q:Bool×List Bool)=>q.2.length=p.1.length∧(∀t,Hs r.2 t→Hs q.2 t)∧(b.2=true→k≠k3→ ∀t,Hs row3 t→Hs q.2 t)∧fz q.2≤fz r.2∧(q.1=true→fz q.2<fz r.2)∧(q.1=false→q.2=r.2)) ?_ fun q hq=>AG ?_
    ·refine Ae (fun hb2=>AW hfr3 (Ae (fun he=> ?_) fun he=> ?_)) fun hb2=>AG ⟨r1.trans hrl,fun t h=>h,(fun e=>by rw [hb2]at e;cases e),cK _,(fun e=>by cases e),fun _=>rfl⟩
     ·have he:=of_decide_eq_true he;exact Ba (by omega) (AG ⟨r1.trans hrl,fun t h=>h,fun _ hne=>(hne (by omega)).elim,cK _,(fun e=>by cases e),fun _=>rfl⟩)
     ·refine (PC (by omega) (by omega)).mono fun q hq=> ?_;obtain ⟨q1,q2,q3,q4,q5⟩:=hq;exact ⟨by omega,fun t h=>q2 t (.inl h),fun _ _ t h=>q2 t (.inr h),q3,q4,q5⟩
    obtain ⟨q1,q2,q3,q4,q5,q6⟩:=hq;have hs1:=R8 (b:=q.2) hfr;have hle:=hz.le;refine ⟨by rw [cT];exact hz.f,fun x hx=> ?_,fun k' t h=>XS hfr (fun t h=>q2 t (r2 t (.inl h))) (hz.up k' t h),by dsimp only;omega,?_,?_⟩
    ·rcases dE hx with h | rfl
     ·exact hz.w x h
     ·exact q1
    ·dsimp only;intro e;rcases dR _ _ |>.mp e with e | e
     ·rcases dR _ _ |>.mp e with e | e
      ·have:=hz.lt e
       omega
      ·have:=r4 e
       omega
     ·have:=q5 e
      omega
    ·dsimp only;intro e;rw [cV,cV]at e;obtain ⟨⟨e1,e2⟩,e3⟩:=e;obtain ⟨g1,g2,g3⟩:=hz.eq e1;have h5:=r5 e2;have h6:=(q6 e3).trans h5;rw [h6,GL hfr];refine ⟨g1,g2,fun j' h=> ?_⟩;rcases Nat.lt_succ_iff_lt_or_eq.1 h with h | rfl
     ·exact g3 j' h
     ·intro s' h' hn;rw [hxs]at h';cases h';rw [hk,hk3,cA,cA];rw [g1]at hfr hfr3;refine ⟨fun t ht=>⟨row,hfr,?_⟩,fun hbn t ht=> ?_⟩
      ·have:=q2 t (r2 t (.inr (b2 t ht)))
       rwa [h6]at this
      ·obtain ⟨l,hl1,hl2⟩:=ht;by_cases hkk:k=k3
       ·subst hkk;exact ⟨l,hl1,hl2⟩
       ·rw [hfr3]at hl1;cases hl1
        have:=q3 (b3 hbn) hkk t hl2
        rw [h6]at this;exact ⟨row,hfr,this⟩
  ·rcases Nat.lt_succ_iff_lt_or_eq.1 hi' with h | rfl
   ·exact (hx'.eq e).2.1 i' ru' h hr'
   ·rw [hx]at hr';cases hr';intro j s h hn;exact (hx'.eq e).2.2 j (List.getElem?_eq_some_iff.1 h).1 s h hn
 ·obtain ⟨i,hi⟩:=cY hru;exact (hx.eq e).2 i ru (List.getElem?_eq_some_iff.1 hi).1 hi
end
section
variable {p:dtP}
theorem U9 (H:Sy p):Ok (CQ p) fun f=>f.length=p.2.1.length+1∧ ∀l∈f,l.length=p.1.length:=by
 have hT:=H.t1;have hV:=H.v1;unfold CQ;refine C4 (fun (z:Int×List (List Bool))=>z.1=(z.2.length:Int)∧z.2.length≤p.2.1.length+1∧ ∀l∈z.2,l.length=p.1.length) (fun z=>p.2.1.length+1 - z.2.length) (fun (f:List (List Bool))=>f.length=p.2.1.length+1∧ ∀l∈f,l.length=p.1.length) ⟨rfl,by simp,fun l h=>by cases h⟩ (fun z hz=> ?_) fun b hb=>AG hb;obtain ⟨z1,z2,z3⟩:=hz;refine Ae (fun h=> ?_) fun h=> ?_
 ·have h:=of_decide_eq_true h;refine AS (Nb (by omega) (by omega)) (Bo (by simp;omega) ⟨_,rfl,.inl ⟨_,rfl,⟨?_,?_,fun l hl=> ?_⟩,?_⟩⟩)
  ·dsimp only;rw [w64 (by omega) (by omega),dP,z1];simp
  ·dsimp only;rw [dP];simp;omega
  ·rcases List.mem_append.1 hl with h | h
   ·exact z3 l h
   ·obtain rfl:l=_:=List.mem_singleton.1 h;simp
  ·dsimp only;rw [dP];simp;omega
 ·have h:=of_decide_eq_false h;exact ⟨_,rfl,.inr ⟨_,rfl,by omega,z3⟩⟩
theorem VA (H:Sy p) {st:Int}(h0:p.2.2.1[0]? =some (nT p+(p.2.1.length:Int),[st],0)):
 Ok (Na p) fun x=>x.2.2.1.length=p.2.1.length+1∧(∀l∈x.2.2.1,l.length=p.1.length)∧ ∀a t,nT p≤a→Fw (nT p) p.2.2.1 a t→Hr x.2.2.1 (a - nT p).toNat t:=by
 have hT:=H.t1;have hV:=H.v1;have hnT:nT p=(p.1.length:Int):=rfl;unfold Na LX;have hw:bT .i64 ((p.2.1.length:Int)+1)=((p.2.1.length+1:Nat):Int):=by rw [w64 (by omega) (by omega)];omega
 rw [hw];refine AS (Nb (by omega) (by omega)) (AN (U9 H) fun f0 hf0=> ?_);rw [cA];obtain ⟨f1,f2⟩:=hf0;refine C4 (fun (z:Bool×Int×List Bool×List (List Bool))=>ShT p.1.length (p.2.1.length+1) z.2.2.1 z.2.2.2∧(z.1=false→ ∀ru∈p.2.2.1,Cl1 p z.2.2.1 z.2.2.2 ru)) (fun z=>2 *PD z.2.2.1 z.2.2.2+cond z.1 1 0) (fun (z:Int×List Bool×List (List Bool))=>ShT p.1.length (p.2.1.length+1) z.2.1 z.2.2∧ ∀ru∈p.2.2.1,Cl1 p z.2.1 z.2.2 ru) ⟨⟨by simp,f1,f2⟩,fun e=>by cases e⟩ (fun z hz=> ?_) fun z hz=> ?_
 ·obtain ⟨z1,z2⟩:=hz;refine Ae (fun h=>AN (RQ H z1) fun r hr=> ?_) fun h=> ?_
  ·obtain ⟨r1,r2,r3⟩:=hr;refine ⟨_,rfl,.inl ⟨_,rfl,⟨r1,fun e=> ?_⟩,?_⟩⟩
   ·obtain ⟨g1,g2⟩:=r3 e;rw [g1];exact g2
   ·dsimp only;rw [h];cases hr1:r.1 with
    |true=>
     have:=r2 hr1
     simp only [cond_true];omega
    |false=>
     rw [(r3 hr1).1];simp
  ·exact ⟨_,rfl,.inr ⟨_,rfl,z1,z2 h⟩⟩
 ·obtain ⟨S,hc⟩:=hz;have hk:p.2.1.length<f0.length:=by omega
  have hrow:=bR hk;obtain ⟨row,hre⟩:∃row,f0[p.2.1.length] =row:=⟨_,rfl⟩;rw [hre]at hrow;have hrl:=f2 row (bX hrow);refine AW hrow (Ek (by omega) (by omega) ?_);have hz0:Hs (row.set (0:Int).toNat true) 0:=PB (by omega) (by omega);refine C4 (fun (y:Bool×List (List Bool))=>y.2.length=p.2.1.length+1∧(∀l∈y.2,l.length=p.1.length)∧Hr y.2 p.2.1.length 0∧(y.1=false→ ∀ru∈p.2.2.1,∀j,Cl2 p z.2.1 z.2.2 y.2 ru j)) (fun y=>2 *fzs y.2+cond y.1 1 0) (fun (y:List (List Bool))=>y.length=p.2.1.length+1∧(∀l∈y,l.length=p.1.length)∧Hr y p.2.1.length 0∧ ∀ru∈p.2.2.1,∀j,Cl2 p z.2.1 z.2.2 y ru j) ⟨by rw [cT];exact f1,fun l hl=> ?_,⟨_,by rw [cZ,if_pos rfl,if_pos hk],hz0⟩,fun e=>by cases e⟩ (fun y hy=> ?_) fun y hy=>AG ?_
  ·rcases dE hl with h | rfl
   ·exact f2 l h
   ·rw [cT];exact hrl
  ·obtain ⟨y1,y2,y3,y4⟩:=hy;refine Ae (fun h=>AN (QN H S y1 y2) fun r hr=> ?_) fun h=> ?_
   ·refine ⟨_,rfl,.inl ⟨_,rfl,⟨hr.f,hr.w,hr.up _ _ y3,fun e=> ?_⟩,?_⟩⟩
    ·obtain ⟨g1,g2⟩:=hr.eq e;rw [g1];exact g2
    ·rw [h];cases hr1:r.1 with
     |true=>
      have:=hr.lt hr1
      simp only [cond_true];omega
     |false=>
      rw [(hr.eq hr1).1];simp
   ·exact ⟨_,rfl,.inr ⟨_,rfl,y1,y2,y3,y4 h⟩⟩
  ·obtain ⟨y1,y2,y3,y4⟩:=hy;refine ⟨y1,y2,?_⟩;dsimp only;have hnul:∀ {s:Int},Nul p.2.2.1 s→nT p≤s∧z.2.1[(s - nT p).toNat]? =some true:=by
    intro s h
    induction h with
    | @rule r hr hall ih=>
     refine ⟨(H.left r hr).1,(hc r hr).2 ?_⟩
     have:∀l:List Int,(∀s∈l,nT p≤s∧z.2.1[(s - nT p).toNat]? =some true)→Bn (nT p) z.2.1 l:=by
      intro l
      induction l with
      |nil=>intro _;trivial
      |cons a l ih=>intro h;exact ⟨(h a (by simp)).1,(h a (by simp)).2,ih fun s hs=>h s (fB _ hs)⟩
     exact this _ ih
   have hbn:∀l:List Int,(∀s∈l,Nul p.2.2.1 s)→Bn (nT p) z.2.1 l:=by
    intro l
    induction l with
    |nil=>intro _;trivial
    |cons a l ih=>intro h;exact ⟨(hnul (h a (by simp))).1,(hnul (h a (by simp))).2,ih fun s hs=>h s (fB _ hs)⟩
   have hfs:∀ {l:List Int} {t:Int},Fs (nT p) p.2.2.1 l t→Bg (nT p) z.2.1 z.2.2 l t:=by
    intro l t h
    induction h with
    |term hs=>unfold Bg;rw [if_pos hs]
    | @var s t l r hr he _ ih=>
     have hl:=(H.left r hr).1;unfold Bg;rw [if_neg (by omega),←he];exact .inl ((hc r hr).1 t ih)
    | @skip s t l hn _ ih=>
     obtain ⟨n1,n2⟩:=hnul hn;unfold Bg;rw [if_neg (by omega)];exact .inr ⟨n2,ih⟩
   intro a t ha hfw
   induction hfw with
   | @zero r hr=>
    rw [h0]at hr;cases hr;dsimp only;rw [show (nT p+(p.2.1.length:Int) - nT p).toNat=p.2.1.length by omega];exact y3
   | @first r b g a t hr he hf=>
    have hj:r.2.1[b.length]? =some a:=by rw [he];simp
    have hd:r.2.1.drop (b.length+1)=g:=by rw [he];simp
    exact ((y4 r hr b.length) a hj ha).1 t (by rw [hd];exact hfs hf)
   | @left r b g a t hr he hg _ ih=>
    have hj:r.2.1[b.length]? =some a:=by rw [he];simp
    have hd:r.2.1.drop (b.length+1)=g:=by rw [he];simp
    exact ((y4 r hr b.length) a hj ha).2 (by rw [hd];exact hbn g hg) t (ih (H.left r hr).1)
end
section
variable {φ ψ φ0:AD}{h:AH}{F:List Chk}{p_0:Slc×Slc×Slc×Slc×Slc×Slc×Unit}{d0:List ByteArray}{d1:List ByteArray}{d2:List Ay}{d3:List Int}{d4:List Int}{d5:List ByteArray}
theorem Xy (n:Chk) (B D G:List Chk):(D++(B++(n::G))).Perm (n::(B++(D++G))):=
 (dV _ _ _).trans ((cP B cD).trans cD)
theorem Xz (n:Chk) (B D G:List Chk):(D++(n::(B++G))).Perm (n::(B++(D++G))):=
 List.perm_middle.trans (bU _ (dV _ _ _))
theorem X2 (n:Chk) (B D G:List Chk):(n::(D++(B++G))).Perm (n::(B++(D++G))):=
 bU _ (dV _ _ _)
set_option maxHeartbeats 2000000 in
theorem TC (k0:Ro.SliceIs dD φ p_0.1 d0) (k1:Ro.SliceIs dD φ p_0.2.1 d1) (k2:Ro.SliceIs CR φ p_0.2.2.1 d2) (k3:Ro.SliceIs (cC .i64) φ p_0.2.2.2.1 d3) (k4:Ro.SliceIs (cC .i64) φ p_0.2.2.2.2.1 d4) (k5:Ro.SliceIs dD φ p_0.2.2.2.2.2.1 d5) (s0:St φ F h) {r:MR}(hd:Na (d0,d1,d2,d3,d4,d5)=some r):
 CallsH bW 29 [.agg #[.slice p_0.1.1 p_0.1.2.1 p_0.1.2.2,.slice p_0.2.1.1 p_0.2.1.2.1 p_0.2.1.2.2,.slice p_0.2.2.1.1 p_0.2.2.1.2.1 p_0.2.2.1.2.2,.slice p_0.2.2.2.1.1 p_0.2.2.2.1.2.1 p_0.2.2.2.1.2.2,.slice p_0.2.2.2.2.1.1 p_0.2.2.2.2.1.2.1 p_0.2.2.2.2.1.2.2,.slice p_0.2.2.2.2.2.1.1 p_0.2.2.2.2.2.1.2.1 p_0.2.2.2.2.2.1.2.2]] h
  (Ar fun v h'=>∃ψ:AD,∃y:Option Addr,∃l:MR,Sub φ ψ∧v=((.one aP):Sh).val y∧l=r∧Pt U5 ψ y l∧St ψ F h'):=by
 have k:PlK φ p_0 (d0,d1,d2,d3,d4,d5):=⟨k0,k1,k2,k3,k4,k5⟩;obtain ⟨t,ht⟩:∃t,p_0=t:=⟨_,rfl⟩;rw [ht]at k ⊢;refine AO mixed Tryz.func29 ?_;rw [KJ];unfold HD;unfold Na at hd;obtain ⟨null,hn,hd⟩:=bS hd;obtain ⟨f0,hf0,hd⟩:=bS hd;refine AV (vs:=plV t) s0 ?_;intro r1 h1 s1;obtain ⟨φ1,le1,cB,s1⟩:=eO s1;have n1:t.2.1.2.1=d1.length:=k.k1.length;have hc:∀ {ψ:AD} {Γ:List Chk} {h':AH},Sub φ1 ψ→St ψ Γ h'→ ∀j v,(plV t)[j]? =some v→BI h' ⟨r1,j,none⟩=some v:=fun {ψ Γ h'} le st=>Hq (cB.mono le) st;have hc1:=hc (bZ _) s1;have k1:=k.mono le1;refine AC (x:=t.2.1) (hc1 1 _ rfl) rfl<|Es hc1<|Es hc1 ?_;have mk:Dw (bT .i64 ((t.2.1.2.1:Int)+1)) false=some null:=by rw [n1];exact hn
 refine Eb ?_ ?_
 ·refine FA (r:=bY) (x:=false) Jd s1 rfl rfl mk ?_;intro n h3 s3;have hc3:=hc (bZ _) s3
  repeat refine AM (hc3 _ _ rfl) ?_
  refine AI (Hp k1 s3 hf0) ?_;rintro _ h4 ⟨ψ4,f,us,le4,rfl,hl4,kf,s4⟩;refine ⟨f,rfl,?_⟩;have hc4:=hc le4 s4
  repeat refine AM (hc4 _ _ rfl) ?_
  refine AI (Hp (k1.mono le4) s4 hf0) ?_;rintro _ h5 ⟨ψ5,g,vs,le5,rfl,hl5,kg,s5⟩;refine ⟨g,rfl,?_⟩;have hc5:=hc (le4.trans le5) s5
  repeat refine AM (hc5 _ _ rfl) ?_
  exact U6 (n:=n) (f:=f) (g:=g) (cB.mono (le4.trans le5)) (k1.mono (le4.trans le5)) (le1.trans (le4.trans le5)) (kf.mono le5) kg hl4 hl5 hd (s5.perm (Xy _ _ _ _))
 ·refine AI (Hp k1 s1 hf0) ?_;rintro _ h4 ⟨ψ4,f,us,le4,rfl,hl4,kf,s4⟩;refine ⟨f,rfl,?_⟩;have hc4:=hc le4 s4
  repeat refine AM (hc4 _ _ rfl) ?_
  refine Eb ?_ ?_
  ·refine FA (r:=bY) (x:=false) Jd s4 rfl rfl mk ?_;intro n h3 s3;have hc3:=hc le4 s3
   repeat refine AM (hc3 _ _ rfl) ?_
   refine AI (Hp (k1.mono le4) s3 hf0) ?_;rintro _ h5 ⟨ψ5,g,vs,le5,rfl,hl5,kg,s5⟩;refine ⟨g,rfl,?_⟩;have hc5:=hc (le4.trans le5) s5
   repeat refine AM (hc5 _ _ rfl) ?_
   exact U6 (n:=n) (f:=f) (g:=g) (cB.mono (le4.trans le5)) (k1.mono (le4.trans le5)) (le1.trans (le4.trans le5)) (kf.mono le5) kg hl4 hl5 hd (s5.perm (Xz _ _ _ _))
  ·refine AI (Hp (k1.mono le4) s4 hf0) ?_;rintro _ h5 ⟨ψ5,g,vs,le5,rfl,hl5,kg,s5⟩;refine ⟨g,rfl,?_⟩;have hc5:=hc (le4.trans le5) s5
   repeat refine AM (hc5 _ _ rfl) ?_
   refine FA (r:=bY) (x:=false) Jd s5 rfl rfl mk ?_;intro n h3 s3;have hc3:=hc (le4.trans le5) s3
   repeat refine AM (hc3 _ _ rfl) ?_
   exact U6 (n:=n) (f:=f) (g:=g) (cB.mono (le4.trans le5)) (k1.mono (le4.trans le5)) (le1.trans (le4.trans le5)) (kf.mono le5) kg hl4 hl5 hd (s3.perm (X2 _ _ _ _))
end
end Go.Proofs.YteolcjbobmpdiaaGreatDoor
