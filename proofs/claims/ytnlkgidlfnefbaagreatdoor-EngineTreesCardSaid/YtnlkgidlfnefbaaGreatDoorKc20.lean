/- The parts StepsS to LawsG, put together. Conditions: each tells its own. -/
import Derived.Test.YtnlkgidlfnefbaaGreatDoorKc19
import Derived.Test.YtnlkgidlfnefbaaGreatDoorKc5
import Derived.Test.YtnlkgidlfnefbaaGreatDoorKc9
import Derived.Test.YtnlkgidlfnefbaaGreatDoorKc18
import Derived.KernelRfl
set_option linter.unusedVariables false
set_option maxRecDepth 100000
set_option maxHeartbeats 4000000
open List renaming length_append → bD,length_singleton → eE,getElem?_eq_getElem → hC,flatMap_append → hM,getElem?_eq_some_iff → kF,flatMap_singleton → kG,getElem?_append_left → kI,length_map → kJ,length → kK,getElem?_append_right → kO,getElem_mem → kT,map_append → kU,flatMap_cons → kW,take_of_length_le → kX,take_append_drop → lC,mem_of_getElem? → lD,map_congr_left → lF,mem_singleton → lG
open Go.Eng.Ro renaming SliceIs → bO,int → kH,«at» → lJ,str → lN
open Go.Proofs.Tryz renaming prog → hA
open Go.Eng.Sub renaming trans → kL
open Go.Eng.St renaming cell → kQ,freezeRow → lB,start → lL,cells → lM
open Go.IntKind renaming wrap → kV
open Nat renaming le_refl → kY,sub_self → lH,lt_or_ge → lI
open Int renaming toNat_natCast → kZ,eq_ofNat_of_zero_le → lA
open Go.Eng.Ok renaming eq → lK
open Go renaming Addr → lO
open Go.Proofs.Tryz
namespace Go.Proofs.YtnlkgidlfnefbaaGreatDoor
open Go Go.Eng
theorem Yr {φ:AD}{h:AH}{F:List Chk}{B:Int×Int×Slc×Slc×Slc×Slc×Slc×Unit}{a4:List Int}{a5:List (List Int)}{a6:List Int}{a7:List Int}{a8:List Int}{R:Slc}{a9:List Int}{N O:Int}(gk:Jv φ) (ad:bO (kH .u8) φ B.2.2.1 a4) (al:bO (Ro.list (kH .u8)) φ B.2.2.2.1 a5) (ap:bO (kH .u8) φ B.2.2.2.2.1 a6) (b0:bO (kH .u8) φ B.2.2.2.2.2.1 a7) (b1:bO (kH .u8) φ B.2.2.2.2.2.2.1 a8) (b3:bO (kH .u8) φ R a9) (s0:St φ F h) {r:Bool}(hd:Wg (B.1,B.2.1,a4,a5,a6,a7,a8) a9 N O=some r):
 CallsH hA 4 [(.agg #[(.int .u8 B.1),(.int .u8 B.2.1),(.slice B.2.2.1.1 B.2.2.1.2.1 B.2.2.1.2.2),(.slice B.2.2.2.1.1 B.2.2.2.1.2.1 B.2.2.2.1.2.2),(.slice B.2.2.2.2.1.1 B.2.2.2.2.1.2.1 B.2.2.2.2.1.2.2),(.slice B.2.2.2.2.2.1.1 B.2.2.2.2.2.1.2.1 B.2.2.2.2.2.1.2.2),(.slice B.2.2.2.2.2.2.1.1 B.2.2.2.2.2.2.1.2.1 B.2.2.2.2.2.2.1.2.2)]),(.slice R.1 R.2.1 R.2.2),(.int .u8 N),(.int .u8 O)] h (Ae λv h'=>∃ψ:AD,∃y:Bool,Sub φ ψ∧v=((.one aB):Sh).val y∧y=r∧St ψ F h'):=by
 refine AN mixed func4 (Gy ..) ?_;have ch:B.2.2.1.2.1=kK a4:=ad.length;have cl:B.2.2.2.1.2.1=kK a5:=al.length;have cm:B.2.2.2.2.1.2.1=kK a6:=ap.length;have cp:B.2.2.2.2.2.1.2.1=kK a7:=b0.length;have cu:B.2.2.2.2.2.2.1.2.1=kK a8:=b1.length;have b7:R.2.1=kK a9:=b3.length;refine AU (vs:=[.int .u8 B.1,.int .u8 B.2.1,sv B.2.2.1,sv B.2.2.2.1,sv B.2.2.2.2.1,sv B.2.2.2.2.2.1,sv B.2.2.2.2.2.2.1]) s0 λS cw b8=> ?_;have⟨cx,b9,hd⟩:=bS hd;refine AE (Dt gk b8 b9) ?_;rintro _ d0 ⟨d1,t2,d2,rfl,rfl,d⟩;refine⟨t2,rfl,?_⟩;refine AA d rfl<|AA d rfl<|AA d rfl<|AA d rfl<|AA d rfl<|AA d rfl<|AA d rfl ?_;have⟨d3,ba,hd⟩:=bS hd;refine AE (Cy (A:=(B.1,B.2.1,B.2.2.1,B.2.2.2.1,B.2.2.2.2.1,B.2.2.2.2.2.1,B.2.2.2.2.2.2.1,())) ad.up al.up ap.up b0.up b1.up d ba) ?_;rintro _ d4 ⟨b2,f2,d5,rfl,rfl,b4⟩;refine⟨f2,rfl,?_⟩;have⟨bb,i,hd⟩:=bS hd;refine Ad (λy w_ g=>∃ψ:AD,Sub b2 ψ∧y.1=g∧St ψ (cW 25 S [.int .u8 B.1,.int .u8 B.2.1,sv B.2.2.1,sv B.2.2.2.1,sv B.2.2.2.2.1,sv B.2.2.2.2.2.1,sv B.2.2.2.2.2.2.1]::F) w_) (g:=bb) ?_ ?_
 ·refine kD i rfl (λi=>?_) (λi=>?_)
  ·exact jY rfl ⟨b2,sb,iS i,b4⟩
  obtain rfl:=iS i;exact jY rfl ⟨b2,sb,(by rw[b7]),b4⟩
 rintro g4 d7 ⟨bd,d8,rfl,a⟩;refine kD hd rfl (λhd=>?_) (λhd=>?_)
 ·obtain rfl:=iS hd;have bf:=a.tail;exact AB ⟨bd,t2,sb,rfl,rfl,bf⟩
 refine AA a rfl<|AA a rfl<|AA a rfl<|AA a rfl<|AA a rfl<|AA a rfl<|AA a rfl ?_;have⟨d9,bg,hd⟩:=bS hd;refine AE (C7 (A:=(B.1,B.2.1,B.2.2.1,B.2.2.2.1,B.2.2.2.2.1,B.2.2.2.2.2.1,B.2.2.2.2.2.2.1,())) (gk.mono sb) ad.up al.up ap.up b0.up b1.up a bg) ?_;rintro _ dd ⟨bi,C,bj,bl,bp,bs,bt,bw,dk,dl,rfl,rfl,k,p,a0,a1,a2,a3,b5,bx⟩;refine⟨C,rfl,?_⟩;have dp:=k.length;have ds:=p.length;have dx:=a0.length;have dy:=a1.length;have e3:=a2.length;have e4:=a3.length;have e5:=b5.nil;refine AU (vs:=[.slice none 0 0,.slice none 0 0,.slice none 0 0,.slice none 0 0,.slice none 0 0,.slice none 0 0]) bx λD e6 bz=>AG bz rfl rfl λe8 c0=>AG c0 rfl rfl λe9 c1=>AG c1 rfl rfl λea c3=>AG c3 rfl rfl λec c4=>AG c4 rfl rfl λed c5=>AG c5 rfl rfl λee f=>kD hd rfl (λhd=>?_) (λhd=>?_)
 ·obtain rfl:=iS hd;have c6:=f.tail;have c7:=c6.tail;exact AB ⟨bi,t2,sb,rfl,rfl,c7⟩
 refine AA f rfl<|AA f rfl<|AA f rfl<|AA f rfl<|AA f rfl<|AA f rfl ?_;have⟨ef,c8,hd⟩:=bS hd;refine AE (B2 (B:=(C.1.1,C.1.2.1,C.1.2.2.1,C.1.2.2.2.1,C.1.2.2.2.2.1,C.1.2.2.2.2.2.1,())) (A:=(bj,bl,bp,bs,bt,bw)) ⟨k,p,a0,a1,a2,a3⟩ b3.up f c8) ?_;rintro _ eg ⟨el,f3,em,en,eo,rfl,rfl,b6,er,c9⟩;refine⟨f3,rfl,?_⟩;refine Am (by decide) ?_;have⟨mt,f4,hd⟩:=bS hd;refine AE (CC c9 f4) ?_;rintro _ h1 ⟨ψ1,c,⟨lim,u,mo⟩,g5,rfl,rfl,st⟩;refine⟨c,rfl,?_⟩;refine AA st.at1 rfl (AA st.at1 rfl (AA st.at1 rfl (AA st.at1 rfl (AA st.at1 rfl (AA st.at1 rfl ?_)))));have⟨dg,f5,hd⟩:=bS hd;have kg:=(b5.up (ψ:=ψ1)).get f5;obtain⟨⟨K,g6⟩,hk,hd⟩:=bS hd;obtain⟨mp,rfl⟩:=st.ptr;refine AE (VR (t:=(C.1.1,C.1.2.1,C.1.2.2.1,C.1.2.2.2.1,C.1.2.2.2.2.1,C.1.2.2.2.2.2.1,())) k.up p.up a0.up a1.up a2.up a3.up kg b6.up st hk) ?_;rintro _ h2 ⟨m,A,ψ2,rfl,rfl,g7,M,H⟩;refine⟨some ⟨m,0,none⟩,rfl,?_⟩;dsimp only at hd M H;refine Ad (λ(y:Bool×Unit) w (_:Unit)=>y.1=false∧w=h2) (g:=()) ?_ ?_
 ·refine AW rfl<|AE (Sl H) ?_;rintro _ _ ⟨rfl,rfl⟩;exact⟨some ⟨A.tp,0,none⟩,rfl,jY rfl ⟨rfl,rfl⟩⟩
 rintro⟨z,u'⟩ w ⟨rfl,rfl⟩;refine AW rfl ?_;have⟨e,he,hd⟩:=bS hd;refine Av (λ(z:Int×Bool×Unit) w (g:Option MS)=>∃s,g=some s∧ ∃ψ,Sub ψ2 ψ∧MOk ψ m A K s (cW 32 D [sv C.1.1,sv C.1.2.1,sv C.1.2.2.1,sv C.1.2.2.2.1,sv C.1.2.2.2.2.1,sv C.1.2.2.2.2.2.1]::cW 25 S [.int .u8 B.1,.int .u8 B.2.1,sv B.2.2.1,sv B.2.2.2.1,sv B.2.2.2.2.1,sv B.2.2.2.2.2.1,sv B.2.2.2.2.2.2.1]::F) w) (g:=e) ?_ ?_
 ·refine FF he (λ(z:Int×Bool×Unit) w (x:Int×MS)=>z.1=x.1∧ ∃ψ,Sub ψ2 ψ∧MOk ψ m A K x.2 (cW 32 D [sv C.1.1,sv C.1.2.1,sv C.1.2.2.1,sv C.1.2.2.2.1,sv C.1.2.2.2.2.1,sv C.1.2.2.2.2.2.1]::cW 25 S [.int .u8 B.1,.int .u8 B.2.1,sv B.2.2.1,sv B.2.2.2.1,sv B.2.2.2.2.1,sv B.2.2.2.2.2.1,sv B.2.2.2.2.2.2.1]::F) w) ((0:Int),false,()) rfl ⟨rfl,ψ2,Sub.refl _,H⟩ ?_;clear H;rintro z w ⟨n,s⟩ q ⟨e1,ψ3,P,H⟩ G hb;dsimp only at e1 H;subst e1;unfold Ow at G;dsimp only at G;refine kD G rfl (λG=>?_) (λG=>?_)
  ·have⟨e0,f6,G⟩:=bS G;obtain⟨s',f7,G⟩:=bS G;refine AE (VX H f6) ?_;rintro _ h3 ⟨ψ4,y,T,rfl,ey,_,H⟩;refine⟨y,rfl,?_⟩;have ek:y.1=s.kind:=congrArg Prod.fst ey;refine AE (Sj ((M.mono P).mono T) H f7) ?_;rintro _ h4 ⟨rfl,U,Y,H⟩;refine⟨_,rfl,?_⟩;have I:=(P.trans T).trans Y;refine kD G (by rw[ek]) (λG=>?_) (λG=>?_)
   ·have⟨c,E,G⟩:=bS G;refine Ad (λ(y:Bool×Unit) w g=>y.1=g∧w=h4) (g:=c) ?_ ?_
    ·refine kD E rfl (λE=>?_) (λE=>?_)
     ·obtain rfl:=iS E;exact jY rfl ⟨rfl,rfl⟩
     ·obtain rfl:=iS E;refine AE (Nj H) ?_;rintro _ _ ⟨rfl,rfl⟩;exact⟨_,rfl,jY rfl ⟨rfl,rfl⟩⟩
    rintro⟨y2,u2⟩ w2 ⟨rfl,rfl⟩;refine kD G rfl (λG=>?_) (λG=>?_)
    ·obtain rfl:=iS G;obtain rfl:=hb _ rfl;obtain rfl:=iS hd;exact Ak (Al (AB ⟨U,false,sb,rfl,rfl,H.frame.tail.tail⟩))
    ·obtain rfl:=iS G;exact AO (kB rfl ⟨s',(hb _ rfl).symm,U,I,H⟩)
   ·have⟨c,E,G⟩:=bS G;refine Ad (λ(y:Bool×Unit) w g=>y.1=g∧ ∃ψ,Sub ψ2 ψ∧MOk ψ m A K s' (cW 32 D [sv C.1.1,sv C.1.2.1,sv C.1.2.2.1,sv C.1.2.2.2.1,sv C.1.2.2.2.2.1,sv C.1.2.2.2.2.2.1]::cW 25 S [.int .u8 B.1,.int .u8 B.2.1,sv B.2.2.1,sv B.2.2.2.1,sv B.2.2.2.2.1,sv B.2.2.2.2.2.1,sv B.2.2.2.2.2.2.1]::F) w) (g:=c) ?_ ?_
    ·unfold Yq at E;refine AE (Nj H) ?_;rintro _ _ ⟨rfl,rfl⟩;refine⟨_,rfl,?_⟩;refine kD E rfl (λE=>?_) (λE=>?_)
     ·obtain rfl:=iS E;exact jY rfl ⟨rfl,U,I,H⟩
     refine AE (Ra H) ?_;rintro _ _ ⟨rfl,rfl⟩;refine⟨_,rfl,?_⟩;refine kD E rfl (λE=>?_) (λE=>?_)
     ·obtain rfl:=iS E;exact jY rfl ⟨rfl,U,I,H⟩
     refine AE (Sk H) ?_;rintro _ _ ⟨rfl,rfl⟩;refine⟨_,rfl,?_⟩;refine kD E rfl (λE=>?_) (λE=>?_)
     ·obtain rfl:=iS E;exact jY rfl ⟨rfl,U,I,H⟩
     refine AE (Ra H) ?_;rintro _ _ ⟨rfl,rfl⟩;refine⟨_,rfl,?_⟩;refine AE (Sk H) ?_;rintro _ _ ⟨rfl,rfl⟩;refine⟨_,rfl,?_⟩;refine kD E rfl (λE=>?_) (λE=>?_)
     ·obtain rfl:=iS E;exact jY rfl ⟨rfl,U,I,H⟩
     have⟨us,f8,E⟩:=bS E;refine AE (Yp H f8) ?_;rintro _ h5 ⟨rfl,V,J,H⟩;refine⟨us,rfl,?_⟩;refine kD E rfl (λE=>?_) (λE=>?_)
     ·obtain rfl:=iS E;exact jY rfl ⟨rfl,V,I.trans J,H⟩
     obtain rfl:=iS E;refine AE (Sl H) ?_;rintro _ _ ⟨rfl,rfl⟩;refine⟨_,rfl,?_⟩;refine AE (bN H) ?_;rintro _ _ ⟨rfl,rfl⟩;refine⟨_,rfl,?_⟩;exact jY rfl ⟨rfl,V,I.trans J,H⟩
    rintro⟨y2,u2⟩ w2 ⟨rfl,V,J,H⟩;refine kD G rfl (λG=>?_) (λG=>?_)
    ·obtain rfl:=iS G;obtain rfl:=hb _ rfl;obtain rfl:=iS hd;exact Ak (Al (AB ⟨V,false,sb,rfl,rfl,H.frame.tail.tail⟩))
    ·obtain rfl:=iS G;exact Ah (kV .i64 (z.1+(1:Int)),z.2.1,()) (kV .i64 (z.1+(1:Int)),s') rfl rfl ⟨rfl,V,J,H⟩
  ·obtain rfl:=iS G;exact AO (kB rfl ⟨s,(hb _ rfl).symm,ψ3,P,H⟩)
 clear H;rintro z w ⟨s,rfl,ψ3,P,H⟩;dsimp only at hd;obtain⟨ss,ns,cs,es,tl,kc,ke,st⟩:=H;refine AA (b:=D) (j:=0) st.at7 rfl (AA (b:=D) (j:=1) st.at7 rfl (AA (b:=D) (j:=2) st.at7 rfl (AA (b:=D) (j:=3) st.at7 rfl (AA (b:=D) (j:=4) st.at7 rfl (AA (b:=D) (j:=5) st.at7 rfl ?_)))));have⟨g8,f1,hd⟩:=bS hd;refine AE (CC st f1) ?_;rintro _ h3 ⟨ψ4,c2,l2,T,rfl,rfl,st⟩;refine⟨c2,rfl,?_⟩;refine AI (kQ (b:=D) (j:=0) st.at8 rfl) (AI (kQ (b:=D) (j:=1) st.at8 rfl) (AI (kQ (b:=D) (j:=2) st.at8 rfl) (AI (kQ (b:=D) (j:=3) st.at8 rfl) (AI (kQ (b:=D) (j:=4) st.at8 rfl) (AI (kQ (b:=D) (j:=5) st.at8 rfl) ?_)))));have⟨k2,f9,hd⟩:=bS hd;refine AE (Jn (a:=(C.1.1,C.1.2.1,C.1.2.2.1,C.1.2.2.2.1,C.1.2.2.2.2.1,C.1.2.2.2.2.2.1,())) k.up p.up a0.up a1.up a2.up a3.up kg.up b6.up st f9) ?_;rintro _ h4 ⟨U,y,l,l',Y,rfl,rfl,kM,st⟩;refine⟨y,rfl,?_⟩;dsimp only at hd;have L:=T.trans Y;have H:MOk U m A K s (cW 32 D [sv C.1.1,sv C.1.2.1,sv C.1.2.2.1,sv C.1.2.2.2.1,sv C.1.2.2.2.2.1,sv C.1.2.2.2.2.2.1]::cW 25 S [.int .u8 B.1,.int .u8 B.2.1,sv B.2.2.1,sv B.2.2.2.1,sv B.2.2.2.2.1,sv B.2.2.2.2.2.1,sv B.2.2.2.2.2.2.1]::F) h4:=⟨ss,ns,cs,es,tl,kc.mono L,ke.mono L,st.tail⟩;refine Ad (λ(y:Bool×Unit) w g=>y.1=g∧ ∃ψ,Sub ψ2 ψ∧St ψ F w) (g:=r) ?_ ?_
 ·refine kD hd rfl (λhd=>?_) (λhd=>?_)
  ·refine Ai (by rw[G3 kM];rfl) ?_;have⟨o,ho,hd⟩:=bS hd;have⟨e2,g0,hd⟩:=bS hd;have⟨b,hb,hd⟩:=bS hd;have sF:∀ {ψ:AD} {w:AH},MOk ψ m A K s (cW 32 D [sv C.1.1,sv C.1.2.1,sv C.1.2.2.1,sv C.1.2.2.2.1,sv C.1.2.2.2.2.1,sv C.1.2.2.2.2.2.1]::cW 25 S [.int .u8 B.1,.int .u8 B.2.1,sv B.2.2.1,sv B.2.2.2.1,sv B.2.2.2.2.1,sv B.2.2.2.2.2.1,sv B.2.2.2.2.2.2.1]::F) w→St ψ F w:=λH=>H.frame.tail.tail;refine AE (Ar kM (st.tail) ho) ?_;rintro _ h5 ⟨V,y6,d6,J,rfl,rfl,k6,st⟩;refine⟨y6,rfl,?_⟩;have H:MOk V m A K s (cW 32 D [sv C.1.1,sv C.1.2.1,sv C.1.2.2.1,sv C.1.2.2.2.1,sv C.1.2.2.2.2.1,sv C.1.2.2.2.2.2.1]::cW 25 S [.int .u8 B.1,.int .u8 B.2.1,sv B.2.2.1,sv B.2.2.2.1,sv B.2.2.2.2.1,sv B.2.2.2.2.2.1,sv B.2.2.2.2.2.2.1]::F) h5:=⟨ss,ns,cs,es,tl,(kc.mono L).mono J,(ke.mono L).mono J,st⟩;refine AE (VX H g0) ?_;rintro _ h6 ⟨ψ7,W,Z,rfl,e7,k7,H⟩;refine⟨W,rfl,?_⟩;obtain⟨ss,ns,cs,es,tl,kc,ke,st⟩:=H;have g1:W.1=s.kind:=congrArg Prod.fst e7;have g2:W.2.1=s.root:=congrArg (λx:Int×Int×Int=>x.2.1) e7;have g3:W.2.2.1=s.oat:=congrArg (λx:Int×Int×Int=>x.2.2) e7;refine AE (C6 (z:=y6) (A:=W) (k6.mono Z) k7 st (show Bf (y6.1,y6.2.1,y6.2.2.1,d6) (W.1,W.2.1,W.2.2.1,e2)=some b by rw[g1,g2,g3];exact hb)) ?_;rintro _ h7 ⟨ψ8,b,Q,rfl,rfl,st⟩;refine⟨b,rfl,?_⟩;have X:=(((P.trans L).trans J).trans Z).trans Q;have H:MOk ψ8 m A K s (cW 32 D [sv C.1.1,sv C.1.2.1,sv C.1.2.2.1,sv C.1.2.2.2.1,sv C.1.2.2.2.2.1,sv C.1.2.2.2.2.2.1]::cW 25 S [.int .u8 B.1,.int .u8 B.2.1,sv B.2.2.1,sv B.2.2.2.1,sv B.2.2.2.2.1,sv B.2.2.2.2.2.1,sv B.2.2.2.2.2.2.1]::F) h7:=⟨ss,ns,cs,es,tl,kc.mono Q,ke.mono Q,st⟩;refine kD hd rfl (λhd=>?_) (λhd=>?_)
   ·have⟨n,hn,hd⟩:=bS hd;obtain rfl:=iS hd;refine AE (CZ (((kM.mono J).mono Z).mono Q) st hn) ?_;rintro _ h8 ⟨ψ9,y9,f0,rfl,rfl,st⟩;refine⟨y9,rfl,?_⟩;have H:MOk ψ9 m A K s (cW 32 D [sv C.1.1,sv C.1.2.1,sv C.1.2.2.1,sv C.1.2.2.2.1,sv C.1.2.2.2.2.1,sv C.1.2.2.2.2.2.1]::cW 25 S [.int .u8 B.1,.int .u8 B.2.1,sv B.2.2.1,sv B.2.2.2.1,sv B.2.2.2.2.1,sv B.2.2.2.2.2.1,sv B.2.2.2.2.2.2.1]::F) h8:=⟨ss,ns,cs,es,tl,(kc.mono Q).mono f0,(ke.mono Q).mono f0,st⟩;refine AE (Nj H) ?_;rintro _ _ ⟨rfl,rfl⟩;refine⟨_,rfl,?_⟩;exact jY rfl ⟨rfl,ψ9,X.trans f0,sF H⟩
   ·obtain rfl:=iS hd;exact jY rfl ⟨rfl,ψ8,X,sF H⟩
  ·obtain rfl:=iS hd;exact jY rfl ⟨rfl,U,P.trans L,H.frame.tail.tail⟩
 rintro⟨z,u3⟩ w ⟨rfl,V,J,st⟩;exact AB ⟨V,z,sb,rfl,rfl,st⟩
section
variable {h:AH}
theorem engineSteps {n m:Nat}{cs:List Value}{q:Option lO}{len cap:Nat}{a b:Int}(c:Jv (BZ h)) (d:ES hA h n 25 cs) (e:ES hA h m 22 [.slice q len cap]) (f:(Lit.int .u8 a).wf=true) (g:(Lit.int .u8 b).wf=true):
 CallsH hA 4 [.agg cs.toArray,.slice q len cap,.int .u8 a,.int .u8 b] h (Ae (Uf h)):=by obtain⟨s,u,v,w,x,y,rfl,i,j,k,o,p,G⟩:=Qy d;have⟨l,r,t⟩:=Qx e;exact Qq (Yr (B:=s) c i j k o p r (lL h) (QA G t (wf8 f) (wf8 g)))
end
section
variable {h:AH}
theorem engineQuotas {n m:Nat}{cs:List Value}{q:Option lO}{len cap:Nat}{a:Int}(b:Jv (BZ h)) (c:ES hA h n 25 cs) (d:ES hA h m 22 [.slice q len cap]) (e:(Lit.int .u8 a).wf=true):
 CallsH hA 3 [.agg cs.toArray,.slice q len cap,.int .u8 a] h (Ae (Uf h)):=by obtain⟨s,r,t,u,v,w,rfl,f,g,i,j,k,G⟩:=Qy c;have⟨l,o,p⟩:=Qx d;exact Qq (Gt (A:=s) b f g i j k o (lL h) (Pb G p (wf8 e)))
end
section
variable {φ:AD}{h:AH}{F:List Chk}
noncomputable def Ct (a:List Int) (b:List Int):Option Bool:=
 cond ((a.length:Int) !=(b.length:Int))
 (some false)
 ((DF (σ:=Unit) (β:=Bool) 0 (a.length:Int) () λc h=>
  (idx a c).bind λe=>
  (idx b c).bind λf=>
  cond (e !=f)
  (some (AY.done false))
  (some (AY.next ()))).bind λd=>match d with
  |.next i=>
   some true
  |.done g=>some g)
theorem IZ {A:Slc}{c:List Int}{B:Slc}{d:List Int}(f:bO (kH .i64) φ A c) (i:bO (kH .i64) φ B d) (C:St φ F h) {r:Bool}(hd:Ct c d=some r):
 CallsH hA 89 [(sv A),(sv B)] h (Ae λv D=>∃ψ:AD,∃y:Bool,Sub φ ψ∧v=((.one aB):Sh).val y∧y=r∧St ψ F D):=by
 refine AN mixed func89 (IX ..) ?_;have e:A.2.1=kK c:=f.length;have k:B.2.1=kK d:=i.length;refine kD hd (by rw[e,k] <;>rfl) (λhd=>?_) (λhd=>?_)
 ·exact AB ⟨φ,false,sb,rfl,iS hd,C⟩
 have⟨z,l,hd⟩:=bS hd;refine BR l (λm y E g=>∃ψ:AD,Sub φ ψ∧y.1=m∧()=g∧St ψ F E) ((0:Int),false,()) rfl ⟨φ,sb,rfl,rfl,C⟩ ?_ ?_ ?_
 ·rintro _ G a0 _ _ ⟨j,H,rfl,rfl,b⟩ a I n o p;refine Ai (dT e n)<|gx f a b λJ a=>gx i a b λK a=>kD a rfl (λa=>?_) (λa=>?_)
  ·obtain rfl:=iS a;obtain rfl:=p _ rfl;obtain rfl:=iS hd;exact Ak (Al (AB ⟨j,false,sb,rfl,rfl,b⟩))
  obtain rfl:=iS a;exact jZ rfl rfl ⟨j,sb,o,rfl,b⟩
 ·rintro _ G L _ ⟨q,M,rfl,rfl,s⟩ t u;subst u;refine AW (dF e t)<|AO (kB rfl ⟨_,rfl,_,q,sb,rfl,rfl,s⟩)
 rintro N O ⟨_,rfl,_,w,P,_,rfl,x⟩;exact AB ⟨w,true,sb,rfl,iS hd,x⟩
noncomputable def Br (a:CD) (b:Int):Option Int:=(Ax a b).bind λt3=>cond (!t3.2.2.2.2.2.2.2.2) (some (-1:Int)) (some t3.2.1)
theorem DR {A:Option lO}{b:CD}{B:Int}(d:Pt (lJ El) φ A b) (C:St φ F h) {r:Int}(hd:Br b B=some r):
 CallsH hA 25 [(.pointer A),(.int .i64 B)] h (Ae λv D=>∃ψ:AD,∃y:Int,Sub φ ψ∧v=((.one aI):Sh).val y∧y=r∧St ψ F D):=by
 refine AN mixed func25 (Om ..) ?_;obtain⟨u,w,e,⟨f,rfl,g⟩,i⟩:=id d;refine AF _ e<|AL (x:=f) (AM (kL sb C.sub) (i.at 0 rfl)) rfl ?_;have⟨z,j,hd⟩:=bS hd;refine AE (BO g C j) ?_;rintro _ a0 ⟨c,t3,E,G,rfl,rfl,H,k⟩;refine⟨t3,rfl,?_⟩;refine AU (vs:=[.int .i64 (0:Int),.int .i64 (0:Int),.int .i64 (0:Int),.int .i64 (0:Int),.int .i64 (0:Int),.slice none 0 0,.bool false,.bool false]) k λI J l=>AG l rfl rfl λK m=>AG m rfl rfl λL n=>AG n rfl rfl λM o=>AG o rfl rfl λN p=>AG p rfl rfl λO q=>AG q rfl rfl λP s=>AG s rfl rfl λal t=>AG t rfl rfl λap a=>kD hd rfl (λhd=>?_) (λhd=>?_)
 ·exact AB ⟨c,(-1:Int),sb,rfl,iS hd,a.tail⟩
 refine AA a rfl ?_;exact AB ⟨c,t3.1.2.1,sb,rfl,iS hd,a.tail⟩
noncomputable def B7 (a:CD) (b:Int):Option Bool:=(Ax a b).bind λt3=>some t3.2.2.2.2.2.2.1
theorem Gu {A:Option lO}{a:CD}{B:Int}(c:Pt (lJ El) φ A a) (C:St φ F h) {r:Bool}(hd:B7 a B=some r):
 CallsH hA 52 [(.pointer A),(.int .i64 B)] h (Ae λv D=>∃ψ:AD,∃y:Bool,Sub φ ψ∧v=((.one aB):Sh).val y∧y=r∧St ψ F D):=by refine AN mixed func52 (La ..) ?_;obtain⟨u,w,d,⟨e,rfl,f⟩,g⟩:=id c;refine AF _ d<|AL (x:=e) (AM (kL sb C.sub) (g.at 0 rfl)) rfl ?_;have⟨z,i,hd⟩:=bS hd;refine AE (BO f C i) ?_;rintro _ a0 ⟨j,t3,E,G,rfl,rfl,H,k⟩;refine⟨t3,rfl,?_⟩;refine AU (vs:=[.int .i64 (0:Int),.int .i64 (0:Int),.int .i64 (0:Int),.int .i64 (0:Int),.int .i64 (0:Int),.slice none 0 0,.bool false,.bool false]) k λI J l=>AG l rfl rfl λK m=>AG m rfl rfl λL n=>AG n rfl rfl λM o=>AG o rfl rfl λN p=>AG p rfl rfl λO q=>AG q rfl rfl λP s=>AG s rfl rfl λal t=>AG t rfl rfl λap b=>AA b rfl ?_;exact AB ⟨j,t3.1.2.2.2.2.2.2.1,sb,rfl,iS hd,b.tail⟩
noncomputable def Ej (a:CD) (b:Int):Option Int:=(Ax a b).bind λt3=>cond (!t3.2.2.2.2.2.2.2.2) (some (-1:Int)) (some t3.1)
theorem Nn {A:Option lO}{b:CD}{B:Int}(d:Pt (lJ El) φ A b) (C:St φ F h) {r:Int}(hd:Ej b B=some r):
 CallsH hA 87 [(.pointer A),(.int .i64 B)] h (Ae λv D=>∃ψ:AD,∃y:Int,Sub φ ψ∧v=((.one aI):Sh).val y∧y=r∧St ψ F D):=by
 refine AN mixed func87 (Nf ..) ?_;obtain⟨u,w,e,⟨f,rfl,g⟩,i⟩:=id d;refine AF _ e<|AL (x:=f) (AM (kL sb C.sub) (i.at 0 rfl)) rfl ?_;have⟨z,j,hd⟩:=bS hd;refine AE (BO g C j) ?_;rintro _ a0 ⟨c,t3,E,G,rfl,rfl,H,k⟩;refine⟨t3,rfl,?_⟩;refine AU (vs:=[.int .i64 (0:Int),.int .i64 (0:Int),.int .i64 (0:Int),.int .i64 (0:Int),.int .i64 (0:Int),.slice none 0 0,.bool false,.bool false]) k λI J l=>AG l rfl rfl λK m=>AG m rfl rfl λL n=>AG n rfl rfl λM o=>AG o rfl rfl λN p=>AG p rfl rfl λO q=>AG q rfl rfl λP s=>AG s rfl rfl λal t=>AG t rfl rfl λap a=>kD hd rfl (λhd=>?_) (λhd=>?_)
 ·exact AB ⟨c,(-1:Int),sb,rfl,iS hd,a.tail⟩
 refine AA a rfl ?_;exact AB ⟨c,t3.1.1,sb,rfl,iS hd,a.tail⟩
noncomputable def FA (a:CD) (b:Int):Option (Int×Int×Int):=(Ax a b).bind λt4=>some (t4.2.2.1,t4.2.2.2.1,t4.2.2.2.2.1)
theorem Ox {A:Option lO}{c:CD}{B:Int}(e:Pt (lJ El) φ A c) (C:St φ F h) {r:(Int×Int×Int)}(hd:FA c B=some r):
 CallsH hA 53 [(.pointer A),(.int .i64 B)] h (Ae λv D=>∃ψ:AD,∃y:Int×Int×Int×Unit,Sub φ ψ∧v=((.one (.agg [(.int .i64),(.int .i64),(.int .i64)])):Sh).val y∧(y.1,y.2.1,y.2.2.1)=r∧St ψ F D):=by refine AN mixed func53 (On ..)<|AU (vs:=[.int .i64 (0:Int),.int .i64 (0:Int),.int .i64 (0:Int)]) C λE G d=> ?_;obtain⟨H,I,f,⟨g,rfl,i⟩,j⟩:=id e;refine AF _ f<|AL (x:=g) (AM (kL sb d.sub) (j.at 0 rfl)) rfl ?_;have⟨J,k,hd⟩:=bS hd;refine AE (BO i d k) ?_;rintro _ K ⟨l,t4,L,M,rfl,rfl,N,m⟩;refine⟨t4,rfl,?_⟩;refine AU (vs:=[.int .i64 (0:Int),.int .i64 (0:Int),.int .i64 (0:Int),.int .i64 (0:Int),.int .i64 (0:Int),.slice none 0 0,.bool false,.bool false]) m λO P n=>AG n rfl rfl λQ o=>AG o rfl rfl λal p=>AG p rfl rfl λap q=>AG q rfl rfl λR s=>AG s rfl rfl λb1 t=>AG t rfl rfl λS u=>AG u rfl rfl λT w=>AG w rfl rfl λU a=>AA a rfl<|AA a rfl<|AA a rfl<|AG a.at1 rfl rfl λV z=>AG z rfl rfl λW a0=>AG a0 rfl rfl λX b=>AA b rfl<|AA b rfl<|AA b rfl ?_;exact AB ⟨l,(t4.1.2.2.1,t4.1.2.2.2.1,t4.1.2.2.2.2.1,()),sb,rfl,iS hd,b.tail.tail⟩
noncomputable def Ek (a:CD) (b:Int):Option (List Int):=(Ax a b).bind λt3=>(Dg.cloneD t3.2.2.2.2.2.1).bind λt6=>some t6
theorem No {A:Option lO}{a:CD}{B:Int}(d:Pt (lJ El) φ A a) (C:St φ F h) {r:(List Int)}(hd:Ek a B=some r):
 CallsH hA 88 [(.pointer A),(.int .i64 B)] h (Ae λv D=>∃ψ:AD,∃y:Slc,∃b:List Int,Sub φ ψ∧v=((.one aS):Sh).val y∧b=r∧bO (kH .i64) ψ y b∧St ψ F D):=by refine AN mixed func88 (Ng ..) ?_;obtain⟨J,K,e,⟨f,rfl,g⟩,i⟩:=id d;refine AF _ e<|AL (x:=f) (AM (kL sb C.sub) (i.at 0 rfl)) rfl ?_;have⟨L,j,hd⟩:=bS hd;refine AE (BO g C j) ?_;rintro _ M ⟨N,t3,O,al,rfl,rfl,k,l⟩;refine⟨t3,rfl,?_⟩;refine AU (vs:=[.int .i64 (0:Int),.int .i64 (0:Int),.int .i64 (0:Int),.int .i64 (0:Int),.int .i64 (0:Int),.slice none 0 0,.bool false,.bool false]) l λP ap m=>AG m rfl rfl λQ n=>AG n rfl rfl λb1 o=>AG o rfl rfl λR p=>AG p rfl rfl λS q=>AG q rfl rfl λT s=>AG s rfl rfl λU u=>AG u rfl rfl λV w=>AG w rfl rfl λW c=>AA c rfl ?_;have⟨X,z,hd⟩:=bS hd;refine AE (Dg.clone46_ro k c z) ?_;rintro _ Y ⟨Z,t6,a0,bb,rfl,rfl,E⟩;refine⟨t6,rfl,?_⟩;have⟨G,bd,H,I⟩:=lB (t:=t6) E;exact AB ⟨G,t6,a0,sb,rfl,iS hd,H,I.tail⟩
@[reducible] def II (rec:CD→Int→Option (List Int)):Prop:= ∀ {φ:AD} {h:AH} {F:List Chk} {d:Option lO} {a:CD} {e:Int} (c:Pt (lJ El) φ d a) (g:St φ F h) {r:(List Int)} (hd:rec a e=some r),CallsH hA 28 [(.pointer d),(.int .i64 e)] h (Ae λv f=>∃ψ:AD,∃y:Slc,∃b:List Int,Sub φ ψ∧v=((.one aS):Sh).val y∧b=r∧bO (kH .i64) ψ y b∧St ψ F f)
noncomputable def DS (rec:CD→Int→Option (List Int)) (a:CD) (b:Int):Option (List Int):=(Ax a b).bind λt3=>cond (!t3.2.2.2.2.2.2.2.2) (some ([]:List Int)) ((forS (σ:=List Int) 0 (t3.2.2.2.2.2.1.length:Int) ([]:List Int) λc h=>(idx t3.2.2.2.2.2.1 c).bind λd=>(rec a d).bind λe=>(app h e).bind λf=>some f).bind λi=>(app i ([b]:List Int)).bind λg=>some g)
theorem Le {rec:CD→Int→Option (List Int)}(B:II rec) {φ:AD}{h:AH}{F:List Chk}{C:Option lO}{e:CD}{A:Int}(f:Pt (lJ El) φ C e) (G:St φ F h) {r:(List Int)}(hd:DS rec e A=some r):
 CallsH hA 28 [(.pointer C),(.int .i64 A)] h (Ae λv H=>∃ψ:AD,∃y:Slc,∃i:List Int,Sub φ ψ∧v=((.one aS):Sh).val y∧i=r∧bO (kH .i64) ψ y i∧St ψ F H):=by
 refine AN mixed func28 (Mo ..) ?_;unfold DS at hd;obtain⟨bs,bt,q,⟨s,rfl,u⟩,w⟩:=id f;refine AF _ q<|AL (x:=s) (AM (kL sb G.sub) (w.at 0 rfl)) rfl ?_;have⟨bw,z,hd⟩:=bS hd;refine AE (BO u G z) ?_;rintro _ bx ⟨c,t3,bz,c0,rfl,rfl,j,a0⟩;refine⟨t3,rfl,?_⟩;have k:=j.length;refine AU (vs:=[.int .i64 (0:Int),.int .i64 (0:Int),.int .i64 (0:Int),.int .i64 (0:Int),.int .i64 (0:Int),.slice none 0 0,.bool false,.bool false]) a0 λI c1 J=>AG J rfl rfl λc2 K=>AG K rfl rfl λc3 L=>AG L rfl rfl λc4 M=>AG M rfl rfl λc5 N=>AG N rfl rfl λc6 O=>AG O rfl rfl λc7 P=>AG P rfl rfl λc8 Q=>AG Q rfl rfl λc9 d=>kD hd rfl (λhd=>?_) (λhd=>?_)
 ·exact AB ⟨c,((none,0,0):Slc),[],sb,rfl,iS hd,(Ro.SliceIs.nil (kH .i64) c),d.tail⟩
 refine AA d rfl ?_;have⟨ch,R,hd⟩:=bS hd;refine Bb R (λS y T g=>∃ψ:AD,∃l:List Int,Sub c ψ∧y.1=S∧l=g∧St ψ (cR 3 (kH .i64) y.2.1 l::cW 81 I [.int .i64 t3.1.1,.int .i64 t3.1.2.1,.int .i64 t3.1.2.2.1,.int .i64 t3.1.2.2.2.1,.int .i64 t3.1.2.2.2.2.1,sv t3.1.2.2.2.2.2.1,.bool t3.1.2.2.2.2.2.2.1,.bool t3.1.2.2.2.2.2.2.2.1]::F) T) ((0:Int),((none,0,0):Slc),()) rfl ⟨c,[],sb,rfl,rfl,(((d.nil 3 (kH .i64)).at1).at1)⟩ ?_ ?_ ?_
 ·rintro _ U cl _ _ ⟨cm,cp,cs,rfl,rfl,m⟩ b cu al ap;refine Ai (dT k al)<|gx j b m λcw b=> ?_;have⟨cx,V,b⟩:=bS b;refine AE (B f.up m V) ?_;rintro _ d0 ⟨b1,E,W,d1,rfl,rfl,n,o⟩;refine⟨E,rfl,?_⟩;have⟨d2,X,Y⟩:=n.heap o.sub;have⟨Z,b6,b⟩:=bS b;refine AZ (r:=(kH .i64)) (ms:=W) Ci o rfl Y X n.length.symm b6 ?_;intro e0 d3 b7;obtain rfl:=iS b;exact jZ rfl rfl ⟨b1,Z,sb,ap,rfl,b7.at1.at1⟩
 ·rintro _ U d4 ⟨b8,b9,d5,rfl,rfl,ba⟩ bb;refine AW (dF k bb)<|AO (kB rfl ⟨_,b8,b9,sb,rfl,rfl,ba.at1.at1⟩)
 rintro z6 d6 ⟨_,d7,d8,d9,_,rfl,bd⟩;refine AU (vs:=[.int .i64 A]) bd λe1 dd p=> ?_;have⟨bf,bg,hd⟩:=bS hd;refine AZ (r:=(kH .i64)) (ms:=([A]:List Int)) Ci p.tail rfl (lM p) (.cons (a:=[_]) rfl .nil) rfl bg ?_;intro D dg bi;have⟨bj,dk,bl,bp⟩:=lB (t:=D) bi;exact AB ⟨bj,D,bf,sb,rfl,iS hd,bl,bp.tail⟩
noncomputable def CO:Nat→CD→Int→Option (List Int)|0=>λ_ _=>none | n+1=>DS (CO n)
theorem Da:∀n,II (CO n)
 | 0=>by intro k0 a r hd;cases hd
 |n+1=>by intro k0 a r hd;exact Le (Da n) k0 a hd
noncomputable def EH (fuel:Nat) (a:CD) (d:Int):Option (List DI):=(CO fuel a d).bind λt1=>(forS (σ:=List DI) 0 (t1.length:Int) ([]:List DI) λb f=>(idx t1 b).bind λc=>(B7 a c).bind λt6=>(cond t6 ((FA a c).bind λt8=>(app f ([(t8.1,t8.2.1,t8.2.2)]:List DI)).bind λe=>some e) (some f)).bind λg=>some g).bind λh=>some h
theorem Mr (fuel:Nat) {φ:AD}{h:AH}{F:List Chk}{A:Option lO}{e:CD}{B:Int}(d:Pt (lJ El) φ A e) (E:St φ F h) {r:(List DI)}(hd:EH fuel e B=some r):
 CallsH hA 27 [(.pointer A),(.int .i64 B)] h (Ae λv G=>∃ψ:AD,∃y:Slc,∃f:List DI,Sub φ ψ∧v=((.one aS):Sh).val y∧f=r∧bO Fe ψ y f∧St ψ F G):=by
 refine AN mixed func27 (Mn ..) ?_;have⟨b9,s,hd⟩:=bS hd;refine AE (Da fuel d E s) ?_;rintro _ ba ⟨i,t1,bb,bd,rfl,rfl,j,u⟩;refine⟨t1,rfl,?_⟩;have k:=j.length;have⟨bf,w,hd⟩:=bS hd;refine Bb w (λx y C g=>∃ψ:AD,∃l:List DI,Sub i ψ∧y.1=x∧l=g∧St ψ (cR 73 Fe y.2.1 l::F) C) ((0:Int),((none,0,0):Slc),()) rfl ⟨i,[],sb,rfl,rfl,(u.nil 73 Fe)⟩ ?_ ?_ ?_
 ·rintro _ H bg _ _ ⟨bi,z,bj,rfl,rfl,m⟩ c bl a0 I;refine Ai (dT k a0)<|gx j c m λbp c=> ?_;have⟨bs,J,c⟩:=bS c;refine AE (Gu d.up m J) ?_;rintro _ bt ⟨n,t6,bw,rfl,rfl,o⟩;refine⟨t6,rfl,?_⟩;have⟨K,b,c⟩:=bS c;refine Ad (λy C g=>∃ψ:AD,∃p:List DI,Sub n ψ∧p=g∧St ψ (cR 73 Fe y.1 p::F) C) (g:=K) ?_ ?_
  ·refine kD b rfl (λb=>?_) (λb=>?_)
   ·have⟨bx,L,b⟩:=bS b;refine AE (Ox d.up o L) ?_;rintro _ bz ⟨M,t8,c0,rfl,rfl,N⟩;refine⟨t8,rfl,?_⟩;refine AU (vs:=[.int .i64 t8.1,.int .i64 t8.2.1,.int .i64 t8.2.2.1]) N λr9 c1 q=> ?_;have⟨O,P,b⟩:=bS b;refine AZ (r:=Fe) (ms:=([(t8.1,t8.2.1,t8.2.2.1)]:List DI)) Hq q.tail rfl (lM q) (.cons (a:=[_,_,_]) ⟨[_],_,rfl,rfl,⟨[_],_,rfl,rfl,rfl⟩⟩ .nil) rfl P ?_;intro Q c2 R;exact jY rfl ⟨M,O,sb,iS b,R⟩
   exact jY rfl ⟨n,z,sb,iS b,o⟩
  rintro z7 c3 ⟨S,al,c4,rfl,ap⟩;obtain rfl:=iS c;exact jZ rfl rfl ⟨S,al,sb,I,rfl,ap⟩
 ·rintro _ H c5 ⟨T,b1,c6,rfl,rfl,U⟩ V;refine AW (dF k V)<|AO (kB rfl ⟨_,T,b1,sb,rfl,rfl,U⟩)
 rintro D c7 ⟨_,c8,W,c9,_,rfl,X⟩;have⟨Y,ch,Z,b8⟩:=lB (t:=D.2.1) X;exact AB ⟨Y,D.2.1,W,sb,rfl,iS hd,Z,b8⟩
noncomputable def Df (a:CD) (p_1:As) (b:Int):Option Bool:=(B7 a b).bind λt2=>cond t2 (((Br a b).bind λt4=>cond (decide (t4>0)) ((Br a b).bind λh=>(BU p_1 h).bind λi=>some i) (some false)).bind λr=>some r) ((Ej a b).bind λc=>(cond (decide (c< 1)) (some true) (cond (decide (c≥ (p_1.2.2.1.length:Int))) (some true) ((idx p_1.2.2.1 c).bind λj=>(Br a b).bind λk=>some (j.1 !=k)))).bind λl=>cond l (some false) ((Ek a b).bind λe=>(forS (σ:=List Int) 0 (e.length:Int) ([]:List Int) λd m=>(idx e d).bind λf=>(Br a f).bind λn=>(app m ([n]:List Int)).bind λo=>some o).bind λp=>(idx p_1.2.2.1 c).bind λg=>(Ct p g.2.1).bind λq=>some q))
theorem Nq {D:Option lO}{s:CD}{A:Pl6}{n:As}{E:Int}(e:Pt (lJ El) φ D s) (l:Gw φ A n) (V:St φ F h) {r:Bool}(hd:Df s n E=some r):
 CallsH hA 50 [(.pointer D),(aG A),(.int .i64 E)] h (Ae λv W=>∃ψ:AD,∃y:Bool,Sub φ ψ∧v=((.one aB):Sh).val y∧y=r∧St ψ F W):=by
 refine AN mixed func50 (Nc ..) ?_;have X:A.2.2.1.2.1=kK n.2.2.1:=l.k2.length;refine Db (t:=A) V λB d0 Y=> ?_;have⟨d1,Z,hd⟩:=bS hd;refine AE (Gu e Y Z) ?_;rintro _ d2 ⟨ad,t2,d3,rfl,rfl,u⟩;refine⟨t2,rfl,?_⟩;refine kD hd rfl (λhd=>?_) (λhd=>?_)
 ·have⟨al,d,hd⟩:=bS hd;refine Ad (λy G g=>∃ψ:AD,Sub ad ψ∧y.1=g∧St ψ (Wq2 B A::F) G) (g:=al) ?_ ?_
  ·have⟨d4,ap,d⟩:=bS d;refine AE (DR e.up u ap) ?_;rintro _ d5 ⟨b0,t4,d6,rfl,rfl,o⟩;refine⟨t4,rfl,?_⟩;refine kD d rfl (λd=>?_) (λd=>?_)
   ·refine Bi (t:=A) o ?_;have⟨d7,b1,d⟩:=bS d;refine AE (DR e.up o b1) ?_;rintro _ d8 ⟨d9,I,dd,rfl,rfl,f⟩;refine⟨I,rfl,?_⟩;refine AI (kQ (b:=B) (j:=0) f rfl)<|AI (kQ (b:=B) (j:=1) f rfl)<|AI (kQ (b:=B) (j:=2) f rfl)<|AI (kQ (b:=B) (j:=3) f rfl)<|AI (kQ (b:=B) (j:=4) f rfl)<|AI (kQ (b:=B) (j:=5) f rfl) ?_;have⟨dg,b2,d⟩:=bS d;refine AE (Dc l.up f b2) ?_;rintro _ dk ⟨b3,J,dl,rfl,rfl,b4⟩;refine⟨J,rfl,?_⟩;exact jY rfl ⟨b3,sb,iS d,b4⟩
   exact jY rfl ⟨b0,sb,iS d,o⟩
  rintro z3 dp ⟨b5,ds,rfl,b6⟩;exact AB ⟨b5,z3.1,sb,rfl,iS hd,b6.tail⟩
 have⟨dx,b7,hd⟩:=bS hd;refine AE (Nn e.up u b7) ?_;rintro _ dy ⟨m,K,e0,rfl,rfl,k⟩;refine⟨K,rfl,?_⟩;have⟨b8,c,hd⟩:=bS hd;refine Ad (λy G g=>∃ψ:AD,Sub m ψ∧y.1=g∧St ψ (Wq2 B A::F) G) (g:=b8) ?_ ?_
 ·refine kD c rfl (λc=>?_) (λc=>?_)
  ·exact jY rfl ⟨m,sb,iS c,k⟩
  refine AA k rfl<|kD c (by rw[X] <;>rfl) (λc=>?_) (λc=>?_)
  ·exact jY rfl ⟨m,sb,iS c,k⟩
  refine AA k rfl ?_;have⟨w,b9,c⟩:=bS c;obtain⟨e1,e2,ba,bb,bd,z⟩:=(l.k2.up (ψ:=m)).get b9;refine AF _ ba (Am bb ?_);obtain⟨_,_,rfl,rfl,⟨_,_,rfl,⟨e3,rfl,e4⟩,rfl⟩⟩:=bd;refine AL (x:=w.1) (AM (kL sb k.sub) (z 0 _ rfl)) rfl ?_;have⟨e5,bl,c⟩:=bS c;refine AE (DR e.up k bl) ?_;rintro _ e6 ⟨bp,L,e7,rfl,rfl,p⟩;refine⟨L,rfl,?_⟩;refine AI (AM (kL sb p.sub) (z 0 _ rfl))<|AI (kQ (b:=B) (j:=2) p rfl) ?_;exact jY rfl ⟨bp,sb,iS c,p⟩
 rintro g0 e8 ⟨bs,e9,rfl,a0⟩;refine kD hd rfl (λhd=>?_) (λhd=>?_)
 ·exact AB ⟨bs,false,sb,rfl,iS hd,a0.tail⟩
 have⟨ea,bt,hd⟩:=bS hd;refine AE (No e.up a0 bt) ?_;rintro _ ec ⟨P,M,ed,ee,rfl,rfl,Q,bw⟩;refine⟨M,rfl,?_⟩;have R:=Q.length;have⟨ef,bx,hd⟩:=bS hd;refine Bb bx (λbz y G g=>∃ψ:AD,∃S:List Int,Sub P ψ∧y.1=bz∧S=g∧St ψ (cR 3 (kH .i64) y.2.1 S::Wq2 B A::F) G) ((0:Int),((none,0,0):Slc),()) rfl ⟨P,[],sb,rfl,rfl,(((bw.nil 3 (kH .i64)).at1).at1)⟩ ?_ ?_ ?_
 ·rintro _ N eg _ _ ⟨ek,el,em,rfl,rfl,T⟩ i en c0 c1;refine Ai (dT R c0)<|gx Q i T λeo i=> ?_;have⟨er,c2,i⟩:=bS i;refine AE (DR e.up T c2) ?_;rintro _ es ⟨c3,C,ev,rfl,rfl,c4⟩;refine⟨C,rfl,?_⟩;refine AU (vs:=[.int .i64 C]) c4 λg1 ew U=> ?_;have⟨c5,c6,i⟩:=bS i;refine AZ (r:=(kH .i64)) (ms:=([C]:List Int)) Ci U.tail rfl (lM U) (.cons (a:=[_]) rfl .nil) rfl c6 ?_;intro g2 ex c7;obtain rfl:=iS i;exact jZ rfl rfl ⟨c3,c5,sb,c1,rfl,c7.at1.at1⟩
 ·rintro _ N ey ⟨c8,c9,ez,rfl,rfl,ch⟩ cl;refine AW (dF R cl)<|AO (kB rfl ⟨_,c8,c9,sb,rfl,rfl,ch.at1.at1⟩)
 rintro O f0 ⟨_,f1,f2,f3,_,rfl,q⟩;refine AA q.at1 rfl<|ixR Km l.k2 hd q λf4 f5 cm hd=> ?_;have⟨f6,f7,cp,cs⟩:=lB (t:=O.2.1) q;have⟨f8,cu,hd⟩:=bS hd;refine AE (IZ cp cm.up cs cu) ?_;rintro _ f9 ⟨cw,H,fa,rfl,rfl,cx⟩;refine⟨H,rfl,?_⟩;exact AB ⟨cw,H,sb,rfl,iS hd,cx.tail⟩
end
noncomputable def gA (t:cK) (p:As) (l:List Int):Option Bool:=
 (DF (σ:=Unit) (β:=Int) 0 (l.length:Int) () λi _=>(idx l i).bind λk=>(Df t p k).bind λf=>cond (!f) (some (AY.done i)) (some (AY.next ()))).bind λe=>match e with
 |.next _=>some false
 |.done i=>some (decide (i≥ 0))
noncomputable def T7 (fuel:Nat) (t:cK) (p:As) (i:Int):Option Bool:=(CO fuel t i).bind λl=>cond (decide ((l.length:Int) >0)) ((gA t p l).bind λb=>some (!b)) (some false)
section
variable {φ:AD}{h:AH}{F:List Chk}{t:Option lO}{d:cK}{p:Slc×Slc×Slc×Slc×Slc×Slc×Unit}{dp:As}{c1 c2:Nat}
structure Rw (φ:AD) (t:Option lO) (p:Slc×Slc×Slc×Slc×Slc×Slc×Unit) (c1 c2:Nat):Prop where
 b1:DC φ (jX c1) [.pointer t]
 b2:DC φ (jX c2) [sv p.1,sv p.2.1,sv p.2.2.1,sv p.2.2.2.1,sv p.2.2.2.2.1,sv p.2.2.2.2.2.1]
theorem Rw.at1 (B:Rw φ t p c1 c2) (st:St φ F h):BJ h ⟨c1,0,none⟩=some (.pointer t):=by
 have:=AM st.sub (B.b1.at 0 rfl)
 rwa [DB,Nat.zero_add]at this
theorem Rw.at2 (B:Rw φ t p c1 c2) (st:St φ F h) {j:Nat}{v:Value}(a:([sv p.1,sv p.2.1,sv p.2.2.1,sv p.2.2.2.1,sv p.2.2.2.2.1,sv p.2.2.2.2.2.1]:List Value)[j]? =some v):BJ h ⟨c2,j,none⟩=some v:=by
 have:=AM st.sub (B.b2.at j a)
 rwa [DB,Nat.zero_add]at this
theorem Rw.mono {ψ:AD}(B:Rw φ t p c1 c2) (a:Sub φ ψ):Rw ψ t p c1 c2:=⟨B.b1.mono a,B.b2.mono a⟩
theorem Wl {k:Int}{r:Bool}(B:Rw φ t p c1 c2) (b:Pt cL φ t d) (c:Gw φ p dp) (a:St φ F h) (hd:Df d dp k=some r):
 CallsH hA 49 [.int .i64 k,.pointer (jX c1),.pointer (jX c2)] h (Ae λv e=>v= .bool (!r)∧ ∃ψ,Sub φ ψ∧St ψ F e):=by refine AN mixed func49 (KT ..)<|AL (x:=t) (B.at1 a) rfl<|AL (x:=p.1) (B.at2 a rfl) rfl (AL (x:=p.2.1) (B.at2 a rfl) rfl (AL (x:=p.2.2.1) (B.at2 a rfl) rfl (AL (x:=p.2.2.2.1) (B.at2 a rfl) rfl (AL (x:=p.2.2.2.2.1) (B.at2 a rfl) rfl (AL (x:=p.2.2.2.2.2.1) (B.at2 a rfl) rfl ?_)))));refine AE (Nq (A:=p) b c a hd) ?_;rintro _ f ⟨ψ,y,le,rfl,rfl,st⟩;exact⟨y,rfl,AB ⟨rfl,ψ,le,st⟩⟩
theorem di {y:Slc}{l:List Int}{r:Bool}(B:Rw φ t p c1 c2) (m:Pt cL φ t d) (o:Gw φ p dp) (g:bO (kH .i64) φ y l) (s:St φ F h) (hd:gA d dp l=some r):
 CallsH hA 48 [.slice y.1 y.2.1 y.2.2,.func (.func 49) #[] #[.pointer (jX c1),.pointer (jX c2)]] h (Ae λv c=>v= .bool r∧ ∃ψ,Sub φ ψ∧St ψ F c):=by
 refine AN mixed func48 (FX ..) ?_;have⟨e,u,hd⟩:=bS hd;have n:=g.length;refine AE (sh:=.one aI) (S:=λv c=>∃i:Int,v= .int .i64 i∧decide (i≥ (0:Int))=r∧ ∃ψ,Sub φ ψ∧St ψ F c) ?_ ?_
 ·refine AN mixed func86 (GL ..)<|BR u (λi (z:Int×Int×Unit) w _=>z.1=i∧ ∃ψ,Sub φ ψ∧St ψ F w) ((0:Int),(0:Int),()) rfl ⟨rfl,φ,Sub.refl _,s⟩ ?_ ?_ ?_
  ·rintro _ z w _ q ⟨rfl,ψ,le,st⟩ a D hlt hw hb;refine Ai (by rw[n];exact decide_eq_true hlt) ?_;have⟨k,x,a⟩:=bS a;have⟨f,A,a⟩:=bS a;refine SC (g.mono le) x st.sub<|AE (Wl (B.mono le) (m.mono le) (o.mono le) st A) ?_;rintro _ E ⟨rfl,j,b,st⟩;refine⟨!f,rfl,?_⟩;refine kD a rfl (λa=>?_) (λa=>?_)
   ·obtain rfl:=iS a;obtain rfl:=hb _ rfl;exact Ak (Al (AB ⟨z.1,rfl,iS hd,j,le.trans b,st⟩))
   ·obtain rfl:=iS a;exact jZ rfl rfl ⟨hw,j,le.trans b,st⟩
  ·rintro _ z w _ ⟨rfl,ψ,le,st⟩ hge hr;subst hr;refine AW (by rw[n];exact decide_eq_false (Int.not_lt.2 hge))<|AO (kB rfl ⟨_,rfl,_,rfl,ψ,le,st⟩)
  ·rintro z w ⟨_,rfl,_,_,ψ,le,st⟩;exact AB ⟨-1,rfl,iS hd,ψ,le,st⟩
 ·rintro _ G ⟨i,rfl,C,ψ,le,st⟩;exact⟨i,rfl,AB ⟨by rw[←C],ψ,le,st⟩⟩
theorem Ys (fuel:Nat) {i:Int}{a:Slc×Slc×Slc×Slc×Slc×Slc×Unit}(s:Pt cL φ t d) {f j:List ByteArray}{k:List BM}{m n:List Int}{o:List ByteArray}
 (k0:bO lN φ a.1 f) (C:bO lN φ a.2.1 j) (D:bO CB φ a.2.2.1 k) (E:bO (kH .i64) φ a.2.2.2.1 m) (G:bO (kH .i64) φ a.2.2.2.2.1 n) (H:bO lN φ a.2.2.2.2.2.1 o) (I:St φ F h) {r:Bool} (hd:T7 fuel d (f,j,k,m,n,o) i=some r):
 CallsH hA 24 [.pointer t,.agg #[.slice a.1.1 a.1.2.1 a.1.2.2,.slice a.2.1.1 a.2.1.2.1 a.2.1.2.2,.slice a.2.2.1.1 a.2.2.1.2.1 a.2.2.1.2.2,.slice a.2.2.2.1.1 a.2.2.2.1.2.1 a.2.2.2.1.2.2,.slice a.2.2.2.2.1.1 a.2.2.2.2.1.2.1 a.2.2.2.2.1.2.2,.slice a.2.2.2.2.2.1.1 a.2.2.2.2.2.1.2.1 a.2.2.2.2.2.1.2.2],.int .i64 i] h
 (Ae λv J=>∃ψ:AD,∃y:Bool,Sub φ ψ∧v=((.one aB):Sh).val y∧y=r∧St ψ F J):=by
 refine AN mixed func24 (Ml ..) ?_;have K:Gw φ a (f,j,k,m,n,o):=⟨k0,C,D,E,G,H⟩;have⟨l,L,hd⟩:=bS hd;refine AU (vs:=[.pointer t]) I λM T st=>Db (t:=a) st λN U st=> ?_;have⟨V,p,O,st⟩:=St.blk st;have⟨P,e,b1,st⟩:=St.blk st;have le:=p.trans e;have B:Rw P t a M N:=⟨b1,O.mono e⟩;refine AL (x:=t) (B.at1 st) rfl<|AE (Da fuel (s.mono le) st L) ?_;rintro _ W ⟨Q,y,l',c,rfl,rfl,A,st⟩;refine⟨y,rfl,?_⟩;refine Ad (λ(z:Bool×Unit) w g=>z.1=g∧ ∃ψ,Sub φ ψ∧St ψ F w) (g:=r) ?_ ?_
 ·refine kD hd (by rw[A.length]) (λhd=>?_) (λhd=>?_)
  ·have⟨b,R,hd⟩:=bS hd;obtain rfl:=iS hd;refine AE (di (B.mono c) ((s.mono le).mono c) ((K.mono le).mono c) A st R) ?_;rintro _ X ⟨rfl,S,q,st⟩;exact⟨b,rfl,jY rfl ⟨rfl,S,(le.trans c).trans q,st⟩⟩
  ·obtain rfl:=iS hd;exact jY rfl ⟨rfl,Q,le.trans c,st⟩
 ·rintro⟨z,u⟩ w ⟨rfl,ψ,le,st⟩;exact AB ⟨ψ,z,le,rfl,rfl,st⟩
end
end Go.Proofs.YtnlkgidlfnefbaaGreatDoor
namespace Go.Proofs.YtnlkgidlfnefbaaGreatDoor
open Go Go.Eng Dg
theorem Fy {α β:Type}{l:List α}{f g:α→List β}(h:∀x∈l,f x=g x):l.flatMap f=l.flatMap g:=by
 induction l with
 |nil=>rfl
 |cons a l b=>rw[kW,kW,h a (.head _),b λx c=>h x (.tail _ c)]
abbrev tkd (x:Ds):List Int:=x.2.2.2.2.2.1
abbrev tlf (x:Ds):Bool:=x.2.2.2.2.2.2.1
abbrev ttk (x:Ds):dtT:=(x.2.2.1,x.2.2.2.1,x.2.2.2.2.1)
def kN (M:List Ds) (i:Int):List Int:=match M[i.toNat]? with
 |some x=>tkd x
 |none=>[]
def sN (M:List Ds) (i:Int):Int:=match M[i.toNat]? with
 |some x=>x.2.1
 |none=>0
def yN (M:List Ds) (i:Int):List dtT:=match M[i.toNat]? with
 |some x=>if tlf x=true then[ttk x] else[]
 |none=>[]
def bw (M:List Ds):Nat→Int→List Int
 | 0,_=>[]
 |f+1,i=>(kN M i).flatMap (bw M f) ++ [i]
def bl (M:List Ds) (i:Int):List Int:=bw M (i.toNat+1) i
def yd (M:List Ds) (i:Int):List dtT:=(bl M i).flatMap (yN M)
def WF (M:List Ds):Prop:= ∀(i:Nat) x,M[i]? =some x→ ∀k∈tkd x,0≤k∧k< (i:Int)
section
variable {M:List Ds}
theorem Oy (W:WF M) {i:Int}(c:0≤i):∀k∈kN M i,0≤k∧k<i:=λk a=>by
 unfold kN at a;split at a
 ·rename_i x b
  have:=W _ _ b k a
  omega
 ·cases a
theorem bT (W:WF M):∀(f g:Nat) (i:Int),0≤i→i.toNat<f→i.toNat<g→bw M f i=bw M g i
 | 0,_,_,_,h,_=>by omega
 |_,0,_,_,_,h=>by omega
 |f+1,g+1,i,a,c,d=>by
  unfold bw;rw[Fy λk b=>bT W f g k (Oy W a k b).1 (by have:=Oy W a k b;omega) (by have:=Oy W a k b;omega)]
theorem Xl (W:WF M) {i:Int}(a:0≤i):bl M i=(kN M i).flatMap (bl M) ++ [i]:=by show(kN M i).flatMap (bw M i.toNat) ++ [i] =_;rw[Fy λk b=>bT W i.toNat (k.toNat+1) k (Oy W a k b).1 (by have:=Oy W a k b;omega) (by omega)];rfl
theorem eR (W:WF M):∀(f:Nat) (i:Int),0≤i→ ∀k∈bw M f i,0≤k∧k≤i
 | 0,_,_,k,hk=>by cases hk
 |f+1,i,a,k,hk=>by
  unfold bw at hk;rcases List.mem_append.1 hk with h | h
  ·have⟨j,b,h⟩:=List.mem_flatMap.1 h;have c:=Oy W a j b;have d:=eR W f j c.1 k h;omega
  ·rw[lG]at h;omega
theorem VZ (W:WF M) {i:Int}(a:0≤i):∀k∈bl M i,0≤k∧k≤i:=eR W _ i a
theorem dj {α β:Type}(l:List α) (f:α→List β) (j:Nat):((l.take j).flatMap f).length≤(l.flatMap f).length:=by
 have h:(l.take j).flatMap f++(l.drop j).flatMap f=l.flatMap f:=by rw[←hM,lC]
 rw[←h,bD];omega
theorem gB {α β:Type}{l:List α}(f:α→List β) {x:α}(h:x∈l):(f x).length≤(l.flatMap f).length:=by obtain⟨a,b,rfl⟩:=List.append_of_mem h;rw[hM,kW,bD,bD];omega
theorem L8 {α:Type}{l:List α}{j:Nat}{x:α}(h:l[j]? =some x):l.take (j+1)=l.take j++ [x]:=by rw[List.take_add_one,h];rfl
end
section
variable {L:List Ds}{c:Int}
theorem QO {i:Nat}{y:Ds}(h:(L.map BA)[i]? =some y):∃b:Bool,Ax ((),L,c) (i:Int)=some (y.1,y.2.1,y.2.2.1,y.2.2.2.1,y.2.2.2.2.1,tkd y,tlf y,b,true):=by
 rw[List.getElem?_map]at h;cases hx:L[i]? with
 |none=>rw[hx]at h;cases h
 |some x=>
  rw[hx]at h;cases h;refine⟨bel x,lK ?_⟩;unfold Ax C2;have d:=(kF.1 hx).1;refine AP (Q:=λz=>z=true) (AP (Q:=λz=>z=true) (Ap (decide_eq_true (by omega)) (AC (decide_eq_true (by dsimp only;omega)))) λz a=>AC a) λz a=> ?_;subst a;exact AS rfl (AX hx (AC rfl))
theorem Xm {i:Int}(c:0≤i) (d:i< (L.length:Int)):∃(j:Nat) (y:Ds),i=(j:Int)∧(L.map BA)[j]? =some y∧kN (L.map BA) i=tkd y∧sN (L.map BA) i=y.2.1∧yN (L.map BA) i=if tlf y=true then[ttk y] else[]:=by
 have b:i.toNat< (L.map BA).length:=by rw[kJ];omega
 have a:=hC b;refine⟨i.toNat,_,by omega,a,?_,?_,?_⟩
 ·unfold kN;rw[a]
 ·unfold sN;rw[a]
 ·unfold yN;rw[a]
theorem Va {i:Int}(a:0≤i) (d:i< (L.length:Int)):Br ((),L,c) i=some (sN (L.map BA) i):=by obtain⟨j,y,rfl,e,_,f,_⟩:=Xm a d;have⟨b,g⟩:=QO (c:=c) e;refine lK ?_;unfold Br;refine AJ g (AS rfl (AC ?_));rw[f]
theorem Jo (W:WF (L.map BA)):∀(f:Nat) (i:Int),0≤i→i< (L.length:Int)→i.toNat<f→(bl (L.map BA) i).length≤100000→CO f ((),L,c) i=some (bl (L.map BA) i)
 | 0,_,_,_,h,_=>by omega
 |f+1,i,n,t,x,p=>by
  have⟨j,y,m,u,e,_,_⟩:=Xm n t;have⟨b,q⟩:=QO (c:=c) u;rw[←m]at q;have o:=Xl W n;rw[o,bD]at p;rw[e]at o p;have d:=Oy W n;rw[e]at d;show DS (CO f) ((),L,c) i=_;refine lK ?_;unfold DS;refine AJ q (AS rfl ?_);dsimp only;have v:(tkd y).length≤((tkd y).flatMap (bl (L.map BA))).length:=by
   have:∀l:List Int,(∀k∈l,0≤k)→l.length≤(l.flatMap (bl (L.map BA))).length:=by
    intro l r
    induction l with
    |nil=>exact kY _
    |cons a l w=>
     have:=w λk e=>r k (.tail _ e)
     rw[kW,bD,List.length_cons,Xl W (r a (.head _)),bD,eE];omega
   exact this _ λk e=>(d k e).1
  refine B0 (λj z=>z=((tkd y).take j).flatMap (bl (L.map BA))) (by omega) rfl (λj z m g=> ?_) λz g=> ?_
  ·have s:=hC m;have⟨k0,A⟩:=d _ (kT m);have B:=gB (bl (L.map BA)) (kT m);have C:=dj (tkd y) (bl (L.map BA)) j;refine AX s (AJ (Jo W f _ k0 (by omega) (by omega) (by omega)) (BL (by rw[g];omega) (AC ?_)));rw[L8 s,hM,g];simp
  ·rw[kX (kY _)]at g;refine BL (by rw[g,eE];omega) (AC ?_);rw[o,g]
theorem Wm (W:WF (L.map BA)) {f:Nat}{i:Int}(l:0≤i) (o:i< (L.length:Int)) (p:i.toNat<f) (r:(bl (L.map BA) i).length≤100000):EH f ((),L,c) i=some (yd (L.map BA) i):=by
 refine lK ?_;unfold EH;refine AJ (Jo W f i l o p r)<|B0 (λj z=>z.length≤j∧z=((bl (L.map BA) i).take j).flatMap (yN (L.map BA))) (by omega) ⟨kY _,rfl⟩ (λj z m a=> ?_) λz a=> ?_
 ·obtain⟨s,a⟩:=a;have n:=hC m;have g:=VZ W l _ (kT m);obtain⟨q,y,t,u,_,_,v⟩:=Xm (L:=L) (i:=(bl (L.map BA) i)[j]) g.1 (by omega);have⟨b,k⟩:=QO (c:=c) u;rw[←t]at k;have d:B7 ((),L,c) (bl (L.map BA) i)[j] =some (tlf y):=by unfold B7;rw[k];rfl
  have e:FA ((),L,c) (bl (L.map BA) i)[j] =some (ttk y):=by unfold FA;rw[k];rfl
  rw[L8 n,hM,kG,v,←a];refine AX n (AJ d ?_);refine AP (Q:=λw=>w.length≤j+1∧w=z++if tlf y=true then[ttk y] else[]) (Af (λh=> ?_) λh=>AC ⟨by omega,by rw[h];simp⟩) λw x=>AC x;exact AJ e (BL (by simp;omega) (AC ⟨by simp;omega,by rw[h];simp⟩))
 ·obtain⟨_,a⟩:=a;rw[kX (kY _)]at a;exact AC a
end
def Nr (p:dtP) (M:List Ds) (y:Ds):Prop:=
 (tlf y=true∧0<y.2.1∧y.2.1< (p.1.length:Int))∨(tlf y=false∧ ∃(k:Nat) (r:BM),0<k∧p.2.2.1[k]? =some r∧y.1=(k:Int)∧y.2.1=r.1∧(tkd y).map (sN M)=r.2.1)
theorem dm {l:List Int}(h:l.length≤1000000):Ct l l=some true:=by refine lK ?_;unfold Ct;refine AS (by simp) (Dp (λ_ _=>True) (by omega) trivial (λi _ b _=> ?_) λ_ _=>AC rfl);have a:=hC b;exact AX a (AX a (AS (by simp) (D9 trivial)))
section
variable {L:List Ds}{c:Int}{p:dtP}
theorem Yt (W:WF (L.map BA)) {i:Nat}{y:Ds}(h:(L.map BA)[i]? =some y) (w:Nr p (L.map BA) y) (x:∀r∈p.2.2.1,r.2.1.length≤1000):Df ((),L,c) p (i:Int)=some true:=by
 have⟨b,m⟩:=QO (c:=c) h;have D:i<L.length:=by have:=(kF.1 h).1;rwa [kJ]at this
 have e:B7 ((),L,c) (i:Int)=some (tlf y):=by unfold B7;rw[m];rfl
 have d:Br ((),L,c) (i:Int)=some y.2.1:=by unfold Br;rw[m];rfl
 refine lK ?_;unfold Df;refine AJ e ?_;rcases w with⟨n,q,l⟩|⟨n,k,r,q,l,A,B,s⟩
 ·refine Ap n (AP (Q:=λz=>z=true) (AJ d (Ap (decide_eq_true q) (AJ d (AP (Q:=λz=>z=true) ?_ λz a=>AC a)))) λz a=>AC a);unfold BU;exact AP (Q:=λz=>z=true) (Ap (decide_eq_true (by omega)) (AC (decide_eq_true l))) λz a=>AC a
 ·have f:Ej ((),L,c) (i:Int)=some (k:Int):=by unfold Ej;rw[m,←A];rfl
  have E:=(kF.1 l).1;have C:=x r (lD l);have t:(tkd y).length=r.2.1.length:=by rw[←s,kJ]
  have g:Ek ((),L,c) (i:Int)=some (tkd y):=by
   unfold Ek;rw[m];show(Dg.cloneD (tkd y)).bind _=_;unfold Dg.cloneD;rw[if_pos (by omega)];rfl
  refine AS n (AJ f (AP (Q:=λz=>z=false) (AS (decide_eq_false (by omega)) (AS (decide_eq_false (by omega)) (AX l (AJ d (AC (by simp[B])))))) λz a=> ?_));subst a;refine AS rfl (AJ g ?_);refine B0 (λj (z:List Int)=>z=((tkd y).take j).map (sN (L.map BA))) (by omega) rfl (λj z u a=> ?_) λz a=> ?_
  ·have v:=hC u;have o:=W i y h _ (kT u);refine AX v (AJ (Va o.1 (by omega)) (BL (by rw[a];simp;omega) (AC ?_)));rw[L8 v,kU,a];rfl
  ·rw[kX (kY _),s]at a;subst a;exact AX l (AJ (dm (by omega)) (AC rfl))
theorem Wn (W:WF (L.map BA)) (g:∀(i:Nat) y,(L.map BA)[i]? =some y→Nr p (L.map BA) y) (h:∀r∈p.2.2.1,r.2.1.length≤1000) {f:Nat}{i:Int}(a:0≤i) (k:i< (L.length:Int)) (l:i.toNat<f) (m:(bl (L.map BA) i).length≤100000):T7 f ((),L,c) p i=some true:=by
 refine lK ?_;unfold T7;refine AJ (Jo W f i a k l m) (Ap (decide_eq_true ?_) (AP (Q:=λz=>z=false) ?_ λz n=>AC (by rw[n];rfl)))
 ·rw[Xl W a,bD,eE];omega
 ·unfold gA;refine Dp (λ_ _=>True) (by omega) trivial (λj _ d _=> ?_) λ_ _=>AC rfl;have o:=hC d;have b:=VZ W a _ (kT d);obtain⟨q,y,s,e,_⟩:=Xm (L:=L) (i:=(bl (L.map BA) i)[j]) b.1 (by omega);refine AX o (AJ (x:=true) ?_ (AS rfl (D9 trivial)));rw[s];exact Yt W e (g _ _ e) h
end
section
variable {M:List Ds}{y:Ds}
theorem T8 {i:Int}(a:0≤i) (b:i< (M.length:Int)):(M++ [y])[i.toNat]? =M[i.toNat]? :=kI (by omega)
theorem T9:(M++ [y])[(M.length:Int).toNat]? =some y:=by rw[kZ,kO (kY _),lH];rfl
theorem gC {i:Int}(a:0≤i) (b:i< (M.length:Int)):kN (M++ [y]) i=kN M i:=by unfold kN;rw[T8 a b]
theorem bU {i:Int}(a:0≤i) (b:i< (M.length:Int)):sN (M++ [y]) i=sN M i:=by unfold sN;rw[T8 a b]
theorem bV {i:Int}(a:0≤i) (b:i< (M.length:Int)):yN (M++ [y]) i=yN M i:=by unfold yN;rw[T8 a b]
theorem bW (W:WF M):∀(f:Nat) (i:Int),0≤i→i< (M.length:Int)→bw (M++ [y]) f i=bw M f i
 | 0,_,_,_=>rfl
 |f+1,i,a,c=>by
  unfold bw;rw[gC a c,Fy λk b=>bW W f k (Oy W a k b).1 (by have:=Oy W a k b;omega)]
theorem Wo (W:WF M) {i:Int}(a:0≤i) (b:i< (M.length:Int)):bl (M++ [y]) i=bl M i:=bW W _ i a b
theorem gD (W:WF M) {i:Int}(a:0≤i) (c:i< (M.length:Int)):yd (M++ [y]) i=yd M i:=by unfold yd;rw[Wo W a c];exact Fy λk b=>bV (VZ W a k b).1 (by have:=VZ W a k b;omega)
theorem WF.ext (W:WF M) (b:∀k∈tkd y,0≤k∧k< (M.length:Int)):WF (M++ [y]):=λi x a=>by
 rcases lI i M.length with h | h
 ·rw[kI h]at a;exact W i x a
 ·have c:=(kF.1 a).1;rw[bD,eE]at c;obtain rfl:i=M.length:=by omega
  rw[kO h,lH]at a;cases a;exact b
theorem bX (W:WF M) (a:∀k∈tkd y,0≤k∧k< (M.length:Int)):bl (M++ [y]) (M.length:Int)=(tkd y).flatMap (bl M) ++ [(M.length:Int)]:=by
 rw[Xl (W.ext a) (by omega)]
 have:kN (M++ [y]) (M.length:Int)=tkd y:=by unfold kN;rw[T9]
 rw[this,Fy λk h=>Wo W (a k h).1 (a k h).2]
theorem gE (W:WF M) (a:∀k∈tkd y,0≤k∧k< (M.length:Int)):yd (M++ [y]) (M.length:Int)=(tkd y).flatMap (yd M) ++if tlf y=true then[ttk y] else[]:=by
 unfold yd;rw[bX W a,hM,kG,List.flatMap_assoc]
 have:yN (M++ [y]) (M.length:Int)=if tlf y=true then[ttk y] else[]:=by unfold yN;rw[T9]
 rw[this];congr 1;refine Fy λk h=>Fy λj b=> ?_;have c:=a k h;have d:=VZ W c.1 j b;exact bV d.1 (by omega)
theorem Nr.ext {p:dtP}{z:Ds}(h:Nr p M z) (a:∀k∈tkd z,0≤k∧k< (M.length:Int)):Nr p (M++ [y]) z:=by
 rcases h with h | ⟨c,k,r,d,e,f,g,i⟩
 ·exact .inl h
 ·refine .inr ⟨c,k,r,d,e,f,g,?_⟩;rw[←i];exact lF λj b=>bU (a j b).1 (a j b).2
end
structure FT (p:dtP) (toks:List dtT) (M:List Ds) (N X:List Int) (pos:Int):Prop where
 wf:WF M
 nd:∀(i:Nat) z,M[i]? =some z→Nr p M z
 inb:∀n∈N,0≤n∧n< (M.length:Int)
 sym:N.map (sN M)=X
 len:(N.flatMap (bl M)).length=M.length
 yld:N.flatMap (yd M)=toks.take pos.toNat
theorem FT.push {p:dtP}{d:List dtT}{M:List Ds}{a b X1 m:List Int}{pos pos':Int}{y:Ds}(F:FT p d M (a++b) (X1++m) pos) (q:a.length=X1.length) (l:tkd y=b) (r:b.map (sN M)=m→Nr p M y)
 (s:d.take pos'.toNat=d.take pos.toNat++if tlf y=true then[ttk y] else[]):FT p d (M++ [y]) (a++ [(M.length:Int)]) (X1++ [y.2.1]) pos':=by
 have W:=F.wf;have f:∀k∈a,0≤k∧k< (M.length:Int):=λk c=>F.inb k (List.mem_append_left _ c);have c:∀k∈tkd y,0≤k∧k< (M.length:Int):=λk c=>F.inb k (List.mem_append_right _ (by rw[←l];exact c));have o:=F.sym;rw[kU]at o;obtain⟨s1,t⟩:=List.append_inj o (by rw[kJ];exact q);refine⟨W.ext c,λi z g=> ?_,λn u=> ?_,?_,?_,?_⟩
 ·rcases lI i M.length with h | h
  ·rw[kI h]at g;exact(F.nd i z g).ext λk c=>by have:=W i z g k c;omega
  ·have v:=(kF.1 g).1;rw[bD,eE]at v;obtain rfl:i=M.length:=by omega
   rw[kO h,lH]at g;cases g;exact(r t).ext c
 ·rw[bD,eE];rcases List.mem_append.1 u with h | h
  ·have:=f n h;omega
  ·rw[lG]at h;omega
 ·have e:sN (M++ [y]) (M.length:Int)=y.2.1:=by unfold sN;rw[T9]
  rw[kU,List.map_cons,e,←s1,lF λk c=>bU (f k c).1 (f k c).2];rfl
 ·have j:=F.len;rw[hM,bD]at j;have e:a.flatMap (bl (M++ [y]))=a.flatMap (bl M):=Fy λk c=>Wo W (f k c).1 (f k c).2;rw[hM,kG,bX W c,l,e];simp only[bD,eE];omega
 ·have j:=F.yld;rw[hM]at j;have e:a.flatMap (yd (M++ [y]))=a.flatMap (yd M):=Fy λk c=>gD W (f k c).1 (f k c).2;rw[hM,kG,gE W c,l,e,s,←j,List.append_assoc]
section
variable {p:dtP}{B:List dtK}{E:List (List Edge)}{d:LkD}{tt:Int}{g:Bt}{K:MK}
theorem FT.det (q:K.p=p) {s s1:MS}{X X1:List Int}(D:Det p K s s1 X X1) (m:s.N.length=X.length) (a:0≤s.pos) (F:FT p K.toks (s.X.L.map BA) s.N X s.pos):FT p K.toks (s1.X.L.map BA) s1.N X1 s1.pos:=by
 have n:(s.X.L.map BA).length=s.X.L.length:=kJ _;cases D with
 | @shift c b d f g h i j=>
  have l:FT p K.toks (s.X.L.map BA) (s.N++ []) (X++ []) s.pos:=by rw[List.append_nil,List.append_nil];exact F
  have⟨pos,o⟩:=lA a;rw[o,Bu]at b
  have:=l.push (y:=BA (VI (T4 c) 1)) (pos':=s.pos+1) m rfl (λ_=>.inl ⟨rfl,d,f⟩) (by
   rw[o,show((pos:Int)+1).toNat=pos+1 by omega,kZ,L8 b]
   rfl)
  rw[g,h,i,j,kU,←n];exact this
 | @reduce k r l1 b d f g h i j=>
  subst f;have l:FT p K.toks (s.X.L.map BA) (s.N.take l1.length++s.N.drop l1.length) (l1++r.2.1) s.pos:=by rw[lC];exact F
  rw[bD]at m
  have:=l.push (y:=BA (VI (inner (k:Int) r.1 (s.N.drop l1.length)) (1+(((s.N.drop l1.length).length:Nat):Int)))) (pos':=s.pos) (by rw[List.length_take];omega) rfl (λe=>.inr ⟨rfl,k,r,b,d,rfl,rfl,e⟩) (by
   show _=_++if false=true then _ else _
   simp)
  rw[g,h,i,j];show FT p K.toks ((s.X.L++ [_]).map BA) _ _ _;rw[kU,←n];exact this
theorem bY (V:Env p B E d tt g) (y:K.p=p) (A:K.g=g) (C:Ou K.toks) {b l:Int}(v:l≤1099511627776):∀(n:Nat) {s:MS}{X:List Int}{qs:List Nat},EI p B E K s X qs→FT p K.toks (s.X.L.map BA) s.N X s.pos→s.kind=0→(4000 - s.steps).toNat=n→s.X.used≤l→
 ∀r,IY (kk K b l) 4000 s=some r→r.kind=1→ ∃(s':MS) (X':List Int) (qs':List Nat) (root:Int) (i:dtT) (w:BM),EI p B E K s' X' qs'∧FT p K.toks (s'.X.L.map BA) s'.N X' s'.pos∧s'.kind=0∧s'.steps<4000∧idx K.toks s'.pos=some i∧i.1=0∧
  p.2.2.1[0]? =some w∧It p.2.2.1 (KB B) (Mq 0 qs') 0 w.2.1.length∧idx s'.N ((s'.N.length:Int) - 1)=some root∧r=E5 (Fx s') 1 root 0 []:=by
 intro n
 induction n with
 |zero=>
  intro s X qs I F x G t r j m
  have:=I.st1
  rw[QN (by omega)]at j;cases j;omega
 |succ n H=>
  intro s X qs I F x G t r j m;have u:s.steps<4000:=by omega
  have W:=I.st0;have c:∀ {k q a:Int} {e:List Int},k≠0→k≠1→stepD (kk K b l) s=some (E5 (Fx s) k q a e)→False:=λh z o=>by
   rw[QM u o h]at j;cases j;exact z m
  cases Wf V y A C I x u with
  |rej f z o=>exact(c (by decide) (by decide) (o b l ⟨t,v⟩)).elim
  |bad o=>exact(c (by decide) (by decide) (o b l ⟨t,v⟩)).elim
  | @acc root i w J M O Q Y R S=>
   have h:=S b l ⟨t,v⟩;rw[QM u h (show(1:Int)≠0 by decide)]at j;cases j;exact⟨s,X,qs,root,i,w,I,F,x,u,J,M,O,Q,R,rfl⟩
  | @push s1 X1 qs1 T P D o=>
   have h:=o b l ⟨t,v⟩;have Z:=P.steps;split at h
   ·rename_i U
    rw[Rb u h P.kind]at j;exact H T (F.det y D I.N I.pos0) P.kind (by omega) U.2 r j m
   ·exact(c (by decide) (by decide) h).elim
theorem Xn (A:Aut p.2.2.1 (SB B) (KB B) (TrB p B E)):∀ {l:List Int}{n m:Nat}{s:Int},Pth (TrB p B E) n (s::l) m→1≤m
 | [],n,m,s,⟨q,b,a⟩=>by cases a;exact(A.st b).2.2.1
 |s'::l,n,m,s,⟨q,b,a⟩=>Xn A a
theorem dn (V:Env p B E d tt g) {s:MS}{X:List Int}{qs:List Nat}(I:EI p B E K s X qs) {c:BM}(f:p.2.2.1[0]? =some c) (e:It p.2.2.1 (KB B) (Mq 0 qs) 0 c.2.1.length):∃st,c.2.1= [st] ∧X= [st]:=by
 have A:=V.M.all.aut;have G:=V.M.all.gr;obtain⟨l1,q,r,a,k,b,_,m,_⟩:=A.behind G I.path.pth e;rw[f]at a;cases a;obtain⟨t,st,i,j,_⟩:=G.zero;rw[f]at i;cases i;refine⟨st,j,?_⟩;have n:=A.at0 A.s0 b;have o:q=0:=by
  rcases Nat.eq_zero_or_pos q with h | h
  ·exact h
  ·exact absurd m (cn G A n h)
 subst o;cases l1 with
 |nil=>rw[k,j];rfl
 |cons x l=>exact absurd (Xn A b) (by decide)
end
end Go.Proofs.YtnlkgidlfnefbaaGreatDoor
namespace Go.Proofs.YtnlkgidlfnefbaaGreatDoor
open Go Go.Eng
noncomputable def C3 (fuel:Nat) (small_0:J1) (e:List Int):Option Bool:=(Cc).bind λt2=>(Bd (small_0.1,small_0.2.1,small_0.2.2.1,small_0.2.2.2.1,small_0.2.2.2.2.1,small_0.2.2.2.2.2.1,small_0.2.2.2.2.2.2) 9 4).bind λj=>(cond (!j) (some true) (some (decide ((e.length:Int) >15)))).bind λk=>cond k (some t2) ((Bz (small_0.1,small_0.2.1,small_0.2.2.1,small_0.2.2.2.1,small_0.2.2.2.2.1,small_0.2.2.2.2.2.1,small_0.2.2.2.2.2.2)).bind λa=>cond (!a.2.2.2.2.2.2.2) (some t2) ((BW (a.1,a.2.1,a.2.2.1,a.2.2.2.1,a.2.2.2.2.1,a.2.2.2.2.2.1) e).bind λf=>a.2.2.2.2.2.2.1.bind λl=>(B6 (a.1,a.2.1,a.2.2.1,a.2.2.2.1,a.2.2.2.2.1,a.2.2.2.2.2.1) l f.1).bind λc=>(cond (Option.isNone (some c)) (some true) ((CW c).bind λm=>some (Option.isNone (some m)))).bind λn=>cond n (some false) ((Ao c).bind λd=>cond (d.1 !=1) (some t2) ((CW c).bind λb=>(cond t2 ((T7 fuel b (a.1,a.2.1,a.2.2.1,a.2.2.2.1,a.2.2.2.2.1,a.2.2.2.2.2.1) d.2.1).bind λo=>cond o ((idx a.2.2.1 0).bind λg=>(idx g.2.1 0).bind λh=>(Br b d.2.1).bind λp=>cond (p==h) ((cut f.1 0 (e.length:Int)).bind λi=>(EH fuel b d.2.1).bind λq=>(DZ q i).bind λr=>cond r ((Fv b).bind λs=>(CN c).bind λt=>cond (decide (s≥ (kV .i64 (t - 1)))) ((G2 b).bind λu=>(CN c).bind λv=>cond (u==(kV .i64 (v - 1))) ((CO fuel b d.2.1).bind λw=>(G2 b).bind λx=>some ((w.length:Int)==x)) (some false)) (some false)) (some false)) (some false)) (some false)) (some false)).bind λy=>some y))))
theorem G4 (fuel:Nat) {φ:AD}{h:AH}{F:List Chk}{A:Int×Int×Slc×Slc×Slc×Slc×Slc×Unit}{a4:List Int}{a5:List (List Int)}{a6:List Int}{a7:List Int}{a8:List Int}{D:Slc}{s:List Int}(gk:Jv φ) (a9:bO (kH .u8) φ A.2.2.1 a4) (ad:bO (Ro.list (kH .u8)) φ A.2.2.2.1 a5) (al:bO (kH .u8) φ A.2.2.2.2.1 a6) (ap:bO (kH .u8) φ A.2.2.2.2.2.1 a7) (b0:bO (kH .u8) φ A.2.2.2.2.2.2.1 a8) (b1:bO (kH .u8) φ D s) (s0:St φ F h) {r:Bool}(hd:C3 fuel (A.1,A.2.1,a4,a5,a6,a7,a8) s=some r):
 CallsH hA 5 [(.agg #[(.int .u8 A.1),(.int .u8 A.2.1),(sv A.2.2.1),(sv A.2.2.2.1),(sv A.2.2.2.2.1),(sv A.2.2.2.2.2.1),(sv A.2.2.2.2.2.2.1)]),(sv D)] h (Ae λv h'=>∃ψ:AD,∃y:Bool,Sub φ ψ∧v=((.one aB):Sh).val y∧y=r∧St ψ F h'):=by
 refine AN mixed func5 (Gz ..) ?_;have b2:D.2.1=kK s:=b1.length;refine AU (vs:=[.int .u8 A.1,.int .u8 A.2.1,sv A.2.2.1,sv A.2.2.2.1,sv A.2.2.2.2.1,sv A.2.2.2.2.2.1,sv A.2.2.2.2.2.2.1]) s0 λH fn c0=> ?_;have⟨fo,c1,hd⟩:=bS hd;refine AE (Dt gk c0 c1) ?_;rintro _ fr ⟨fs,t2,fv,rfl,rfl,e⟩;refine⟨t2,rfl,?_⟩;refine AA e rfl<|AA e rfl<|AA e rfl<|AA e rfl<|AA e rfl<|AA e rfl<|AA e rfl ?_;have⟨fz,c2,hd⟩:=bS hd;refine AE (Cy (A:=(A.1,A.2.1,A.2.2.1,A.2.2.2.1,A.2.2.2.2.1,A.2.2.2.2.2.1,A.2.2.2.2.2.2.1,())) a9.up ad.up al.up ap.up b0.up e c2) ?_;rintro _ g0 ⟨t,I,g1,rfl,rfl,b3⟩;refine⟨I,rfl,?_⟩;have⟨c3,p,hd⟩:=bS hd;refine Ad (λy G g=>∃ψ:AD,Sub t ψ∧y.1=g∧St ψ (Wq0 H A::F) G) (g:=c3) ?_ ?_
 ·refine kD p rfl (λp=>?_) (λp=>?_)
  ·exact jY rfl ⟨t,sb,iS p,b3⟩
  obtain rfl:=iS p;exact jY rfl ⟨t,sb,(by rw[b2]),b3⟩
 rintro e7 g2 ⟨c4,g3,rfl,c⟩;refine kD hd rfl (λhd=>?_) (λhd=>?_)
 ·exact AB ⟨c4,t2,sb,rfl,iS hd,c.tail⟩
 refine AA c rfl<|AA c rfl<|AA c rfl<|AA c rfl<|AA c rfl<|AA c rfl<|AA c rfl ?_;have⟨g4,c5,hd⟩:=bS hd;refine AE (C7 (A:=(A.1,A.2.1,A.2.2.1,A.2.2.2.1,A.2.2.2.2.1,A.2.2.2.2.2.1,A.2.2.2.2.2.2.1,())) (gk.mono sb) a9.up ad.up al.up ap.up b0.up c c5) ?_;rintro _ g5 ⟨c6,B,b4,b5,b6,b7,b8,b9,g6,g7,rfl,rfl,u,w,q,z,a0,J,c7,c8⟩;refine⟨B,rfl,?_⟩;refine AU (vs:=[.slice none 0 0,.slice none 0 0,.slice none 0 0,.slice none 0 0,.slice none 0 0,.slice none 0 0]) c8 λE g8 c9=>AG c9 rfl rfl λg9 ch=>AG ch rfl rfl λgc cl=>AG cl rfl rfl λgd cm=>AG cm rfl rfl λgf cp=>AG cp rfl rfl λgg cs=>AG cs rfl rfl λgj f=>kD hd rfl (λhd=>?_) (λhd=>?_)
 ·exact AB ⟨c6,t2,sb,rfl,iS hd,f.tail.tail⟩
 refine AA f rfl<|AA f rfl<|AA f rfl<|AA f rfl<|AA f rfl<|AA f rfl ?_;have⟨gl,cu,hd⟩:=bS hd;refine AE (B2 (B:=(B.1.1,B.1.2.1,B.1.2.2.1,B.1.2.2.2.1,B.1.2.2.2.2.1,B.1.2.2.2.2.2.1,())) (A:=(b4,b5,b6,b7,b8,b9)) ⟨u,w,q,z,a0,J⟩ b1.up f cu) ?_;rintro _ gn ⟨cw,K,go,gp,gr,rfl,rfl,ba,gs,i⟩;refine⟨K,rfl,?_⟩;refine AA i rfl<|AA i rfl<|AA i rfl<|AA i rfl<|AA i rfl<|AA i rfl ?_;have⟨gv,cx,hd⟩:=bS hd;have⟨gx,d0,hd⟩:=bS hd;refine AE (DQ (A:=(B.1.1,B.1.2.1,B.1.2.2.1,B.1.2.2.2.1,B.1.2.2.2.2.1,B.1.2.2.2.2.2.1,())) (B:=(b4,b5,b6,b7,b8,b9)) ⟨u.up,w.up,q.up,z.up,a0.up,J.up⟩ (((c7.up (ψ:=cw))).get cx) ba i d0) ?_;rintro _ h0 ⟨bb,L,h1,h2,rfl,rfl,m,bd⟩;refine⟨L,rfl,?_⟩;have⟨d1,k,hd⟩:=bS hd;refine Ad (λy G g=>∃ψ:AD,Sub bb ψ∧y.1=g∧St ψ (cW 32 E [sv B.1.1,sv B.1.2.1,sv B.1.2.2.1,sv B.1.2.2.2.1,sv B.1.2.2.2.2.1,sv B.1.2.2.2.2.2.1]::Wq0 H A::F) G) (g:=d1) ?_ ?_
 ·refine kD k (by rw[(G3 m)] <;>rfl) (λk=>?_) (λk=>?_)
  ·have d2:=bd.at1;exact jY rfl ⟨bb,sb,iS k,d2.at1⟩
  have⟨h3,d3,k⟩:=bS k;refine AE (Cg m bd d3) ?_;rintro _ h4 ⟨d4,M,h5,h6,rfl,rfl,d5,d6⟩;refine⟨M,rfl,?_⟩;have d7:=d6.at1.at1;obtain rfl:=iS k;exact jY rfl ⟨d4,sb,(by rw[(G3 d5)]),d7⟩
 rintro e8 h7 ⟨d8,h8,rfl,bf⟩;refine kD hd rfl (λhd=>?_) (λhd=>?_)
 ·exact AB ⟨d8,false,sb,rfl,iS hd,bf.tail.tail⟩
 have⟨h9,d9,hd⟩:=bS hd;refine AE (Ar m.up bf d9) ?_;rintro _ hb ⟨dd,C,hc,he,rfl,rfl,hf,dg⟩;refine⟨C,rfl,?_⟩;refine AU (vs:=[.int .i64 (0:Int),.int .i64 (0:Int),.int .i64 (0:Int),.slice none 0 0]) dg λN hg dk=>AG dk rfl rfl λhh dl=>AG dl rfl rfl λhi dp=>AG dp rfl rfl λhj ds=>AG ds rfl rfl λhk O=>AA O rfl<|kD hd rfl (λhd=>?_) (λhd=>?_)
 ·exact AB ⟨dd,t2,sb,rfl,iS hd,O.tail.tail.tail⟩
 have⟨hl,dx,hd⟩:=bS hd;refine AE (Cg m.up O dx) ?_;rintro _ hm ⟨bg,P,hn,ho,rfl,rfl,l,d⟩;refine⟨P,rfl,?_⟩;have⟨dy,a,hd⟩:=bS hd;refine Ad (λy G g=>∃ψ:AD,Sub bg ψ∧y.1=g∧St ψ (cW 44 N [.int .i64 C.1,.int .i64 C.2.1,.int .i64 C.2.2.1,sv C.2.2.2.1]::cW 32 E [sv B.1.1,sv B.1.2.1,sv B.1.2.2.1,sv B.1.2.2.2.1,sv B.1.2.2.2.2.1,sv B.1.2.2.2.2.2.1]::Wq0 H A::F) G) (g:=dy) ?_ ?_
 ·refine kD a rfl (λa=>?_) (λa=>?_)
  ·refine AA d.at1 rfl<|AA d.at1 rfl<|AA d.at1 rfl<|AA d.at1 rfl<|AA d.at1 rfl<|AA d.at1 rfl<|AA d rfl ?_;have⟨hp,e0,a⟩:=bS a;refine AE (Ys fuel (a:=(B.1.1,B.1.2.1,B.1.2.2.1,B.1.2.2.2.1,B.1.2.2.2.2.1,B.1.2.2.2.2.2.1,())) l u.up w.up q.up z.up a0.up J.up d e0) ?_;rintro _ hq ⟨bi,Q,hr,rfl,rfl,n⟩;refine⟨Q,rfl,?_⟩;refine kD a rfl (λa=>?_) (λa=>?_)
   ·refine AA n rfl<|AA n.at1 rfl ?_;have⟨hs,e1,a⟩:=bS a;obtain⟨ht,hu,e2,e3,e4,bj⟩:=(q.up (ψ:=bi)).get e1;refine AF _ e2 (Am e3 ?_);obtain⟨_,_,rfl,rfl,⟨_,_,rfl,⟨e9,rfl,ea⟩,rfl⟩⟩:=e4;refine AL (x:=e9) (by rw[Ac];exact(AM (kL sb n.sub) (bj 1 _ rfl))) rfl ?_;have⟨ec,ed,a⟩:=bS a;have⟨hv,hw,ee,ef,eg,bl⟩:=ea.get ed;refine AF _ ee (Am ef ?_);obtain rfl:=eg;refine AL (x:=ec) (AM (kL sb n.sub) (bl 0 _ rfl)) rfl ?_;have⟨hx,ek,a⟩:=bS a;refine AE (DR l.up n ek) ?_;rintro _ hy ⟨bp,R,hz,rfl,rfl,o⟩;refine⟨R,rfl,?_⟩;refine AI (AM (kL sb o.sub) (bl 0 _ rfl))<|AI (by rw[Ac];exact(AM (kL sb o.sub) (bj 1 _ rfl)))<|AI (kQ (b:=E) (j:=2) o.at1 rfl)<|kD a rfl (λa=>?_) (λa=>?_)
    ·refine AA o rfl ?_;have⟨i0,el,a⟩:=bS a;obtain⟨bs,bt⟩:=(ba.up (ψ:=bp)).cut (sz:=3) el rfl;rw[←b2]at bs bt;refine Am bs ?_;have⟨i1,em,a⟩:=bS a;refine AE (Mr fuel l.up o em) ?_;rintro _ i2 ⟨i3,S,i4,i5,rfl,rfl,en,eo⟩;refine⟨S,rfl,?_⟩;have⟨i6,er,a⟩:=bS a;have bw:=KW en bt.up eo er;try dsimp only at bw
     refine AE bw ?_;rintro _ i7 ⟨es,T,i8,rfl,rfl,bx⟩;refine⟨T,rfl,?_⟩;refine kD a rfl (λa=>?_) (λa=>?_)
     ·have⟨i9,ev,a⟩:=bS a;refine AE (HB l.up bx ev) ?_;rintro _ ia ⟨ib,U,ic,rfl,rfl,ew⟩;refine⟨U,rfl,?_⟩;have⟨ie,ex,a⟩:=bS a;refine AE (CZ m.up ew ex) ?_;rintro _ ig ⟨ey,V,ih,rfl,rfl,bz⟩;refine⟨V,rfl,?_⟩;refine kD a rfl (λa=>?_) (λa=>?_)
      ·have⟨ii,ez,a⟩:=bS a;refine AE (IH l.up bz ez) ?_;rintro _ ij ⟨ik,W,il,rfl,rfl,f0⟩;refine⟨W,rfl,?_⟩;have⟨im,f1,a⟩:=bS a;refine AE (CZ m.up f0 f1) ?_;rintro _ io ⟨f2,X,ip,rfl,rfl,Y⟩;refine⟨X,rfl,?_⟩;refine kD a rfl (λa=>?_) (λa=>?_)
       ·refine AA Y rfl ?_;have⟨iq,f3,a⟩:=bS a;refine AE (Da fuel l.up Y f3) ?_;rintro _ ir ⟨it,Z,iu,iv,rfl,rfl,f4,f5⟩;refine⟨Z,rfl,?_⟩;have f6:=f4.length;have⟨iw,f7,a⟩:=bS a;refine AE (IH l.up f5 f7) ?_;rintro _ ix ⟨f8,e5,iy,rfl,rfl,f9⟩;refine⟨e5,rfl,?_⟩;have fa:=f9.at2.at2.at2;obtain rfl:=iS a;exact jY rfl ⟨f8,sb,(by rw[f6]),fa⟩
       exact jY rfl ⟨f2,sb,iS a,Y.at2.at2.at2⟩
      exact jY rfl ⟨ey,sb,iS a,bz.at2.at2.at2⟩
     exact jY rfl ⟨es,sb,iS a,bx.at2.at2.at2⟩
    exact jY rfl ⟨bp,sb,iS a,o.at2.at2.at2⟩
   exact jY rfl ⟨bi,sb,iS a,n.at2.at2.at2⟩
  exact jY rfl ⟨bg,sb,iS a,d.at2.at2.at2⟩
 rintro e6 iz ⟨fd,j0,rfl,fl⟩;exact AB ⟨fd,e6.1,sb,rfl,iS hd,fl.tail.tail.tail⟩
end Go.Proofs.YtnlkgidlfnefbaaGreatDoor
namespace Go.Proofs.YtnlkgidlfnefbaaGreatDoor
open Go Go.Eng Dg
theorem Yu {l:List dtT}(h:l.length≤1000000):DZ l l=some true:=by refine lK ?_;unfold DZ;refine AS (by simp) (Dp (λ_ _=>True) (by omega) trivial (λi _ b _=> ?_) λ_ _=>AC rfl);have a:=hC b;exact AX a (AX a (AS (by simp) (D9 trivial)))
theorem ft0 {p:dtP}{a:List dtT}:FT p a (s00.X.L.map BA) s00.N [] s00.pos where
 wf:=λi x h=>by cases h
 nd:=λi x h=>by cases h
 inb:=λn h=>by cases h
 sym:=rfl
 len:=rfl
 yld:=rfl
theorem bZ {b:List dtT}{z a:dtT}{nT pos:Int}(h:∀x∈b,1≤x.1∧x.1<nT) (d:0≤pos) (c:idx (b++ [z]) pos=some a) (f:a.1=0):(b++ [z]).take pos.toNat=b:=by
 obtain⟨q,rfl⟩:=lA d;rw[Bu]at c;rw[kZ];have e:=(kF.1 c).1;rw[bD,eE]at e;rcases lI q b.length with g | g
 ·rw[kI g]at c
  have:=h a (lD c)
  omega
 ·obtain rfl:q=b.length:=by omega
  exact List.take_left
theorem QB {s:J1}(G:SmG s) {l:List Int}(hb:∀x∈l,0≤x∧x<256):C3 5000 s l=some true:=by
 refine lK ?_;unfold C3;refine AJ Nk (AP (V1 G 9 4) λD o=> ?_);refine AP (Q:=λz=>z=false→D=true∧l.length≤15) (Af (λh=>AC λh=>by cases h) λh=>AC λf=>⟨by simpa using h,by have:=of_decide_eq_false f;omega⟩) λz f=> ?_;cases z with
 |true=>exact Ap rfl (AC rfl)
 |false=>
  have⟨h1,h2⟩:=f rfl;refine AS rfl (AP (Wh G (bR (o h1))) λq k=> ?_);rcases k with k | ⟨k,p,B,E,d,tt,g,rfl,hg,V,H⟩
  ·exact Ap (by rw[k];rfl) (AC rfl)
  refine AS (by rw[k];rfl) (AP (Wi H (by have:=V.N;omega) (by omega) hb) λm J=> ?_);obtain⟨O,A,P,t⟩:=J;have u:Ou m.1:=by rw[A];exact T6 t rfl (by omega)
  obtain⟨r,T,g2,_⟩:=Sm (K:=⟨_,g,m.1,0,0⟩) V rfl rfl u (b1:=1000) (l1:=100000) (by decide) _ (ei0 u) rfl rfl (by decide);refine AJ hg (AJ (Xk u T) ?_);refine AP (Q:=λz=>z=false) (AS rfl (AJ rfl (AC rfl))) λz f=> ?_;subst f;refine AS rfl (AJ (Rc _ g2) (Af (λ_=>AC rfl) λR=> ?_));have R:r.kind=1:=by simpa using R
  obtain⟨s',X',a0,root,S,r0,I,F,k1,k2,k3,k4,U,k6,W,rfl⟩:=bY (K:=⟨_,g,m.1,0,0⟩) V rfl rfl u (b:=1000) (l:=100000) (by decide) _ (ei0 u) ft0 rfl rfl (by decide) r T R;have⟨st,e1,Y⟩:=dn V I U k6;have Z:=I.N;rw[Y,eE]at Z;obtain⟨n,hn⟩:∃n,s'.N= [n]:=by
   match k:s'.N,Z with
   | [n],_=>exact⟨n,rfl⟩
  rw[hn]at W F;have j:n=root:=Option.some.inj W;subst j;have⟨C,v⟩:=F.inb n (.head _);rw[kJ]at v;have e:=F.len;rw[kG,kJ]at e;have a:=F.sym;rw[Y]at a;have a:sN (s'.X.L.map BA) n=st:=(List.cons.inj a).1;have c:=F.yld;rw[kG]at c;have w:m.1.take s'.pos.toNat=O:=by
   have h3:idx m.1 s'.pos=some S:=k3;rw[A]at h3 ⊢;exact bZ t I.pos0 h3 k4
  have c:yd (s'.X.L.map BA) n=O:=c.trans w;have i1:=I.few;have i2:=I.st1;have i3:=I.live k1;have i4:=I.cu;have i5:=I.u0;have i6:=I.st0;have i7:=I.u1;have a1:(decide ((1:Int) >0))=true:=rfl;refine AJ (x:=((),s'.X.L,s'.X.cells)) rfl<|AP (Q:=λz=>z=true) (Ap rfl ?_) λz f=>AC f;refine AJ (Wn (i:=n) F.wf F.nd (λr hr=>(V.M.all.sy.short r hr)) C v (by omega) (by omega)) (Ap rfl ?_);refine AX (i:=0) U (AX (i:=0) (by rw[e1];rfl) (AJ (Va (i:=n) C v) (Ap (by rw[a];exact beq_self_eq_true _) ?_)));have y:cut m.1 (0:Int) (l.length:Int)=some O:=by
   rw[Ov (by rw[A,bD];omega),A,←P,List.take_left]
  refine AJ y (AJ (Wm (i:=n) F.wf C v (by omega) (by omega)) ?_);rw[c];have hw:kV .i64 ((E5 (Fx s') 1 n 0 []).steps - (1:Int))=s'.steps:=by
   show kV .i64 (s'.steps+1 - 1)=_;rw[w64 (by omega) (by omega)];omega
  refine AJ (Yu (by omega)) (Ap rfl (AJ (x:=s'.X.cells) rfl (AJ (x:=(E5 (Fx s') 1 n 0 []).steps) rfl ?_)));rw[hw];refine Ap (decide_eq_true (by omega)) (AJ (x:=(s'.X.L.length:Int)) rfl (AJ (x:=(E5 (Fx s') 1 n 0 []).steps) rfl ?_));rw[hw];refine Ap (by rw[i3];exact beq_self_eq_true _) (AJ (Jo F.wf 5000 n C v (by omega) (by omega)) (AJ (x:=(s'.X.L.length:Int)) rfl (AC ?_)));rw[e];exact beq_self_eq_true _
end Go.Proofs.YtnlkgidlfnefbaaGreatDoor
namespace Go.Proofs.YtnlkgidlfnefbaaGreatDoor
open Go Go.Eng
section
variable {h:AH}
theorem engineTrees {n m:Nat}{cs:List Value}{q:Option lO}{len cap:Nat}(a:Jv (BZ h)) (b:ES hA h n 25 cs) (c:ES hA h m 22 [.slice q len cap]):
 CallsH hA 5 [.agg cs.toArray,.slice q len cap] h (Ae (Uf h)):=by obtain⟨s,o,p,r,t,u,rfl,d,e,f,g,i,G⟩:=Qy b;have⟨l,j,k⟩:=Qx c;exact Qq (G4 5000 (A:=s) a d e f g i j (lL h) (QB G k))
end
end Go.Proofs.YtnlkgidlfnefbaaGreatDoor
