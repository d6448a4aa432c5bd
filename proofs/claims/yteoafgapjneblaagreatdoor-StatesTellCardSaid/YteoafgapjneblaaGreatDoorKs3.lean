/-
  Sim1, Sim2, EngP, EngO, G1, G2, G3, G4, P1, P2, P3, P4, SimX, Place, Build, RefA, put together.
  Conditions: none; each part tells its own.
-/
import Derived.Test.YteoafgapjneblaaGreatDoorKs2
import Derived.KernelRfl
import Derived.Test.YteoafgapjneblaaGreatDoorKs1
open Go.IntKind renaming wrap → bM
open List renaming getElem?_eq_getElem → bN,getElem?_append_left → bX,getElem_mem → bY,mem_of_getElem? → bZ,length → cA,length_append → cG,getElem?_set_ne → cI,length_cons → cK,mem_append_left → cL,getElem?_set_self → cP,append_assoc → cT,getElem?_append_right → cV,length_nil → cX,take_of_length_le → cY,getElem?_of_mem → dA,length_map → dD,take_add_one → dE,length_take → dH,length_pos_of_mem → dI,getElem?_eq_none → dJ,mem_append_right → dK,length_filter_le → dL,map_append → dN,filter_cons → dS,mem_append → dX,flatMap_append → dY,sublist_flatten_of_mem → dZ,foldl_append → eA,append_nil → eF,take_append_drop → eG,mem_of_mem_take → eH,mem_map_of_mem → eI,getElem_of_mem → eJ,filter_append → eL,getElem_take → eR,perm_middle → eV,range → fB
open Int renaming tmod → bO,toNat → bQ,emod_lt_of_pos → dP,toNat_natCast → dQ,le_refl → dV,emod_nonneg → dW,lt_or_le → eC
open ByteArray renaming extract → bP,toList → cQ,size → cZ
open Go.Eng.Ro renaming str → bR,int → bV,list → cF,slc → fE
open Go.Eng.Sub renaming refl → bT,trans → cU
open Go.Eng.St renaming unpair → bU,freezeRow → cB,unro → cC,cell → cH,cells → cS,lit → dO,shut → dU,shutR → fC,openR → fD
open Go.Eng.Ro.SliceIs renaming nil → bW
open Go.Eng.AT renaming done → cD,next → cE
open Option renaming bind_some → cJ,getD_some → eW
open Go.Proofs.Tryz renaming prog → cN,underlying29 → eM,underlying60 → eN,underlying62 → eO,underlying63 → eP,underlying30 → eQ,underlying41 → eT,underlying42 → eU
open Nat renaming le_refl → dB,lt_or_ge → dR,strongRecOn → eD,eq_zero_or_pos → eK,le_trans → eS
open UInt8 renaming ofNat → dC,toNat → eY
open Classical renaming propDecidable → dG
open Go.Eng.Rep renaming prod → dM,ro → eX,row → eZ
open Bool renaming and_eq_true → eB
open Prod renaming ext → fA
namespace Go.Proofs.YteoafgapjneblaaGreatDoor
open Go Go.Eng
set_option linter.unusedVariables false
set_option maxRecDepth 100000
section
variable {φ:AF}{h:AE}{F:List Chk}
theorem Bq:G0 cN 29 29 9 1:=⟨eM,.inl eM,⟨Tryz.t9,by kernel_rfl,rfl,⟨_,rfl,rfl⟩,by decide,by decide⟩,by decide⟩
theorem LC:G0 cN 60 60 99 4:=⟨eN,.inl eN,⟨Tryz.t99,by kernel_rfl,rfl,⟨_,rfl,rfl⟩,by decide,by decide⟩,by decide⟩
theorem LD:G0 cN 62 62 102 2:=⟨eO,.inl eO,⟨Tryz.t102,by kernel_rfl,rfl,⟨_,rfl,rfl⟩,by decide,by decide⟩,by decide⟩
theorem It:G0 cN 63 63 95 4:=⟨eP,.inl eP,⟨Tryz.t95,by kernel_rfl,rfl,⟨_,rfl,rfl⟩,by decide,by decide⟩,by decide⟩
noncomputable def Bn (g_0:Da):Option Bool:=
 (cond (decide ((g_0.1.length:Int) >20))
 (some true)
 (cond (decide ((g_0.2.1.length:Int) >4))
  (some true)
  (cond (decide ((g_0.2.2.1.length:Int) >10))
   (some true)
   (cond (decide ((g_0.2.2.2.2.length:Int) < 1))
    (some true)
    (cond (decide ((g_0.2.2.2.2.length:Int) >40))
     (some true)
     ((Au g_0.2.2.2.1).bind fun t9=>
      some (!t9))))))).bind fun z2=>
 cond z2
 (some false)
 ((CV (σ:=List ByteArray) (β:=Bool) 0 (g_0.1.length:Int) ([]:List ByteArray) fun i_z11 z11=>
  (idx g_0.1 i_z11).bind fun e56=>
  (app z11 ([e56.1]:List ByteArray)).bind fun t17=>
  (idx g_0.1 i_z11).bind fun e82=>
  (BM (e82.2.1,e82.2.2.1,e82.2.2.2)).bind fun t23=>
  cond (!t23)
  (some (cD false))
  (some (cE t17))).bind fun e_z10=>match e_z10 with
  |.next z10=>
   (CV (σ:=Unit) (β:=Bool) 0 (g_0.2.1.length:Int) () fun i_z25 z25=>
    (idx g_0.2.1 i_z25).bind fun e141=>
    (BM (e141.1,e141.2.1,e141.2.2)).bind fun t32=>
    cond (!t32)
    (some (cD false))
    (some (cE ()))).bind fun e_z24=>match e_z24 with
   |.next z24=>
    (CV (σ:=List ByteArray) (β:=Bool) 0 (g_0.2.2.1.length:Int) ([]:List ByteArray) fun i_z34 z34=>
     (idx g_0.2.2.1 i_z34).bind fun e198=>
     (app z34 e198.2).bind fun t42=>
     (cond (decide (e198.1< 1))
     (some true)
     (cond (decide (e198.1>3))
      (some true)
      (some ((e198.2.length:Int)==0)))).bind fun z43=>
     cond z43
     (some (cD false))
     (some (cE t42))).bind fun e_z33=>match e_z33 with
    |.next z33=>
     (CV (σ:=Unit) (β:=Bool) 0 (g_0.2.2.2.2.length:Int) () fun i_z48 z48=>
      (idx g_0.2.2.2.2 i_z48).bind fun e291=>
      ((Au e291.1).bind fun t59=>
      cond (!t59)
      (some true)
      (cond (decide ((e291.2.1.length:Int) >8))
       (some true)
       (cond (!(cQ e291.2.2.1==cQ {data:=#[]}))
        ((Au e291.2.2.1).bind fun t63=>
         cond (!t63)
         (some true)
         ((Bh e291.2.2.2).bind fun t65=>
          some (!t65)))
        ((Bh e291.2.2.2).bind fun t67=>
         some (!t67))))).bind fun z57=>
      cond z57
      (some (cD false))
      ((CV (σ:=Unit) (β:=Bool) 0 (e291.2.1.length:Int) () fun i_z69 z69=>
       (idx e291.2.1 i_z69).bind fun e387=>
       (Au e387).bind fun t74=>
       cond (!t74)
       (some (cD false))
       (some (cE ()))).bind fun e_z68=>match e_z68 with
       |.next z68=>
        some (cE ())
       |.done q422=>some (cD q422))).bind fun e_z47=>match e_z47 with
     |.next z47=>
      ((BA z10).bind fun t76=>
      cond t76
      ((BA z33).bind fun t77=>
       some t77)
      (some false)).bind fun z75=>
      some z75
     |.done q468=>some q468
    |.done q469=>some q469
   |.done q470=>some q470
  |.done q471=>some q471)
theorem Fv {g_0:Slc×Slc×Slc×ByteArray×Slc×Unit}{ai:List HH}{aj:List Hw}{ak:List DP}{al:List Dw}(am:Ro.SliceIs Hb φ g_0.1 ai) (b5:Ro.SliceIs Jo φ g_0.2.1 aj) (b6:Ro.SliceIs E1 φ g_0.2.2.1 ak) (b7:Ro.SliceIs HI φ g_0.2.2.2.2.1 al) (s0:St φ (F) h) {r:Bool}(hd:Bn (ai,aj,ak,g_0.2.2.2.1,al)=some r):
 CallsH cN 41 [(.agg #[(sv g_0.1),(sv g_0.2.1),(sv g_0.2.2.1),(.string g_0.2.2.2.1),(sv g_0.2.2.2.2.1)])] h (BL fun v h'=>∃ψ:AF,∃y:Bool,Sub φ ψ∧v=((.one aB):Sh).val y∧y=r∧St ψ (F) h'):=by
 refine AV mixed Tryz.func41 ?_;rw [Fk];unfold D0;unfold Bn at hd;have an:g_0.1.2.1=cA ai:=am.length;have ao:g_0.2.1.2.1=cA aj:=b5.length;have ap:g_0.2.2.1.2.1=cA ak:=b6.length;have a9:g_0.2.2.2.2.1.2.1=cA al:=b7.length;refine AZ (vs:=[sv g_0.1,sv g_0.2.1,sv g_0.2.2.1,.string g_0.2.2.2.1,sv g_0.2.2.2.2.1]) s0 fun r1 gs j=> ?_;obtain ⟨cj,c,hd⟩:=bS hd;refine Ai (fun (y:Bool×Unit) w_ g=>∃ψ:AF,Sub φ ψ∧y.1=g∧St ψ (Wq1 r1 g_0::F) w_) (g:=cj) ?_ ?_
 ·refine AA (x:=g_0.1) j rfl<|AG c (by rw [an] <;>rfl) (fun _ c=> ?_) (fun _ c=> ?_)
  ·obtain rfl:=iS c;exact AP (true,()) rfl ⟨φ,(bT _),rfl,j⟩
  refine AA (x:=g_0.2.1) j rfl<|AG c (by rw [ao] <;>rfl) (fun _ c=> ?_) (fun _ c=> ?_)
  ·obtain rfl:=iS c;exact AP (true,()) rfl ⟨φ,(bT _),rfl,j⟩
  refine AA (x:=g_0.2.2.1) j rfl<|AG c (by rw [ap] <;>rfl) (fun _ c=> ?_) (fun _ c=> ?_)
  ·obtain rfl:=iS c;exact AP (true,()) rfl ⟨φ,(bT _),rfl,j⟩
  refine AA (x:=g_0.2.2.2.2.1) j rfl<|AG c (by rw [a9] <;>rfl) (fun _ c=> ?_) (fun _ c=> ?_)
  ·obtain rfl:=iS c;exact AP (true,()) rfl ⟨φ,(bT _),rfl,j⟩
  refine AA (x:=g_0.2.2.2.2.1) j rfl<|AG c (by rw [a9] <;>rfl) (fun _ c=> ?_) (fun _ c=> ?_)
  ·obtain rfl:=iS c;exact AP (true,()) rfl ⟨φ,(bT _),rfl,j⟩
  refine AA (x:=g_0.2.2.2.1) j rfl ?_;obtain ⟨gt,ck,c⟩:=bS c;refine AM (Bg j ck) ?_;rintro _ gu ⟨cl,t9,cm,rfl,rfl,cn⟩;refine ⟨t9,rfl,?_⟩;obtain rfl:=iS c;exact AP ((!t9),()) rfl ⟨cl,cm,rfl,cn⟩
 rintro z2 gv ⟨aq,k,rfl,b8⟩;try dsimp only at hd
 refine AG hd rfl (fun _ hd=> ?_) (fun _ hd=> ?_)
 ·obtain rfl:=iS hd;exact AB ⟨aq,false,k,rfl,rfl,b8.tail⟩
 obtain ⟨gw,co,hd⟩:=bS hd;refine BN co (fun cp (y:Int×Slc×Bool×Unit) w_ g=>∃ψ:AF,∃b9:List ByteArray,Sub aq ψ∧y.1=cp∧b9=g∧St ψ (cR 9 bR y.2.1 b9::Wq1 r1 g_0::F) w_) ((0:Int),((none,0,0):Slc),false,()) rfl ⟨aq,[],(bT _),rfl,rfl,(((b8.nil 9 bR).at1).at1)⟩ ?_ ?_ ?_
 ·rintro _ z11 gx _ _ ⟨gy,gz,aa,rfl,rfl,ab⟩ e cq ba bb cr;try dsimp only at e cq ba bb
  refine AA (x:=g_0.1) ab.at1 rfl<|BF (dT an ba)<|AA (x:=g_0.1) ab.at1 rfl ?_;obtain ⟨ar,cs,e⟩:=bS e;obtain ⟨h0,h1,ct,cu,cv,cw⟩:=(am.mono (k.trans aa)).get cs;refine AH _ ct (Am cu ?_);obtain ⟨_,_,rfl,rfl,⟨_,_,rfl,rfl,⟨_,_,rfl,rfl,rfl⟩⟩⟩:=cv;refine AN (x:=ar.1) (AD ab.sub (cw 0 _ rfl)) rfl<|AZ (vs:=[.string ar.1]) ab fun r16 h2 bc=> ?_;obtain ⟨d3,d4,e⟩:=bS e;refine Aa (r:=bR) (ms:=([ar.1]:List ByteArray)) Bq bc.tail rfl (cS bc) (.cons (a:=[_]) rfl .nil) rfl d4 ?_;intro t17 h3 a4;refine AA (x:=g_0.1) a4.at1 rfl ?_;obtain ⟨w,d5,e⟩:=bS e;obtain ⟨h4,h5,d6,d7,d8,au⟩:=(am.mono (k.trans aa)).get d5;refine AH _ d6 (Am d7 ?_);obtain ⟨_,_,rfl,rfl,⟨_,_,rfl,rfl,⟨_,_,rfl,rfl,rfl⟩⟩⟩:=d8;refine AN (x:=w.2.1) (by rw [Ac];exact (AD a4.sub (au 1 _ rfl))) rfl<|AN (x:=w.2.2.1) (by rw [Ac,Ac];exact (AD a4.sub (au 2 _ rfl))) rfl<|AN (x:=w.2.2.2) (by rw [Ac,Ac];exact (AD a4.sub (au 3 _ rfl))) rfl ?_;obtain ⟨h6,df,e⟩:=bS e;refine AM (C3 (p_0:=(w.2.1,w.2.2.1,w.2.2.2,())) a4 df) ?_;rintro _ h7 ⟨bd,t23,be,rfl,rfl,bf⟩;refine ⟨t23,rfl,?_⟩;refine AG e rfl (fun _ e=> ?_) (fun _ e=> ?_)
  ·obtain rfl:=iS e;obtain rfl:=cr _ rfl;try dsimp only at hd
   obtain rfl:=iS hd;exact Ae (Ah (AB ⟨bd,false,((k.trans aa).trans be),rfl,rfl,bf.tail.tail⟩))
  obtain rfl:=iS e;exact Al ((wN z11.1),t17,z11.2.2.1,()) _ rfl rfl ⟨bd,d3,(aa.trans be),bb,rfl,bf.at1.at1⟩
 ·rintro _ z11 h8 _ ⟨dg,dh,di,rfl,rfl,bg⟩ dj dk;subst dk;refine AA (x:=g_0.1) bg.at1 rfl<|As (dF an dj)<|AO (AR (z11.1,z11.2.1,z11.2.2.1,()) rfl ⟨_,rfl,_,dg,dh,di,rfl,rfl,bg.at1.at1⟩)
 rintro z10 h9 ⟨_,rfl,_,bh,z,p,_,rfl,dl⟩;try dsimp only at hd
 obtain ⟨hb,dm,hd⟩:=bS hd;refine BN dm (fun dn (y:Int×Bool×Unit) w_ g=>∃ψ:AF,Sub bh ψ∧y.1=dn∧()=g∧St ψ (cR 9 bR z10.2.1 z::Wq1 r1 g_0::F) w_) ((0:Int),z10.2.2.1,()) rfl ⟨bh,(bT _),rfl,rfl,dl.at1.at1⟩ ?_ ?_ ?_
 ·rintro _ z25 hc _ _ ⟨he,av,rfl,rfl,a0⟩ l dp bi bj dq;try dsimp only at l dp bi bj
  refine AA (x:=g_0.2.1) a0.at1 rfl<|BF (dT ao bi)<|AA (x:=g_0.2.1) a0.at1 rfl ?_;obtain ⟨a1,dr,l⟩:=bS l;obtain ⟨hf,hg,ds,dt,du,aw⟩:=(b5.mono ((k.trans p).trans av)).get dr;refine AH _ ds (Am dt ?_);obtain ⟨_,_,rfl,rfl,⟨_,_,rfl,rfl,rfl⟩⟩:=du;refine AN (x:=a1.1) (AD a0.sub (aw 0 _ rfl)) rfl<|AN (x:=a1.2.1) (by rw [Ac];exact (AD a0.sub (aw 1 _ rfl))) rfl<|AN (x:=a1.2.2) (by rw [Ac];exact (AD a0.sub (aw 2 _ rfl))) rfl ?_;obtain ⟨hh,dz,l⟩:=bS l;refine AM (C3 (p_0:=(a1.1,a1.2.1,a1.2.2,())) a0 dz) ?_;rintro _ hi ⟨bk,t32,bl,rfl,rfl,bm⟩;refine ⟨t32,rfl,?_⟩;refine AG l rfl (fun _ l=> ?_) (fun _ l=> ?_)
  ·obtain rfl:=iS l;obtain rfl:=dq _ rfl;try dsimp only at hd
   obtain rfl:=iS hd;exact Ae (Ah (AB ⟨bk,false,(((k.trans p).trans av).trans bl),rfl,rfl,bm.tail.tail⟩))
  obtain rfl:=iS l;exact Al ((wN z25.1),z25.2.1,()) _ rfl rfl ⟨bk,(av.trans bl),bj,rfl,bm.at1.at1⟩
 ·rintro _ z25 hj _ ⟨e0,e1,rfl,rfl,bn⟩ e2 e3;subst e3;refine AA (x:=g_0.2.1) bn.at1 rfl<|As (dF ao e2)<|AO (AR (z25.1,z25.2.1,()) rfl ⟨_,rfl,_,e0,e1,rfl,rfl,bn.at1.at1⟩)
 rintro z24 hk ⟨_,rfl,_,bo,a2,_,rfl,e4⟩;try dsimp only at hd
 obtain ⟨hl,e5,hd⟩:=bS hd;refine BN e5 (fun e6 (y:Int×Slc×Bool×Unit) w_ g=>∃ψ:AF,∃bp:List ByteArray,Sub bo ψ∧y.1=e6∧bp=g∧St ψ (cR 9 bR y.2.1 bp::cR 9 bR z10.2.1 z::Wq1 r1 g_0::F) w_) ((0:Int),((none,0,0):Slc),z24.2.1,()) rfl ⟨bo,[],(bT _),rfl,rfl,((((e4.nil 9 bR).at2).at2).at2)⟩ ?_ ?_ ?_
 ·rintro _ z34 hm _ _ ⟨ac,hn,ax,rfl,rfl,a5⟩ i e7 bq br e8;try dsimp only at i e7 bq br
  refine AA (x:=g_0.2.2.1) a5.at2 rfl<|BF (dT ap bq)<|AA (x:=g_0.2.2.1) a5.at2 rfl ?_;obtain ⟨a6,e9,i⟩:=bS i;obtain ⟨ho,hp,ea,eb,ec,bs⟩:=(b6.mono (((k.trans p).trans a2).trans ax)).get e9;refine AH _ ea (Am eb ?_);obtain ⟨_,_,rfl,rfl,⟨a7,rfl,bt⟩⟩:=ec;have bu:=bt.length;refine AN (x:=a6.1) (AD a5.sub (bs 0 _ rfl)) rfl<|AN (x:=a7) (by rw [Ac];exact (AD a5.sub (bs 1 _ rfl))) rfl<|AZ (vs:=[.int .i64 (0:Int),.slice none 0 0]) a5 fun r40 hq ef=>AI ef rfl rfl fun hr eg=>AI eg rfl rfl fun hs ay=>AA (x:=a7) ay rfl ?_;obtain ⟨ht,eh,ei⟩:=bt.heap ay.sub;obtain ⟨bv,ej,i⟩:=bS i;refine Aa (r:=bR) (ms:=a6.2) Bq ay.at1 rfl ei eh bu.symm ej ?_;intro t42 hu a3;obtain ⟨ek,n,i⟩:=bS i;refine Ai (fun (y:Bool×Unit) w_ g=>∃ψ:AF,Sub ac ψ∧y.1=g∧St ψ (cR 9 bR t42 bv::cW 102 r40 [.int .i64 a6.1,sv a7]::cR 9 bR z10.2.1 z::Wq1 r1 g_0::F) w_) (g:=ek) ?_ ?_
  ·refine AA (x:=a6.1) a3.at1 rfl<|AG n rfl (fun _ n=> ?_) (fun _ n=> ?_)
   ·have el:=a3.at3;obtain rfl:=iS n;exact AP (true,()) rfl ⟨ac,(bT _),rfl,el.at3.at3.at3⟩
   refine AA (x:=a6.1) a3.at1 rfl<|AG n rfl (fun _ n=> ?_) (fun _ n=> ?_)
   ·have em:=a3.at3;obtain rfl:=iS n;exact AP (true,()) rfl ⟨ac,(bT _),rfl,em.at3.at3.at3⟩
   refine AA (x:=a7) a3.at1 rfl ?_;have en:=a3.at3.at3.at3.at3;obtain rfl:=iS n;exact AP (((a7.2.1:Int)==(0:Int)),()) rfl ⟨ac,(bT _),(by rw [bu]),en⟩
  rintro z43 hv ⟨bw,bx,rfl,bz⟩;try dsimp only at i
  refine AG i rfl (fun _ i=> ?_) (fun _ i=> ?_)
  ·obtain rfl:=iS i;obtain rfl:=e8 _ rfl;try dsimp only at hd
   obtain rfl:=iS hd;exact Ae (Ah (AB ⟨bw,false,((((k.trans p).trans a2).trans ax).trans bx),rfl,rfl,bz.tail.tail.tail.tail⟩))
  obtain rfl:=iS i;exact Al ((wN z34.1),t42,z34.2.2.1,()) _ rfl rfl ⟨bw,bv,(ax.trans bx),br,rfl,bz.at1.tail.at2.at2.at2⟩
 ·rintro _ z34 hw _ ⟨eo,ep,er,rfl,rfl,c0⟩ es eu;subst eu;refine AA (x:=g_0.2.2.1) c0.at2 rfl<|As (dF ap es)<|AO (AR (z34.1,z34.2.1,z34.2.2.1,()) rfl ⟨_,rfl,_,eo,ep,er,rfl,rfl,c0.at2.at2.at2⟩)
 rintro z33 hx ⟨_,rfl,_,c1,az,ad,_,rfl,ev⟩;try dsimp only at hd
 obtain ⟨hy,ew,hd⟩:=bS hd;refine BN ew (fun ex (y:Int×Bool×Unit) w_ g=>∃ψ:AF,Sub c1 ψ∧y.1=ex∧()=g∧St ψ (cR 9 bR z33.2.1 az::cR 9 bR z10.2.1 z::Wq1 r1 g_0::F) w_) ((0:Int),z33.2.2.1,()) rfl ⟨c1,(bT _),rfl,rfl,ev.at2.at2.at2⟩ ?_ ?_ ?_
 ·rintro _ z48 hz _ _ ⟨ey,ae,rfl,rfl,s⟩ d ez c2 c3 c4;try dsimp only at d ez c2 c3
  refine AA (x:=g_0.2.2.2.2.1) s.at2 rfl<|BF (dT a9 c2)<|AA (x:=g_0.2.2.2.2.1) s.at2 rfl ?_;obtain ⟨f,f0,d⟩:=bS d;obtain ⟨i0,i1,f1,f2,f3,af⟩:=(b7.mono ((((k.trans p).trans a2).trans ad).trans ae)).get f0;refine AH _ f1 (Am f2 ?_);obtain ⟨_,_,rfl,rfl,⟨_,_,rfl,⟨u,rfl,c5⟩,f7⟩⟩:=f3;have b0:=c5.length;obtain ⟨_,_,rfl,rfl,rfl⟩:=f7;refine AN (x:=f.1) (AD s.sub (af 0 _ rfl)) rfl<|AN (x:=u) (by rw [Ac];exact (AD s.sub (af 1 _ rfl))) rfl<|AN (x:=f.2.2.1) (by rw [Ac];exact (AD s.sub (af 2 _ rfl))) rfl<|AN (x:=f.2.2.2) (by rw [Ac];exact (AD s.sub (af 3 _ rfl))) rfl<|AZ (vs:=[.string ({data:=#[]}),.slice none 0 0,.string ({data:=#[]}),.string ({data:=#[]})]) s fun r56 i2 fa=>AI fa rfl rfl fun i3 fb=>AI fb rfl rfl fun i4 fc=>AI fc rfl rfl fun i5 fd=>AI fd rfl rfl fun i6 c6=> ?_;obtain ⟨fe,b,d⟩:=bS d;refine Ai (fun (y:Bool×Unit) w_ g=>∃ψ:AF,Sub ey ψ∧y.1=g∧St ψ (cW 95 r56 [.string f.1,sv u,.string f.2.2.1,.string f.2.2.2]::cR 9 bR z33.2.1 az::cR 9 bR z10.2.1 z::Wq1 r1 g_0::F) w_) (g:=fe) ?_ ?_
  ·refine AA (x:=f.1) c6 rfl ?_;obtain ⟨i7,ff,b⟩:=bS b;refine AM (Bg c6 ff) ?_;rintro _ i8 ⟨c7,t59,a8,rfl,rfl,q⟩;refine ⟨t59,rfl,?_⟩;refine AG b rfl (fun _ b=> ?_) (fun _ b=> ?_)
   ·have fg:=q.at3;obtain rfl:=iS b;exact AP (true,()) rfl ⟨c7,a8,rfl,fg.at3.at3.at3⟩
   refine AA (x:=u) q rfl<|AG b (by rw [b0] <;>rfl) (fun _ b=> ?_) (fun _ b=> ?_)
   ·have fh:=q.at3;obtain rfl:=iS b;exact AP (true,()) rfl ⟨c7,a8,rfl,fh.at3.at3.at3⟩
   refine AA (x:=f.2.2.1) q rfl<|AG b rfl (fun _ b=> ?_) (fun _ b=> ?_)
   ·refine AA (x:=f.2.2.1) q rfl ?_;obtain ⟨i9,fi,b⟩:=bS b;refine AM (Bg q fi) ?_;rintro _ ia ⟨fj,t63,c8,rfl,rfl,b1⟩;refine ⟨t63,rfl,?_⟩;refine AG b rfl (fun _ b=> ?_) (fun _ b=> ?_)
    ·have fk:=b1.at3;obtain rfl:=iS b;exact AP (true,()) rfl ⟨fj,(a8.trans c8),rfl,fk.at3.at3.at3⟩
    refine AA (x:=f.2.2.2) b1 rfl ?_;obtain ⟨ib,fl,b⟩:=bS b;refine AM (DG b1 fl) ?_;rintro _ ic ⟨fm,t65,fn,rfl,rfl,fo⟩;refine ⟨t65,rfl,?_⟩;obtain rfl:=iS b;exact AP ((!t65),()) rfl ⟨fm,((a8.trans c8).trans fn),rfl,fo.at3.at3.at3.at3⟩
   refine AA (x:=f.2.2.2) q rfl ?_;obtain ⟨ie,fp,b⟩:=bS b;refine AM (DG q fp) ?_;rintro _ ig ⟨fq,t67,fr,rfl,rfl,fs⟩;refine ⟨t67,rfl,?_⟩;obtain rfl:=iS b;exact AP ((!t67),()) rfl ⟨fq,(a8.trans fr),rfl,fs.at3.at3.at3.at3⟩
  rintro z57 ih ⟨b2,ag,rfl,c9⟩;try dsimp only at d
  refine AG d rfl (fun _ d=> ?_) (fun _ d=> ?_)
  ·obtain rfl:=iS d;obtain rfl:=c4 _ rfl;try dsimp only at hd
   obtain rfl:=iS hd;exact Ae (Ah (AB ⟨b2,false,(((((k.trans p).trans a2).trans ad).trans ae).trans ag),rfl,rfl,c9.tail.tail.tail.tail⟩))
  obtain ⟨ii,ft,d⟩:=bS d;refine BN ft (fun fu (y:Int×Bool×Unit) w_ g=>∃ψ:AF,Sub b2 ψ∧y.1=fu∧()=g∧St ψ (cW 95 r56 [.string f.1,sv u,.string f.2.2.1,.string f.2.2.2]::cR 9 bR z33.2.1 az::cR 9 bR z10.2.1 z::Wq1 r1 g_0::F) w_) ((0:Int),z48.2.1,()) rfl ⟨b2,(bT _),rfl,rfl,c9.at3.at3.at3.at3⟩ ?_ ?_ ?_
  ·rintro _ z69 ij _ _ ⟨ik,b3,rfl,rfl,ah⟩ m fv ca cb fw;try dsimp only at m fv ca cb
   refine AA (x:=u) ah rfl<|BF (dT b0 ca)<|AA (x:=u) ah rfl ?_;obtain ⟨il,fx,m⟩:=bS m;refine Dv c5 fx (cU (ag.trans b3) ah.sub) ?_;obtain ⟨im,fy,m⟩:=bS m;refine AM (Bg ah fy) ?_;rintro _ io ⟨cc,t74,cd,rfl,rfl,ce⟩;refine ⟨t74,rfl,?_⟩;refine AG m rfl (fun _ m=> ?_) (fun _ m=> ?_)
   ·obtain rfl:=iS m;obtain rfl:=fw _ rfl;try dsimp only at d
    obtain rfl:=iS d;obtain rfl:=c4 _ rfl;try dsimp only at hd
    obtain rfl:=iS hd;exact Ae (Ah (Ae (Ah (AB ⟨cc,false,(((((((k.trans p).trans a2).trans ad).trans ae).trans ag).trans b3).trans cd),rfl,rfl,ce.tail.tail.tail.tail⟩))))
   obtain rfl:=iS m;exact Al ((wN z69.1),z69.2.1,()) _ rfl rfl ⟨cc,(b3.trans cd),cb,rfl,ce.at3.at3.at3.at3⟩
  ·rintro _ z69 ip _ ⟨fz,g0,rfl,rfl,cf⟩ g1 g2;subst g2;refine AA (x:=u) cf rfl<|As (dF b0 g1)<|AO (AR (z69.1,z69.2.1,()) rfl ⟨_,rfl,_,fz,g0,rfl,rfl,cf.at3.at3.at3.at3⟩)
  rintro z68 iq ⟨_,rfl,_,g3,g4,_,rfl,g5⟩;try dsimp only at d
  obtain rfl:=iS d;exact Al ((wN z48.1),z68.2.1,()) _ rfl rfl ⟨g3,((ae.trans ag).trans g4),c3,rfl,g5.tail.at2.at2.at2⟩
 ·rintro _ z48 ir _ ⟨g6,g7,rfl,rfl,cg⟩ g8 g9;subst g9;refine AA (x:=g_0.2.2.2.2.1) cg.at2 rfl<|As (dF a9 g8)<|AO (AR (z48.1,z48.2.1,()) rfl ⟨_,rfl,_,g6,g7,rfl,rfl,cg.at2.at2.at2⟩)
 rintro z47 it ⟨_,rfl,_,iu,ga,_,rfl,gb⟩;try dsimp only at hd
 obtain ⟨iv,gc,gd,ge⟩:=cB (t:=z10.2.1) gb.at1;obtain ⟨gf,ch,gg,gh⟩:=cB (t:=z33.2.1) ge;obtain ⟨gi,o,hd⟩:=bS hd;refine Ai (fun (y:Bool×Unit) w_ g=>∃ψ:AF,Sub gf ψ∧y.1=g∧St ψ (Wq1 r1 g_0::F) w_) (g:=gi) ?_ ?_
 ·obtain ⟨iw,gj,o⟩:=bS o;refine AM (Dg (gd.mono ch) gh gj) ?_;rintro _ ix ⟨gk,t76,b4,rfl,rfl,ci⟩;refine ⟨t76,rfl,?_⟩;refine AG o rfl (fun _ o=> ?_) (fun _ o=> ?_)
  ·obtain ⟨iy,gl,o⟩:=bS o;refine AM (Dg (gg.mono b4) ci gl) ?_;rintro _ iz ⟨gm,t77,gn,rfl,rfl,go⟩;refine ⟨t77,rfl,?_⟩;obtain rfl:=iS o;exact AP (t77,()) rfl ⟨gm,(b4.trans gn),rfl,go⟩
  obtain rfl:=iS o;exact AP (false,()) rfl ⟨gk,b4,rfl,ci⟩
 rintro z75 j0 ⟨gp,gq,rfl,gr⟩;try dsimp only at hd
 obtain rfl:=iS hd;exact AB ⟨gp,z75.1,(((((((k.trans p).trans a2).trans ad).trans ga).trans gc).trans ch).trans gq),rfl,rfl,gr.tail⟩
noncomputable def A6 (s_0:Ib):Option (List HH×List Hw×List DP×ByteArray×List Dw):=need ((5:Int)≠0)<|need ((4:Int)≠0)<|(Fe (σ:=Da) 0 (s_0.2.2.2.2.2.1.length:Int) (([]:List HH),([]:List Hw),([]:List DP),{data:=#[83]},([]:List Dw)) fun i_z7 z7=>(idx s_0.2.2.2.2.2.1 i_z7).bind fun e75=>need ((3:Int)≠0)<|need (0≤i_z7∧i_z7≤(bM .i64 (i_z7+1))∧(bM .i64 (i_z7+1)) ≤(cZ {data:=#[112,113,114,115,116]} :Nat))<|(app z7.2.2.1 ([((bM .i64 ((bM .i64 (bO e75 3))+1)),([(bP {data:=#[112,113,114,115,116]} (bQ i_z7) (bQ (bM .i64 (i_z7+1))))]:List ByteArray))]:List DP)).bind fun t15=>some (z7.1,z7.2.1,t15,(z7.2.2.2.1),z7.2.2.2.2)).bind fun z6=>(Fe (σ:=Da) 0 (bM .i64 ((bM .i64 (bO s_0.1 5))+1)) z6 fun i_z17 z17=>need (0≤i_z17∧i_z17≤(bM .i64 (i_z17+1))∧(bM .i64 (i_z17+1)) ≤(cZ {data:=#[97,98,99,100,101]} :Nat))<|(app z17.1 ([((bP {data:=#[97,98,99,100,101]} (bQ i_z17) (bQ (bM .i64 (i_z17+1)))),(bP {data:=#[97,98,99,100,101]} (bQ i_z17) (bQ (bM .i64 (i_z17+1)))),{data:=#[]},false)]:List HH)).bind fun t20=>(cond (decide (i_z17< (s_0.2.2.2.2.2.2.length:Int))) ((idx s_0.2.2.2.2.2.2 i_z17).bind fun e175=>need ((bM .i64 ((((cA (t20,z17.2.1,z17.2.2.1,(z17.2.2.2.1),z17.2.2.2.2).2.2.1):Nat):Int)+1))≠0)<|(cond (decide ((bO (bM .i64 e175) (bM .i64 ((((cA (t20,z17.2.1,z17.2.2.1,(z17.2.2.2.1),z17.2.2.2.2).2.2.1):Nat):Int)+1))) >0)) ((idx ((t20,z17.2.1,z17.2.2.1,(z17.2.2.2.1),z17.2.2.2.2).1,(t20,z17.2.1,z17.2.2.1,(z17.2.2.2.1),z17.2.2.2.2).2.1,(t20,z17.2.1,z17.2.2.1,(z17.2.2.2.1),z17.2.2.2.2).2.2.1,((t20,z17.2.1,z17.2.2.1,(z17.2.2.2.1),z17.2.2.2.2).2.2.2.1),(t20,z17.2.1,z17.2.2.1,(z17.2.2.2.1),z17.2.2.2.2).2.2.2.2).2.2.1 (bM .i64 ((bO (bM .i64 e175) (bM .i64 ((((cA (t20,z17.2.1,z17.2.2.1,(z17.2.2.2.1),z17.2.2.2.2).2.2.1):Nat):Int)+1))) - 1))).bind fun e216=>(app ([]:List ByteArray) e216.2).bind fun t33=>(app t33 ([(bP {data:=#[97,98,99,100,101]} (bQ i_z17) (bQ (bM .i64 (i_z17+1))))]:List ByteArray)).bind fun t35=>(idx ((t20,z17.2.1,z17.2.2.1,(z17.2.2.2.1),z17.2.2.2.2).1,(t20,z17.2.1,z17.2.2.1,(z17.2.2.2.1),z17.2.2.2.2).2.1,(t20,z17.2.1,z17.2.2.1,(z17.2.2.2.1),z17.2.2.2.2).2.2.1,((t20,z17.2.1,z17.2.2.1,(z17.2.2.2.1),z17.2.2.2.2).2.2.2.1),(t20,z17.2.1,z17.2.2.1,(z17.2.2.2.1),z17.2.2.2.2).2.2.2.2).2.2.1 (bM .i64 ((bO (bM .i64 e175) (bM .i64 ((((cA (t20,z17.2.1,z17.2.2.1,(z17.2.2.2.1),z17.2.2.2.2).2.2.1):Nat):Int)+1))) - 1))).bind fun e253=>(GO (((t20,z17.2.1,z17.2.2.1,(z17.2.2.2.1),z17.2.2.2.2).1,(t20,z17.2.1,z17.2.2.1,(z17.2.2.2.1),z17.2.2.2.2).2.1,(t20,z17.2.1,z17.2.2.1,(z17.2.2.2.1),z17.2.2.2.2).2.2.1,((t20,z17.2.1,z17.2.2.1,(z17.2.2.2.1),z17.2.2.2.2).2.2.2.1),(t20,z17.2.1,z17.2.2.1,(z17.2.2.2.1),z17.2.2.2.2).2.2.2.2).2.2.1) (bM .i64 ((bO (bM .i64 e175) (bM .i64 ((((cA (t20,z17.2.1,z17.2.2.1,(z17.2.2.2.1),z17.2.2.2.2).2.2.1):Nat):Int)+1))) - 1)) (e253.1,t35)).bind fun m268=>some (((t20,z17.2.1,z17.2.2.1,(z17.2.2.2.1),z17.2.2.2.2).1,(t20,z17.2.1,z17.2.2.1,(z17.2.2.2.1),z17.2.2.2.2).2.1,(t20,z17.2.1,z17.2.2.1,(z17.2.2.2.1),z17.2.2.2.2).2.2.1,((t20,z17.2.1,z17.2.2.1,(z17.2.2.2.1),z17.2.2.2.2).2.2.2.1),(t20,z17.2.1,z17.2.2.1,(z17.2.2.2.1),z17.2.2.2.2).2.2.2.2).1,((t20,z17.2.1,z17.2.2.1,(z17.2.2.2.1),z17.2.2.2.2).1,(t20,z17.2.1,z17.2.2.1,(z17.2.2.2.1),z17.2.2.2.2).2.1,(t20,z17.2.1,z17.2.2.1,(z17.2.2.2.1),z17.2.2.2.2).2.2.1,((t20,z17.2.1,z17.2.2.1,(z17.2.2.2.1),z17.2.2.2.2).2.2.2.1),(t20,z17.2.1,z17.2.2.1,(z17.2.2.2.1),z17.2.2.2.2).2.2.2.2).2.1,m268,(((t20,z17.2.1,z17.2.2.1,(z17.2.2.2.1),z17.2.2.2.2).1,(t20,z17.2.1,z17.2.2.1,(z17.2.2.2.1),z17.2.2.2.2).2.1,(t20,z17.2.1,z17.2.2.1,(z17.2.2.2.1),z17.2.2.2.2).2.2.1,((t20,z17.2.1,z17.2.2.1,(z17.2.2.2.1),z17.2.2.2.2).2.2.2.1),(t20,z17.2.1,z17.2.2.1,(z17.2.2.2.1),z17.2.2.2.2).2.2.2.2).2.2.2.1),((t20,z17.2.1,z17.2.2.1,(z17.2.2.2.1),z17.2.2.2.2).1,(t20,z17.2.1,z17.2.2.1,(z17.2.2.2.1),z17.2.2.2.2).2.1,(t20,z17.2.1,z17.2.2.1,(z17.2.2.2.1),z17.2.2.2.2).2.2.1,((t20,z17.2.1,z17.2.2.1,(z17.2.2.2.1),z17.2.2.2.2).2.2.2.1),(t20,z17.2.1,z17.2.2.1,(z17.2.2.2.1),z17.2.2.2.2).2.2.2.2).2.2.2.2)) (some ((t20,z17.2.1,z17.2.2.1,(z17.2.2.2.1),z17.2.2.2.2).1,(t20,z17.2.1,z17.2.2.1,(z17.2.2.2.1),z17.2.2.2.2).2.1,(t20,z17.2.1,z17.2.2.1,(z17.2.2.2.1),z17.2.2.2.2).2.2.1,((t20,z17.2.1,z17.2.2.1,(z17.2.2.2.1),z17.2.2.2.2).2.2.2.1),(t20,z17.2.1,z17.2.2.1,(z17.2.2.2.1),z17.2.2.2.2).2.2.2.2))).bind fun z27=>some z27) (some (t20,z17.2.1,z17.2.2.1,(z17.2.2.2.1),z17.2.2.2.2))).bind fun z22=>some z22).bind fun z16=>(Fe (σ:=Da) 0 (s_0.2.2.1.length:Int) z16 fun i_z47 z47=>(idx s_0.2.2.1 i_z47).bind fun e458=>need ((bM .i64 ((bM .i64 (bO s_0.2.1 4))+1))≠0)<|(idx s_0.2.2.1 i_z47).bind fun e468=>need ((bM .i64 ((bM .i64 (bO s_0.2.1 4))+1))≠0)<|need (0≤(bO (bM .i64 e458) (bM .i64 ((bM .i64 (bO s_0.2.1 4))+1)))∧(bO (bM .i64 e458) (bM .i64 ((bM .i64 (bO s_0.2.1 4))+1))) ≤(bM .i64 ((bO (bM .i64 e468) (bM .i64 ((bM .i64 (bO s_0.2.1 4))+1)))+1))∧(bM .i64 ((bO (bM .i64 e468) (bM .i64 ((bM .i64 (bO s_0.2.1 4))+1)))+1)) ≤(cZ {data:=#[83,84,85,86]} :Nat))<|(cond (decide (i_z47< (s_0.2.2.2.1.length:Int))) ((loop (σ:=(Int×Dw)) (β:=Dw) (0,((bP {data:=#[83,84,85,86]} (bQ (bO (bM .i64 e458) (bM .i64 ((bM .i64 (bO s_0.2.1 4))+1)))) (bQ (bM .i64 ((bO (bM .i64 e468) (bM .i64 ((bM .i64 (bO s_0.2.1 4))+1)))+1)))),([]:List ByteArray),{data:=#[]},{data:=#[]})) fun z59=>(idx s_0.2.2.2.1 i_z47).bind fun e514=>cond (decide (z59.1< (e514.length:Int))) ((idx s_0.2.2.2.1 i_z47).bind fun e520=>(idx e520 z59.1).bind fun e523=>need ((bM .i64 ((bM .i64 ((bM .i64 (bO s_0.1 5))+1))+(bM .i64 ((bM .i64 (bO s_0.2.1 4))+1))))≠0)<|need ((5:Int)≠0)<|need ((5:Int)≠0)<|need (0≤(bO (bO (bM .i64 e523) (bM .i64 ((bM .i64 ((bM .i64 (bO s_0.1 5))+1))+(bM .i64 ((bM .i64 (bO s_0.2.1 4))+1))))) 5)∧(bO (bO (bM .i64 e523) (bM .i64 ((bM .i64 ((bM .i64 (bO s_0.1 5))+1))+(bM .i64 ((bM .i64 (bO s_0.2.1 4))+1))))) 5) ≤(bM .i64 ((bO (bO (bM .i64 e523) (bM .i64 ((bM .i64 ((bM .i64 (bO s_0.1 5))+1))+(bM .i64 ((bM .i64 (bO s_0.2.1 4))+1))))) 5)+1))∧(bM .i64 ((bO (bO (bM .i64 e523) (bM .i64 ((bM .i64 ((bM .i64 (bO s_0.1 5))+1))+(bM .i64 ((bM .i64 (bO s_0.2.1 4))+1))))) 5)+1)) ≤(cZ {data:=#[97,98,99,100,101]} :Nat))<|(cond (decide ((bO (bM .i64 e523) (bM .i64 ((bM .i64 ((bM .i64 (bO s_0.1 5))+1))+(bM .i64 ((bM .i64 (bO s_0.2.1 4))+1))))) ≥ (bM .i64 ((bM .i64 (bO s_0.1 5))+1)))) (need (0≤(bM .i64 ((bO (bM .i64 e523) (bM .i64 ((bM .i64 ((bM .i64 (bO s_0.1 5))+1))+(bM .i64 ((bM .i64 (bO s_0.2.1 4))+1))))) - (bM .i64 ((bM .i64 (bO s_0.1 5))+1))))∧(bM .i64 ((bO (bM .i64 e523) (bM .i64 ((bM .i64 ((bM .i64 (bO s_0.1 5))+1))+(bM .i64 ((bM .i64 (bO s_0.2.1 4))+1))))) - (bM .i64 ((bM .i64 (bO s_0.1 5))+1)))) ≤(bM .i64 ((bM .i64 ((bO (bM .i64 e523) (bM .i64 ((bM .i64 ((bM .i64 (bO s_0.1 5))+1))+(bM .i64 ((bM .i64 (bO s_0.2.1 4))+1))))) - (bM .i64 ((bM .i64 (bO s_0.1 5))+1))))+1))∧(bM .i64 ((bM .i64 ((bO (bM .i64 e523) (bM .i64 ((bM .i64 ((bM .i64 (bO s_0.1 5))+1))+(bM .i64 ((bM .i64 (bO s_0.2.1 4))+1))))) - (bM .i64 ((bM .i64 (bO s_0.1 5))+1))))+1)) ≤(cZ {data:=#[83,84,85,86]} :Nat))<|some (bP {data:=#[83,84,85,86]} (bQ (bM .i64 ((bO (bM .i64 e523) (bM .i64 ((bM .i64 ((bM .i64 (bO s_0.1 5))+1))+(bM .i64 ((bM .i64 (bO s_0.2.1 4))+1))))) - (bM .i64 ((bM .i64 (bO s_0.1 5))+1))))) (bQ (bM .i64 ((bM .i64 ((bO (bM .i64 e523) (bM .i64 ((bM .i64 ((bM .i64 (bO s_0.1 5))+1))+(bM .i64 ((bM .i64 (bO s_0.2.1 4))+1))))) - (bM .i64 ((bM .i64 (bO s_0.1 5))+1))))+1))))) (some (bP {data:=#[97,98,99,100,101]} (bQ (bO (bO (bM .i64 e523) (bM .i64 ((bM .i64 ((bM .i64 (bO s_0.1 5))+1))+(bM .i64 ((bM .i64 (bO s_0.2.1 4))+1))))) 5)) (bQ (bM .i64 ((bO (bO (bM .i64 e523) (bM .i64 ((bM .i64 ((bM .i64 (bO s_0.1 5))+1))+(bM .i64 ((bM .i64 (bO s_0.2.1 4))+1))))) 5)+1)))))).bind fun z68=>(app z59.2.2.1 ([z68]:List ByteArray)).bind fun t71=>some (cE ((bM .i64 (z59.1+1)),((z59.2.1),t71,(z59.2.2.2.1),(z59.2.2.2.2))))) (some (cD z59.2))).bind fun z58=>some z58) (some ((bP {data:=#[83,84,85,86]} (bQ (bO (bM .i64 e458) (bM .i64 ((bM .i64 (bO s_0.2.1 4))+1)))) (bQ (bM .i64 ((bO (bM .i64 e468) (bM .i64 ((bM .i64 (bO s_0.2.1 4))+1)))+1)))),([]:List ByteArray),{data:=#[]},{data:=#[]}))).bind fun z57=>(cond (decide (i_z47< (s_0.2.2.2.2.1.length:Int))) ((idx s_0.2.2.2.2.1 i_z47).bind fun e632=>need ((bM .i64 ((z47.2.2.1.length:Int)+1))≠0)<|(cond (decide ((bO (bM .i64 e632) (bM .i64 ((z47.2.2.1.length:Int)+1))) >0)) (need (0≤(bM .i64 ((bO (bM .i64 e632) (bM .i64 ((z47.2.2.1.length:Int)+1))) - 1))∧(bM .i64 ((bO (bM .i64 e632) (bM .i64 ((z47.2.2.1.length:Int)+1))) - 1)) ≤(bO (bM .i64 e632) (bM .i64 ((z47.2.2.1.length:Int)+1)))∧(bO (bM .i64 e632) (bM .i64 ((z47.2.2.1.length:Int)+1))) ≤(cZ {data:=#[112,113,114,115,116]} :Nat))<|some ((z57.1),z57.2.1,(bP {data:=#[112,113,114,115,116]} (bQ (bM .i64 ((bO (bM .i64 e632) (bM .i64 ((z47.2.2.1.length:Int)+1))) - 1))) (bQ (bO (bM .i64 e632) (bM .i64 ((z47.2.2.1.length:Int)+1))))),(z57.2.2.2))) (some z57)).bind fun z78=>some z78) (some z57)).bind fun z73=>(app z47.2.2.2.2 ([((z73.1),z73.2.1,(z73.2.2.1),(z73.2.2.2))]:List Dw)).bind fun t85=>some (z47.1,z47.2.1,z47.2.2.1,(z47.2.2.2.1),t85)).bind fun z46=>(Fe (σ:=Da) 0 (bM .i64 ((bM .i64 (bO s_0.2.1 4))+1)) z46 fun i_z87 z87=>need (0≤i_z87∧i_z87≤(bM .i64 (i_z87+1))∧(bM .i64 (i_z87+1)) ≤(cZ {data:=#[83,84,85,86]} :Nat))<|(loop (σ:=(Int×Bool)) (β:=Bool) (0,false) fun z89=>cond (decide (z89.1< (z87.2.2.2.2.length:Int))) ((cond z89.2 (some true) ((idx z87.2.2.2.2 z89.1).bind fun e875=>some (cQ e875.1==cQ (bP {data:=#[83,84,85,86]} (bQ i_z87) (bQ (bM .i64 (i_z87+1))))))).bind fun z91=>some (cE ((bM .i64 (z89.1+1)),z91))) (some (cD z89.2))).bind fun z88=>(cond (!z88) ((app z87.2.2.2.2 ([((bP {data:=#[83,84,85,86]} (bQ i_z87) (bQ (bM .i64 (i_z87+1)))),([]:List ByteArray),{data:=#[]},{data:=#[]})]:List Dw)).bind fun t98=>some (z87.1,z87.2.1,z87.2.2.1,(z87.2.2.2.1),t98)) (some z87)).bind fun z95=>some z95).bind fun z86=>some (z86.1,z86.2.1,z86.2.2.1,(z86.2.2.2.1),z86.2.2.2.2)
set_option maxHeartbeats 4000000 in
theorem Dm {s_0:Int×Int×Slc×Slc×Slc×Slc×Slc×Unit}{bj:List Int}{bk:List (List Int)}{bl:List Int}{bm:List Int}{bn:List Int}(bo:Ro.SliceIs (bV .u8) φ s_0.2.2.1 bj) (bp:Ro.SliceIs (cF (bV .u8)) φ s_0.2.2.2.1 bk) (cd:Ro.SliceIs (bV .u8) φ s_0.2.2.2.2.1 bl) (ce:Ro.SliceIs (bV .u8) φ s_0.2.2.2.2.2.1 bm) (cf:Ro.SliceIs (bV .u8) φ s_0.2.2.2.2.2.2.1 bn) (s0:St φ (F) h) {r:(List HH×List Hw×List DP×ByteArray×List Dw)}(hd:A6 (s_0.1,s_0.2.1,bj,bk,bl,bm,bn)=some r):
 CallsH cN 24 [(.agg #[(.int .u8 s_0.1),(.int .u8 s_0.2.1),(sv s_0.2.2.1),(sv s_0.2.2.2.1),(sv s_0.2.2.2.2.1),(sv s_0.2.2.2.2.2.1),(sv s_0.2.2.2.2.2.2.1)])] h (BL fun v h'=>∃ψ:AF,∃y:Slc×Slc×Slc×ByteArray×Slc×Unit,∃cg:List HH,∃ch:List Hw,∃ci:List DP,∃cj:List Dw,Sub φ ψ∧v=((.one (.agg [.slice,.slice,.slice,.string,.slice])):Sh).val y∧(cg,ch,ci,y.2.2.2.1,cj)=r∧Ro.SliceIs Hb ψ y.1 cg∧Ro.SliceIs Jo ψ y.2.1 ch∧Ro.SliceIs E1 ψ y.2.2.1 ci∧Ro.SliceIs HI ψ y.2.2.2.2.1 cj∧St ψ (F) h'):=by
 refine AV mixed Tryz.func24 ?_;rw [Dl];unfold CN;unfold A6 at hd;have ck:s_0.2.2.1.2.1=cA bj:=bo.length;have f9:s_0.2.2.2.1.2.1=cA bk:=bp.length;have fa:s_0.2.2.2.2.1.2.1=cA bl:=cd.length;have cl:s_0.2.2.2.2.2.1.2.1=cA bm:=ce.length;have fb:s_0.2.2.2.2.2.2.1.2.1=cA bn:=cf.length;refine AZ (vs:=[.int .u8 s_0.1,.int .u8 s_0.2.1,sv s_0.2.2.1,sv s_0.2.2.2.1,sv s_0.2.2.2.2.1,sv s_0.2.2.2.2.2.1,sv s_0.2.2.2.2.2.2.1]) s0 fun r1 nd fc=>AZ (vs:=[.slice none 0 0,.slice none 0 0,.slice none 0 0,.string ({data:=#[]}),.slice none 0 0]) fc fun r2 nf bq=>AA (x:=s_0.1) bq.at1 rfl<|Cb hd id fun ng hd=>AA (x:=s_0.2.1) bq.at1 rfl<|Cb hd id fun nh hd=>AZ (vs:=[.slice none 0 0,.slice none 0 0,.slice none 0 0,.string ({data:=#[]}),.slice none 0 0]) bq fun r5 ni fd=>AI fd rfl rfl fun nj fe=>AI fe rfl rfl fun nk ff=>AI ff rfl rfl fun nl fg=>AI fg rfl rfl fun nm fh=>AI fh rfl rfl fun nn fi=> ?_;have fj:=EE (t0:=((none,0,0):Slc)) (t1:=((none,0,0):Slc)) (t2:=((none,0,0):Slc)) (t4:=((none,0,0):Slc)) (x1:=([]:List Hw)) (x3:={data:=#[83]}) (((fi.nil 99 Hb).nil 102 E1).nil 95 HI).at3.at3.at3.at3 (bW Jo φ);obtain ⟨np,fk,hd⟩:=bS hd;refine Ca fk (fun fl (y:Int×Unit) w_ g=>∃ψ:AF,∃cm:Da,Sub φ ψ∧y.1=fl∧cm=g∧St ψ (cO 65 Fg (some ⟨r5,0,none⟩) cm::Wq5 r2::Wq0 r1 s_0::F) w_) ((0:Int),()) rfl ⟨φ,(([]:List HH),[],[],{data:=#[83]},([]:List Dw)),(bT _),rfl,rfl,fj.at2.at2.at2⟩ ?_ ?_ ?_
 ·rintro _ z7 nq _ _ ⟨nr,ag,cn,rfl,rfl,co⟩ u fm cp cq;try dsimp only at u fm cp cq
  refine AA (x:=s_0.2.2.2.2.2.1) co.at2 rfl<|BF (dT cl cp) ?_;obtain ⟨fn,ns,nt,fo,nu,cr,fp,b0⟩:=Fh co;obtain rfl:r5=fn:=by simpa using cr
  clear cr;refine AA (x:=fo) b0.at3 rfl<|AA (x:=s_0.2.2.2.2.2.1) b0.at5 rfl ?_;obtain ⟨br,fq,u⟩:=bS u;obtain ⟨nv,nw,fr,fs,ft,ct⟩:=(ce.mono cn).get fq;refine AH _ fr (Am fs ?_);obtain rfl:=ft;refine AN (x:=br) (AD b0.sub (ct 0 _ rfl)) rfl<|Cb u id fun nx u=>Cb u id fun ny u=>GR b0 fun r13 nz o0 b1=>AS (AD b1.sub (ct 0 _ rfl))<|AS (cH (b:=r1) (j:=5) b1.at6 rfl)<|AS (cH (b:=r5) (j:=2) b1.at4 rfl)<|AZ (vs:=[.int .i64 (bM .i64 ((bM .i64 (bO br (3:Int)))+(1:Int))),.slice (some ⟨r13,0,none⟩) 1 1]) b1 fun r14 o1 cu=>AS (cH (b:=r5) (j:=2) cu.at5 rfl) ?_;have fu:=dO (r:=bR) (l:=([(bP {data:=#[112,113,114,115,116]} (bQ z7.1) (bQ (wN z7.1)))]:List ByteArray)) (n:=1) cu.at1 (.cons (a:=[_]) rfl .nil) rfl (by decide);obtain ⟨fv,cv,fw,cw⟩:=cB (t:=((some ⟨r13,0,none⟩,1,1):Slc)) fu;obtain ⟨fx,fy,u⟩:=bS u;refine Aa (r:=E1) (ms:=([((bM .i64 ((bM .i64 (bO br (3:Int)))+(1:Int))),([(bP {data:=#[112,113,114,115,116]} (bQ z7.1) (bQ (wN z7.1)))]:List ByteArray))]:List DP)) LD cw.tail.at1 rfl (cS cw) (.cons (a:=[_,_]) ⟨[_],_,rfl,rfl,⟨((some ⟨r13,0,none⟩,1,1):Slc),rfl,fw⟩⟩ .nil) rfl fy ?_;intro t15 o2 fz;refine AI fz.at3 rfl rfl fun o3 g0=> ?_;obtain rfl:=iS u;exact Al ((wN z7.1),()) _ rfl rfl ⟨fv,(ag.1,ag.2.1,fx,(ag.2.2.2.1),ag.2.2.2.2),(cn.trans cv),cq,rfl,((((EE (x1:=ag.2.1) (x3:=(ag.2.2.2.1)) g0.at3.at2.at3.at3.at3.at3.at3 (fp.mono cv)).at2).at2).at2)⟩
 ·rintro _ z7 o4 ⟨g1,g2,g3,rfl,rfl,cx⟩ g4;refine AA (x:=s_0.2.2.2.2.2.1) cx.at2 rfl<|As (dF cl g4)<|AO (AR (z7.1,()) rfl ⟨_,g1,g2,g3,rfl,rfl,cx.at2.at2.at2⟩)
 rintro z6 o5 ⟨_,cy,g5,a3,_,rfl,g6⟩;try dsimp only at hd
 obtain ⟨o6,g7,hd⟩:=bS hd;refine Ca g7 (fun g8 (y:Int×Unit) w_ g=>∃ψ:AF,∃cz:Da,Sub cy ψ∧y.1=g8∧cz=g∧St ψ (cO 65 Fg (some ⟨r5,0,none⟩) cz::Wq5 r2::Wq0 r1 s_0::F) w_) ((0:Int),()) rfl ⟨cy,g5,(bT _),rfl,rfl,g6.at2.at2.at2⟩ ?_ ?_ ?_
 ·rintro _ z17 o7 _ _ ⟨b2,e,d0,rfl,rfl,g9⟩ z ga d1 d2;try dsimp only at z ga d1 d2
  refine BF (by exact decide_eq_true d1)<|Cb z id fun o8 z=> ?_;obtain ⟨gb,gc,o9,oa,ob,d3,gd,d4⟩:=Fh g9;obtain rfl:r5=gb:=by simpa using d3
  clear d3;refine AA (x:=gc) d4.at3 rfl<|AZ (vs:=[.string (bP {data:=#[97,98,99,100,101]} (bQ z17.1) (bQ (wN z17.1))),.string (bP {data:=#[97,98,99,100,101]} (bQ z17.1) (bQ (wN z17.1))),.string ({data:=#[]}),.bool false]) d4 fun r19 oc d5=> ?_;obtain ⟨ar,ge,z⟩:=bS z;refine Aa (r:=Hb) (ms:=([((bP {data:=#[97,98,99,100,101]} (bQ z17.1) (bQ (wN z17.1))),(bP {data:=#[97,98,99,100,101]} (bQ z17.1) (bQ (wN z17.1))),{data:=#[]},false)]:List HH)) LC d5.tail.at2 rfl (cS d5) (.cons (a:=[_,_,_,_]) ⟨[_],_,rfl,rfl,⟨[_],_,rfl,rfl,⟨[_],_,rfl,rfl,rfl⟩⟩⟩ .nil) rfl ge ?_;intro t20 od gf;refine AI gf.at3 rfl rfl fun oe d6=>AA (x:=s_0.2.2.2.2.2.2.1) d6.at5 rfl ?_;have b3:=EE (x1:=e.2.1) (x3:=(e.2.2.2.1)) d6.at1.at3.at3.at3.at3.at3.at3 gd;obtain ⟨gg,q,z⟩:=bS z;refine Ai (fun (y:Unit) w_ g=>∃ψ:AF,∃d7:Da,Sub b2 ψ∧d7=g∧St ψ (cO 65 Fg (some ⟨r5,0,none⟩) d7::Wq5 r2::Wq0 r1 s_0::F) w_) (g:=gg) ?_ ?_
  ·refine AG q (by rw [fb] <;>rfl) (fun _ q=> ?_) (fun _ q=> ?_)
   ·refine AA (x:=s_0.2.2.2.2.2.2.1) b3.at2 rfl ?_;obtain ⟨og,gh,q⟩:=bS q;refine Dv cf gh (cU (a3.trans d0) b3.sub) ?_;obtain ⟨gi,oh,oi,gj,oj,d8,d9,b4⟩:=Fh b3;obtain rfl:r5=gi:=by simpa using d8
    clear d8;try dsimp only at b4 d9
    have a0:=(b4.at1).rowLen;refine AA (x:=gj) b4.at3 rfl<|Cb q (by rw [a0];exact id) fun ok q=> ?_;have da:=EE (x1:=e.2.1) (x3:=((e.2.2.2.1))) b4.at2.at2.at2.at3.at3.at3.at3 d9;obtain ⟨gk,d,q⟩:=bS q;refine Ai (fun (y:Unit) w_ g=>∃ψ:AF,∃db:Da,Sub b2 ψ∧db=g∧St ψ (cO 65 Fg (some ⟨r5,0,none⟩) db::Wq5 r2::Wq0 r1 s_0::F) w_) (g:=gk) ?_ ?_
    ·refine AG d (by rw [a0] <;>rfl) (fun _ d=> ?_) (fun _ d=> ?_)
     ·obtain ⟨gl,ol,om,dc,on,dd,b5,ah⟩:=Fh da;obtain rfl:r5=gl:=by simpa using dd
      clear dd;try dsimp only at ah b5
      refine AA (x:=dc) ah.at3 rfl<|AA (x:=dc) ah.at3 rfl ?_;obtain ⟨bs,de,d⟩:=bS d;rw [←a0]at de;obtain ⟨oo,op,gm,gn,go,au⟩:=(ah.at1).get de;refine AH _ gm (Am gn ?_);obtain ⟨_,_,rfl,rfl,⟨gr,rfl,b6⟩⟩:=go;have bt:=b6.length;refine AN (x:=gr) (by rw [Ac];exact (au 1 _ rfl)) rfl<|Jf ?_ ?_
      ·refine GR ah fun r32 oq df av=>AS (by rw [Ac];exact (df _ _ (au 1 _ rfl)))<|AS (cH (b:=r5) (j:=2) av.at4 rfl)<|AS (cH (b:=r5) (j:=2) av.at4 rfl)<|Jf ?_ ?_
       ·obtain ⟨os,gs,gt⟩:=b6.heap av.sub;have gu:=dO (r:=bR) (l:=([]:List ByteArray)) (n:=0) av .nil rfl (by decide);obtain ⟨ot,gv,d⟩:=bS d;refine Aa (r:=bR) (ms:=bs.2) Bq gu rfl gt gs bt.symm gv ?_;intro t33 ou dg;refine AS (cH (b:=r5) (j:=2) dg.at4 rfl)<|AZ (vs:=[.string (bP {data:=#[97,98,99,100,101]} (bQ z17.1) (bQ (wN z17.1)))]) dg fun r34 ov bu=>AS (cH (b:=r5) (j:=2) bu.at5 rfl) ?_;obtain ⟨ow,gw,d⟩:=bS d;refine Aa (r:=bR) (ms:=([(bP {data:=#[97,98,99,100,101]} (bQ z17.1) (bQ (wN z17.1)))]:List ByteArray)) Bq bu.tail rfl (cS bu) (.cons (a:=[_]) rfl .nil) rfl gw ?_;intro t35 ox bv;refine AS (cH (b:=r5) (j:=2) bv.at4 rfl) ?_;obtain ⟨oy,bw,d⟩:=bS d;rw [←a0]at bw;obtain ⟨oz,p0,dh,gx,gy,p1⟩:=(bv.at2).get bw;refine AH _ dh (Am gx ?_);obtain ⟨_,_,rfl,rfl,⟨p2,rfl,p3⟩⟩:=gy;obtain ⟨h1,di,h2,h3⟩:=cB (t:=t35) bv;obtain ⟨h4,dj,d⟩:=bS d;rw [←a0]at dj;refine Jl (j:=1) h3.at1 bw dj (by rintro _ ⟨_,_,rfl,rfl,⟨t1,rfl,q1⟩⟩;exact ⟨[_],_,rfl,rfl,⟨t35,rfl,h2⟩⟩) rfl rfl dh (by rw [Ac];rfl) fun p4 h5=> ?_;have h6:=(((EE (x1:=e.2.1) (x3:=(((e.2.2.2.1)))) h5.at2.at1.at2.at3.at3.at3.at3 (b5.mono di)).at2).at2).at2;obtain rfl:=iS d;exact AP (()) rfl ⟨h1,(ar,e.2.1,h4,(((e.2.2.2.1))),e.2.2.2.2),di,rfl,h6⟩
       ·refine GR av fun r37 p5 h7 b7=>AS (by rw [Ac];exact (h7 _ _ (df _ _ (au 1 _ rfl))))<|AS (cH (b:=r5) (j:=2) b7.at5 rfl)<|AS (cH (b:=r5) (j:=2) b7.at5 rfl) ?_;obtain ⟨p6,h8,h9⟩:=b6.heap b7.sub;have hb:=dO (r:=bR) (l:=([]:List ByteArray)) (n:=0) b7.at1 .nil rfl (by decide);obtain ⟨p7,hc,d⟩:=bS d;refine Aa (r:=bR) (ms:=bs.2) Bq hb rfl h9 h8 bt.symm hc ?_;intro t38 p8 bx;refine AS (cH (b:=r5) (j:=2) bx.at5 rfl) ?_;obtain ⟨p9,he,d⟩:=bS d;refine Aa (r:=bR) (ms:=([(bP {data:=#[97,98,99,100,101]} (bQ z17.1) (bQ (wN z17.1)))]:List ByteArray)) Bq bx.at1.tail rfl (cS bx.at1) (.cons (a:=[_]) rfl .nil) rfl he ?_;intro t39 pa bz;refine AS (cH (b:=r5) (j:=2) bz.at4 rfl) ?_;obtain ⟨pb,c0,d⟩:=bS d;rw [←a0]at c0;obtain ⟨pc,pd,dk,hf,hg,pe⟩:=(bz.at2).get c0;refine AH _ dk (Am hf ?_);obtain ⟨_,_,rfl,rfl,⟨pf,rfl,pg⟩⟩:=hg;obtain ⟨hj,dl,hk,hl⟩:=cB (t:=t39) bz;obtain ⟨hm,dm,d⟩:=bS d;rw [←a0]at dm;refine Jl (j:=1) hl.at1 c0 dm (by rintro _ ⟨_,_,rfl,rfl,⟨t1,rfl,q1⟩⟩;exact ⟨[_],_,rfl,rfl,⟨t39,rfl,hk⟩⟩) rfl rfl dk (by rw [Ac];rfl) fun ph hn=> ?_;have ho:=(((EE (x1:=e.2.1) (x3:=(((e.2.2.2.1)))) hn.at2.at1.at2.at3.at3.at3.at3 (b5.mono dl)).at2).at2).at2;obtain rfl:=iS d;exact AP (()) rfl ⟨hj,(ar,e.2.1,hm,(((e.2.2.2.1))),e.2.2.2.2),dl,rfl,ho⟩
      ·refine GR ah fun r41 pi dn c1=>AS (by rw [Ac];exact (dn _ _ (au 1 _ rfl)))<|AS (cH (b:=r5) (j:=2) c1.at4 rfl)<|AS (cH (b:=r5) (j:=2) c1.at4 rfl)<|GR c1 fun r42 pj hp b8=>AS (by rw [Ac];exact (hp _ _ (dn _ _ (au 1 _ rfl))))<|AS (cH (b:=r5) (j:=2) b8.at5 rfl)<|AS (cH (b:=r5) (j:=2) b8.at5 rfl) ?_;obtain ⟨pk,hq,hr⟩:=b6.heap b8.sub;have hs:=dO (r:=bR) (l:=([]:List ByteArray)) (n:=0) b8 .nil rfl (by decide);obtain ⟨pl,ht,d⟩:=bS d;refine Aa (r:=bR) (ms:=bs.2) Bq hs rfl hr hq bt.symm ht ?_;intro t43 pm c2;refine AS (cH (b:=r5) (j:=2) c2.at5 rfl) ?_;obtain ⟨pn,hu,d⟩:=bS d;refine Aa (r:=bR) (ms:=([(bP {data:=#[97,98,99,100,101]} (bQ z17.1) (bQ (wN z17.1)))]:List ByteArray)) Bq c2.at1.tail rfl (cS c2.at1) (.cons (a:=[_]) rfl .nil) rfl hu ?_;intro t44 po c3;refine AS (cH (b:=r5) (j:=2) c3.at4 rfl) ?_;obtain ⟨pp,c4,d⟩:=bS d;rw [←a0]at c4;obtain ⟨pq,pr,dp,hv,hw,ps⟩:=(c3.at2).get c4;refine AH _ dp (Am hv ?_);obtain ⟨_,_,rfl,rfl,⟨pt,rfl,pu⟩⟩:=hw;obtain ⟨hz,dq,i0,i1⟩:=cB (t:=t44) c3;obtain ⟨i2,dr,d⟩:=bS d;rw [←a0]at dr;refine Jl (j:=1) i1.at1 c4 dr (by rintro _ ⟨_,_,rfl,rfl,⟨t1,rfl,q1⟩⟩;exact ⟨[_],_,rfl,rfl,⟨t44,rfl,i0⟩⟩) rfl rfl dp (by rw [Ac];rfl) fun pv i3=> ?_;have i4:=(((EE (x1:=e.2.1) (x3:=(((e.2.2.2.1)))) i3.at2.at1.at2.at3.at3.at3.at3 (b5.mono dq)).at2).at2).at2;obtain rfl:=iS d;exact AP (()) rfl ⟨hz,(ar,e.2.1,i2,(((e.2.2.2.1))),e.2.2.2.2),dq,rfl,i4⟩
     obtain rfl:=iS d;exact AP (()) rfl ⟨b2,(ar,e.2.1,e.2.2.1,((e.2.2.2.1)),e.2.2.2.2),(bT _),rfl,da.at2.at2.at2⟩
    rintro z27 pw ⟨i5,i6,i7,rfl,i8⟩;try dsimp only at q
    obtain rfl:=iS q;exact AP (()) rfl ⟨i5,i6,i7,rfl,i8.at2.at2.at2⟩
   obtain rfl:=iS q;exact AP (()) rfl ⟨b2,(ar,e.2.1,e.2.2.1,(e.2.2.2.1),e.2.2.2.2),(bT _),rfl,b3.at2.at2.at2⟩
  rintro z22 px ⟨i9,ia,ib,rfl,ic⟩;try dsimp only at z
  obtain rfl:=iS z;exact Al ((wN z17.1),()) _ rfl rfl ⟨i9,ia,(d0.trans ib),d2,rfl,ic.at2.at2.at2⟩
 ·rintro _ z17 py ⟨ie,ig,ih,rfl,rfl,ii⟩ ij;refine As (by exact decide_eq_false (Int.not_lt.2 ij))<|AO (AR (z17.1,()) rfl ⟨_,ie,ig,ih,rfl,rfl,ii.at2.at2.at2⟩)
 rintro z16 pz ⟨_,ds,ik,a7,_,rfl,il⟩;try dsimp only at hd
 obtain ⟨q0,im,hd⟩:=bS hd;refine Ca im (fun io (y:Int×Unit) w_ g=>∃ψ:AF,∃dt:Da,Sub ds ψ∧y.1=io∧dt=g∧St ψ (cO 65 Fg (some ⟨r5,0,none⟩) dt::Wq5 r2::Wq0 r1 s_0::F) w_) ((0:Int),()) rfl ⟨ds,ik,(bT _),rfl,rfl,il.at2.at2.at2⟩ ?_ ?_ ?_
 ·rintro _ z47 q2 _ _ ⟨ai,c,a8,rfl,rfl,aj⟩ i ip du dv;try dsimp only at i ip du dv
  refine AA (x:=s_0.2.2.1) aj.at2 rfl<|BF (dT ck du)<|AA (x:=s_0.2.2.1) aj.at2 rfl ?_;obtain ⟨ak,iq,i⟩:=bS i;obtain ⟨q3,q4,ir,it,iu,dw⟩:=(bo.mono ((a3.trans a7).trans a8)).get iq;refine AH _ ir (Am it ?_);obtain rfl:=iu;refine AN (x:=ak) (AD aj.sub (dw 0 _ rfl)) rfl<|Cb i id fun q5 i=>AA (x:=s_0.2.2.1) aj.at2 rfl ?_;obtain ⟨al,iv,i⟩:=bS i;obtain ⟨q6,q7,iw,ix,iy,dx⟩:=(bo.mono ((a3.trans a7).trans a8)).get iv;refine AH _ iw (Am ix ?_);obtain rfl:=iy;refine AN (x:=al) (AD aj.sub (dx 0 _ rfl)) rfl<|Cb i id fun q8 i=>Cb i id fun q9 i=>GR aj fun r55 qa qb aw=>AS (AD aw.sub (dx 0 _ rfl))<|AS (cH (b:=r1) (j:=2) aw.at3 rfl)<|AS (AD aw.sub (dw 0 _ rfl))<|AS (cH (b:=r1) (j:=2) aw.at3 rfl)<|AI aw rfl rfl fun qc iz=>AI iz rfl rfl fun qd j0=>AI j0 rfl rfl fun qe j1=>AI j1 rfl rfl fun qf dy=>AA (x:=s_0.2.2.2.1) dy.at3 rfl ?_;have j2:=cC (r:=bR) (cs:=[.string ({data:=#[]})]) (x:={data:=#[]}) (cC (r:=bR) (cs:=[.string ({data:=#[]})]) (x:={data:=#[]}) (dy.nil 9 bR) rfl) rfl;have j3:=cC (r:=bR) (cs:=[.string (bP {data:=#[83,84,85,86]} (bQ (bO (bM .i64 ak) (bM .i64 ((bM .i64 (bO s_0.2.1 (4:Int)))+(1:Int))))) (bQ (bM .i64 ((bO (bM .i64 al) (bM .i64 ((bM .i64 (bO s_0.2.1 (4:Int)))+(1:Int))))+(1:Int)))))]) (x:=(bP {data:=#[83,84,85,86]} (bQ (bO (bM .i64 ak) (bM .i64 ((bM .i64 (bO s_0.2.1 (4:Int)))+(1:Int))))) (bQ (bM .i64 ((bO (bM .i64 al) (bM .i64 ((bM .i64 (bO s_0.2.1 (4:Int)))+(1:Int))))+(1:Int)))))) (bU ((bU j2).at1)) rfl;have dz:St ai (cO 95 Rq0 (some ⟨r55,0,none⟩) ((bP {data:=#[83,84,85,86]} (bQ (bO (bM .i64 ak) (bM .i64 ((bM .i64 (bO s_0.2.1 (4:Int)))+(1:Int))))) (bQ (bM .i64 ((bO (bM .i64 al) (bM .i64 ((bM .i64 (bO s_0.2.1 (4:Int)))+(1:Int))))+(1:Int))))),[],{data:=#[]},{data:=#[]})::cO 65 Fg (some ⟨r5,0,none⟩) c::Wq5 r2::Wq0 r1 s_0::F) _:=dU (bU j3).at1;obtain ⟨j4,a4,i⟩:=bS i;refine Ai (fun (y:Unit) w_ g=>∃ψ:AF,∃e0:Dw,Sub ai ψ∧e0=g∧St ψ (cO 95 Rq0 (some ⟨r55,0,none⟩) e0::cO 65 Fg (some ⟨r5,0,none⟩) c::Wq5 r2::Wq0 r1 s_0::F) w_) (g:=j4) ?_ ?_
  ·refine AG a4 (by rw [f9] <;>rfl) (fun _ a4=> ?_) (fun _ a4=> ?_)
   ·have j5:=dz.at3;obtain ⟨j6,j7,a4⟩:=bS a4;refine Bc (fun (y:Int×Unit) w_ g=>∃ψ:AF,∃e1:Dw,Sub ai ψ∧e1=g∧St ψ (cO 95 Rq0 (some ⟨r55,0,none⟩) e1::cO 65 Fg (some ⟨r5,0,none⟩) c::Wq5 r2::Wq0 r1 s_0::F) w_) (g:=j6) ?_ ?_
    ·refine Cr j7 (fun (y:Int×Unit) w_ g=>∃ψ:AF,∃e2:Dw,Sub ai ψ∧(y.1,e2)=g∧St ψ (cO 95 Rq0 (some ⟨r55,0,none⟩) e2::cO 65 Fg (some ⟨r5,0,none⟩) c::Wq5 r2::Wq0 r1 s_0::F) w_) ((0:Int),()) rfl ⟨ai,((bP {data:=#[83,84,85,86]} (bQ (bO (bM .i64 ak) (bM .i64 ((bM .i64 (bO s_0.2.1 (4:Int)))+(1:Int))))) (bQ (bM .i64 ((bO (bM .i64 al) (bM .i64 ((bM .i64 (bO s_0.2.1 (4:Int)))+(1:Int))))+(1:Int))))),[],{data:=#[]},{data:=#[]}),(bT _),rfl,j5.at3.at3.at3⟩ ?_
     ·rintro z59 qg _ _ ⟨b9,k,ax,rfl,a5⟩ f j8;try dsimp only at f
      refine AA (x:=s_0.2.2.2.1) a5.at3 rfl ?_;obtain ⟨qh,j9,f⟩:=bS f;refine Hv bp j9 (cU (((a3.trans a7).trans a8).trans ax) a5.sub) fun qi ja=> ?_;have jb:=ja.length;refine AG f (by rw [jb] <;>rfl) (fun _ f=> ?_) (fun _ f=> ?_)
      ·refine AA (x:=s_0.2.2.2.1) a5.at3 rfl ?_;obtain ⟨qj,jc,f⟩:=bS f;refine Hv bp jc (cU (((a3.trans a7).trans a8).trans ax) a5.sub) fun qk jd=> ?_;obtain ⟨ba,je,f⟩:=bS f;refine Dv jd je (cU (((a3.trans a7).trans a8).trans ax) a5.sub)<|Cb f id fun ql f=>Cb f id fun qm f=>Cb f id fun qn f=>Cb f id fun qo f=> ?_;obtain ⟨jf,a9,f⟩:=bS f;refine Ai (fun (y:ByteArray×Unit) w_ g=>∃ψ:AF,Sub b9 ψ∧y.1=g∧St ψ (cO 95 Rq0 (some ⟨r55,0,none⟩) k::cO 65 Fg (some ⟨r5,0,none⟩) c::Wq5 r2::Wq0 r1 s_0::F) w_) (g:=jf) ?_ ?_
       ·refine AG a9 rfl (fun _ a9=> ?_) (fun _ a9=> ?_)
        ·refine Cb a9 id fun qp a9=> ?_;obtain rfl:=iS a9;exact AP ((bP {data:=#[83,84,85,86]} (bQ (bM .i64 ((bO (bM .i64 ba) (bM .i64 ((bM .i64 ((bM .i64 (bO s_0.1 (5:Int)))+(1:Int)))+(bM .i64 ((bM .i64 (bO s_0.2.1 (4:Int)))+(1:Int)))))) - (bM .i64 ((bM .i64 (bO s_0.1 (5:Int)))+(1:Int)))))) (bQ (bM .i64 ((bM .i64 ((bO (bM .i64 ba) (bM .i64 ((bM .i64 ((bM .i64 (bO s_0.1 (5:Int)))+(1:Int)))+(bM .i64 ((bM .i64 (bO s_0.2.1 (4:Int)))+(1:Int)))))) - (bM .i64 ((bM .i64 (bO s_0.1 (5:Int)))+(1:Int)))))+(1:Int))))),()) rfl ⟨b9,(bT _),rfl,a5.at3.at3.at3.at3⟩
        obtain rfl:=iS a9;exact AP ((bP {data:=#[97,98,99,100,101]} (bQ (bO (bO (bM .i64 ba) (bM .i64 ((bM .i64 ((bM .i64 (bO s_0.1 (5:Int)))+(1:Int)))+(bM .i64 ((bM .i64 (bO s_0.2.1 (4:Int)))+(1:Int)))))) (5:Int))) (bQ (bM .i64 ((bO (bO (bM .i64 ba) (bM .i64 ((bM .i64 ((bM .i64 (bO s_0.1 (5:Int)))+(1:Int)))+(bM .i64 ((bM .i64 (bO s_0.2.1 (4:Int)))+(1:Int)))))) (5:Int))+(1:Int))))),()) rfl ⟨b9,(bT _),rfl,a5.at3.at3.at3.at3⟩
       rintro z68 qq ⟨c5,jg,rfl,jh⟩;try dsimp only at f
       obtain ⟨ji,qr,e3,qs,jj⟩:=jh.open;obtain rfl:r55=ji:=by simpa using e3
       clear e3;obtain ⟨qt,qu,rfl,qv,jk⟩:=jj.at1.pair;obtain ⟨jl,jm⟩:=jk.ro;subst jl;obtain ⟨qw,qx,rfl,qy,e4⟩:=jm.pair;obtain ⟨c6,jn⟩:=e4.rowCs;subst jn;obtain ⟨qz,r0,rfl,r3,jo⟩:=e4.at1.pair;obtain ⟨jp,jq⟩:=jo.ro;subst jp;obtain ⟨jr,js⟩:=jq.ro;subst jr;have e5:St c5 (cR 9 bR c6 k.2.1::cW 95 r55 [.string (k.1),sv c6,.string (k.2.2.1),.string (k.2.2.2)]::cO 65 Fg (some ⟨r5,0,none⟩) c::Wq5 r2::Wq0 r1 s_0::F) _:=js;refine AA (x:=c6) e5.at1 rfl<|AZ (vs:=[.string z68.1]) e5 fun r70 r4 e6=> ?_;obtain ⟨e7,jt,f⟩:=bS f;refine Aa (r:=bR) (ms:=([z68.1]:List ByteArray)) Bq e6.tail rfl (cS e6) (.cons (a:=[_]) rfl .nil) rfl jt ?_;intro t71 r6 ju;refine AI ju.at1 rfl rfl fun r7 jv=> ?_;have jw:=cC (r:=bR) (cs:=[.string (k.2.2.1)]) (x:=(k.2.2.1)) (cC (r:=bR) (cs:=[.string (k.2.2.2)]) (x:=(k.2.2.2)) jv.at1 rfl) rfl;have jx:St c5 (cO 95 Rq0 (some ⟨r55,0,none⟩) ((k.1),e7,(k.2.2.1),(k.2.2.2))::cO 65 Fg (some ⟨r5,0,none⟩) c::Wq5 r2::Wq0 r1 s_0::F) _:=dU (bU (cC (r:=bR) (cs:=[.string (k.1)]) (x:=(k.1)) (bU ((bU jw).at1)) rfl)).at1;obtain rfl:=iS f;exact Al ((wN z59.1),()) _ rfl rfl ⟨c5,((k.1),e7,(k.2.2.1),(k.2.2.2)),(ax.trans jg),rfl,jx.at3.at3.at3.at3⟩
      obtain rfl:=iS f;obtain rfl:=j8 _ rfl;exact AO (AR (z59.1,()) rfl ⟨b9,k,ax,rfl,a5.at3.at3.at3.at3⟩)
    rintro z58 r8 ⟨jy,jz,k0,rfl,k1⟩;try dsimp only at a4
    obtain rfl:=iS a4;exact AP (()) rfl ⟨jy,jz,k0,rfl,k1.at3.at3.at3.at3⟩
   obtain rfl:=iS a4;exact AP (()) rfl ⟨ai,((bP {data:=#[83,84,85,86]} (bQ (bO (bM .i64 ak) (bM .i64 ((bM .i64 (bO s_0.2.1 (4:Int)))+(1:Int))))) (bQ (bM .i64 ((bO (bM .i64 al) (bM .i64 ((bM .i64 (bO s_0.2.1 (4:Int)))+(1:Int))))+(1:Int))))),[],{data:=#[]},{data:=#[]}),(bT _),rfl,dz.at3.at3.at3.at3⟩
  rintro z57 r9 ⟨aa,o,e8,rfl,ay⟩;try dsimp only at i
  refine AA (x:=s_0.2.2.2.2.1) ay.at3 rfl ?_;obtain ⟨k2,s,i⟩:=bS i;refine Ai (fun (y:Unit) w_ g=>∃ψ:AF,∃e9:Dw,Sub aa ψ∧e9=g∧St ψ (cO 95 Rq0 (some ⟨r55,0,none⟩) e9::cO 65 Fg (some ⟨r5,0,none⟩) c::Wq5 r2::Wq0 r1 s_0::F) w_) (g:=k2) ?_ ?_
  ·refine AG s (by rw [fa] <;>rfl) (fun _ s=> ?_) (fun _ s=> ?_)
   ·refine AA (x:=s_0.2.2.2.2.1) ay.at3 rfl ?_;obtain ⟨a6,k3,s⟩:=bS s;refine Dv cd k3 (cU (((a3.trans a7).trans a8).trans e8) ay.sub) ?_;obtain ⟨k4,am,c7,a1,an,ea,k5,bb⟩:=Fh ay.at1;obtain rfl:r5=k4:=by simpa using ea
    clear ea;have bc:=(bb.at1).rowLen;refine AA (x:=a1) bb.at3 rfl<|Cb s (by rw [bc];exact id) fun ra s=> ?_;obtain ⟨k6,ab,s⟩:=bS s;refine Ai (fun (y:Unit) w_ g=>∃ψ:AF,∃eb:Dw,Sub aa ψ∧eb=g∧St ψ (cO 95 Rq0 (some ⟨r55,0,none⟩) eb::cR 95 HI an c.2.2.2.2::cR 102 E1 a1 c.2.2.1::cR 99 Hb am c.1::cW 65 r5 [sv am,sv c7,sv a1,.string (c.2.2.2.1),sv an]::Wq5 r2::Wq0 r1 s_0::F) w_) (g:=k6) ?_ ?_
    ·refine AG ab (by rw [bc] <;>rfl) (fun _ ab=> ?_) (fun _ ab=> ?_)
     ·refine Cb ab (by rw [bc];exact id) fun rb ab=> ?_;obtain ⟨k7,rc,ec,rd,k8⟩:=bb.at4.open;obtain rfl:r55=k7:=by simpa using ec
      clear ec;obtain ⟨re,rf,rfl,rg,k9⟩:=k8.at1.pair;obtain ⟨ka,kb⟩:=k9.ro;subst ka;obtain ⟨rh,ri,rfl,rj,ed⟩:=kb.pair;obtain ⟨ee,kc⟩:=ed.rowCs;subst kc;obtain ⟨rk,rl,rfl,rm,kd⟩:=ed.at1.pair;obtain ⟨ke,kf⟩:=kd.ro;subst ke;obtain ⟨kg,kh⟩:=kf.ro;subst kg;have ki:St aa (cR 9 bR ee o.2.1::cW 95 r55 [.string (o.1),sv ee,.string (o.2.2.1),.string (o.2.2.2)]::cR 95 HI an c.2.2.2.2::cR 102 E1 a1 c.2.2.1::cR 99 Hb am c.1::cW 65 r5 [sv am,sv c7,sv a1,.string (c.2.2.2.1),sv an]::Wq5 r2::Wq0 r1 s_0::F) _:=kh;refine AI ki.at1 rfl rfl fun rn kj=> ?_;have kk:=cC (r:=bR) (cs:=[.string (bP {data:=#[112,113,114,115,116]} (bQ (bM .i64 ((bO (bM .i64 a6) (bM .i64 ((a1.2.1:Int)+(1:Int)))) - (1:Int)))) (bQ (bO (bM .i64 a6) (bM .i64 ((a1.2.1:Int)+(1:Int))))))]) (x:=(bP {data:=#[112,113,114,115,116]} (bQ (bM .i64 ((bO (bM .i64 a6) (bM .i64 ((c.2.2.1.length:Int)+(1:Int)))) - (1:Int)))) (bQ (bO (bM .i64 a6) (bM .i64 ((c.2.2.1.length:Int)+(1:Int))))))) (cC (r:=bR) (cs:=[.string (o.2.2.2)]) (x:=(o.2.2.2)) kj.at1 rfl) (show _=_ by rw [bc];rfl);have kl:St aa (cO 95 Rq0 (some ⟨r55,0,none⟩) ((o.1),o.2.1,(bP {data:=#[112,113,114,115,116]} (bQ (bM .i64 ((bO (bM .i64 a6) (bM .i64 ((c.2.2.1.length:Int)+(1:Int)))) - (1:Int)))) (bQ (bO (bM .i64 a6) (bM .i64 ((c.2.2.1.length:Int)+(1:Int)))))),(o.2.2.2))::cR 95 HI an c.2.2.2.2::cR 102 E1 a1 c.2.2.1::cR 99 Hb am c.1::cW 65 r5 [sv am,sv c7,sv a1,.string (c.2.2.2.1),sv an]::Wq5 r2::Wq0 r1 s_0::F) _:=dU (bU (cC (r:=bR) (cs:=[.string (o.1)]) (x:=(o.1)) (bU ((bU kk).at1)) rfl)).at1;obtain rfl:=iS ab;exact AP (()) rfl ⟨aa,((o.1),o.2.1,(bP {data:=#[112,113,114,115,116]} (bQ (bM .i64 ((bO (bM .i64 a6) (bM .i64 ((c.2.2.1.length:Int)+(1:Int)))) - (1:Int)))) (bQ (bO (bM .i64 a6) (bM .i64 ((c.2.2.1.length:Int)+(1:Int)))))),(o.2.2.2)),(bT _),rfl,kl.at6.at6.at6.at6.at6.at6.at6⟩
     obtain rfl:=iS ab;exact AP (()) rfl ⟨aa,o,(bT _),rfl,bb.at6.at6.at5.at5.at5.at5.at6⟩
    rintro z78 rp ⟨km,kn,ef,rfl,ko⟩;try dsimp only at s
    have kp:=(((EE (x1:=c.2.1) (x3:=(c.2.2.2.1)) ko.at3.at3.at3.at4.at3.at3.at3 (k5.mono ef)).at3).at3).at2;obtain rfl:=iS s;exact AP (()) rfl ⟨km,kn,ef,rfl,kp.at3⟩
   obtain rfl:=iS s;exact AP (()) rfl ⟨aa,o,(bT _),rfl,ay.at3.at3.at3.at3⟩
  rintro z73 rq ⟨kq,p,kr,rfl,ks⟩;try dsimp only at i
  obtain ⟨kt,eg,ku,eh,c8,ei,kv,ej⟩:=Fh ks.at1;obtain rfl:r5=kt:=by simpa using ei
  clear ei;refine AA (x:=c8) ej.at3 rfl ?_;obtain ⟨kw,rr,ek,rs,kx⟩:=ej.at4.open;obtain rfl:r55=kw:=by simpa using ek
  clear ek;obtain ⟨rt,ru,rfl,rv,ky⟩:=kx.at1.pair;obtain ⟨kz,l0⟩:=ky.ro;subst kz;obtain ⟨rx,ry,rfl,rz,el⟩:=l0.pair;obtain ⟨ao,l1⟩:=el.rowCs;subst l1;obtain ⟨s1,s2,rfl,s3,l2⟩:=el.at1.pair;obtain ⟨l3,l4⟩:=l2.ro;subst l3;obtain ⟨l5,l6⟩:=l4.ro;subst l5;have az:St kq (cR 9 bR ao p.2.1::cW 95 r55 [.string (p.1),sv ao,.string (p.2.2.1),.string (p.2.2.2)]::cR 95 HI c8 c.2.2.2.2::cR 102 E1 eh c.2.2.1::cR 99 Hb eg c.1::cW 65 r5 [sv eg,sv ku,sv eh,.string (c.2.2.2.1),sv c8]::Wq5 r2::Wq0 r1 s_0::F) _:=l6;refine AA (x:=(p.1)) az.at1 rfl<|AA (x:=ao) az.at1 rfl<|AA (x:=(p.2.2.1)) az.at1 rfl<|AA (x:=(p.2.2.2)) az.at1 rfl<|AZ (vs:=[.string (p.1),sv ao,.string (p.2.2.1),.string (p.2.2.2)]) az fun r84 s4 l7=> ?_;obtain ⟨l8,em,l9,en⟩:=cB (t:=ao) l7.at1;obtain ⟨la,lb,i⟩:=bS i;refine Aa (r:=HI) (ms:=([((p.1),p.2.1,(p.2.2.1),(p.2.2.2))]:List Dw)) It en.tail.at1 rfl (cS en) (.cons (a:=[_,_,_,_]) ⟨[_],_,rfl,rfl,⟨[_],_,rfl,⟨ao,rfl,l9⟩,⟨[_],_,rfl,rfl,rfl⟩⟩⟩ .nil) rfl lb ?_;intro t85 s5 lc;refine AI lc.at4 rfl rfl fun s6 ld=> ?_;have le:=(((EE (x1:=c.2.1) (x3:=(c.2.2.2.1)) ld.at4.at4.at3.at3.at3.at3.at3 (kv.mono em)).at1.tail).at2).at2;obtain rfl:=iS i;exact Al ((wN z47.1),()) _ rfl rfl ⟨l8,(c.1,c.2.1,c.2.2.1,(c.2.2.2.1),la),(((a8.trans e8).trans kr).trans em),dv,rfl,le.at2⟩
 ·rintro _ z47 s7 ⟨lf,lg,lh,rfl,rfl,eo⟩ li;refine AA (x:=s_0.2.2.1) eo.at2 rfl<|As (dF ck li)<|AO (AR (z47.1,()) rfl ⟨_,lf,lg,lh,rfl,rfl,eo.at2.at2.at2⟩)
 rintro z46 s8 ⟨_,ep,lj,lk,_,rfl,ll⟩;try dsimp only at hd
 obtain ⟨s9,lm,hd⟩:=bS hd;refine Ca lm (fun ln (y:Int×Unit) w_ g=>∃ψ:AF,∃er:Da,Sub ep ψ∧y.1=ln∧er=g∧St ψ (cO 65 Fg (some ⟨r5,0,none⟩) er::Wq5 r2::Wq0 r1 s_0::F) w_) ((0:Int),()) rfl ⟨ep,lj,(bT _),rfl,rfl,ll.at2.at2.at2⟩ ?_ ?_ ?_
 ·rintro _ z87 sa _ _ ⟨c9,m,lo,rfl,rfl,lp⟩ w lq es eu;try dsimp only at w lq es eu
  refine BF (by exact decide_eq_true es)<|Cb w id fun sb w=> ?_;obtain ⟨lr,ls,w⟩:=bS w;refine Bc (fun (y:Int×Bool×Unit) w_ g=>∃ψ:AF,Sub c9 ψ∧y.2.1=g∧St ψ (cO 65 Fg (some ⟨r5,0,none⟩) m::Wq5 r2::Wq0 r1 s_0::F) w_) (g:=lr) ?_ ?_
  ·refine Cr ls (fun (y:Int×Bool×Unit) w_ g=>∃ψ:AF,Sub c9 ψ∧(y.1,y.2.1)=g∧St ψ (cO 65 Fg (some ⟨r5,0,none⟩) m::Wq5 r2::Wq0 r1 s_0::F) w_) ((0:Int),false,()) rfl ⟨c9,(bT _),rfl,lp.at2.at2.at2⟩ ?_
   ·rintro z89 sc _ _ ⟨bd,ev,rfl,lt⟩ a2 lu;try dsimp only at a2
    obtain ⟨lv,ew,lw,ex,be,ey,ez,ac⟩:=Fh lt;obtain rfl:r5=lv:=by simpa using ey
    clear ey;have lx:=(ac).rowLen;refine AA (x:=be) ac.at3 rfl<|AG a2 (by rw [lx] <;>rfl) (fun _ a2=> ?_) (fun _ a2=> ?_)
    ·obtain ⟨ly,ad,a2⟩:=bS a2;refine Ai (fun (y:Bool×Unit) w_ g=>∃ψ:AF,Sub bd ψ∧y.1=g∧St ψ (cR 95 HI be m.2.2.2.2::cR 102 E1 ex m.2.2.1::cR 99 Hb ew m.1::cW 65 r5 [sv ew,sv lw,sv ex,.string (m.2.2.2.1),sv be]::Wq5 r2::Wq0 r1 s_0::F) w_) (g:=ly) ?_ ?_
     ·refine AG ad rfl (fun _ ad=> ?_) (fun _ ad=> ?_)
      ·have lz:=ac.at5;obtain rfl:=iS ad;exact AP (true,()) rfl ⟨bd,(bT _),rfl,lz.at5.at5.at5.at5.at5⟩
      refine AA (x:=be) ac.at3 rfl ?_;obtain ⟨f0,m0,ad⟩:=bS ad;obtain ⟨sd,se,m1,m2,m3,m4⟩:=(ac).get m0;refine AH _ m1 (Am m2 ?_);obtain ⟨_,_,rfl,rfl,⟨_,_,rfl,⟨sf,rfl,sg⟩,⟨_,_,rfl,rfl,rfl⟩⟩⟩:=m3;refine AN (x:=f0.1) (m4 0 _ rfl) rfl ?_;obtain rfl:=iS ad;exact AP ((cQ f0.1==cQ (bP {data:=#[83,84,85,86]} (bQ z87.1) (bQ (wN z87.1)))),()) rfl ⟨bd,(bT _),rfl,ac.at5.at5.at5.at5.at5.at5⟩
     rintro z91 sh ⟨mb,f1,rfl,mc⟩;try dsimp only at a2
     have md:=(((EE (x1:=m.2.1) (x3:=(m.2.2.2.1)) mc.at2.at2.at2.at3.at3.at3.at3 (ez.mono f1)).at2).at2).at2;obtain rfl:=iS a2;exact Al ((wN z89.1),z91.1,()) _ rfl rfl ⟨mb,(ev.trans f1),rfl,md⟩
    obtain rfl:=iS a2;obtain rfl:=lu _ rfl;exact AO (AR (z89.1,z89.2.1,()) rfl ⟨bd,ev,rfl,((((EE (x1:=m.2.1) (x3:=(m.2.2.2.1)) ac.at2.at2.at2.at3.at3.at3.at3 ez).at2).at2).at2)⟩)
  rintro z88 si ⟨ca,me,rfl,f2⟩;try dsimp only at w
  obtain ⟨mf,ae,w⟩:=bS w;refine Ai (fun (y:Unit) w_ g=>∃ψ:AF,∃f3:Da,Sub ca ψ∧f3=g∧St ψ (cO 65 Fg (some ⟨r5,0,none⟩) f3::Wq5 r2::Wq0 r1 s_0::F) w_) (g:=mf) ?_ ?_
  ·refine AG ae rfl (fun _ ae=> ?_) (fun _ ae=> ?_)
   ·obtain ⟨mg,sj,sk,sl,mh,f4,mi,f5⟩:=Fh f2;obtain rfl:r5=mg:=by simpa using f4
    clear f4;refine AA (x:=mh) f5.at3 rfl<|AZ (vs:=[.string (bP {data:=#[83,84,85,86]} (bQ z87.1) (bQ (wN z87.1))),.slice none 0 0,.string ({data:=#[]}),.string ({data:=#[]})]) f5 fun r97 sm f6=> ?_;obtain ⟨mj,mk,ae⟩:=bS ae;refine Aa (r:=HI) (ms:=([((bP {data:=#[83,84,85,86]} (bQ z87.1) (bQ (wN z87.1))),[],{data:=#[]},{data:=#[]})]:List Dw)) It f6.tail rfl (cS f6) (.cons (a:=[_,_,_,_]) ⟨[_],_,rfl,rfl,⟨[_],_,rfl,⟨((none,0,0):Slc),rfl,bW _ _⟩,⟨[_],_,rfl,rfl,rfl⟩⟩⟩ .nil) rfl mk ?_;intro t98 sn ml;refine AI ml.at3 rfl rfl fun so mm=> ?_;obtain rfl:=iS ae;exact AP (()) rfl ⟨ca,(m.1,m.2.1,m.2.2.1,(m.2.2.2.1),mj),(bT _),rfl,((((EE (x1:=m.2.1) (x3:=(m.2.2.2.1)) mm.at3.at3.at3.at3.at3.at3.at3 mi).at2).at2).at2)⟩
   obtain rfl:=iS ae;exact AP (()) rfl ⟨ca,m,(bT _),rfl,f2.at2.at2.at2⟩
  rintro z95 sp ⟨mn,mo,mp,rfl,mq⟩;try dsimp only at w
  obtain rfl:=iS w;exact Al ((wN z87.1),()) _ rfl rfl ⟨mn,mo,((lo.trans me).trans mp),eu,rfl,mq.at2.at2.at2⟩
 ·rintro _ z87 sq ⟨mr,mu,mv,rfl,rfl,mw⟩ mx;refine As (by exact decide_eq_false (Int.not_lt.2 mx))<|AO (AR (z87.1,()) rfl ⟨_,mr,mu,mv,rfl,rfl,mw.at2.at2.at2⟩)
 rintro z86 sr ⟨_,ss,af,my,_,rfl,mz⟩;try dsimp only at hd
 obtain ⟨n0,bf,cb,bg,bh,f7,n1,ap⟩:=Fh mz;obtain rfl:r5=n0:=by simpa using f7
 clear f7;refine AA (x:=bf) ap.at3 rfl<|AA (x:=cb) ap.at3 rfl<|AA (x:=bg) ap.at3 rfl<|AA (x:=(af.2.2.2.1)) ap.at3 rfl<|AA (x:=bh) ap.at3 rfl<|AI ap.at4 rfl rfl fun st n2=>AI n2 rfl rfl fun su n3=>AI n3 rfl rfl fun sw n4=>AI n4 rfl rfl fun sx n5=>AI n5 rfl rfl fun sy aq=>AA (x:=bf) aq rfl<|AA (x:=cb) aq rfl<|AA (x:=bg) aq rfl<|AA (x:=(af.2.2.2.1)) aq rfl<|AA (x:=bh) aq rfl ?_;obtain ⟨sz,f8,n6,n7⟩:=cB (t:=bf) aq.at3;obtain ⟨t3,cc,n8,n9⟩:=cB (t:=bg) n7.at2;obtain ⟨na,bi,nb,nc⟩:=cB (t:=bh) n9.at1;obtain rfl:=iS hd;exact AB ⟨na,(bf,cb,bg,(af.2.2.2.1),bh,()),af.1,af.2.1,af.2.2.1,af.2.2.2.2,((((((a3.trans a7).trans lk).trans my).trans f8).trans cc).trans bi),rfl,rfl,(n6.mono (cc.trans bi)),(n1.mono ((f8.trans cc).trans bi)),(n8.mono bi),nb,nc.tail.tail.tail⟩
end
section
variable {φ:AF}{h:AE}{F:List Chk}
theorem LE:G0 cN 30 30 105 3:=⟨eQ,.inl eQ,⟨Tryz.t105,by kernel_rfl,rfl,⟨_,rfl,rfl⟩,by decide,by decide⟩,by decide⟩
noncomputable def B9 (g_0:Da):Option (List ByteArray×List ByteArray×List A0×List Int×List Int×List ByteArray×Int×ByteArray):=
 (Bn (g_0.1,g_0.2.1,g_0.2.2.1,g_0.2.2.2.1,g_0.2.2.2.2)).bind fun t8=>
 cond (!t8)
 (some (([]:List ByteArray),[],[],[],[],[],1,{data:=#[]}))
 ((Fe (σ:=Aw) 0 (g_0.2.2.2.2.length:Int) (([{data:=#[36,101,110,100]}]:List ByteArray),[],[],([(0:Int)]:List Int),([(0:Int)]:List Int),([{data:=#[]}]:List ByteArray)) fun i_z21 z21=>
  (idx g_0.2.2.2.2 i_z21).bind fun e109=>
  (Ag z21.2.1 e109.1).bind fun t27=>
  (cond (decide (t27< 0))
  ((idx g_0.2.2.2.2 i_z21).bind fun e159=>
   (app (z21.1,z21.2.1,z21.2.2.1,z21.2.2.2.1,z21.2.2.2.2.1,z21.2.2.2.2.2).2.1 ([e159.1]:List ByteArray)).bind fun t34=>
   some ((z21.1,z21.2.1,z21.2.2.1,z21.2.2.2.1,z21.2.2.2.2.1,z21.2.2.2.2.2).1,t34,(z21.1,z21.2.1,z21.2.2.1,z21.2.2.2.1,z21.2.2.2.2.1,z21.2.2.2.2.2).2.2.1,(z21.1,z21.2.1,z21.2.2.1,z21.2.2.2.1,z21.2.2.2.2.1,z21.2.2.2.2.2).2.2.2.1,(z21.1,z21.2.1,z21.2.2.1,z21.2.2.2.1,z21.2.2.2.2.1,z21.2.2.2.2.2).2.2.2.2.1,(z21.1,z21.2.1,z21.2.2.1,z21.2.2.2.1,z21.2.2.2.2.1,z21.2.2.2.2.2).2.2.2.2.2))
  (some (z21.1,z21.2.1,z21.2.2.1,z21.2.2.2.1,z21.2.2.2.2.1,z21.2.2.2.2.2))).bind fun z28=>
  (idx g_0.2.2.2.2 i_z21).bind fun e224=>
  (app z28.2.2.2.2.2 ([e224.2.2.2]:List ByteArray)).bind fun t40=>
  some (z28.1,z28.2.1,z28.2.2.1,z28.2.2.2.1,z28.2.2.2.2.1,t40)).bind fun z20=>
  (CV (σ:=(Aw×Aw)) (β:=(List ByteArray×List ByteArray×List A0×List Int×List Int×List ByteArray×Int×ByteArray)) 0 (g_0.1.length:Int) ((([]:List ByteArray),[],[],[],[],([]:List ByteArray)),z20) fun i_z42 z42=>
   (idx g_0.1 i_z42).bind fun e324=>
   (Ag z42.2.2.1 e324.1).bind fun t48=>
   cond (decide (t48≥ 0))
   ((idx g_0.1 i_z42).bind fun e346=>
    some (cD (([]:List ByteArray),[],[],[],[],[],15,e346.1)))
   ((idx g_0.1 i_z42).bind fun e403=>
    (app z42.2.1 ([e403.1]:List ByteArray)).bind fun t63=>
    (idx g_0.1 i_z42).bind fun e431=>
    (BV (g_0.1,g_0.2.1,g_0.2.2.1,g_0.2.2.2.1,g_0.2.2.2.2) e431.1).bind fun t73=>
    (app z42.2.2.2.2.1 ([t73]:List Int)).bind fun t75=>
    some (cE (z42.1,(t63,z42.2.2.1,z42.2.2.2.1,t75,z42.2.2.2.2.2.1,z42.2.2.2.2.2.2))))).bind fun e_z41=>match e_z41 with
  |.next z41=>
   (Fe (σ:=Aw) 0 (g_0.2.2.1.length:Int) z41.2 fun i_z77 z77=>
    (idx g_0.2.2.1 i_z77).bind fun e527=>
    (app z77.2.2.2.2.1 ([e527.1]:List Int)).bind fun t84=>
    some (z77.1,z77.2.1,z77.2.2.1,z77.2.2.2.1,t84,z77.2.2.2.2.2)).bind fun z76=>
   (A3 (z76.1,z76.2.1) g_0.2.2.2.1).bind fun t94=>
   (CV (σ:=(Aw×Aw)) (β:=(List ByteArray×List ByteArray×List A0×List Int×List Int×List ByteArray×Int×ByteArray)) 0 (g_0.2.2.2.2.length:Int) (z41.1,(z76.1,z76.2.1,([((bM .i64 ((z76.1.length:Int)+(z76.2.1.length:Int))),([t94]:List Int),0)]:List A0),z76.2.2.2.1,z76.2.2.2.2.1,z76.2.2.2.2.2)) fun i_z98 z98=>
    (idx g_0.2.2.2.2 i_z98).bind fun e644=>
    (A3 (z98.2.1,z98.2.2.1) e644.1).bind fun t114=>
    (CV (σ:=(Aw×A0)) (β:=(List ByteArray×List ByteArray×List A0×List Int×List Int×List ByteArray×Int×ByteArray)) 0 (e644.2.1.length:Int) (z98.1,(t114,[],0)) fun i_z117 z117=>
     (idx e644.2.1 i_z117).bind fun e735=>
     (A3 (z98.2.1,z98.2.2.1) e735).bind fun t128=>
     cond (decide (t128< 0))
     ((idx e644.2.1 i_z117).bind fun e753=>
      some (cD (([]:List ByteArray),[],[],[],[],[],16,e753)))
     ((app z117.2.2.1 ([t128]:List Int)).bind fun t140=>
      (cond (decide (t128< (z98.2.1.length:Int)))
      ((idx z98.2.2.2.2.1 t128).bind fun e849=>
       some ((((z117.2.1),t140,(z117.2.2.2)).1),((z117.2.1),t140,(z117.2.2.2)).2.1,e849))
      (some ((z117.2.1),t140,(z117.2.2.2)))).bind fun z142=>
      some (cE (z117.1,z142)))).bind fun e_z116=>match e_z116 with
    |.next z116=>
     ((cond (!(cQ e644.2.2.1==cQ {data:=#[]}))
     ((BV (g_0.1,g_0.2.1,g_0.2.2.1,g_0.2.2.2.1,g_0.2.2.2.2) e644.2.2.1).bind fun t154=>
      cond (t154==0)
      (some (cD (([]:List ByteArray),[],[],[],[],[],16,e644.2.2.1)))
      (some (cE (((z116.2.1),z116.2.2.1,t154),z116.1))))
     (some (cE (z116.2,z116.1)))):Option (AT (A0×Aw) (List ByteArray×List ByteArray×List A0×List Int×List Int×List ByteArray×Int×ByteArray))).bind fun e_z147=>match e_z147 with
     |.next z147=>
      (app z98.2.2.2.1 ([((z147.1.1),z147.1.2.1,(z147.1.2.2))]:List A0)).bind fun t168=>
      some (cE (z147.2,(z98.2.1,z98.2.2.1,t168,z98.2.2.2.2.1,z98.2.2.2.2.2.1,z98.2.2.2.2.2.2)))
     |.done q1132=>some (cD q1132)
    |.done q1133=>some (cD q1133)).bind fun e_z97=>match e_z97 with
   |.next z97=>
    (Ag z97.2.2.1 g_0.2.2.2.1).bind fun t171=>
    cond (decide (t171< 0))
    (some (([]:List ByteArray),[],[],[],[],[],16,g_0.2.2.2.1))
    (some (z97.2.1,z97.2.2.1,z97.2.2.2.1,z97.2.2.2.2.1,z97.2.2.2.2.2.1,z97.2.2.2.2.2.2,0,{data:=#[]}))
   |.done q1286=>some q1286
  |.done q1287=>some q1287)
set_option maxHeartbeats 4000000 in
theorem G3 {g_0:Slc×Slc×Slc×ByteArray×Slc×Unit}{c7:List HH}{ct:List Hw}{c8:List DP}{c9:List Dw}(ar:Ro.SliceIs Hb φ g_0.1 c7) (ca:Ro.SliceIs Jo φ g_0.2.1 ct) (bc:Ro.SliceIs E1 φ g_0.2.2.1 c8) (au:Ro.SliceIs HI φ g_0.2.2.2.2.1 c9) (s0:St φ (F) h) {r:(List ByteArray×List ByteArray×List A0×List Int×List Int×List ByteArray×Int×ByteArray)}(hd:B9 (c7,ct,c8,g_0.2.2.2.1,c9)=some r):
 CallsH cN 23 [(.agg #[(sv g_0.1),(sv g_0.2.1),(sv g_0.2.2.1),(.string g_0.2.2.2.1),(sv g_0.2.2.2.2.1)])] h (BL fun v h'=>∃ψ:AF,∃y:(Pl6)×Int×ByteArray×Unit,∃cu:List ByteArray,∃cv:List ByteArray,∃cw:List A0,∃cx:List Int,∃cy:List Int,∃cz:List ByteArray,Sub φ ψ∧v=((.tuple [(.agg [.slice,.slice,.slice,.slice,.slice,.slice]),aI,(.atom .string)]):Sh).val y∧(cu,cv,cw,cx,cy,cz,y.2.1,y.2.2.1)=r∧Ro.SliceIs bR ψ y.1.1 cu∧Ro.SliceIs bR ψ y.1.2.1 cv∧Ro.SliceIs A5 ψ y.1.2.2.1 cw∧Ro.SliceIs (bV .i64) ψ y.1.2.2.2.1 cx∧Ro.SliceIs (bV .i64) ψ y.1.2.2.2.2.1 cy∧Ro.SliceIs bR ψ y.1.2.2.2.2.2.1 cz∧St ψ (F) h'):=by
 refine AV mixed Tryz.func23 ?_;rw [G2];unfold E5;unfold B9 at hd;have d0:g_0.1.2.1=cA c7:=ar.length;have d1:g_0.2.2.1.2.1=cA c8:=bc.length;have bj:g_0.2.2.2.2.1.2.1=cA c9:=au.length;refine AZ (vs:=[sv g_0.1,sv g_0.2.1,sv g_0.2.2.1,.string g_0.2.2.2.1,sv g_0.2.2.2.2.1]) s0 fun r1 pp fg=>AZ (vs:=[.slice none 0 0,.slice none 0 0,.slice none 0 0,.slice none 0 0,.slice none 0 0,.slice none 0 0]) fg fun r2 pq b5=>AA (x:=g_0.1) b5.at1 rfl<|AA (x:=g_0.2.1) b5.at1 rfl<|AA (x:=g_0.2.2.1) b5.at1 rfl<|AA (x:=g_0.2.2.2.1) b5.at1 rfl<|AA (x:=g_0.2.2.2.2.1) b5.at1 rfl ?_;obtain ⟨pr,fh,hd⟩:=bS hd;refine AM (Fv (g_0:=(g_0.1,g_0.2.1,g_0.2.2.1,g_0.2.2.2.1,g_0.2.2.2.2.1,())) ar ca bc au b5 fh) ?_;rintro _ ps ⟨ae,t8,p,rfl,rfl,d2⟩;refine ⟨t8,rfl,?_⟩;refine AG hd rfl (fun _ hd=> ?_) (fun _ hd=> ?_)
 ·refine AI d2 rfl rfl fun pt fi=>AI fi rfl rfl fun pu fj=>AI fj rfl rfl fun pv fk=>AI fk rfl rfl fun pw fl=>AI fl rfl rfl fun px fm=>AI fm rfl rfl fun py ay=>AA (x:=((none,0,0):Slc)) ay rfl<|AA (x:=((none,0,0):Slc)) ay rfl<|AA (x:=((none,0,0):Slc)) ay rfl<|AA (x:=((none,0,0):Slc)) ay rfl<|AA (x:=((none,0,0):Slc)) ay rfl<|AA (x:=((none,0,0):Slc)) ay rfl ?_;obtain rfl:=iS hd;exact AB ⟨ae,((((none,0,0):Slc),((none,0,0):Slc),((none,0,0):Slc),((none,0,0):Slc),((none,0,0):Slc),((none,0,0):Slc),()),(1:Int),{data:=#[]},()),[],[],[],[],[],[],p,rfl,rfl,(bW bR ae),(bW bR ae),(bW A5 ae),(bW (bV .i64) ae),(bW (bV .i64) ae),(bW bR ae),ay.tail.tail⟩
 refine AZ (vs:=[.string ({data:=#[36,101,110,100]})]) d2 fun r15 pz fn=>AZ (vs:=[.int .i64 (0:Int)]) fn fun r16 q0 fo=>AZ (vs:=[.int .i64 (0:Int)]) fo fun r17 q1 fp=>AZ (vs:=[.string ({data:=#[]})]) fp fun r18 q2 fq=>AZ (vs:=[.slice none 0 0,.slice none 0 0,.slice none 0 0,.slice none 0 0,.slice none 0 0,.slice none 0 0]) fq fun r19 q3 fr=>AI fr rfl rfl fun q4 fs=>AI fs rfl rfl fun q5 ft=>AI ft rfl rfl fun q6 fu=>AI fu rfl rfl fun q7 fv=>AI fv rfl rfl fun q8 fw=>AI fw rfl rfl fun q9 fx=> ?_;have fy:=dO (r:=bR) (l:=([{data:=#[36,101,110,100]}]:List ByteArray)) (n:=1) fx.at4 (.cons (a:=[_]) rfl .nil) rfl (by decide);have fz:=dO (r:=(bV .i64)) (l:=([(0:Int)]:List Int)) (n:=1) ((fy.nil 9 bR).nil 105 A5).at6 (.cons (a:=[_]) rfl .nil) rfl (by decide);have g0:=dO (r:=(bV .i64)) (l:=([(0:Int)]:List Int)) (n:=1) fz.at6 (.cons (a:=[_]) rfl .nil) rfl (by decide);have g1:=dO (r:=bR) (l:=([{data:=#[]}]:List ByteArray)) (n:=1) g0.at6 (.cons (a:=[_]) rfl .nil) rfl (by decide);have g2:=Ff (t0:=((some ⟨r15,0,none⟩,1,1):Slc)) (t1:=((none,0,0):Slc)) (t2:=((none,0,0):Slc)) (t3:=((some ⟨r16,0,none⟩,1,1):Slc)) (t4:=((some ⟨r17,0,none⟩,1,1):Slc)) (t5:=((some ⟨r18,0,none⟩,1,1):Slc)) g1.at6.at6.at6.at6.at6.at6.at6;obtain ⟨qa,g3,hd⟩:=bS hd;refine Ca g3 (fun g4 (y:Int×Unit) w_ g=>∃ψ:AF,∃d3:Aw,Sub ae ψ∧y.1=g4∧d3=g∧St ψ (cO 32 FC (some ⟨r19,0,none⟩) d3::Wq6 r2::Wq1 r1 g_0::F) w_) ((0:Int),()) rfl ⟨ae,(([{data:=#[36,101,110,100]}]:List ByteArray),[],[],([(0:Int)]:List Int),([(0:Int)]:List Int),([{data:=#[]}]:List ByteArray)),(bT _),rfl,rfl,g2.at2.at2.at2⟩ ?_ ?_ ?_
 ·rintro _ z21 qb _ _ ⟨qc,a6,bk,rfl,rfl,d4⟩ a4 g5 d5 d6;try dsimp only at a4 g5 d5 d6
  refine AA (x:=g_0.2.2.2.2.1) d4.at2 rfl<|BF (dT bj d5) ?_;obtain ⟨g6,qd,g7,qe,qf,qg,qh,d7,bl⟩:=Dk d4;obtain rfl:r19=g6:=by simpa using d7
  clear d7;refine AA (x:=g7) bl.at6 rfl<|AA (x:=g_0.2.2.2.2.1) bl.at8 rfl ?_;obtain ⟨g8,g9,a4⟩:=bS a4;obtain ⟨qi,qj,ga,gb,gc,gd⟩:=(au.mono (p.trans bk)).get g9;refine AH _ ga (Am gb ?_);obtain ⟨_,_,rfl,rfl,⟨_,_,rfl,⟨qk,rfl,ql⟩,⟨_,_,rfl,rfl,rfl⟩⟩⟩:=gc;refine AN (x:=g8.1) (AD bl.sub (gd 0 _ rfl)) rfl ?_;obtain ⟨qm,gk,a4⟩:=bS a4;refine AM (BJ bl.at4 gk) ?_;rintro _ qn ⟨cb,t27,cc,rfl,rfl,gl⟩;refine ⟨t27,rfl,?_⟩;have d8:=Ff gl.at5.at1.at5.at5.at5.at5.at6.at6.at6.at6.at6.at6.at6;obtain ⟨gm,af,a4⟩:=bS a4;refine Ai (fun (y:Unit) w_ g=>∃ψ:AF,∃d9:Aw,Sub cb ψ∧d9=g∧St ψ (cO 32 FC (some ⟨r19,0,none⟩) d9::Wq6 r2::Wq1 r1 g_0::F) w_) (g:=gm) ?_ ?_
  ·refine AG af rfl (fun _ af=> ?_) (fun _ af=> ?_)
   ·obtain ⟨gn,qo,go,qp,qq,qr,qs,da,bd⟩:=Dk d8;obtain rfl:r19=gn:=by simpa using da
    clear da;try dsimp only at bd
    refine AA (x:=go) bd.at6 rfl<|AA (x:=g_0.2.2.2.2.1) bd.at8 rfl ?_;obtain ⟨cd,gp,af⟩:=bS af;obtain ⟨qt,qu,gq,gr,gs,gt⟩:=(au.mono ((p.trans bk).trans cc)).get gp;refine AH _ gq (Am gr ?_);obtain ⟨_,_,rfl,rfl,⟨_,_,rfl,⟨qv,rfl,qw⟩,⟨_,_,rfl,rfl,rfl⟩⟩⟩:=gs;refine AN (x:=cd.1) (AD bd.sub (gt 0 _ rfl)) rfl<|AZ (vs:=[.string cd.1]) bd fun r33 qx ce=>AS (cH (b:=r19) (j:=1) ce.at7 rfl) ?_;obtain ⟨h0,h1,af⟩:=bS af;refine Aa (r:=bR) (ms:=([cd.1]:List ByteArray)) Bq ce.tail.at4 rfl (cS ce) (.cons (a:=[_]) rfl .nil) rfl h1 ?_;intro t34 qy h2;refine AI h2.at6 rfl rfl fun qz h3=> ?_;obtain rfl:=iS af;exact AP (()) rfl ⟨cb,(a6.1,h0,a6.2.2.1,a6.2.2.2.1,a6.2.2.2.2.1,a6.2.2.2.2.2),(bT _),rfl,((((Ff h3.at6.at2.at6.at6.at6.at6.at6.at6.at6.at6.at6.at6.at6).at2).at2).at2)⟩
   obtain rfl:=iS af;exact AP (()) rfl ⟨cb,(a6.1,a6.2.1,a6.2.2.1,a6.2.2.2.1,a6.2.2.2.2.1,a6.2.2.2.2.2),(bT _),rfl,d8.at2.at2.at2⟩
  rintro z28 r0 ⟨h4,be,db,rfl,h5⟩;try dsimp only at a4
  obtain ⟨h6,r3,r4,r5,r6,r7,h7,dc,bm⟩:=Dk h5;obtain rfl:r19=h6:=by simpa using dc
  clear dc;refine AA (x:=h7) bm.at6 rfl<|AA (x:=g_0.2.2.2.2.1) bm.at8 rfl ?_;obtain ⟨cf,h8,a4⟩:=bS a4;obtain ⟨r8,r9,h9,hb,hc,he⟩:=(au.mono (((p.trans bk).trans cc).trans db)).get h8;refine AH _ h9 (Am hb ?_);obtain ⟨_,_,rfl,rfl,⟨_,_,rfl,⟨ra,rfl,rb⟩,⟨_,_,rfl,rfl,rfl⟩⟩⟩:=hc;refine AN (x:=cf.2.2.2) (by rw [Ac];exact (AD bm.sub (he 3 _ rfl))) rfl<|AZ (vs:=[.string cf.2.2.2]) bm fun r39 rc cg=>AS (cH (b:=r19) (j:=5) cg.at7 rfl) ?_;obtain ⟨hl,hm,a4⟩:=bS a4;refine Aa (r:=bR) (ms:=([cf.2.2.2]:List ByteArray)) Bq cg.tail rfl (cS cg) (.cons (a:=[_]) rfl .nil) rfl hm ?_;intro t40 rd hn;refine AI hn.at6 rfl rfl fun re ho=> ?_;obtain rfl:=iS a4;exact Al ((wN z21.1),()) _ rfl rfl ⟨h4,(be.1,be.2.1,be.2.2.1,be.2.2.2.1,be.2.2.2.2.1,hl),((bk.trans cc).trans db),d6,rfl,((((Ff ho.at6.at6.at6.at6.at6.at6.at6.at6.at6.at6.at6.at6.at6).at2).at2).at2)⟩
 ·rintro _ z21 rf ⟨hp,hq,hr,rfl,rfl,dd⟩ hs;refine AA (x:=g_0.2.2.2.2.1) dd.at2 rfl<|As (dF bj hs)<|AO (AR (z21.1,()) rfl ⟨_,hp,hq,hr,rfl,rfl,dd.at2.at2.at2⟩)
 rintro z20 rg ⟨_,de,ht,u,_,rfl,hu⟩;try dsimp only at hd
 have hv:=Ff (t0:=((none,0,0):Slc)) (t1:=((none,0,0):Slc)) (t2:=((none,0,0):Slc)) (t3:=((none,0,0):Slc)) (t4:=((none,0,0):Slc)) (t5:=((none,0,0):Slc)) ((((((hu.nil 9 bR).nil 9 bR).nil 105 A5).nil 3 (bV .i64)).nil 3 (bV .i64)).nil 9 bR).at7.at6.at6.at6.at6.at6.at6;obtain ⟨rh,hw,hd⟩:=bS hd;refine BN hw (fun hx (y:Int×ByteArray×Int×Unit) w_ g=>∃ψ:AF,∃df:Aw,∃dg:Aw,Sub de ψ∧y.1=hx∧(df,dg)=g∧St ψ (cO 32 FC (some ⟨r2,0,none⟩) df::cO 32 FC (some ⟨r19,0,none⟩) dg::Wq1 r1 g_0::F) w_) ((0:Int),{data:=#[]},(0:Int),()) rfl ⟨de,(([]:List ByteArray),[],[],[],[],([]:List ByteArray)),ht,(bT _),rfl,rfl,hv.at2.at2.at2⟩ ?_ ?_ ?_
 ·rintro _ z42 ri _ _ ⟨rj,hy,bn,a8,rfl,rfl,dh⟩ q hz di dj i0;try dsimp only at q hz di dj
  refine AA (x:=g_0.1) dh.at2 rfl<|BF (dT d0 di) ?_;obtain ⟨i1,i2,i3,rk,i4,rl,rm,dk,bo⟩:=Dk dh.at1;obtain rfl:r19=i1:=by simpa using dk
  clear dk;refine AA (x:=i3) bo.at6 rfl<|AA (x:=g_0.1) bo.at8 rfl ?_;obtain ⟨i5,i6,q⟩:=bS q;obtain ⟨rn,rp,i7,i8,i9,ia⟩:=(ar.mono ((p.trans u).trans a8)).get i6;refine AH _ i7 (Am i8 ?_);obtain ⟨_,_,rfl,rfl,⟨_,_,rfl,rfl,⟨_,_,rfl,rfl,rfl⟩⟩⟩:=i9;refine AN (x:=i5.1) (AD bo.sub (ia 0 _ rfl)) rfl ?_;obtain ⟨rq,ij,q⟩:=bS q;refine AM (BJ bo.at4 ij) ?_;rintro _ rr ⟨az,t48,ag,rfl,rfl,b0⟩;refine ⟨t48,rfl,?_⟩;refine AG q rfl (fun _ q=> ?_) (fun _ q=> ?_)
  ·refine AA (x:=g_0.1) b0.at8 rfl ?_;obtain ⟨dl,ik,q⟩:=bS q;obtain ⟨rs,rt,il,im,io,dm⟩:=(ar.mono (((p.trans u).trans a8).trans ag)).get ik;refine AH _ il (Am im ?_);obtain ⟨_,_,rfl,rfl,⟨_,_,rfl,rfl,⟨_,_,rfl,rfl,rfl⟩⟩⟩:=io;refine AN (x:=dl.1) (AD b0.sub (dm 0 _ rfl)) rfl ?_;obtain ⟨iw,ru,rv,rx,ry,rz,s1,dn,ix⟩:=Dk b0.at7;obtain rfl:r2=iw:=by simpa using dn
   clear dn;refine AI ix.at6 rfl rfl fun s2 iy=>AI iy rfl rfl fun s3 iz=>AI iz rfl rfl fun s4 j0=>AI j0 rfl rfl fun s5 j1=>AI j1 rfl rfl fun s6 j2=>AI j2 rfl rfl fun s7 ah=>AS (AD ah.sub (dm 0 _ rfl))<|AS (cH (b:=r1) (j:=0) ah.at14 rfl)<|AA (x:=((none,0,0):Slc)) ah rfl<|AA (x:=((none,0,0):Slc)) ah rfl<|AA (x:=((none,0,0):Slc)) ah rfl<|AA (x:=((none,0,0):Slc)) ah rfl<|AA (x:=((none,0,0):Slc)) ah rfl<|AA (x:=((none,0,0):Slc)) ah rfl ?_;obtain rfl:=iS q;obtain rfl:=i0 _ rfl;try dsimp only at hd
   obtain rfl:=iS hd;exact Ae (Ah (AB ⟨az,((((none,0,0):Slc),((none,0,0):Slc),((none,0,0):Slc),((none,0,0):Slc),((none,0,0):Slc),((none,0,0):Slc),()),(15:Int),dl.1,()),[],[],[],[],[],[],(((p.trans u).trans a8).trans ag),rfl,rfl,(bW bR az),(bW bR az),(bW A5 az),(bW (bV .i64) az),(bW (bV .i64) az),(bW bR az),ah.tail.tail.tail.tail.tail.tail.tail.tail.tail.tail.tail.tail.tail.tail.tail⟩))
  refine AA (x:=i2) b0.at6 rfl<|AA (x:=g_0.1) b0.at8 rfl ?_;obtain ⟨ch,j3,q⟩:=bS q;obtain ⟨s8,s9,j4,j5,j6,j7⟩:=(ar.mono (((p.trans u).trans a8).trans ag)).get j3;refine AH _ j4 (Am j5 ?_);obtain ⟨_,_,rfl,rfl,⟨_,_,rfl,rfl,⟨_,_,rfl,rfl,rfl⟩⟩⟩:=j6;refine AN (x:=ch.1) (AD b0.sub (j7 0 _ rfl)) rfl<|AZ (vs:=[.string ch.1]) b0 fun r62 sa ci=>AS (cH (b:=r19) (j:=0) ci.at7 rfl) ?_;obtain ⟨je,jf,q⟩:=bS q;refine Aa (r:=bR) (ms:=([ch.1]:List ByteArray)) Bq ci.tail.at5 rfl (cS ci) (.cons (a:=[_]) rfl .nil) rfl jf ?_;intro t63 sb jg;refine AI jg.at6 rfl rfl fun sc ai=>AA (x:=i4) ai rfl<|AA (x:=g_0.1) ai.at8 rfl<|AA (x:=g_0.2.1) ai.at8 rfl<|AA (x:=g_0.2.2.1) ai.at8 rfl<|AA (x:=g_0.2.2.2.1) ai.at8 rfl<|AA (x:=g_0.2.2.2.2.1) ai.at8 rfl<|AA (x:=g_0.1) ai.at8 rfl ?_;obtain ⟨jh,ji,q⟩:=bS q;obtain ⟨sd,se,jj,jk,jl,jm⟩:=(ar.mono (((p.trans u).trans a8).trans ag)).get ji;refine AH _ jj (Am jk ?_);obtain ⟨_,_,rfl,rfl,⟨_,_,rfl,rfl,⟨_,_,rfl,rfl,rfl⟩⟩⟩:=jl;refine AN (x:=jh.1) (AD ai.sub (jm 0 _ rfl)) rfl ?_;obtain ⟨sf,jt,q⟩:=bS q;refine AM (DU (g_0:=(g_0.1,g_0.2.1,g_0.2.2.1,g_0.2.2.2.1,g_0.2.2.2.2.1,())) (ar.mono (((p.trans u).trans a8).trans ag)) (ca.mono (((p.trans u).trans a8).trans ag)) (bc.mono (((p.trans u).trans a8).trans ag)) (au.mono (((p.trans u).trans a8).trans ag)) ai jt) ?_;rintro _ sg ⟨ju,t73,jv,rfl,rfl,dp⟩;refine ⟨t73,rfl,?_⟩;refine AS (cH (b:=r19) (j:=3) dp rfl)<|AZ (vs:=[.int .i64 t73]) dp fun r74 sh cj=>AS (cH (b:=r19) (j:=3) cj.at1 rfl) ?_;obtain ⟨jw,jx,q⟩:=bS q;refine Aa (r:=(bV .i64)) (ms:=([t73]:List Int)) DE cj.tail.at5 rfl (cS cj) (.cons (a:=[_]) rfl .nil) rfl jx ?_;intro t75 si jy;refine AI jy.at1 rfl rfl fun sj jz=> ?_;obtain rfl:=iS q;exact Al ((wN z42.1),z42.2.1,z42.2.2.1,()) _ rfl rfl ⟨ju,hy,(je,bn.2.1,bn.2.2.1,jw,bn.2.2.2.2.1,bn.2.2.2.2.2),((a8.trans ag).trans jv),dj,rfl,((((Ff jz.at2.at3.at6.at4.at6.at6.at6.at6.at6.at6.at6.at6.at6).at2).at1).at2)⟩
 ·rintro _ z42 sk _ ⟨k0,k1,k2,k3,rfl,rfl,dq⟩ k4 k5;subst k5;refine AA (x:=g_0.1) dq.at2 rfl<|As (dF d0 k4)<|AO (AR (z42.1,z42.2.1,z42.2.2.1,()) rfl ⟨_,rfl,_,k0,k1,k2,k3,rfl,rfl,dq.at2.at2.at2⟩)
 rintro z41 sl ⟨_,rfl,_,dr,ds,k6,a9,_,rfl,k7⟩;try dsimp only at hd
 obtain ⟨sm,k8,hd⟩:=bS hd;refine Ca k8 (fun k9 (y:Int×Unit) w_ g=>∃ψ:AF,∃dt:Aw,Sub dr ψ∧y.1=k9∧dt=g∧St ψ (cO 32 FC (some ⟨r19,0,none⟩) dt::cO 32 FC (some ⟨r2,0,none⟩) ds::Wq1 r1 g_0::F) w_) ((0:Int),()) rfl ⟨dr,k6,(bT _),rfl,rfl,k7.at2.at1.at2⟩ ?_ ?_ ?_
 ·rintro _ z77 sn _ _ ⟨ka,bf,du,rfl,rfl,dv⟩ b6 kb dw dx;try dsimp only at b6 kb dw dx
  refine AA (x:=g_0.2.2.1) dv.at2 rfl<|BF (dT d1 dw) ?_;obtain ⟨kc,so,sp,sq,sr,kd,ss,dy,bp⟩:=Dk dv;obtain rfl:r19=kc:=by simpa using dy
  clear dy;refine AA (x:=kd) bp.at6 rfl<|AA (x:=g_0.2.2.1) bp.at8 rfl ?_;obtain ⟨ck,ke,b6⟩:=bS b6;obtain ⟨st,su,kf,kg,kh,ki⟩:=(bc.mono (((p.trans u).trans a9).trans du)).get ke;refine AH _ kf (Am kg ?_);obtain ⟨_,_,rfl,rfl,⟨sw,rfl,sx⟩⟩:=kh;refine AN (x:=ck.1) (AD bp.sub (ki 0 _ rfl)) rfl<|AZ (vs:=[.int .i64 ck.1]) bp fun r83 sy cl=>AS (cH (b:=r19) (j:=4) cl.at7 rfl) ?_;obtain ⟨kl,km,b6⟩:=bS b6;refine Aa (r:=(bV .i64)) (ms:=([ck.1]:List Int)) DE cl.tail.at1 rfl (cS cl) (.cons (a:=[_]) rfl .nil) rfl km ?_;intro t84 sz kn;refine AI kn.at6 rfl rfl fun t6 ko=> ?_;obtain rfl:=iS b6;exact Al ((wN z77.1),()) _ rfl rfl ⟨ka,(bf.1,bf.2.1,bf.2.2.1,bf.2.2.2.1,kl,bf.2.2.2.2.2),du,dx,rfl,((((Ff ko.at6.at6.at6.at6.at5.at6.at6.at6.at6.at6.at6.at6.at6).at2).at2).at2)⟩
 ·rintro _ z77 t7 ⟨kp,kq,kr,rfl,rfl,dz⟩ ks;refine AA (x:=g_0.2.2.1) dz.at2 rfl<|As (dF d1 ks)<|AO (AR (z77.1,()) rfl ⟨_,kp,kq,kr,rfl,rfl,dz.at2.at2.at2⟩)
 rintro z76 t9 ⟨_,ta,s,aj,_,rfl,kt⟩;try dsimp only at hd
 obtain ⟨ku,bq,br,a2,e0,e1,e2,e3,a5⟩:=Dk kt;obtain rfl:r19=ku:=by simpa using e3
 clear e3;have kv:=(a5.at5).rowLen;have kw:=(a5.at4).rowLen;refine AA (x:=bq) a5.at6 rfl<|AA (x:=br) a5.at6 rfl<|AA (x:=bq) a5.at6 rfl<|AA (x:=br) a5.at6 rfl<|AA (x:=a2) a5.at6 rfl<|AA (x:=e0) a5.at6 rfl<|AA (x:=e1) a5.at6 rfl<|AA (x:=e2) a5.at6 rfl<|AA (x:=g_0.2.2.2.1) a5.at8 rfl ?_;obtain ⟨tb,kx,hd⟩:=bS hd;refine AM (CC (p_0:=(bq,br,a2,e0,e1,e2,())) a5.at5.at5.at1 kx) ?_;rintro _ tc ⟨td,t94,ak,rfl,rfl,ky⟩;refine ⟨t94,rfl,?_⟩;refine AZ (vs:=[.int .i64 t94]) ky fun r95 te kz=>AZ (vs:=[.int .i64 (bM .i64 ((bq.2.1:Int)+(br.2.1:Int))),.slice (some ⟨r95,0,none⟩) 1 1,.int .i64 (0:Int)]) kz fun r96 tf l0=>AI l0.at8 rfl rfl fun tg l1=> ?_;have l2:=dO (r:=(bV .i64)) (l:=([t94]:List Int)) (n:=1) l1.at3.at4.at4 (.cons (a:=[_]) rfl .nil) rfl (by decide);obtain ⟨e4,al,l3,l4⟩:=cB (t:=((some ⟨r95,0,none⟩,1,1):Slc)) l2;have l5:=dO (r:=A5) (l:=([((bM .i64 ((s.1.length:Int)+(s.2.1.length:Int))),([t94]:List Int),(0:Int))]:List A0)) (n:=1) l4.at3 (.cons (a:=[_,_,_]) ⟨[_],_,rfl,(show _=_ by rw [kv,kw];rfl),⟨[_],_,rfl,⟨((some ⟨r95,0,none⟩,1,1):Slc),rfl,l3⟩,rfl⟩⟩ .nil) rfl (by decide);have l6:=((((Ff (t2:=((some ⟨r96,0,none⟩,1,1):Slc)) l5.at6.at6.at6.at6.at6.at6.at6.at6.at6.at6).at3).at2).at2).at3;obtain ⟨th,l7,hd⟩:=bS hd;refine BN l7 (fun l8 (y:Int×ByteArray×Int×Unit) w_ g=>∃ψ:AF,∃e5:Aw,∃e6:Aw,Sub e4 ψ∧y.1=l8∧(e5,e6)=g∧St ψ (cO 32 FC (some ⟨r2,0,none⟩) e5::cO 32 FC (some ⟨r19,0,none⟩) e6::cR 105 A5 a2 s.2.2.1::Wq1 r1 g_0::F) w_) ((0:Int),z41.2.1,z41.2.2.1,()) rfl ⟨e4,ds,(s.1,s.2.1,([((bM .i64 ((s.1.length:Int)+(s.2.1.length:Int))),([t94]:List Int),(0:Int))]:List A0),s.2.2.2.1,s.2.2.2.2.1,s.2.2.2.2.2),(bT _),rfl,rfl,l6⟩ ?_ ?_ ?_
 ·rintro _ z98 ti _ _ ⟨tj,e7,c,av,rfl,rfl,b1⟩ w l9 e8 e9 ea;try dsimp only at w l9 e8 e9
  refine AA (x:=g_0.2.2.2.2.1) b1.at3 rfl<|BF (dT bj e8)<|AA (x:=g_0.2.2.2.2.1) b1.at3 rfl ?_;obtain ⟨d,la,w⟩:=bS w;obtain ⟨tk,tl,lb,lc,ld,bs⟩:=(au.mono ((((((p.trans u).trans a9).trans aj).trans ak).trans al).trans av)).get la;refine AH _ lb (Am lc ?_);obtain ⟨_,_,rfl,rfl,⟨_,_,rfl,⟨a1,rfl,cm⟩,lh⟩⟩:=ld;have eb:=cm.length;obtain ⟨_,_,rfl,rfl,rfl⟩:=lh;refine AN (x:=d.1) (AD b1.sub (bs 0 _ rfl)) rfl<|AN (x:=a1) (by rw [Ac];exact (AD b1.sub (bs 1 _ rfl))) rfl<|AN (x:=d.2.2.1) (by rw [Ac];exact (AD b1.sub (bs 2 _ rfl))) rfl<|AN (x:=d.2.2.2) (by rw [Ac];exact (AD b1.sub (bs 3 _ rfl))) rfl<|AZ (vs:=[.string ({data:=#[]}),.slice none 0 0,.string ({data:=#[]}),.string ({data:=#[]})]) b1 fun r106 tm lk=>AI lk rfl rfl fun tn ll=>AI ll rfl rfl fun tp lm=>AI lm rfl rfl fun tq ln=>AI ln rfl rfl fun tr lo=> ?_;obtain ⟨lp,e,k,f,i,m,o,ec,am⟩:=Dk lo.at2;obtain rfl:r19=lp:=by simpa using ec
  clear ec;have lq:=(am.at5).rowLen;refine AA (x:=e) am.at6 rfl<|AA (x:=k) am.at6 rfl<|AA (x:=f) am.at6 rfl<|AA (x:=i) am.at6 rfl<|AA (x:=m) am.at6 rfl<|AA (x:=o) am.at6 rfl<|AA (x:=d.1) am.at7 rfl ?_;obtain ⟨ts,lr,w⟩:=bS w;refine AM (CC (p_0:=(e,k,f,i,m,o,())) am.at5.at5.at1 lr) ?_;rintro _ tt ⟨cn,t114,an,rfl,rfl,ls⟩;refine ⟨t114,rfl,?_⟩;refine AZ (vs:=[.int .i64 (0:Int),.slice none 0 0,.int .i64 (0:Int)]) ls fun r115 tu lt=>AI lt rfl rfl fun tv lu=>AI lu rfl rfl fun tw lv=>AI lv rfl rfl fun tx lw=> ?_;have lx:=bU ((cC (r:=(bV .i64)) (cs:=[.int .i64 (0:Int)]) (x:=(0:Int)) (lw.nil 3 (bV .i64)) rfl).at1);have ly:St cn (cO 105 Rq1 (some ⟨r115,0,none⟩) (t114,[],(0:Int))::cR 9 bR e c.1::cR 9 bR k c.2.1::cR 9 bR o c.2.2.2.2.2::cR 3 (bV .i64) m c.2.2.2.2.1::cR 3 (bV .i64) i c.2.2.2.1::cR 105 A5 f c.2.2.1::cW 32 r19 [sv e,sv k,sv f,sv i,sv m,sv o]::cW 95 r106 [.string d.1,sv a1,.string d.2.2.1,.string d.2.2.2]::cO 32 FC (some ⟨r2,0,none⟩) e7::cR 105 A5 a2 s.2.2.1::Wq1 r1 g_0::F) _:=dU (bU (cC (r:=(bV .i64)) (cs:=[.int .i64 t114]) (x:=t114) lx rfl)).at1;obtain ⟨ty,lz,w⟩:=bS w;refine BN lz (fun m0 (y:Int×ByteArray×Int×Unit) w_ g=>∃ψ:AF,∃ed:Aw,∃ee:A0,Sub cn ψ∧y.1=m0∧(ed,ee)=g∧St ψ (cO 32 FC (some ⟨r2,0,none⟩) ed::cO 105 Rq1 (some ⟨r115,0,none⟩) ee::cR 9 bR e c.1::cR 9 bR k c.2.1::cR 9 bR o c.2.2.2.2.2::cR 3 (bV .i64) m c.2.2.2.2.1::cR 3 (bV .i64) i c.2.2.2.1::cR 105 A5 f c.2.2.1::cW 32 r19 [sv e,sv k,sv f,sv i,sv m,sv o]::cW 95 r106 [.string d.1,sv a1,.string d.2.2.1,.string d.2.2.2]::cR 105 A5 a2 s.2.2.1::Wq1 r1 g_0::F) w_) ((0:Int),z98.2.1,z98.2.2.1,()) rfl ⟨cn,e7,(t114,[],(0:Int)),(bT _),rfl,rfl,ly.at11.at11.at10.at10.at10.at10.at10.at10.at10.at10.at10.at11⟩ ?_ ?_ ?_
  ·rintro _ z117 tz _ _ ⟨u0,b7,z,bt,rfl,rfl,aa⟩ a0 m1 ef eg m2;try dsimp only at a0 m1 ef eg
   refine AA (x:=a1) aa.at9 rfl<|BF (dT eb ef)<|AA (x:=e) aa.at8 rfl<|AA (x:=k) aa.at8 rfl<|AA (x:=f) aa.at8 rfl<|AA (x:=i) aa.at8 rfl<|AA (x:=m) aa.at8 rfl<|AA (x:=o) aa.at8 rfl<|AA (x:=a1) aa.at9 rfl ?_;obtain ⟨u1,m3,a0⟩:=bS a0;refine Dv cm m3 (cU (an.trans bt) aa.sub) ?_;obtain ⟨u2,m4,a0⟩:=bS a0;refine AM (CC (p_0:=(e,k,f,i,m,o,())) aa.at2.at3.at1 m4) ?_;rintro _ u3 ⟨a3,t128,co,rfl,rfl,bu⟩;refine ⟨t128,rfl,?_⟩;refine AG a0 rfl (fun _ a0=> ?_) (fun _ a0=> ?_)
   ·refine AA (x:=a1) bu.at9 rfl ?_;obtain ⟨eh,m5,a0⟩:=bS a0;obtain ⟨u4,u5,m6,m7,m8,ei⟩:=(cm.mono ((an.trans bt).trans co)).get m5;refine AH _ m6 (Am m7 ?_);obtain rfl:=m8;refine AN (x:=eh) (AD bu.sub (ei 0 _ rfl)) rfl ?_;obtain ⟨m9,u6,u7,u8,u9,ua,ub,ej,ma⟩:=Dk bu.at2;obtain rfl:r2=m9:=by simpa using ej
    clear ej;refine AI ma.at6 rfl rfl fun uc mb=>AI mb rfl rfl fun ud mc=>AI mc rfl rfl fun ue md=>AI md rfl rfl fun uf me=>AI me rfl rfl fun ug mf=>AI mf rfl rfl fun uh ao=>AS (AD ao.sub (ei 0 _ rfl))<|AS (cH (b:=r106) (j:=1) ao.at15 rfl)<|AA (x:=((none,0,0):Slc)) ao rfl<|AA (x:=((none,0,0):Slc)) ao rfl<|AA (x:=((none,0,0):Slc)) ao rfl<|AA (x:=((none,0,0):Slc)) ao rfl<|AA (x:=((none,0,0):Slc)) ao rfl<|AA (x:=((none,0,0):Slc)) ao rfl ?_;obtain rfl:=iS a0;obtain rfl:=m2 _ rfl;try dsimp only at w
    obtain rfl:=iS w;obtain rfl:=ea _ rfl;try dsimp only at hd
    obtain rfl:=iS hd;exact Ae (Ah (Ae (Ah (AB ⟨a3,((((none,0,0):Slc),((none,0,0):Slc),((none,0,0):Slc),((none,0,0):Slc),((none,0,0):Slc),((none,0,0):Slc),()),(16:Int),eh,()),[],[],[],[],[],[],(((((((((p.trans u).trans a9).trans aj).trans ak).trans al).trans av).trans an).trans bt).trans co),rfl,rfl,(bW bR a3),(bW bR a3),(bW A5 a3),(bW (bV .i64) a3),(bW (bV .i64) a3),(bW bR a3),ao.tail.tail.tail.tail.tail.tail.tail.tail.tail.tail.tail.tail.tail.tail.tail.tail.tail.tail⟩))))
   obtain ⟨mg,ui,ek,uj,mh⟩:=bu.at3.open;obtain rfl:r115=mg:=by simpa using ek
   clear ek;obtain ⟨uk,ul,rfl,um,mi⟩:=mh.at1.pair;obtain ⟨mj,mk⟩:=mi.ro;subst mj;obtain ⟨un,uo,rfl,up,el⟩:=mk.pair;obtain ⟨cp,ml⟩:=el.rowCs;subst ml;obtain ⟨mm,mn⟩:=el.at1.ro;subst mm;have em:St a3 (cR 3 (bV .i64) cp z.2.1::cW 105 r115 [.int .i64 (z.1),sv cp,.int .i64 (z.2.2)]::cR 9 bR e c.1::cR 9 bR k c.2.1::cO 32 FC (some ⟨r2,0,none⟩) b7::cR 9 bR o c.2.2.2.2.2::cR 3 (bV .i64) m c.2.2.2.2.1::cR 3 (bV .i64) i c.2.2.2.1::cR 105 A5 f c.2.2.1::cW 32 r19 [sv e,sv k,sv f,sv i,sv m,sv o]::cW 95 r106 [.string d.1,sv a1,.string d.2.2.1,.string d.2.2.2]::cR 105 A5 a2 s.2.2.1::Wq1 r1 g_0::F) _:=mn;refine AA (x:=cp) em.at1 rfl<|AZ (vs:=[.int .i64 t128]) em fun r139 uq en=> ?_;obtain ⟨bg,mo,a0⟩:=bS a0;refine Aa (r:=(bV .i64)) (ms:=([t128]:List Int)) DE en.tail rfl (cS en) (.cons (a:=[_]) rfl .nil) rfl mo ?_;intro t140 ur mp;refine AI mp.at1 rfl rfl fun us eo=>AA (x:=e) eo.at9 rfl ?_;have mq:=cC (r:=(bV .i64)) (cs:=[.int .i64 (z.1)]) (x:=(z.1)) (bU ((cC (r:=(bV .i64)) (cs:=[.int .i64 (z.2.2)]) (x:=(z.2.2)) eo.at1 rfl).at1)) rfl;have bv:St a3 (cO 105 Rq1 (some ⟨r115,0,none⟩) ((z.1),bg,(z.2.2))::cR 9 bR e c.1::cR 9 bR k c.2.1::cO 32 FC (some ⟨r2,0,none⟩) b7::cR 9 bR o c.2.2.2.2.2::cR 3 (bV .i64) m c.2.2.2.2.1::cR 3 (bV .i64) i c.2.2.2.1::cR 105 A5 f c.2.2.1::cW 32 r19 [sv e,sv k,sv f,sv i,sv m,sv o]::cW 95 r106 [.string d.1,sv a1,.string d.2.2.1,.string d.2.2.2]::cR 105 A5 a2 s.2.2.1::Wq1 r1 g_0::F) _:=dU (bU mq).at1;obtain ⟨mr,b2,a0⟩:=bS a0;refine Ai (fun (y:Unit) w_ g=>∃ψ:AF,∃ep:A0,Sub a3 ψ∧ep=g∧St ψ (cO 105 Rq1 (some ⟨r115,0,none⟩) ep::cR 9 bR e c.1::cR 9 bR k c.2.1::cO 32 FC (some ⟨r2,0,none⟩) b7::cR 9 bR o c.2.2.2.2.2::cR 3 (bV .i64) m c.2.2.2.2.1::cR 3 (bV .i64) i c.2.2.2.1::cR 105 A5 f c.2.2.1::cW 32 r19 [sv e,sv k,sv f,sv i,sv m,sv o]::cW 95 r106 [.string d.1,sv a1,.string d.2.2.1,.string d.2.2.2]::cR 105 A5 a2 s.2.2.1::Wq1 r1 g_0::F) w_) (g:=mr) ?_ ?_
   ·refine AG b2 (by rw [lq] <;>rfl) (fun _ b2=> ?_) (fun _ b2=> ?_)
    ·refine AA (x:=i) bv.at8 rfl ?_;obtain ⟨bw,mu,b2⟩:=bS b2;refine Jn bv.at6 mu ?_;obtain ⟨mv,ut,er,uu,mw⟩:=bv.open;obtain rfl:r115=mv:=by simpa using er
     clear er;obtain ⟨uv,uw,rfl,ux,mx⟩:=mw.at1.pair;obtain ⟨my,mz⟩:=mx.ro;subst my;obtain ⟨uy,uz,rfl,v0,es⟩:=mz.pair;obtain ⟨eu,n0⟩:=es.rowCs;subst n0;obtain ⟨n1,n2⟩:=es.at1.ro;subst n1;have n3:St a3 (cR 3 (bV .i64) eu bg::cW 105 r115 [.int .i64 ((z.1)),sv eu,.int .i64 ((z.2.2))]::cR 9 bR e c.1::cR 9 bR k c.2.1::cO 32 FC (some ⟨r2,0,none⟩) b7::cR 9 bR o c.2.2.2.2.2::cR 3 (bV .i64) m c.2.2.2.2.1::cR 3 (bV .i64) i c.2.2.2.1::cR 105 A5 f c.2.2.1::cW 32 r19 [sv e,sv k,sv f,sv i,sv m,sv o]::cW 95 r106 [.string d.1,sv a1,.string d.2.2.1,.string d.2.2.2]::cR 105 A5 a2 s.2.2.1::Wq1 r1 g_0::F) _:=n2;refine AI n3.at1 rfl rfl fun v1 n4=> ?_;have n5:=cC (r:=(bV .i64)) (cs:=[.int .i64 ((z.1))]) (x:=((z.1))) (bU ((cC (r:=(bV .i64)) (cs:=[.int .i64 bw]) (x:=bw) n4.at1 rfl).at1)) rfl;have n6:St a3 (cO 105 Rq1 (some ⟨r115,0,none⟩) (((z.1)),bg,bw)::cR 9 bR e c.1::cR 9 bR k c.2.1::cO 32 FC (some ⟨r2,0,none⟩) b7::cR 9 bR o c.2.2.2.2.2::cR 3 (bV .i64) m c.2.2.2.2.1::cR 3 (bV .i64) i c.2.2.2.1::cR 105 A5 f c.2.2.1::cW 32 r19 [sv e,sv k,sv f,sv i,sv m,sv o]::cW 95 r106 [.string d.1,sv a1,.string d.2.2.1,.string d.2.2.2]::cR 105 A5 a2 s.2.2.1::Wq1 r1 g_0::F) _:=dU (bU n5).at1;obtain rfl:=iS b2;exact AP (()) rfl ⟨a3,(((z.1)),bg,bw),(bT _),rfl,n6.at11.at11.at11.at11.at11.at11.at11.at11.at11.at11.at11.at11⟩
    obtain rfl:=iS b2;exact AP (()) rfl ⟨a3,((z.1),bg,(z.2.2)),(bT _),rfl,bv.at11.at11.at11.at11.at11.at11.at11.at11.at11.at11.at11.at11⟩
   rintro z142 v2 ⟨n7,n8,n9,rfl,na⟩;try dsimp only at a0
   obtain rfl:=iS a0;exact Al ((wN z117.1),z117.2.1,z117.2.2.1,()) _ rfl rfl ⟨n7,b7,n8,((bt.trans co).trans n9),eg,rfl,na.at11.at11.at11.at11.at11.at11.at11.at11.at10.at10.at10.at11⟩
  ·rintro _ z117 v3 _ ⟨nb,nc,nd,nf,rfl,rfl,ev⟩ ng nh;subst nh;refine AA (x:=a1) ev.at9 rfl<|As (dF eb ng)<|AO (AR (z117.1,z117.2.1,z117.2.2.1,()) rfl ⟨_,rfl,_,nb,nc,nd,nf,rfl,rfl,ev.at11.at11.at11.at11.at11.at11.at11.at11.at11.at11.at11.at11⟩)
  rintro z116 v4 ⟨_,rfl,_,ew,bx,ab,b8,_,rfl,ap⟩;try dsimp only at w
  refine AA (x:=d.2.2.1) ap.at9 rfl ?_;obtain ⟨ni,a7,w⟩:=bS w;refine Ai (fun (y:ByteArray×Int×Unit) w_ g=>∃ψ:AF,∃ex:A0,∃ey:Aw,Sub ew ψ∧cE (ex,ey)=g∧St ψ (cO 105 Rq1 (some ⟨r115,0,none⟩) ex::cO 32 FC (some ⟨r2,0,none⟩) ey::cR 9 bR e c.1::cR 9 bR k c.2.1::cR 9 bR o c.2.2.2.2.2::cR 3 (bV .i64) m c.2.2.2.2.1::cR 3 (bV .i64) i c.2.2.2.1::cR 105 A5 f c.2.2.1::cW 32 r19 [sv e,sv k,sv f,sv i,sv m,sv o]::cW 95 r106 [.string d.1,sv a1,.string d.2.2.1,.string d.2.2.2]::cR 105 A5 a2 s.2.2.1::Wq1 r1 g_0::F) w_) (g:=ni) ?_ ?_
  ·refine AG a7 rfl (fun _ a7=> ?_) (fun _ a7=> ?_)
   ·refine AA (x:=g_0.1) ap.at11 rfl<|AA (x:=g_0.2.1) ap.at11 rfl<|AA (x:=g_0.2.2.1) ap.at11 rfl<|AA (x:=g_0.2.2.2.1) ap.at11 rfl<|AA (x:=g_0.2.2.2.2.1) ap.at11 rfl<|AA (x:=d.2.2.1) ap.at9 rfl ?_;obtain ⟨v5,nj,a7⟩:=bS a7;refine AM (DU (g_0:=(g_0.1,g_0.2.1,g_0.2.2.1,g_0.2.2.2.1,g_0.2.2.2.2.1,())) (ar.mono ((((((((p.trans u).trans a9).trans aj).trans ak).trans al).trans av).trans an).trans b8)) (ca.mono ((((((((p.trans u).trans a9).trans aj).trans ak).trans al).trans av).trans an).trans b8)) (bc.mono ((((((((p.trans u).trans a9).trans aj).trans ak).trans al).trans av).trans an).trans b8)) (au.mono ((((((((p.trans u).trans a9).trans aj).trans ak).trans al).trans av).trans an).trans b8)) ap nj) ?_;rintro _ v6 ⟨ac,t154,ez,rfl,rfl,nk⟩;refine ⟨t154,rfl,?_⟩;obtain ⟨nl,v7,f0,v8,nm⟩:=nk.at1.open;obtain rfl:r115=nl:=by simpa using f0
    clear f0;obtain ⟨v9,va,rfl,vb,nn⟩:=nm.at1.pair;obtain ⟨np,nq⟩:=nn.ro;subst np;obtain ⟨vc,vd,rfl,ve,f1⟩:=nq.pair;obtain ⟨f2,nr⟩:=f1.rowCs;subst nr;obtain ⟨ns,nt⟩:=f1.at1.ro;subst ns;have nu:St ac (cR 3 (bV .i64) f2 ab.2.1::cW 105 r115 [.int .i64 (ab.1),sv f2,.int .i64 (ab.2.2)]::cO 32 FC (some ⟨r2,0,none⟩) bx::cR 9 bR e c.1::cR 9 bR k c.2.1::cR 9 bR o c.2.2.2.2.2::cR 3 (bV .i64) m c.2.2.2.2.1::cR 3 (bV .i64) i c.2.2.2.1::cR 105 A5 f c.2.2.1::cW 32 r19 [sv e,sv k,sv f,sv i,sv m,sv o]::cW 95 r106 [.string d.1,sv a1,.string d.2.2.1,.string d.2.2.2]::cR 105 A5 a2 s.2.2.1::Wq1 r1 g_0::F) _:=nt;refine AI nu.at1 rfl rfl fun vf bz=>AA (x:=t154) bz rfl<|AG a7 rfl (fun _ a7=> ?_) (fun _ a7=> ?_)
    ·refine AA (x:=d.2.2.1) bz.at10 rfl ?_;obtain ⟨nv,vg,vh,vi,vj,vk,vl,f3,nw⟩:=Dk bz.at2;obtain rfl:r2=nv:=by simpa using f3
     clear f3;refine AI nw.at6 rfl rfl fun vm nx=>AI nx rfl rfl fun vn ny=>AI ny rfl rfl fun vo nz=>AI nz rfl rfl fun vp o0=>AI o0 rfl rfl fun vq o1=>AI o1 rfl rfl fun vr aw=>AS (cH (b:=r106) (j:=2) aw.at16 rfl)<|AA (x:=((none,0,0):Slc)) aw rfl<|AA (x:=((none,0,0):Slc)) aw rfl<|AA (x:=((none,0,0):Slc)) aw rfl<|AA (x:=((none,0,0):Slc)) aw rfl<|AA (x:=((none,0,0):Slc)) aw rfl<|AA (x:=((none,0,0):Slc)) aw rfl ?_;obtain rfl:=iS a7;try dsimp only at w
     obtain rfl:=iS w;obtain rfl:=ea _ rfl;try dsimp only at hd
     obtain rfl:=iS hd;exact My (Ae (Ah (AB ⟨ac,((((none,0,0):Slc),((none,0,0):Slc),((none,0,0):Slc),((none,0,0):Slc),((none,0,0):Slc),((none,0,0):Slc),()),(16:Int),d.2.2.1,()),[],[],[],[],[],[],(((((((((p.trans u).trans a9).trans aj).trans ak).trans al).trans av).trans an).trans b8).trans ez),rfl,rfl,(bW bR ac),(bW bR ac),(bW A5 ac),(bW (bV .i64) ac),(bW (bV .i64) ac),(bW bR ac),aw.tail.tail.tail.tail.tail.tail.tail.tail.tail.tail.tail.tail.tail.tail.tail.tail.tail.tail.tail⟩)))
    have o2:=cC (r:=(bV .i64)) (cs:=[.int .i64 (ab.1)]) (x:=(ab.1)) (bU ((cC (r:=(bV .i64)) (cs:=[.int .i64 t154]) (x:=t154) bz.at1 rfl).at1)) rfl;have o3:St ac (cO 105 Rq1 (some ⟨r115,0,none⟩) ((ab.1),ab.2.1,t154)::cO 32 FC (some ⟨r2,0,none⟩) bx::cR 9 bR e c.1::cR 9 bR k c.2.1::cR 9 bR o c.2.2.2.2.2::cR 3 (bV .i64) m c.2.2.2.2.1::cR 3 (bV .i64) i c.2.2.2.1::cR 105 A5 f c.2.2.1::cW 32 r19 [sv e,sv k,sv f,sv i,sv m,sv o]::cW 95 r106 [.string d.1,sv a1,.string d.2.2.1,.string d.2.2.2]::cR 105 A5 a2 s.2.2.1::Wq1 r1 g_0::F) _:=dU (bU o2).at1;obtain rfl:=iS a7;exact AP (z116.2.1,z116.2.2.1,()) rfl ⟨ac,((ab.1),ab.2.1,t154),bx,ez,rfl,o3.at11.at11.at11.at11.at11.at11.at11.at11.at11.at11.at11.at11⟩
   obtain rfl:=iS a7;exact AP (z116.2.1,z116.2.2.1,()) rfl ⟨ew,ab,bx,(bT _),rfl,ap.at11.at11.at11.at11.at11.at11.at11.at11.at11.at11.at10.at11⟩
  rintro z147 vt ⟨o4,ad,f4,o5,rfl,f5⟩;try dsimp only at w
  refine AA (x:=f) f5.at8 rfl ?_;obtain ⟨o6,vu,f6,vv,o7⟩:=f5.open;obtain rfl:r115=o6:=by simpa using f6
  clear f6;obtain ⟨vw,vx,rfl,vy,o8⟩:=o7.at1.pair;obtain ⟨o9,oa⟩:=o8.ro;subst o9;obtain ⟨vz,w0,rfl,w1,f7⟩:=oa.pair;obtain ⟨b9,ob⟩:=f7.rowCs;subst ob;obtain ⟨oc,od⟩:=f7.at1.ro;subst oc;have c0:St o4 (cR 3 (bV .i64) b9 ad.2.1::cW 105 r115 [.int .i64 (ad.1),sv b9,.int .i64 (ad.2.2)]::cO 32 FC (some ⟨r2,0,none⟩) f4::cR 9 bR e c.1::cR 9 bR k c.2.1::cR 9 bR o c.2.2.2.2.2::cR 3 (bV .i64) m c.2.2.2.2.1::cR 3 (bV .i64) i c.2.2.2.1::cR 105 A5 f c.2.2.1::cW 32 r19 [sv e,sv k,sv f,sv i,sv m,sv o]::cW 95 r106 [.string d.1,sv a1,.string d.2.2.1,.string d.2.2.2]::cR 105 A5 a2 s.2.2.1::Wq1 r1 g_0::F) _:=od;refine AA (x:=(ad.1)) c0.at1 rfl<|AA (x:=b9) c0.at1 rfl<|AA (x:=(ad.2.2)) c0.at1 rfl<|AZ (vs:=[.int .i64 (ad.1),sv b9,.int .i64 (ad.2.2)]) c0 fun r167 w2 oe=> ?_;obtain ⟨og,oh,oi,f8⟩:=cB (t:=b9) oe.at1;obtain ⟨oj,ok,w⟩:=bS w;refine Aa (r:=A5) (ms:=([((ad.1),ad.2.1,(ad.2.2))]:List A0)) LE f8.tail.at7 rfl (cS f8) (.cons (a:=[_,_,_]) ⟨[_],_,rfl,rfl,⟨[_],_,rfl,⟨b9,rfl,oi⟩,rfl⟩⟩ .nil) rfl ok ?_;intro t168 w3 ol;refine AI ol.at8 rfl rfl fun w4 om=> ?_;obtain rfl:=iS w;exact Al ((wN z98.1),z147.1,z147.2.1,()) _ rfl rfl ⟨og,f4,(c.1,c.2.1,oj,c.2.2.2.1,c.2.2.2.2.1,c.2.2.2.2.2),((((av.trans an).trans b8).trans o5).trans oh),e9,rfl,(((((((Ff om.at4.at5.at3.at8.at8.at8.at6.at6.at6.at6.at6.at6.at6).at1.tail).at2.tail).at3).at3).at2).at3)⟩
 ·rintro _ z98 w5 _ ⟨on,oo,op,oq,rfl,rfl,f9⟩ os ot;subst ot;refine AA (x:=g_0.2.2.2.2.1) f9.at3 rfl<|As (dF bj os)<|AO (AR (z98.1,z98.2.1,z98.2.2.1,()) rfl ⟨_,rfl,_,on,oo,op,oq,rfl,rfl,f9.at3.at3.at3.at3⟩)
 rintro z97 w6 ⟨_,rfl,_,w7,w8,ba,fa,_,rfl,ou⟩;try dsimp only at hd
 obtain ⟨ov,c1,bh,c2,c3,c4,c5,fb,cq⟩:=Dk ou.at1;obtain rfl:r19=ov:=by simpa using fb
 clear fb;refine AA (x:=bh) cq.at6 rfl<|AA (x:=g_0.2.2.2.1) cq.at9 rfl ?_;obtain ⟨w9,ow,hd⟩:=bS hd;refine AM (BJ cq.at4 ow) ?_;rintro _ wa ⟨b3,t171,fc,rfl,rfl,aq⟩;refine ⟨t171,rfl,?_⟩;refine AG hd rfl (fun _ hd=> ?_) (fun _ hd=> ?_)
 ·refine AA (x:=g_0.2.2.2.1) aq.at9 rfl ?_;obtain ⟨ox,wb,wc,wd,we,wf,wg,fd,oy⟩:=Dk aq.at7;obtain rfl:r2=ox:=by simpa using fd
  clear fd;refine AI oy.at6 rfl rfl fun wh oz=>AI oz rfl rfl fun wi p0=>AI p0 rfl rfl fun wj p1=>AI p1 rfl rfl fun wk p2=>AI p2 rfl rfl fun wl p3=>AI p3 rfl rfl fun wm ax=>AS (cH (b:=r1) (j:=3) ax.at15 rfl)<|AA (x:=((none,0,0):Slc)) ax rfl<|AA (x:=((none,0,0):Slc)) ax rfl<|AA (x:=((none,0,0):Slc)) ax rfl<|AA (x:=((none,0,0):Slc)) ax rfl<|AA (x:=((none,0,0):Slc)) ax rfl<|AA (x:=((none,0,0):Slc)) ax rfl ?_;obtain rfl:=iS hd;exact AB ⟨b3,((((none,0,0):Slc),((none,0,0):Slc),((none,0,0):Slc),((none,0,0):Slc),((none,0,0):Slc),((none,0,0):Slc),()),(16:Int),g_0.2.2.2.1,()),[],[],[],[],[],[],(((((((p.trans u).trans a9).trans aj).trans ak).trans al).trans fa).trans fc),rfl,rfl,(bW bR b3),(bW bR b3),(bW A5 b3),(bW (bV .i64) b3),(bW (bV .i64) b3),(bW bR b3),ax.tail.tail.tail.tail.tail.tail.tail.tail.tail.tail.tail.tail.tail.tail.tail.tail⟩
 refine AA (x:=c1) aq.at6 rfl<|AA (x:=bh) aq.at6 rfl<|AA (x:=c2) aq.at6 rfl<|AA (x:=c3) aq.at6 rfl<|AA (x:=c4) aq.at6 rfl<|AA (x:=c5) aq.at6 rfl ?_;obtain ⟨p4,wn,wo,wp,wq,wr,ws,fe,p5⟩:=Dk aq.at7;obtain rfl:r2=p4:=by simpa using fe
 clear fe;refine AI p5.at6 rfl rfl fun wt p6=>AI p6 rfl rfl fun wu p7=>AI p7 rfl rfl fun wv p8=>AI p8 rfl rfl fun ww p9=>AI p9 rfl rfl fun wx pa=>AI pa rfl rfl fun wy b4=>AA (x:=c1) b4 rfl<|AA (x:=bh) b4 rfl<|AA (x:=c2) b4 rfl<|AA (x:=c3) b4 rfl<|AA (x:=c4) b4 rfl<|AA (x:=c5) b4 rfl ?_;obtain ⟨wz,pb,pc,pd⟩:=cB (t:=c1) b4.at12;obtain ⟨x0,ff,pe,pf⟩:=cB (t:=bh) pd.at7;obtain ⟨x1,cr,pg,ph⟩:=cB (t:=c2) pf.at10;obtain ⟨x2,c6,pi,pj⟩:=cB (t:=c3) ph.at9;obtain ⟨x3,bi,pk,pl⟩:=cB (t:=c4) pj.at8;obtain ⟨pm,bb,pn,po⟩:=cB (t:=c5) pl.at7;obtain rfl:=iS hd;exact AB ⟨pm,((c1,bh,c2,c3,c4,c5,()),(0:Int),{data:=#[]},()),ba.1,ba.2.1,ba.2.2.1,ba.2.2.2.1,ba.2.2.2.2.1,ba.2.2.2.2.2,(((((((((((((p.trans u).trans a9).trans aj).trans ak).trans al).trans fa).trans fc).trans pb).trans ff).trans cr).trans c6).trans bi).trans bb),rfl,rfl,(pc.mono ((((ff.trans cr).trans c6).trans bi).trans bb)),(pe.mono (((cr.trans c6).trans bi).trans bb)),(pg.mono ((c6.trans bi).trans bb)),(pi.mono (bi.trans bb)),(pk.mono bb),pn,po.tail.tail.tail.tail.tail.tail.tail.tail.tail.tail⟩
noncomputable def A2 (s_0:Ib):Option (List ByteArray×List ByteArray×List A0×List Int×List Int×List ByteArray):=(A6 (s_0.1,s_0.2.1,s_0.2.2.1,s_0.2.2.2.1,s_0.2.2.2.2.1,s_0.2.2.2.2.2.1,s_0.2.2.2.2.2.2)).bind fun t10=>(B9 (t10.1,t10.2.1,t10.2.2.1,t10.2.2.2.1,t10.2.2.2.2)).bind fun t11=>some (t11.1,t11.2.1,t11.2.2.1,t11.2.2.2.1,t11.2.2.2.2.1,t11.2.2.2.2.2.1)
theorem CS {s_0:Int×Int×Slc×Slc×Slc×Slc×Slc×Unit}{d:List Int}{e:List (List Int)}{f:List Int}{g:List Int}{i:List Int}(p:Ro.SliceIs (bV .u8) φ s_0.2.2.1 d) (q:Ro.SliceIs (cF (bV .u8)) φ s_0.2.2.2.1 e) (s:Ro.SliceIs (bV .u8) φ s_0.2.2.2.2.1 f) (t:Ro.SliceIs (bV .u8) φ s_0.2.2.2.2.2.1 g) (u:Ro.SliceIs (bV .u8) φ s_0.2.2.2.2.2.2.1 i) (s0:St φ (F) h) {r:(List ByteArray×List ByteArray×List A0×List Int×List Int×List ByteArray)}(hd:A2 (s_0.1,s_0.2.1,d,e,f,g,i)=some r):
 CallsH cN 6 [(.agg #[(.int .u8 s_0.1),(.int .u8 s_0.2.1),(sv s_0.2.2.1),(sv s_0.2.2.2.1),(sv s_0.2.2.2.2.1),(sv s_0.2.2.2.2.2.1),(sv s_0.2.2.2.2.2.2.1)])] h (BL fun v h'=>∃ψ:AF,∃y:Pl6,∃j:List ByteArray,∃k:List ByteArray,∃l:List A0,∃m:List Int,∃n:List Int,∃o:List ByteArray,Sub φ ψ∧v=((.one (.agg [.slice,.slice,.slice,.slice,.slice,.slice])):Sh).val y∧(j,k,l,m,n,o)=r∧Ro.SliceIs bR ψ y.1 j∧Ro.SliceIs bR ψ y.2.1 k∧Ro.SliceIs A5 ψ y.2.2.1 l∧Ro.SliceIs (bV .i64) ψ y.2.2.2.1 m∧Ro.SliceIs (bV .i64) ψ y.2.2.2.2.1 n∧Ro.SliceIs bR ψ y.2.2.2.2.2.1 o∧St ψ (F) h'):=by
 refine AV mixed Tryz.func6 ?_;rw [EU];unfold Co;unfold A2 at hd;refine AZ (vs:=[.int .u8 s_0.1,.int .u8 s_0.2.1,sv s_0.2.2.1,sv s_0.2.2.2.1,sv s_0.2.2.2.2.1,sv s_0.2.2.2.2.2.1,sv s_0.2.2.2.2.2.2.1]) s0 fun r1 az w=>AZ (vs:=[.slice none 0 0,.slice none 0 0,.slice none 0 0,.slice none 0 0,.slice none 0 0,.slice none 0 0]) w fun r2 b0 a=>AA (x:=s_0.1) a.at1 rfl<|AA (x:=s_0.2.1) a.at1 rfl<|AA (x:=s_0.2.2.1) a.at1 rfl<|AA (x:=s_0.2.2.2.1) a.at1 rfl<|AA (x:=s_0.2.2.2.2.1) a.at1 rfl<|AA (x:=s_0.2.2.2.2.2.1) a.at1 rfl<|AA (x:=s_0.2.2.2.2.2.2.1) a.at1 rfl ?_;obtain ⟨b1,z,hd⟩:=bS hd;refine AM (Dm (s_0:=(s_0.1,s_0.2.1,s_0.2.2.1,s_0.2.2.2.1,s_0.2.2.2.2.1,s_0.2.2.2.2.2.1,s_0.2.2.2.2.2.2.1,())) p q s t u a z) ?_;rintro _ b2 ⟨b3,t10,b4,b5,b6,b7,a0,rfl,rfl,a1,a2,a3,a4,a5⟩;refine ⟨t10,rfl,?_⟩;try dsimp only at hd
 obtain ⟨b8,a6,hd⟩:=bS hd;refine AM (G3 (g_0:=(t10.1,t10.2.1,t10.2.2.1,t10.2.2.2.1,t10.2.2.2.2.1,())) a1 a2 a3 a4 a5 a6) ?_;rintro _ b9 ⟨a7,t11,a8,a9,aa,ab,ac,ad,ae,rfl,rfl,af,ag,ah,ai,aj,ak,al⟩;refine ⟨t11,rfl,?_⟩;try dsimp only at hd
 refine AZ (vs:=[.slice none 0 0,.slice none 0 0,.slice none 0 0,.slice none 0 0,.slice none 0 0,.slice none 0 0]) al fun r12 ba am=>AI am rfl rfl fun bb an=>AI an rfl rfl fun bc ao=>AI ao rfl rfl fun bd ap=>AI ap rfl rfl fun be aq=>AI aq rfl rfl fun bf ar=>AI ar rfl rfl fun bg b=>AA (x:=t11.1.1) b rfl<|AA (x:=t11.1.2.1) b rfl<|AA (x:=t11.1.2.2.1) b rfl<|AA (x:=t11.1.2.2.2.1) b rfl<|AA (x:=t11.1.2.2.2.2.1) b rfl<|AA (x:=t11.1.2.2.2.2.2.1) b rfl<|AI b.at1 rfl rfl fun bh au=>AI au rfl rfl fun bi av=>AI av rfl rfl fun bj aw=>AI aw rfl rfl fun bk ax=>AI ax rfl rfl fun bl ay=>AI ay rfl rfl fun bm c=>AA (x:=t11.1.1) c rfl<|AA (x:=t11.1.2.1) c rfl<|AA (x:=t11.1.2.2.1) c rfl<|AA (x:=t11.1.2.2.2.1) c rfl<|AA (x:=t11.1.2.2.2.2.1) c rfl<|AA (x:=t11.1.2.2.2.2.2.1) c rfl ?_;obtain rfl:=iS hd;exact AB ⟨a7,(t11.1.1,t11.1.2.1,t11.1.2.2.1,t11.1.2.2.2.1,t11.1.2.2.2.2.1,t11.1.2.2.2.2.2.1,()),a8,a9,aa,ab,ac,ad,(a0.trans ae),rfl,rfl,af,ag,ah,ai,aj,ak,c.tail.tail.tail⟩
end
end Go.Proofs.YteoafgapjneblaaGreatDoor
namespace Go.Eng
open Go
theorem Gw {α:Type}(l:List α) (k:Nat):idx l (k:Int)=l[k]? :=by
 unfold idx;rw [if_pos (by omega),dQ]
theorem Er {α:Type}{l m:List α}(h:l.length+m.length≤1099512676352):app l m=some (l++m):=by unfold app;rw [if_pos h]
theorem N1 {α:Type}{l:List α}{i:Int}{x:α}(h0:0≤i) (h1:i< (l.length:Int)):GO l i x=some (l.set i.toNat x):=by unfold GO;rw [if_pos ⟨h0,h1⟩]
theorem LF {σ:Type}{f:Int→σ→Option σ}(I:Int→σ→Prop):∀(n:Nat) (i:Int) (s:σ),I i s→(∀j s,i≤j→j<i+n→I j s→ ∃s',f j s=some s'∧I (j+1) s')→ ∃s',HG f n i s=some s'∧I (i+n) s':=by
 intro n
 induction n with
 |zero=>intro i s hI _;exact ⟨s,rfl,by simpa using hI⟩
 |succ n ih=>
  intro i s hI hs;obtain ⟨s',h1,h2⟩:=hs i s (dV _) (by omega) hI;obtain ⟨s'',h3,h4⟩:=ih (i+1) s' h2 fun j s hj hj'=>hs j s (by omega) (by omega);refine ⟨s'',by simp only [HG];rw [h1];exact h3,?_⟩;rw [show i+(n+1:Nat)=i+1+n by omega];exact h4
theorem M5 {σ:Type}{f:Int→σ→Option σ}{n:Nat}(I:Nat→σ→Prop) (hn:n≤9223372036854775807) {s:σ}(h0:I 0 s) (hs:∀k s,k<n→I k s→ ∃s',f (k:Int) s=some s'∧I (k+1) s'):∃s',Fe 0 (n:Int) s f=some s'∧I n s':=by
 unfold Fe;rw [if_pos ⟨by omega,by omega⟩];obtain ⟨s',h1,h2⟩:=LF (f:=f) (fun i s=>I i.toNat s) ((n:Int) - 0).toNat 0 s (by simpa using h0) fun j s hj hj' hI=>by
  obtain ⟨s',h1,h2⟩:=hs j.toNat s (by omega) hI;refine ⟨s',by rw [←h1,show (j.toNat:Int)=j by omega],by rw [show (j+1).toNat=j.toNat+1 by omega];exact h2⟩
 refine ⟨s',h1,?_⟩;have e:((0:Int)+(((n:Int) - 0).toNat:Nat)).toNat=n:=by omega
 rw [e]at h2;exact h2
theorem MM {σ β:Type}{f:Int→σ→Option (AT σ β)}(I:Int→σ→Prop) (B:β→Prop):∀(n:Nat) (i:Int) (s:σ),I i s→(∀j s,i≤j→j<i+n→I j s→(∃s',f j s=some (.next s')∧I (j+1) s')∨ ∃b,f j s=some (.done b)∧B b)→
 (∃s',Fz f n i s=some (.next s')∧I (i+n) s')∨ ∃b,Fz f n i s=some (.done b)∧B b:=by
 intro n
 induction n with
 |zero=>intro i s hI _;exact .inl ⟨s,rfl,by simpa using hI⟩
 |succ n ih=>
  intro i s hI hs;rcases hs i s (dV _) (by omega) hI with ⟨s',h1,h2⟩|⟨b,h1,h2⟩
  ·rcases ih (i+1) s' h2 fun j s hj hj'=>hs j s (by omega) (by omega) with ⟨s'',h3,h4⟩|⟨b,h3,h4⟩
   ·left
    refine ⟨s'',by simp only [Fz];rw [h1];exact h3,?_⟩;rw [show i+(n+1:Nat)=i+1+n by omega];exact h4
   ·exact .inr ⟨b,by simp only [Fz];rw [h1];exact h3,h4⟩
  ·exact .inr ⟨b,by simp only [Fz];rw [h1];rfl,h2⟩
theorem KP {σ β:Type}{f:Int→σ→Option (AT σ β)}{n:Nat}(I:Nat→σ→Prop) (B:β→Prop) (hn:n≤9223372036854775807) {s:σ}(h0:I 0 s)
 (hs:∀k s,k<n→I k s→(∃s',f (k:Int) s=some (.next s')∧I (k+1) s')∨ ∃b,f (k:Int) s=some (.done b)∧B b):
 (∃s',CV 0 (n:Int) s f=some (.next s')∧I n s')∨ ∃b,CV 0 (n:Int) s f=some (.done b)∧B b:=by
 unfold CV;rw [if_pos ⟨by omega,by omega⟩];rcases MM (fun i s=>I i.toNat s) B ((n:Int) - 0).toNat 0 s (by simpa using h0) (fun j s hj hj' hI=>by
  have e:(j.toNat:Int)=j:=by omega
  rcases hs j.toNat s (by omega) hI with ⟨s',h1,h2⟩|⟨b,h1,h2⟩
  ·exact .inl ⟨s',by rw [←h1,e],by rw [show (j+1).toNat=j.toNat+1 by omega];exact h2⟩
  ·exact .inr ⟨b,by rw [←h1,e],h2⟩) with ⟨s',h1,h2⟩|h
 ·left
  refine ⟨s',h1,?_⟩;have e:((0:Int)+(((n:Int) - 0).toNat:Nat)).toNat=n:=by omega
  rw [e]at h2;exact h2
 ·exact .inr h
theorem M7 {σ β:Type}{f:Int→σ→Option (AT σ β)}{n:Nat}(I:Nat→σ→Prop) (hn:n≤9223372036854775807) {s:σ}(h0:I 0 s)
 (hs:∀k s,k<n→I k s→ ∃s',f (k:Int) s=some (.next s')∧I (k+1) s'):∃s',CV 0 (n:Int) s f=some (.next s')∧I n s':=by
 rcases KP I (fun _=>False) hn h0 (fun k s hk hI=>.inl (hs k s hk hI)) with h | ⟨_,_,h⟩
 ·exact h
 ·exact h.elim
theorem M8 {σ β:Type}{f:σ→Option (AT σ β)}(I:σ→Prop) (μ:σ→Nat) (B:β→Prop) (hs:∀s,I s→(∃s',f s=some (.next s')∧I s'∧μ s'<μ s)∨ ∃b,f s=some (.done b)∧B b):∀ {s:σ},I s→ ∃b,loop s f=some b∧B b:=by
 intro s
 generalize hm:μ s=m
 induction m using eD generalizing s with
 |ind m ih=>
  intro hI;rw [Ji];rcases hs s hI with ⟨s',h1,h2,h3⟩|⟨b,h1,h2⟩
  ·rw [h1];exact ih (μ s') (by omega) rfl h2
  ·rw [h1];exact ⟨b,rfl,h2⟩
def Ok {α:Type}(o:Option α) (P:α→Prop):Prop:= ∃x,o=some x∧P x
section
variable {α β γ σ:Type}{P:γ→Prop}{k:α→Option γ}
theorem Ok.eq {o:Option α}{x:α}(h:Ok o (· =x)):o=some x:=by obtain ⟨y,h1,h2⟩:=h;rw [h1];exact congrArg some h2
theorem Ok.of {o:Option α}{x:α}{Q:α→Prop}(h:o=some x) (hq:Q x):Ok o Q:=⟨x,h,hq⟩
theorem Ok.mono {o:Option α}{Q R:α→Prop}(h:Ok o Q) (hq:∀x,Q x→R x):Ok o R:=by obtain ⟨x,h1,h2⟩:=h;exact ⟨x,h1,hq x h2⟩
theorem AC {x:γ}(h:P x):Ok (some x) P:=⟨x,rfl,h⟩
theorem AL {o:Option α}{Q:α→Prop}(h:Ok o Q) (hk:∀x,Q x→Ok (k x) P):Ok (o.bind k) P:=by
 obtain ⟨x,h1,h2⟩:=h;rw [h1];exact hk x h2
theorem AK {o:Option α}{x:α}(h:o=some x) (hk:Ok (k x) P):Ok (o.bind k) P:=by rw [h];exact hk
theorem Bz {p:Prop}{d:Decidable p}{o:Option γ}(h:p) (hk:Ok o P):Ok (@need γ p d o) P:=by
 have: @need γ p d o=o:=by unfold need;exact if_pos h
 rw [this];exact hk
theorem A4 {c:Bool}{x y:Option γ}(h:c=true) (hk:Ok x P):Ok (cond c x y) P:=by subst h;exact hk
theorem AU {c:Bool}{x y:Option γ}(h:c=false) (hk:Ok y P):Ok (cond c x y) P:=by subst h;exact hk
theorem AX {c:Bool}{x y:Option γ}(h1:c=true→Ok x P) (h2:c=false→Ok y P):Ok (cond c x y) P:=by
 cases c with
 |true=>exact h1 rfl
 |false=>exact h2 rfl
theorem Dn {l:List α}{i:Int}{x:α}(h0:0≤i) (h:l[i.toNat]? =some x) (hk:Ok (k x) P):Ok ((idx l i).bind k) P:=by
 unfold idx;rw [if_pos h0,h];exact hk
theorem AY {l:List α}{i:Nat}{x:α}(h:l[i]? =some x) (hk:Ok (k x) P):Ok ((idx l (i:Int)).bind k) P:=by
 rw [Gw,h];exact hk
theorem BW {l m:List α}{k:List α→Option γ}(h:l.length+m.length≤1099512676352) (hk:Ok (k (l++m)) P):Ok ((app l m).bind k) P:=by
 rw [Er h];exact hk
theorem Hn {l:List α}{i:Int}{x:α}{k:List α→Option γ}(h0:0≤i) (h1:i< (l.length:Int)) (hk:Ok (k (l.set i.toNat x)) P):Ok ((GO l i x).bind k) P:=by
 rw [N1 h0 h1];exact hk
theorem Cn {f:Int→σ→Option σ}{n:Nat}{s:σ}{k:σ→Option γ}(I:Nat→σ→Prop) (hn:n≤9223372036854775807) (h0:I 0 s) (hs:∀j s,j<n→I j s→Ok (f (j:Int) s) (I (j+1))) (hk:∀s',I n s'→Ok (k s') P):
 Ok ((Fe 0 (n:Int) s f).bind k) P:=by
 obtain ⟨s',h1,h2⟩:=M5 I hn h0 hs;rw [h1];exact hk s' h2
theorem DX {f:Int→σ→Option (AT σ β)}{n:Nat}{s:σ}{k:AT σ β→Option γ}(I:Nat→σ→Prop) (hn:n≤9223372036854775807) (h0:I 0 s) (hs:∀j s,j<n→I j s→Ok (f (j:Int) s) (fun e=>∃s',e= .next s'∧I (j+1) s')) (hk:∀s',I n s'→Ok (k (.next s')) P):
 Ok ((CV 0 (n:Int) s f).bind k) P:=by
 obtain ⟨s',h1,h2⟩:=M7 I hn h0 (fun j s hj hI=>by
  obtain ⟨e,h1,s',rfl,h2⟩:=hs j s hj hI;exact ⟨s',h1,h2⟩)
 rw [h1];exact hk s' h2
theorem Gm {f:Int→σ→Option (AT σ β)}{n:Nat}{s:σ}{k:AT σ β→Option γ}(I:Nat→σ→Prop) (B:β→Prop) (hn:n≤9223372036854775807) (h0:I 0 s) (hs:∀j s,j<n→I j s→Ok (f (j:Int) s) (fun e=>(∃s',e= .next s'∧I (j+1) s')∨ ∃b,e= .done b∧B b))
 (hk:∀s',I n s'→Ok (k (.next s')) P) (hb:∀b,B b→Ok (k (.done b)) P):
 Ok ((CV 0 (n:Int) s f).bind k) P:=by
 rcases KP I B hn h0 (fun j s hj hI=>by
  obtain ⟨e,h1,h2⟩:=hs j s hj hI;rcases h2 with ⟨s',rfl,h2⟩|⟨b,rfl,h2⟩
  ·exact .inl ⟨s',h1,h2⟩
  ·exact .inr ⟨b,h1,h2⟩) with ⟨s',h1,h2⟩|⟨b,h1,h2⟩
 ·rw [h1];exact hk s' h2
 ·rw [h1];exact hb b h2
theorem CG {f:σ→Option (AT σ β)}{s:σ}{k:β→Option γ}(I:σ→Prop) (μ:σ→Nat) (B:β→Prop) (h0:I s) (hs:∀s,I s→Ok (f s) (fun e=>(∃s',e= .next s'∧I s'∧μ s'<μ s)∨ ∃b,e= .done b∧B b)) (hk:∀b,B b→Ok (k b) P):
 Ok ((loop s f).bind k) P:=by
 obtain ⟨b,h1,h2⟩:=M8 I μ B (fun s hI=>by
  obtain ⟨e,h1,h2⟩:=hs s hI;rcases h2 with ⟨s',rfl,h2⟩|⟨b,rfl,h2⟩
  ·exact .inl ⟨s',h1,h2⟩
  ·exact .inr ⟨b,h1,h2⟩) h0
 rw [h1];exact hk b h2
theorem Ds {s:σ}{Q:σ→Prop}(h:Q s):Ok (some (cE s:AT σ β)) (fun e=>∃s',e= .next s'∧Q s'):=⟨_,rfl,s,rfl,h⟩
theorem Bi {s:σ}{Q:σ→Prop}{B:β→Prop}(h:Q s):Ok (some (cE s:AT σ β)) (fun e=>(∃s',e= .next s'∧Q s')∨ ∃b,e= .done b∧B b):=⟨_,rfl,.inl ⟨s,rfl,h⟩⟩
theorem A7 {b:β}{Q:σ→Prop}{B:β→Prop}(h:B b):Ok (some (cD b:AT σ β)) (fun e=>(∃s',e= .next s'∧Q s')∨ ∃b,e= .done b∧B b):=⟨_,rfl,.inr ⟨b,rfl,h⟩⟩
end
theorem Ho {α β γ:Type}{P:γ→Prop}{f:Int→Unit→Option (AT Unit β)}{k:AT Unit β→Option γ}(l:List α) (q:Nat→α→Bool) (d:Nat→α→β) (hl:l.length≤9223372036854775807)
 (hf:∀(j:Nat) x,l[j]? =some x→f (j:Int) ()=some (if q j x then .done (d j x) else .next ()))
 (h1:(∀(j:Nat) x,l[j]? =some x→q j x=false)→Ok (k (.next ())) P) (h2:∀(j:Nat) x,l[j]? =some x→q j x=true→(∀(i:Nat) y,i<j→l[i]? =some y→q i y=false)→Ok (k (.done (d j x))) P):
 Ok ((CV (0:Int) (l.length:Int) () f).bind k) P:=by
 refine Gm (fun i _=>∀(j:Nat) y,j<i→l[j]? =some y→q j y=false) (fun b=>∃(j:Nat) (x:α),l[j]? =some x∧q j x=true∧(∀(i:Nat) y,i<j→l[i]? =some y→q i y=false)∧b=d j x) hl (fun j y h=>by omega) (fun i _ hi hI=> ?_) (fun _ h=>h1 fun j x hx=>h j x (List.getElem?_eq_some_iff.1 hx).1 hx) (fun b ⟨j,x,g1,g2,g3,g4⟩=>by rw [g4];exact h2 j x g1 g2 g3);have hx:=bN hi;rw [hf i _ hx];cases hq:q i l[i]with
 |true=>exact ⟨_,rfl,.inr ⟨_,rfl,i,_,hx,hq,hI,rfl⟩⟩
 |false=>
  refine ⟨_,rfl,.inl ⟨(),rfl,fun j y hj hy=> ?_⟩⟩;rcases Nat.lt_succ_iff_lt_or_eq.1 hj with h | rfl
  ·exact hI j y h hy
  ·rw [hx]at hy;cases hy;exact hq
end Go.Eng
namespace Go.Proofs.YteoafgapjneblaaGreatDoor
open Go Go.Eng
set_option linter.unusedVariables false
set_option maxRecDepth 100000
theorem IK (b:ByteArray):b.toList=b.data.toList:=by
 have hsz:b.size=b.data.toList.length:=by rw [Array.length_toList];rfl
 have key:∀(n i:Nat) (r:List UInt8),b.size - i=n→ByteArray.toList.loop b i r=r.reverse++b.data.toList.drop i:=by
  intro n
  induction n with
  |zero=>
   intro i r h;rw [ByteArray.toList.loop.eq_1,if_neg (by omega),List.drop_eq_nil_of_le (by omega),eF]
  |succ n ih=>
   intro i r h;have hi:i<b.size:=by omega
   rw [ByteArray.toList.loop.eq_1,if_pos hi,ih (i+1) _ (by omega)];have hi':i<b.data.toList.length:=by omega
   rw [List.drop_eq_getElem_cons hi',List.reverse_cons,cT]
   have:b.get! i=b.data.toList[i]:=by
    cases b with
    |mk a=>
     show a[i]! =_;rw [getElem!_pos a i (by simpa using hi')];rw [Array.getElem_toList]
   rw [this];rfl
 unfold cQ;rw [key _ 0 [] rfl];rfl
theorem Ch (a b:ByteArray):(a.toList==b.toList)=decide (a=b):=by
 rw [IK,IK];by_cases h:a=b
 ·subst h;simp
 ·rw [decide_eq_false h];refine beq_eq_false_iff_ne.2 fun e=>h ?_;cases a;cases b;simp only [ByteArray.mk.injEq];exact Array.toList_inj.1 e
theorem Es {l:List ByteArray}{s:ByteArray}(hl:l.length≤9223372036854775807):Ok (Ag l s) fun k=>(k= -1∧s∉l)∨ ∃j:Nat,k=j∧l[j]? =some s:=by
 unfold Ag;refine Ho l (fun _ x=>decide (x=s)) (fun k _=>k) hl (fun k x hx=> ?_) (fun h=> ?_) fun j x hx hq _=> ?_
 ·rw [Gw,hx,cJ,Ch];cases decide (x=s) <;>rfl
 ·refine AC (.inl ⟨rfl,fun hm=> ?_⟩);obtain ⟨j,hj⟩:=dA hm
  have:=h j s hj
  simp at this
 ·refine AC (.inr ⟨j,rfl,?_⟩);rw [hx,of_decide_eq_true hq]
def nm (c i:Nat):ByteArray:=⟨#[dC (c+i)]⟩
theorem HO {c i d j:Nat}(h1:c+i<256) (h2:d+j<256) (h:nm c i=nm d j):c+i=d+j:=by
 unfold nm at h;simp only [ByteArray.mk.injEq,Array.mk.injEq,List.cons.injEq,and_true]at h
 have:=congrArg eY h
 simp at this;omega
theorem Og {i:Nat}(h:i<5):bP {data:=#[97,98,99,100,101]} i (i+1)=nm 97 i:=by
 match i,h with
 | 0,_ | 1,_ | 2,_ | 3,_ | 4,_=>decide
theorem Oh {i:Nat}(h:i<5):bP {data:=#[112,113,114,115,116]} i (i+1)=nm 112 i:=by
 match i,h with
 | 0,_ | 1,_ | 2,_ | 3,_ | 4,_=>decide
theorem Oi {i:Nat}(h:i<4):bP {data:=#[83,84,85,86]} i (i+1)=nm 83 i:=by
 match i,h with
 | 0,_ | 1,_ | 2,_ | 3,_=>decide
inductive Nm:ByteArray→Prop
 |tok {i:Nat} :i<5→Nm (nm 97 i)
 |lev {i:Nat} :i<5→Nm (nm 112 i)
 |var {i:Nat} :i<4→Nm (nm 83 i)
theorem Lh {c i:Nat}(h:(65≤c+i∧c+i≤90)∨(97≤c+i∧c+i≤122)):Au (nm c i)=some true:=by
 generalize e:c+i=n at h
 have:nm c i=⟨#[dC n]⟩:=by unfold nm;rw [e]
 rw [this];have all:∀m:Fin 123,((65≤m.1∧m.1≤90)∨(97≤m.1∧m.1≤122))→(Bf ((eY (dC m.1):Nat):Int))=some true:=by
  have:∀m:Fin 123,((65≤m.1∧m.1≤90)∨(97≤m.1∧m.1≤122))→(match Bf ((eY (dC m.1):Nat):Int) with | some true=>true | _=>false)=true:=by
   decide+kernel
  intro m hm
  have:=this m hm
  split at this
  ·assumption
  ·cases this
 have hl:=all ⟨n,by omega⟩ h;refine Ok.eq ?_;unfold Au CF;have hs:cZ {data:=#[dC n]} =1:=rfl;rw [hs];refine AL (Q:=fun x=>x=true) (A4 rfl (AL (Q:=fun x=>x=true) ?_ fun _ h=>AC h)) fun _ h=>AC h;refine DX (fun _ _=>True) (by omega) trivial (fun j s hj _=> ?_) fun s _=> ?_
 ·obtain rfl:j=0:=by omega
  refine AL (Q:=fun x=>x=false) (Bz (by omega) (AK hl (AU rfl (AC rfl)))) fun _ h=> ?_;subst h;exact Ds trivial
 ·rw [Ch,decide_eq_false (fun h=>by simp at h)];exact AC rfl
theorem Nm.name {s:ByteArray}(h:Nm s):Au s=some true:=by
 cases h with
 |tok h | lev h | var h=>exact Lh (by omega)
theorem Nm.ne {s:ByteArray}(h:Nm s):s≠⟨#[]⟩:=by
 cases h with
 |tok h | lev h | var h=>intro e;unfold nm at e;simp at e
theorem Nm.size {s:ByteArray}(h:Nm s):s.size=1:=by
 cases h with
 |tok h | lev h | var h=>rfl
theorem LG:(cQ {data:=#[]} ==cQ {data:=#[]})=true:=by rw [Ch];rfl
theorem Hp:Bh {data:=#[]} =some true:=by rfl
theorem Jr {s:ByteArray}(h:Nm s):BM (s,{data:=#[]},false)=some true:=by
 unfold BM;dsimp only;have e:=h.size;rw [LG,Ch,decide_eq_false h.ne,e];rfl
theorem Li {l:List ByteArray}(hl:l.length≤9223372036854775807) (h:∀x∈l,Nm x) (hn:l.Nodup):BA l=some true:=by
 refine Ok.eq ?_;unfold BA;refine DX (fun _ _=>True) hl trivial (fun k s hk _=> ?_) fun _ _=>AC rfl;have hk':=bN hk;refine AY hk' (AK (h _ (bY hk)).name ?_);refine AU rfl<|DX (fun _ _=>True) (by omega) trivial (fun j s hj _=> ?_) fun _ _=>Ds trivial;have hj':=bN (show j<l.length by omega);refine AY hj' (AY hk' ?_);rw [Ch,decide_eq_false (List.pairwise_iff_getElem.1 (List.nodup_iff_pairwise_ne.1 hn) j k (by omega) hk hj)];exact Ds trivial
theorem wr {x:Int}(h: -1000000≤x∧x≤1000000):bM .i64 x=x:=w64 (by omega) (by omega)
theorem tm {x n:Int}(h:0≤x):bO x n=x % n:=Int.tmod_eq_emod_of_nonneg h
theorem M9 {i:Int}(h0:0≤i) (h1:i<5):bP {data:=#[112,113,114,115,116]} (bQ i) (bQ (i+1))=nm 112 i.toNat:=by
 rw [show bQ (i+1)=i.toNat+1 by omega,Oh (by omega)]
theorem NA {i:Int}(h0:0≤i) (h1:i<5):bP {data:=#[97,98,99,100,101]} (bQ i) (bQ (i+1))=nm 97 i.toNat:=by
 rw [show bQ (i+1)=i.toNat+1 by omega,Og (by omega)]
theorem LH {i:Int}(h0:0≤i) (h1:i<4):bP {data:=#[83,84,85,86]} (bQ i) (bQ (i+1))=nm 83 i.toNat:=by
 rw [show bQ (i+1)=i.toNat+1 by omega,Oi (by omega)]
def Do (L:List DP):List ByteArray:=L.flatMap (·.2)
structure Lv (nl nk:Nat) (L:List DP):Prop where
 len:L.length=nl
 each:∀(j:Nat) x,L[j]? =some x→1≤x.1∧x.1≤3∧nm 112 j∈x.2
 names:∀x∈Do L,(∃i,i<nl∧x=nm 112 i)∨ ∃i,i<nk∧x=nm 97 i
 once:(Do L).Nodup
 room:(Do L).length≤nl+nk
def Tk (n:Nat) (l:List HH):Prop:=l.length=n∧ ∀j,j<n→l[j]? =some (nm 97 j,nm 97 j,{data:=#[]},false)
structure Ru1 (nt nv nl:Nat) (r:Dw):Prop where
 left:∃i,i<nv∧r.1=nm 83 i
 few:r.2.1.length≤8
 right:∀x∈r.2.1,(∃i,i<nt∧x=nm 97 i)∨ ∃i,i<nv∧x=nm 83 i
 prec:r.2.2.1= {data:=#[]} ∨ ∃i,i<nl∧r.2.2.1=nm 112 i
 act:r.2.2.2= {data:=#[]}
theorem Lv.snoc {k:Nat}{L:List DP}{a:Int}(H:Lv k 0 L) (ha:1≤a∧a≤3) (hk:k<5):Lv (k+1) 0 (L++ [(a,[nm 112 k])]):=by
 have e:Do (L++ [(a,[nm 112 k])])=Do L++ [nm 112 k]:=by unfold Do;rw [dY];rfl
 refine ⟨by simp [H.len],fun j x hj=> ?_,fun x hx=> ?_,?_,?_⟩
 ·rcases dR j L.length with g | g
  ·rw [bX g]at hj;exact H.each j x hj
  ·rw [cV g]at hj
   have:j - L.length=0:=by
    rcases eK (j - L.length) with q | q
    ·exact q
    ·rw [dJ (by simp;omega)]at hj;cases hj
   rw [this]at hj;simp at hj;subst hj
   have:j=k:=by have:=H.len;omega
   subst this;exact ⟨ha.1,ha.2,by simp⟩
 ·rw [e]at hx;rcases List.mem_append.1 hx with h | h
  ·rcases H.names x h with ⟨i,h1,h2⟩|⟨i,h1,h2⟩
   ·exact .inl ⟨i,by omega,h2⟩
   ·omega
  ·exact .inl ⟨k,by omega,by simpa using h⟩
 ·rw [e];refine List.nodup_append.2 ⟨H.once,by simp,fun x hx y hy hxy=> ?_⟩;have hy:y=nm 112 k:=by simpa using hy
  subst hy;rcases H.names x hx with ⟨i,h1,h2⟩|⟨i,h1,h2⟩
  ·rw [h2]at hxy
   have:=HO (by omega) (by omega) hxy
   omega
  ·omega
 ·rw [e,cG]
  have:=H.room
  simp;omega
theorem NB {L:List DP}{q:Nat}{a:Int}{ns:List ByteArray}{y:ByteArray}(h:L[q]? =some (a,ns)):(Do (L.set q (a,ns++ [y]))).Perm (y::Do L):=by
 induction L generalizing q with
 |nil=>simp at h
 |cons x L ih=>
  cases q with
  |zero=>
   simp at h;subst h;show (ns++ [y] ++Do L).Perm (y::(ns++Do L));rw [cT];exact eV
  |succ q=>
   have:=ih (q:=q) (by simpa using h)
   show (x.2++Do (L.set q (a,ns++ [y]))).Perm (y::(x.2++Do L));exact (this.append_left x.2).trans eV
theorem Lv.put {nl k:Nat}{L:List DP}{q:Nat}{a:Int}{ns:List ByteArray}(H:Lv nl k L) (hk:k<5) (hn:nl≤5) (h:L[q]? =some (a,ns)):Lv nl (k+1) (L.set q (a,ns++ [nm 97 k])):=by
 have hp:=NB (y:=nm 97 k) h;refine ⟨by simp [H.len],fun j x hj=> ?_,fun x hx=> ?_,?_,?_⟩
 ·by_cases hq:j=q
  ·subst hq;rw [cP (List.getElem?_eq_some_iff.1 h).1]at hj;cases hj;obtain ⟨h1,h2,h3⟩:=H.each j _ h;exact ⟨h1,h2,cL _ h3⟩
  ·rw [cI (fun e=>hq e.symm)]at hj;exact H.each j x hj
 ·rcases List.mem_cons.1 (hp.mem_iff.1 hx) with rfl | h
  ·exact .inr ⟨k,by omega,rfl⟩
  ·rcases H.names x h with h | ⟨i,h1,h2⟩
   ·exact .inl h
   ·exact .inr ⟨i,by omega,h2⟩
 ·rw [hp.nodup_iff];refine List.nodup_cons.2 ⟨fun hm=> ?_,H.once⟩;rcases H.names _ hm with ⟨i,h1,h2⟩|⟨i,h1,h2⟩
  ·have:=HO (by omega) (by omega) h2
   omega
  ·have:=HO (by omega) (by omega) h2
   omega
 ·rw [hp.length_eq,cK]
  have:=H.room
  omega
theorem Lv.up {nl k:Nat}{L:List DP}(H:Lv nl k L):Lv nl (k+1) L:=⟨H.len,H.each,fun x hx=>by
 rcases H.names x hx with h | ⟨i,h1,h2⟩
 ·exact .inl h
 ·exact .inr ⟨i,by omega,h2⟩,H.once,by have:=H.room;omega⟩
theorem Tk.snoc {k:Nat}{l:List HH}(H:Tk k l):Tk (k+1) (l++ [(nm 97 k,nm 97 k,{data:=#[]},false)]):=by
 refine ⟨by simp [H.1],fun j hj=> ?_⟩;rcases dR j k with g | g
 ·rw [bX (by rw [H.1];exact g)];exact H.2 j g
 ·have:j=k:=by omega
  subst this;rw [cV (by rw [H.1];omega),H.1];simp
structure Sg (nt nv nl:Nat) (g:Da):Prop where
 nt1:1≤nt
 nt5:nt≤5
 nv1:1≤nv
 nv4:nv≤4
 nl5:nl≤5
 toks:Tk nt g.1
 skips:g.2.1= []
 levs:Lv nl nt g.2.2.1
 start:g.2.2.2.1=nm 83 0
 rules:∀r∈g.2.2.2.2,Ru1 nt nv nl r
 all:∀v,v<nv→ ∃r∈g.2.2.2.2,r.1=nm 83 v
 room:g.2.2.2.2.length≤24
structure SmG (s:Ib):Prop where
 t0:0≤s.1∧s.1<256
 v0:0≤s.2.1∧s.2.1<256
 lefts:s.2.2.1.length≤9223372036854775807∧ ∀x∈s.2.2.1,0≤x∧x<256
 rights:s.2.2.2.1.length≤9223372036854775807∧ ∀l∈s.2.2.2.1,l.length≤9223372036854775807∧ ∀x∈l,0≤x∧x<256
 precs:s.2.2.2.2.1.length≤9223372036854775807∧ ∀x∈s.2.2.2.2.1,0≤x∧x<256
 assocs:s.2.2.2.2.2.1.length≤9223372036854775807∧ ∀x∈s.2.2.2.2.2.1,0≤x∧x<256
 levels:s.2.2.2.2.2.2.length≤9223372036854775807∧ ∀x∈s.2.2.2.2.2.2,0≤x∧x<256
structure SmF (n m:Nat) (s:Ib):Prop where
 lefts:s.2.2.1.length≤n
 assocs:s.2.2.2.2.2.1.length≤5
 rights:∀l∈s.2.2.2.1,l.length≤m
theorem SmF.up {s:Ib}(F:SmF 12 5 s):SmF 20 8 s:=⟨by have:=F.lefts;omega,F.assocs,fun l hl=>by have:=F.rights l hl;omega⟩
theorem Oj {s:Ib}(G:SmG s) (n m:Nat):Ok (BQ s (n:Int) (m:Int)) fun b=>b=true→SmF n m s:=by
 unfold BQ;refine AL (Q:=fun c=>c=false→s.2.2.1.length≤n∧s.2.2.2.2.2.1.length≤5) (AX (fun h=>AC (by simp)) fun h=>AC fun h'=> ?_) fun c hc=> ?_
 ·have h:=of_decide_eq_false h;have h':=of_decide_eq_false h';omega
 refine AX (fun _=>AC (by simp)) fun h=> ?_;obtain ⟨h1,h2⟩:=hc h;refine Ho s.2.2.2.1 (fun _ l=>decide ((l.length:Int) >(m:Int))) (fun _ _=>false) (by have:=G.rights.1;omega) (fun j x hx=> ?_) (fun h=>AC fun _=>⟨h1,h2,fun l hl=> ?_⟩) fun j x hx hq _=>AC (by simp)
 ·rw [Gw,hx,cJ];cases decide ((x.length:Int) >(m:Int)) <;>rfl
 ·obtain ⟨j,hj⟩:=dA hl
  have:=of_decide_eq_false (h j l hj)
  omega
set_option maxHeartbeats 4000000 in
theorem LI {s:Ib}(G:SmG s) (F:SmF 20 8 s):Ok (A6 s) (Sg (s.1.toNat % 5+1) (s.2.1.toNat % 4+1) s.2.2.2.2.2.1.length):=by
 obtain ⟨tk,vr,lefts,rights,precs,assocs,levels⟩:=s;obtain ⟨g1,g2,g3,g4,g5,g6,g7⟩:=G;obtain ⟨f1,f2,f3⟩:=F;dsimp only at *;unfold A6;dsimp only;have et:bM .i64 ((bM .i64 (bO tk (5:Int)))+(1:Int))=((tk.toNat % 5+1:Nat):Int):=by
  rw [tm g1.1,wr (show -1000000≤tk % 5∧tk % 5≤1000000 by omega),wr (by omega)];omega
 have ev:bM .i64 ((bM .i64 (bO vr (4:Int)))+(1:Int))=((vr.toNat % 4+1:Nat):Int):=by
  rw [tm g2.1,wr (show -1000000≤vr % 4∧vr % 4≤1000000 by omega),wr (by omega)];omega
 rw [et,ev]
 generalize hnt:tk.toNat % 5+1=nt
 generalize hnv:vr.toNat % 4+1=nv
 have s5:(cZ {data:=#[112,113,114,115,116]} :Nat)=5:=rfl;have s5':(cZ {data:=#[97,98,99,100,101]} :Nat)=5:=rfl;have s4:(cZ {data:=#[83,84,85,86]} :Nat)=4:=rfl;rw [s5,s5',s4];refine Bz (by decide) (Bz (by decide) ?_);refine Cn (fun k (z:Da)=>z.1= [] ∧z.2.1= [] ∧Lv k 0 z.2.2.1∧z.2.2.2.1=nm 83 0∧z.2.2.2.2= []) (by omega) ⟨rfl,rfl,⟨rfl,fun j x h=>by simp at h,fun x h=>by simp [Do]at h,by simp [Do],by simp [Do]⟩,rfl,rfl⟩ (fun k z hk h=> ?_) fun z hz=> ?_
 ·obtain ⟨z1,z2,z3,z4,z5⟩:=z;obtain ⟨rfl,rfl,h,rfl,rfl⟩:=h;have hx:=bN hk;have hb:=g6.2 _ (bY hk);refine AY hx (Bz (by decide) (Bz ?_ ?_))
  ·rw [wr (by omega)];omega
  have hl:=h.len;dsimp only at hl ⊢;refine BW (by simp;omega) (AC ⟨rfl,rfl,?_,rfl,rfl⟩);rw [tm hb.1,wr (show -1000000≤assocs[k] % 3∧assocs[k] % 3≤1000000 by omega),wr (show -1000000≤assocs[k] % 3+1∧assocs[k] % 3+1≤1000000 by omega),wr (show -1000000≤(k:Int)+1∧(k:Int)+1≤1000000 by omega),M9 (by omega) (by omega)];exact h.snoc (by omega) (by omega)
 obtain ⟨z1,z2,z3,z4,z5⟩:=z;obtain ⟨rfl,rfl,hz,rfl,rfl⟩:=hz;dsimp only at hz;refine Cn (fun k (z:Da)=>Tk k z.1∧z.2.1= [] ∧Lv assocs.length k z.2.2.1∧z.2.2.2.1=nm 83 0∧z.2.2.2.2= []) (by omega) ⟨⟨rfl,fun j h=>by omega⟩,rfl,hz,rfl,rfl⟩ (fun k z hk h=> ?_) fun z hz=> ?_
 ·obtain ⟨z1,z2,z3,z4,z5⟩:=z;obtain ⟨ht,rfl,hL,rfl,rfl⟩:=h;dsimp only at ht hL ⊢;have hl:=hL.len;have htl:=ht.1;refine Bz (by rw [wr (by omega)];omega) ?_;rw [wr (show -1000000≤(k:Int)+1∧(k:Int)+1≤1000000 by omega),NA (by omega) (by omega),dQ];refine BW (by simp;omega)<|AL (Q:=fun (z:Da)=>Tk (k+1) z.1∧z.2.1= [] ∧Lv assocs.length (k+1) z.2.2.1∧z.2.2.2.1=nm 83 0∧z.2.2.2.2= []) (AX (fun hc=> ?_) fun _=>AC ⟨ht.snoc,rfl,hL.up,rfl,rfl⟩) fun _ h=>AC h;have hc:=of_decide_eq_true hc;have hx:=bN (show k<levels.length by omega);have hb:=g7.2 _ (bY (show k<levels.length by omega));refine AY hx (Bz (by rw [wr (by omega)];omega) ?_);have hm:0≤levels[k] % ((z3.length:Int)+1)∧levels[k] % ((z3.length:Int)+1) < (z3.length:Int)+1:=⟨dW _ (by omega),dP _ (by omega)⟩;rw [wr (show -1000000≤levels[k] ∧levels[k] ≤1000000 by omega),wr (show -1000000≤(z3.length:Int)+1∧(z3.length:Int)+1≤1000000 by omega),tm hb.1]
  generalize levels[k] % ((z3.length:Int)+1)=q at hm
  refine AL (Q:=fun (z:Da)=>Tk (k+1) z.1∧z.2.1= [] ∧Lv assocs.length (k+1) z.2.2.1∧z.2.2.2.1=nm 83 0∧z.2.2.2.2= []) (AX (fun hq=> ?_) fun _=>AC ⟨ht.snoc,rfl,hL.up,rfl,rfl⟩) fun _ h=>AC h;have hq:=of_decide_eq_true hq;rw [wr (show -1000000≤q - 1∧q - 1≤1000000 by omega)];have hq':(q - 1).toNat<z3.length:=by omega
  have hy:=bN hq';have hroom:z3[(q - 1).toNat].2.length≤(Do z3).length:=(dZ (eI (bY hq'))).length_le;have hr:=hL.room;refine Dn (by omega) hy (BW (by simp only [cX];omega) (BW (by simp only [cX,cG,cK];omega) (Dn (by omega) hy (Hn (by omega) (by omega) (AC ⟨ht.snoc,rfl,?_,rfl,rfl⟩)))));exact hL.put (by omega) (by omega) hy
 obtain ⟨z1,z2,z3,z4,z5⟩:=z;obtain ⟨hT,rfl,hL,rfl,rfl⟩:=hz;dsimp only at hT hL;have hl:=hL.len;refine Cn (fun k (z:Da)=>z.1=z1∧z.2.1= [] ∧z.2.2.1=z3∧z.2.2.2.1=nm 83 0∧z.2.2.2.2.length=k∧ ∀r∈z.2.2.2.2,Ru1 nt nv assocs.length r) (by omega) ⟨rfl,rfl,rfl,rfl,rfl,by simp⟩ (fun k z hk h=> ?_) fun z hz=> ?_
 ·obtain ⟨y1,y2,y3,y4,y5⟩:=z;obtain ⟨rfl,rfl,rfl,rfl,hlen,hr⟩:=h;dsimp only at hlen hr hl ⊢;have hx:=bN hk;have hb:=g3.2 _ (bY hk);have hm:0≤lefts[k] % (nv:Int)∧lefts[k] % (nv:Int) < (nv:Int):=⟨dW _ (by omega),dP _ (by omega)⟩;refine AY hx (Bz (by omega) (AY hx (Bz (by omega) ?_)));rw [wr (show -1000000≤lefts[k] ∧lefts[k] ≤1000000 by omega),tm hb.1]
  generalize lefts[k] % (nv:Int)=q at hm
  rw [wr (show -1000000≤q+1∧q+1≤1000000 by omega)];refine Bz (by omega) ?_;rw [LH (by omega) (by omega)];refine AL (Q:=fun (x:Dw)=>x.2.2.1= {data:=#[]} ∧Ru1 nt nv assocs.length x) (AX (fun hc=> ?_) fun _=>AC ⟨rfl,⟨q.toNat,by omega,rfl⟩,by simp,by simp,.inl rfl,rfl⟩) fun x hx'=> ?_
  ·have hc:=of_decide_eq_true hc;have hR:=bN (show k<rights.length by omega);have hRm:=bY (show k<rights.length by omega);have hR5:=f3 _ hRm;have hRb:=(g4.2 _ hRm).2
   generalize rights[k] =R at hR hR5 hRb
   refine CG (fun (z:Int×Dw)=>0≤z.1∧z.1≤(R.length:Int)∧(z.2.2.1.length:Int)=z.1∧z.2.2.2.1= {data:=#[]} ∧Ru1 nt nv assocs.length z.2) (fun z=>(R.length:Nat) - z.1.toNat) (fun x=>x.2.2.1= {data:=#[]} ∧Ru1 nt nv assocs.length x) ⟨dV _,by dsimp only;omega,rfl,rfl,⟨q.toNat,by omega,rfl⟩,by simp,by simp,.inl rfl,rfl⟩ (fun z hz=> ?_) fun x hx=>AC hx;obtain ⟨i,z⟩:=z;obtain ⟨h0,h1,h2,h3,h4⟩:=hz;dsimp only at h0 h1 h2 h3 h4 ⊢;refine AY hR (AX (fun hc=> ?_) fun hc=>A7 ⟨h3,h4⟩);have hc:=of_decide_eq_true hc;have hi:i.toNat<R.length:=by omega
   have hy:=bN hi;have hyb:=hRb _ (bY hi);refine AY hR (Dn h0 hy ?_)
   generalize R[i.toNat] =e at hyb
   rw [wr (show -1000000≤e∧e≤1000000 by omega),wr (show -1000000≤(nt:Int)+(nv:Int)∧(nt:Int)+(nv:Int) ≤1000000 by omega),tm hyb.1];have hm2:0≤e % ((nt:Int)+(nv:Int))∧e % ((nt:Int)+(nv:Int)) < (nt:Int)+(nv:Int):=⟨dW _ (by omega),dP _ (by omega)⟩
   generalize e % ((nt:Int)+(nv:Int))=w at hm2
   rw [tm hm2.1,wr (show -1000000≤w % 5+1∧w % 5+1≤1000000 by omega)];refine Bz (by omega) (Bz (by decide) (Bz (by decide) (Bz (by omega) ?_)));refine AL (Q:=fun x=>(∃i,i<nt∧x=nm 97 i)∨ ∃i,i<nv∧x=nm 83 i) (AX (fun hw=> ?_) fun hw=>AC ?_) fun x hx=> ?_
   ·have hw:=of_decide_eq_true hw;rw [wr (show -1000000≤w - (nt:Int)∧w - (nt:Int) ≤1000000 by omega),wr (show -1000000≤w - (nt:Int)+1∧w - (nt:Int)+1≤1000000 by omega)];refine Bz (by omega) (AC ?_);rw [LH (by omega) (by omega)];exact .inr ⟨_,by omega,rfl⟩
   ·have hw:=of_decide_eq_false hw;rw [NA (by omega) (by omega)];exact .inl ⟨_,by omega,rfl⟩
   ·refine BW (by simp;omega) (Bi ⟨⟨?_,?_,?_,h3,⟨h4.left,?_,?_,h4.prec,h4.act⟩⟩,?_⟩)
    ·rw [wr (by omega)];omega
    ·rw [wr (by omega)];omega
    ·rw [wr (by omega),cG];simp;omega
    ·rw [cG];simp;omega
    ·intro x' hx';rcases List.mem_append.1 hx' with h | h
     ·exact h4.right _ h
     ·have:x'=x:=by simpa using h
      subst this;exact hx
    ·rw [wr (by omega)];omega
  ·obtain ⟨hp,hr1⟩:=hx';obtain ⟨x1,x2,x3,x4⟩:=x;dsimp only at hp ⊢;subst hp;refine AL (Q:=Ru1 nt nv assocs.length) (AX (fun hc=> ?_) fun _=>AC hr1) fun x hx=> ?_
   ·have hc:=of_decide_eq_true hc;have hP:=bN (show k<precs.length by omega);have hPb:=g5.2 _ (bY (show k<precs.length by omega));refine AY hP ?_
    generalize precs[k] =e at hPb
    rw [wr (show -1000000≤e∧e≤1000000 by omega),wr (show -1000000≤(y3.length:Int)+1∧(y3.length:Int)+1≤1000000 by omega),tm hPb.1];have hm2:0≤e % ((y3.length:Int)+1)∧e % ((y3.length:Int)+1) < (y3.length:Int)+1:=⟨dW _ (by omega),dP _ (by omega)⟩
    generalize e % ((y3.length:Int)+1)=w at hm2
    refine Bz (by omega)<|AL (Q:=Ru1 nt nv assocs.length) (AX (fun hw=> ?_) fun _=>AC hr1) fun x hx=>AC hx;have hw:=of_decide_eq_true hw;rw [wr (show -1000000≤w - 1∧w - 1≤1000000 by omega)];refine Bz (by omega) (AC ⟨hr1.left,hr1.few,hr1.right,.inr ⟨(w - 1).toNat,by omega,?_⟩,hr1.act⟩)
    have:=M9 (i:=w - 1) (by omega) (by omega)
    rw [show w - 1+1=w by omega]at this;exact this
   ·refine BW (by simp;omega) (AC ⟨rfl,rfl,rfl,rfl,by simp [hlen],fun r hr'=> ?_⟩);rcases List.mem_append.1 hr' with h | h
    ·exact hr _ h
    ·have:r=x:=by simpa using h
     subst this;exact hx
 obtain ⟨y1,y2,y3,y4,y5⟩:=z;obtain ⟨rfl,rfl,rfl,rfl,hlen,hr⟩:=hz;dsimp only at hlen hr;refine Cn (fun k (z:Da)=>z.1=y1∧z.2.1= [] ∧z.2.2.1=y3∧z.2.2.2.1=nm 83 0∧z.2.2.2.2.length≤lefts.length+k∧(∀r∈z.2.2.2.2,Ru1 nt nv assocs.length r)∧ ∀v,v<k→ ∃r∈z.2.2.2.2,r.1=nm 83 v) (by omega) ⟨rfl,rfl,rfl,rfl,by dsimp only;omega,hr,fun v hv=>by omega⟩ (fun k z hk h=> ?_) fun z hz=> ?_
 ·obtain ⟨x1,x2,x3,x4,x5⟩:=z;obtain ⟨rfl,rfl,rfl,rfl,h1,h2,h3⟩:=h;dsimp only at h1 h2 h3 ⊢;refine Bz (by rw [wr (by omega)];omega) ?_;rw [wr (show -1000000≤(k:Int)+1∧(k:Int)+1≤1000000 by omega),LH (by omega) (by omega),dQ];refine CG (fun (z:Int×Bool)=>0≤z.1∧z.1≤(x5.length:Int)∧(z.2=true→ ∃r∈x5,r.1=nm 83 k)) (fun z=>x5.length - z.1.toNat) (fun b=>b=true→ ∃r∈x5,r.1=nm 83 k) ⟨by decide,by dsimp only;omega,by simp⟩ (fun z hz=> ?_) fun b hb=> ?_
  ·obtain ⟨i,b⟩:=z;obtain ⟨j1,j2,j3⟩:=hz;dsimp only at j1 j2 j3 ⊢;refine AX (fun hc=> ?_) fun hc=>A7 j3;have hc:=of_decide_eq_true hc;have hi:i.toNat<x5.length:=by omega
   have hy:=bN hi;refine AL (Q:=fun b=>b=true→ ∃r∈x5,r.1=nm 83 k) (AX (fun hb=>AC fun _=>j3 hb) fun _=>Dn j1 hy (AC fun he=> ?_)) fun b' hb'=> ?_
   ·rw [Ch]at he;exact ⟨_,bY hi,of_decide_eq_true he⟩
   ·refine Bi ⟨⟨?_,?_,hb'⟩,?_⟩
    ·rw [wr (by omega)];omega
    ·rw [wr (by omega)];omega
    ·rw [wr (by omega)];omega
  ·refine AL (Q:=fun (z:Da)=>z.1=x1∧z.2.1= [] ∧z.2.2.1=x3∧z.2.2.2.1=nm 83 0∧z.2.2.2.2.length≤lefts.length+(k+1)∧(∀r∈z.2.2.2.2,Ru1 nt nv assocs.length r)∧ ∀v,v<k+1→ ∃r∈z.2.2.2.2,r.1=nm 83 v) (AX (fun hc=> ?_) fun hc=>AC ⟨rfl,rfl,rfl,rfl,by dsimp only;omega,h2,fun v hv=> ?_⟩) fun z hz=>AC hz
   ·refine BW (by simp;omega) (AC ⟨rfl,rfl,rfl,rfl,by dsimp only;rw [cG];simp;omega,fun r hr'=> ?_,fun v hv=> ?_⟩)
    ·rcases List.mem_append.1 hr' with h | h
     ·exact h2 _ h
     ·obtain rfl:=List.mem_singleton.1 h;exact ⟨⟨k,hk,rfl⟩,by simp,by simp,.inl rfl,rfl⟩
    ·rcases Nat.lt_succ_iff_lt_or_eq.1 hv with h | rfl
     ·obtain ⟨r,a,b⟩:=h3 v h;exact ⟨r,cL _ a,b⟩
     ·exact ⟨_,dK _ (List.mem_singleton.2 rfl),rfl⟩
   ·rcases Nat.lt_succ_iff_lt_or_eq.1 hv with h | rfl
    ·exact h3 v h
    ·exact hb (by simpa using hc)
 obtain ⟨x1,x2,x3,x4,x5⟩:=z;obtain ⟨rfl,rfl,rfl,rfl,h1,h2,h3⟩:=hz;dsimp only at h1 h2 h3;exact AC ⟨by omega,by omega,by omega,by omega,by omega,hT,rfl,hL,rfl,h2,h3,by dsimp only;omega⟩
theorem Sg.nm_lev {nt nv nl:Nat}{g:Da}(H:Sg nt nv nl g):∀x∈Do g.2.2.1,Nm x:=fun x hx=>by
 have:=H.nl5;have:=H.nt5
 rcases H.levs.names x hx with ⟨i,h,rfl⟩|⟨i,h,rfl⟩
 ·exact .lev (by omega)
 ·exact .tok (by omega)
theorem Ru1.nm {nt nv nl:Nat}{r:Dw}(H:Ru1 nt nv nl r) (h1:nt≤5) (h2:nv≤4) (h3:nl≤5):Nm r.1∧(∀x∈r.2.1,Nm x)∧(r.2.2.1= {data:=#[]} ∨Nm r.2.2.1):=by
 refine ⟨?_,fun x hx=> ?_,?_⟩
 ·obtain ⟨i,h,e⟩:=H.left;rw [e];exact .var (by omega)
 ·rcases H.right x hx with ⟨i,h,rfl⟩|⟨i,h,rfl⟩
  ·exact .tok (by omega)
  ·exact .var (by omega)
 ·rcases H.prec with h | ⟨i,h,e⟩
  ·exact .inl h
  ·rw [e];exact .inr (.lev (by omega))
set_option maxHeartbeats 2000000 in
theorem NC {nt nv nl:Nat}{g:Da}(H:Sg nt nv nl g):Bn g=some true:=by
 refine Ok.eq ?_;have hlr:=H.room;have hll:=H.levs.len;have htl:=H.toks.1;have hnt:=H.nt5;have hnv:=H.nv4;have hnl:=H.nl5;obtain ⟨r0,hr0,_⟩:=H.all 0 (by have:=H.nv1;omega);have hpos:=dI hr0;unfold Bn;have hsk:=H.skips;have hst:=H.start;refine AL (Q:=fun x=>x=false) ?_ fun x hx=> ?_
 ·refine AU (decide_eq_false (by omega)) (AU (by rw [hsk];rfl) (AU (decide_eq_false (by omega)) (AU (decide_eq_false (by omega)) (AU (decide_eq_false (by omega)) ?_))));rw [hst];exact AK (Lh (by omega)) (AC rfl)
 subst hx;refine AU rfl<|DX (fun k (l:List ByteArray)=>l.length=k∧ ∀j,j<k→l[j]? =some (nm 97 j)) (by omega) ⟨rfl,fun j h=>by omega⟩ (fun k l hk h=> ?_) fun toks hz=> ?_
 ·have hx:=H.toks.2 k (by omega);refine AY hx (BW (by have:=h.1;simp only [cK,cX];omega) (AY hx ?_));refine AK (Jr (.tok (by omega))) (AU rfl (Ds ⟨by simp [h.1],fun j hj=> ?_⟩));rcases dR j k with g | g
  ·rw [bX (by rw [h.1];exact g)];exact h.2 j g
  ·have:j=k:=by omega
   subst this;rw [cV (by rw [h.1];omega),h.1];simp
 refine DX (fun k _=>True) (by rw [hsk];decide) trivial (fun k l hk h=>by rw [hsk]at hk;exact absurd hk (Nat.not_lt_zero _)) fun _ _=>DX (fun k (l:List ByteArray)=>l=Do (g.2.2.1.take k)) (by omega) rfl (fun k l hk h=> ?_) fun levs hv=> ?_
 ·subst h;have hx:=bN hk;obtain ⟨h1,h2,h3⟩:=H.levs.each k _ hx;have e:Do (g.2.2.1.take (k+1))=Do (g.2.2.1.take k) ++g.2.2.1[k].2:=by
   unfold Do;rw [dE,hx,dY];show _=_;simp
  have hroom:=H.levs.room;have e2:Do g.2.2.1=Do (g.2.2.1.take (k+1)) ++Do (g.2.2.1.drop (k+1)):=by
   unfold Do;rw [←dY,eG]
  have e3:=congrArg cA e2;rw [e,cG,cG]at e3;refine AY hx (BW (by omega) ?_);refine AL (Q:=fun x=>x=false) (AU (decide_eq_false (by omega)) (AU (decide_eq_false (by omega)) (AC ?_))) fun x hx=> ?_
  ·have:=dI h3
   exact beq_eq_false_iff_ne.2 (by omega)
  ·subst hx;refine AU rfl ?_;rw [←e];exact Ds rfl
 refine DX (fun k _=>True) (by omega) trivial (fun k _ hk _=> ?_) fun _ _=> ?_
 ·have hx:=bN hk;have hr:=H.rules _ (bY hk);obtain ⟨n1,n2,n3⟩:=hr.nm hnt hnv hnl;have hf:=hr.few;refine AY hx<|AL (Q:=fun x=>x=false) (AK n1.name (AU rfl (AU (decide_eq_false (by omega)) (AX (fun hc=> ?_) fun hc=> ?_)))) fun x hx=> ?_
  ·rw [hr.act];rcases n3 with h | h
   ·rw [h,Ch]at hc;simp at hc
   ·exact AK h.name (AU rfl (AK Hp (AC rfl)))
  ·rw [hr.act];exact AK Hp (AC rfl)
  ·subst hx;refine AU rfl<|DX (fun k _=>True) (by omega) trivial (fun j _ hj _=> ?_) fun _ _=>Ds trivial;exact AY (bN hj) (AK (n2 _ (bY hj)).name (AU rfl (Ds trivial)))
 have hmem:∀x∈toks,∃j,j<nt∧x=nm 97 j:=fun x hx=>by
  obtain ⟨j,hj⟩:=dA hx;have hjl:=(List.getElem?_eq_some_iff.1 hj).1
  have:=hz.2 j (by omega)
  rw [hj]at this;exact ⟨j,by omega,Option.some.inj this⟩
 have h1:BA toks=some true:=Li (by omega) (fun x hx=>by obtain ⟨j,hj,rfl⟩:=hmem x hx;exact .tok (by omega)) (List.nodup_iff_pairwise_ne.2 (List.pairwise_iff_getElem.2 fun i j hi hj hij e=>by
  have a:=hz.2 i (by omega);have b:=hz.2 j (by omega);rw [bN hi]at a;rw [bN hj,←e,a]at b
  have:=HO (by omega) (by omega) (Option.some.inj b)
  omega))
 have h2:BA levs=some true:=by
  rw [hv,cY (dB _)];exact Li (by have:=H.levs.room;omega) H.nm_lev H.levs.once
 exact AL (Q:=fun x=>x=true) (AK h1 (A4 rfl (AK h2 (AC rfl)))) fun x hx=>AC hx
abbrev ND:ByteArray:={data:=#[36,101,110,100]}
structure TT (nt:Nat) (T:List ByteArray):Prop where
 len:T.length=nt+1
 zero:T[0]? =some ND
 tok:∀j,j<nt→T[j+1]? =some (nm 97 j)
theorem NE (c i:Nat):ND≠nm c i:=fun h=>by unfold nm at h;simp at h
theorem TT.cases {nt:Nat}{T:List ByteArray}(H:TT nt T) {j:Nat}{s:ByteArray}(h:T[j]? =some s):(j=0∧s=ND)∨ ∃i,i<nt∧j=i+1∧s=nm 97 i:=by
 cases j with
 |zero=>rw [H.zero]at h;exact .inl ⟨rfl,(Option.some.inj h).symm⟩
 |succ i=>
  have:=(List.getElem?_eq_some_iff.1 h).1
  have hl:=H.len;rw [H.tok i (by omega)]at h;exact .inr ⟨i,by omega,rfl,(Option.some.inj h).symm⟩
structure VV (nv:Nat) (V:List ByteArray):Prop where
 names:∀x∈V,∃i,i<nv∧x=nm 83 i
 once:V.Nodup
theorem N2 {nt i:Nat}{T V:List ByteArray}(H:TT nt T) (hn:nt≤5) (hi:i<nt):Ok (A3 (T,V) (nm 97 i)) fun k=>k=((i+1:Nat):Int):=by
 have hl:=H.len;unfold A3;refine AL (Es (by dsimp only;omega)) fun k hk=> ?_;rcases hk with ⟨rfl,h⟩|⟨j,rfl,h⟩
 ·exact absurd (bZ (H.tok i hi)) h
 ·refine A4 (decide_eq_true (by omega)) (AC ?_);rcases H.cases h with ⟨_,h⟩|⟨q,h1,h2,h3⟩
  ·exact absurd h.symm (NE _ _)
  ·have:=HO (by omega) (by omega) h3
   omega
theorem Js {nt nv i:Nat}{T V:List ByteArray}(H:TT nt T) (hn:nt≤5) (hv:nv≤4) (hV:V.length≤100) (hi:i<nv) (hm:nm 83 i∈V):Ok (A3 (T,V) (nm 83 i)) fun k=>∃j:Nat,k=((nt+1+j:Nat):Int)∧V[j]? =some (nm 83 i):=by
 have hl:=H.len;unfold A3;refine AL (Es (by dsimp only;omega)) fun k hk=> ?_;rcases hk with ⟨rfl,h⟩|⟨j,rfl,h⟩
 ·refine AU rfl (AL (Es (by dsimp only;omega)) fun k hk=> ?_);rcases hk with ⟨rfl,h⟩|⟨j,rfl,h⟩
  ·exact absurd hm h
  ·refine A4 (decide_eq_true (by omega)) (AC ⟨j,?_,h⟩)
   have:=(List.getElem?_eq_some_iff.1 h).1
   dsimp only at this;rw [hl,wr (by omega)];omega
 ·rcases H.cases h with ⟨_,h⟩|⟨q,h1,h2,h3⟩
  ·exact absurd h.symm (NE _ _)
  ·have:=HO (by omega) (by omega) h3
   omega
theorem KQ {nt nv nl:Nat}{g:Da}(H:Sg nt nv nl g) (s:ByteArray):Ok (BV g s) fun k=>0≤k∧k≤nl∧ ∀i,i<nl→s=nm 112 i→k≠0:=by
 have hl:=H.levs.len;have hnl:=H.nl5;unfold BV;have hr:=H.levs.room;have hnt:=H.nt5;have hlen:∀(j:Nat) x,g.2.2.1[j]? =some x→x.2.length≤100:=fun j x hx=>by
  have:=(dZ (eI (f:=(·.2)) (bZ hx))).length_le
  have e:Do g.2.2.1=(List.map (·.2) g.2.2.1).flatten:=by unfold Do;rw [List.flatMap_def]
  rw [←e]at this;omega
 refine Ho g.2.2.1 (fun _ x=> @decide (s∈x.2) (dG _)) (fun k _=>bM .i64 ((k:Int)+1)) (by omega) (fun j x hx=> ?_) (fun h=> ?_) fun j x hx hq _=> ?_
 ·rw [Gw,hx,cJ];obtain ⟨k,h1,h2⟩:=Es (l:=x.2) (s:=s) (by have:=hlen j x hx;omega);rw [h1,cJ];rcases h2 with ⟨rfl,h⟩|⟨q,rfl,h⟩
  ·rw [@decide_eq_false _ (dG _) h];rfl
  ·rw [@decide_eq_true _ (dG _) (bZ h),decide_eq_true (by omega)];rfl
 ·refine AC ⟨by omega,by omega,fun i hi hs _=> ?_⟩;have hx:=bN (show i<g.2.2.1.length by omega)
  have:= @of_decide_eq_false _ (dG _) (h i _ hx)
  rw [hs]at this;exact this (H.levs.each i _ hx).2.2
 ·have:=(List.getElem?_eq_some_iff.1 hx).1
  have e:bM .i64 ((j:Int)+1)=(j:Int)+1:=wr (by omega);exact AC ⟨by rw [e];omega,by rw [e];omega,fun _ _ _=>by rw [e];omega⟩
structure Pr (nt nV nl:Nat) (r:A0):Prop where
 left:((nt+1:Nat):Int) ≤r.1∧r.1< ((nt+1+nV:Nat):Int)
 few:r.2.1.length≤8
 right:∀x∈r.2.1,0<x∧x< ((nt+1+nV:Nat):Int)
 lev:0≤r.2.2∧r.2.2≤nl
structure Pl (nt nl:Nat) (p:Aw):Prop where
 nt5:1≤nt∧nt≤5
 nl5:nl≤5
 terms:TT nt p.1
 vars:1≤p.2.1.length∧p.2.1.length≤24
 first:∃st:Int,((nt+1:Nat):Int) ≤st∧st< ((nt+1+p.2.1.length:Nat):Int)∧p.2.2.1[0]? =some (((nt+1+p.2.1.length:Nat):Int),[st],0)
 rules:∀(k:Nat) r,1≤k→p.2.2.1[k]? =some r→Pr nt p.2.1.length nl r
 room:1≤p.2.2.1.length∧p.2.2.1.length≤25
 all:∀v:Nat,v<p.2.1.length→ ∃r∈p.2.2.1,r.1=((nt+1+v:Nat):Int)
 levels:p.2.2.2.1.length=nt+1∧ ∀x∈p.2.2.2.1,0≤x∧x≤nl
 assocs:p.2.2.2.2.1.length=nl+1
theorem NF {α:Type}{l:List α}(h:l.Nodup) {i j:Nat}(hi:i<l.length) (hj:j<l.length) (e:l[i] =l[j]):i=j:=by
 have H:=List.pairwise_iff_getElem.1 (List.nodup_iff_pairwise_ne.1 h);rcases Nat.lt_trichotomy i j with g | g | g
 ·exact absurd e (H i j hi hj g)
 ·exact g
 ·exact absurd e.symm (H j i hj hi g)
set_option maxHeartbeats 4000000 in
theorem PB {nt nv nl:Nat}{g:Da}(H:Sg nt nv nl g):Ok (B9 g) fun p=>Pl nt nl (p.1,p.2.1,p.2.2.1,p.2.2.2.1,p.2.2.2.2.1,p.2.2.2.2.2.1):=by
 have hlr:=H.room;have hll:=H.levs.len;have htl:=H.toks.1;have hnt:=H.nt5;have hnt1:=H.nt1;have hnv:=H.nv4;have hnl:=H.nl5;have hnv1:=H.nv1;obtain ⟨r0,hr0,_⟩:=H.all 0 (by omega);have hpos:=dI hr0;unfold B9;refine AK (NC H) (AU rfl ?_);refine Cn (fun k (z:Aw)=>z.1= [ND] ∧VV nv z.2.1∧z.2.1.length≤k∧(∀(j:Nat) r,j<k→g.2.2.2.2[j]? =some r→r.1∈z.2.1)∧(∀x∈z.2.1,∃r∈g.2.2.2.2,r.1=x)∧z.2.2.1= [] ∧z.2.2.2.1= [0] ∧z.2.2.2.2.1= [0] ∧z.2.2.2.2.2.length=k+1) (by omega) ⟨rfl,⟨by simp,by simp⟩,by simp,fun j r h=>by omega,by simp,rfl,rfl,rfl,rfl⟩ (fun k z hk h=> ?_) fun z hz=> ?_
 ·obtain ⟨z1,z2,z3,z4,z5,z6⟩:=z;obtain ⟨rfl,hV,hk2,hall,hfr,rfl,rfl,rfl,h6⟩:=h;dsimp only at hV hk2 hall hfr h6 ⊢;have hx:=bN hk;have hr:=H.rules _ (bY hk);refine AY hx (AL (Es (by omega)) fun t ht=> ?_);refine AL (Q:=fun (z:Aw)=>z.1= [ND] ∧VV nv z.2.1∧z.2.1.length≤k+1∧(∀(j:Nat) r,j<k+1→g.2.2.2.2[j]? =some r→r.1∈z.2.1)∧(∀x∈z.2.1,∃r∈g.2.2.2.2,r.1=x)∧z.2.2.1= [] ∧z.2.2.2.1= [0] ∧z.2.2.2.2.1= [0] ∧z.2.2.2.2.2=z6) ?_ fun z hz=> ?_
  ·rcases ht with ⟨rfl,ht⟩|⟨j,rfl,ht⟩
   ·refine A4 rfl (AY hx (BW (by simp only [cK,cX];omega) (AC ⟨rfl,⟨fun x hx'=> ?_,?_⟩,by simp;omega,fun j r hj hr'=> ?_,fun x hx'=> ?_,rfl,rfl,rfl,rfl⟩)))
    ·rcases List.mem_append.1 hx' with h | h
     ·exact hV.names x h
     ·obtain rfl:=List.mem_singleton.1 h;exact hr.left
    ·exact List.nodup_append.2 ⟨hV.once,by simp,fun x hx' y hy hxy=>ht (by
      have:y=g.2.2.2.2[k].1:=by simpa using hy
      rw [←this,←hxy];exact hx')⟩
    ·rcases Nat.lt_succ_iff_lt_or_eq.1 hj with h | rfl
     ·exact cL _ (hall j r h hr')
     ·rw [hx]at hr';cases hr';exact dK _ (List.mem_singleton.2 rfl)
    ·rcases List.mem_append.1 hx' with h | h
     ·exact hfr x h
     ·obtain rfl:=List.mem_singleton.1 h;exact ⟨_,bY hk,rfl⟩
   ·refine AU (decide_eq_false (by omega)) (AC ⟨rfl,hV,by dsimp only;omega,fun i r hi hr'=> ?_,hfr,rfl,rfl,rfl,rfl⟩);rcases Nat.lt_succ_iff_lt_or_eq.1 hi with h | rfl
    ·exact hall i r h hr'
    ·rw [hx]at hr';cases hr';exact bZ ht
  ·obtain ⟨y1,y2,y3,y4,y5,y6⟩:=z;obtain ⟨rfl,hV,hk2,hall,hfr,rfl,rfl,rfl,e6⟩:=hz;have e6':y6=z6:=e6;have hy6:y6.length=k+1:=by rw [e6'];exact h6
   exact AY hx (BW (by simp only [cK,cX];omega) (AC ⟨rfl,hV,hk2,hall,hfr,rfl,rfl,rfl,by simp [hy6]⟩))
 obtain ⟨z1,V,z3,z4,z5,acts⟩:=z;obtain ⟨rfl,hV,hk2,hall,hfr,rfl,rfl,rfl,h6⟩:=hz;dsimp only at hV hk2 hall hfr h6;have hV16:V.length≤24:=by omega
 clear hk2;have hVm:∀v,v<nv→nm 83 v∈V:=fun v hv=>by
  obtain ⟨r,h1,h2⟩:=H.all v hv;obtain ⟨j,hj⟩:=dA h1;rw [←h2];exact hall j r (List.getElem?_eq_some_iff.1 hj).1 hj
 have hVpos:1≤V.length:=dI (hVm 0 (by omega));refine DX (fun k (z:Aw×Aw)=>TT k z.2.1∧z.2.2.1=V∧z.2.2.2.1= [] ∧z.2.2.2.2.1.length=k+1∧(∀x∈z.2.2.2.2.1,0≤x∧x≤nl)∧z.2.2.2.2.2.1= [0]) (by omega) ⟨⟨rfl,rfl,fun j h=>by omega⟩,rfl,rfl,rfl,by simp,rfl⟩ (fun k z hk h=> ?_) fun z hz=> ?_
 ·obtain ⟨w,z1,z2,z3,z4,z5,z6⟩:=z;obtain ⟨hT,e2,e3,h4,h4',e5⟩:=h;dsimp only at hT h4 h4' e2 e3 e5 ⊢;have hz16:z2.length≤24:=by rw [e2];exact hV16
  subst e2 e3 e5;have hx:=H.toks.2 k (by omega);have hTl:=hT.len;refine AY hx (AL (Es (by omega)) fun t ht=> ?_);rcases ht with ⟨rfl,ht⟩|⟨j,rfl,ht⟩
  ·refine AU rfl (AY hx (BW (by simp only [cK,cX];omega) (AY hx (AL (KQ H _) fun t ht=>BW (by simp only [cK,cX];omega) (Ds ⟨⟨by simp [hTl],?_,fun j hj=> ?_⟩,rfl,rfl,by simp [h4],fun x hx'=> ?_,rfl⟩)))))
   ·rw [bX (by omega)];exact hT.zero
   ·rcases Nat.lt_succ_iff_lt_or_eq.1 hj with h | rfl
    ·rw [bX (by omega)];exact hT.tok j h
    ·rw [cV (by omega),show j+1 - z1.length=0 by omega];rfl
   ·rcases List.mem_append.1 hx' with h | h
    ·exact h4' x h
    ·obtain rfl:=List.mem_singleton.1 h;exact ⟨ht.1,ht.2.1⟩
  ·obtain ⟨i,h1,h2⟩:=hV.names _ (bZ ht)
   have:=HO (by omega) (by omega) h2
   omega
 obtain ⟨w,T,z2,z3,levels,z5,z6⟩:=z;obtain ⟨hT,e2,e3,h4,h4',e5⟩:=hz;dsimp only at hT h4 h4' e2 e3 e5 ⊢;subst e2 e3 e5;rw [htl]at hT h4;have hTl:=hT.len;refine Cn (fun k (z:Aw)=>z.1=T∧z.2.1=z2∧z.2.2.1= [] ∧z.2.2.2.1=levels∧z.2.2.2.2.1.length=k+1) (by omega) ⟨rfl,rfl,rfl,rfl,rfl⟩ (fun k z hk h=> ?_) fun z hz=> ?_
 ·obtain ⟨y1,y2,y3,y4,y5,y6⟩:=z;obtain ⟨rfl,rfl,rfl,rfl,h5⟩:=h;exact AY (bN hk) (BW (by dsimp only at h5 ⊢;simp only [cK,cX];omega) (AC ⟨rfl,rfl,rfl,rfl,by dsimp only at h5 ⊢;simp [h5]⟩))
 obtain ⟨y1,y2,y3,y4,assocs,y6⟩:=z;obtain ⟨e1,e2,e3,e4,h5⟩:=hz;dsimp only at h5 e1 e2 e3 e4 ⊢;subst e1 e2 e3 e4;rw [hll]at h5;rw [H.start];refine AL (Js (nv:=nv) hT hnt hnv (by omega) (by omega) (hVm 0 (by omega))) fun st hst=> ?_;obtain ⟨sj,rfl,hsj⟩:=hst;have hsjl:=(List.getElem?_eq_some_iff.1 hsj).1;rw [wr (show -1000000≤(y1.length:Int)+(y2.length:Int)∧(y1.length:Int)+(y2.length:Int) ≤1000000 by omega)];refine DX (fun k (z:Aw×Aw)=>z.2.1=y1∧z.2.2.1=y2∧z.2.2.2.1.length=k+1∧z.2.2.2.1[0]? =some (((nt+1+y2.length:Nat):Int),[((nt+1+sj:Nat):Int)],0)∧(∀(j:Nat) r,1≤j→z.2.2.2.1[j]? =some r→Pr nt y2.length nl r∧ ∃r'∈g.2.2.2.2,g.2.2.2.2[j - 1]? =some r'∧y2[r.1.toNat - (nt+1)]? =some r'.1)∧z.2.2.2.2.1=y4∧z.2.2.2.2.2.1=assocs) (by omega) ⟨rfl,rfl,rfl,by dsimp only;rw [hTl];simp [Int.natCast_add],fun j r hj hr=>by
  have:=(List.getElem?_eq_some_iff.1 hr).1
  simp at this
  omega,rfl,rfl⟩ (fun k z hk h=> ?_) fun z hz=> ?_
 ·obtain ⟨w,x1,x2,x3,x4,x5,x6⟩:=z;obtain ⟨e1,e2,hlen,h0,hrs,e4,e5⟩:=h;dsimp only at hlen h0 hrs e1 e2 e4 e5 ⊢;subst e1 e2 e4 e5;have hx:=bN hk;have hr:=H.rules _ (bY hk);obtain ⟨vi,hvi,hvl⟩:=hr.left;refine AY hx ?_;rw [hvl];refine AL (Js (nv:=nv) hT hnt hnv (by omega) hvi (hVm vi hvi)) fun t ht=> ?_;obtain ⟨tj,rfl,htj⟩:=ht;have htjl:=(List.getElem?_eq_some_iff.1 htj).1;have hrf:=hr.few;refine DX (fun i (z:Aw×A0)=>z.2.1=((nt+1+tj:Nat):Int)∧z.2.2.1.length=i∧(∀x∈z.2.2.1,0<x∧x< ((nt+1+x2.length:Nat):Int))∧0≤z.2.2.2∧z.2.2.2≤nl) (by omega) ⟨rfl,rfl,by simp,by simp,by simp⟩ (fun i z hi h=> ?_) fun z hz=> ?_
  ·obtain ⟨w,u1,u2,u3⟩:=z;obtain ⟨rfl,hu,hus,hu3,hu3'⟩:=h;dsimp only at hu hus hu3 hu3' ⊢;have hy:=bN hi;have hym:=hr.right _ (bY hi);refine AY hy (AL (Q:=fun t=>0<t∧t< ((nt+1+x2.length:Nat):Int)) ?_ fun t ht=> ?_)
   ·rcases hym with ⟨q,hq,e⟩|⟨q,hq,e⟩
    ·rw [e];exact (N2 hT hnt hq).mono fun k hk=>by subst hk;omega
    ·rw [e];refine (Js (nv:=nv) hT hnt hnv (by omega) hq (hVm q hq)).mono fun k hk=> ?_;obtain ⟨j,rfl,hj⟩:=hk
     have:=(List.getElem?_eq_some_iff.1 hj).1
     omega
   ·refine AU (decide_eq_false (by omega)) (BW (by simp only [cK,cX];omega) ?_);refine AL (Q:=fun (z:A0)=>z.1=((nt+1+tj:Nat):Int)∧z.2.1=u2++ [t] ∧0≤z.2.2∧z.2.2≤nl) (AX (fun hc=> ?_) fun _=>AC ⟨rfl,rfl,hu3,hu3'⟩) fun z hz=> ?_
    ·have hc:=of_decide_eq_true hc;have hq:t.toNat<x4.length:=by omega
     refine Dn (by omega) (bN hq) (AC ⟨rfl,rfl,h4' _ (bY hq)⟩)
    ·obtain ⟨z1,z2,z3⟩:=z;obtain ⟨rfl,rfl,a,b⟩:=hz;refine Ds ⟨rfl,by simp [hu],fun x hx'=> ?_,a,b⟩;rcases List.mem_append.1 hx' with h | h
     ·exact hus x h
     ·obtain rfl:=List.mem_singleton.1 h;exact ht
  ·obtain ⟨w2,u1,u2,u3⟩:=z;obtain ⟨rfl,hu,hus,hu3,hu3'⟩:=hz;dsimp only at hu hus hu3 hu3' ⊢;refine AL (Q:=fun e=>∃(y:A0×Aw),e=cE y∧y.1.1=((nt+1+tj:Nat):Int)∧y.1.2.1=u2∧0≤y.1.2.2∧y.1.2.2≤nl) (AX (fun hc=> ?_) fun hc=>AC ⟨_,rfl,rfl,rfl,hu3,hu3'⟩) fun e he=> ?_
   ·refine AL (KQ H _) fun t ht=> ?_;rcases hr.prec with h | ⟨i,hi,h⟩
    ·rw [h,Ch]at hc;simp at hc
    ·refine AU (beq_eq_false_iff_ne.2 (ht.2.2 i hi h)) (AC ⟨_,rfl,rfl,rfl,ht.1,ht.2.1⟩)
   ·obtain ⟨⟨⟨v1,v2,v3⟩,v4⟩,rfl,ev1,ev2,hv3,hv3'⟩:=he;dsimp only at hv3 hv3' ev1 ev2 ⊢;subst ev1 ev2;refine BW (by simp only [cK,cX];omega) (Ds ⟨rfl,rfl,by simp [hlen],?_,fun j r hj hr'=> ?_,rfl,rfl⟩)
    ·rw [bX (by omega)];exact h0
    ·rcases dR j x3.length with gj | gj
     ·rw [bX gj]at hr';exact hrs j r hj hr'
     ·have hjl:=(List.getElem?_eq_some_iff.1 hr').1;simp at hjl
      have:j=x3.length:=by omega
      subst this;rw [cV (dB _),Nat.sub_self]at hr';cases hr';refine ⟨⟨⟨by dsimp only;omega,by dsimp only;omega⟩,by dsimp only;omega,hus,hv3,hv3'⟩,g.2.2.2.2[k],bY hk,by rw [hlen];exact hx,?_⟩;dsimp only;rw [show ((nt+1+tj:Nat):Int).toNat - (nt+1)=tj by omega,htj,hvl]
 obtain ⟨w,x1,x2,rules,x4,x5,x6⟩:=z;obtain ⟨e1,e2,hlen,h0,hrs,e4,e5⟩:=hz;dsimp only at hlen h0 hrs e1 e2 e4 e5 ⊢;subst e1 e2 e4 e5;refine AL (Es (by omega)) fun t ht=> ?_;rcases ht with ⟨rfl,ht⟩|⟨j,rfl,ht⟩
 ·exact absurd (hVm 0 (by omega)) ht
 refine AU (decide_eq_false (by omega)) (AC ⟨⟨hnt1,hnt⟩,hnl,hT,⟨hVpos,by dsimp only;omega⟩,⟨((nt+1+sj:Nat):Int),by omega,by dsimp only;omega,h0⟩,fun k r hk hr=>(hrs k r hk hr).1,⟨by dsimp only;omega,by dsimp only;omega⟩,fun v hv=> ?_,⟨h4,h4'⟩,h5⟩);dsimp only at hv ⊢;have hvx:=bN hv;obtain ⟨r,hr1,hr2⟩:=hfr _ (bY hv);obtain ⟨i,hi⟩:=dA hr1;have hil:=(List.getElem?_eq_some_iff.1 hi).1;have hri:=bN (show i+1<rules.length by omega);obtain ⟨hp,r',_,h1,h2⟩:=hrs (i+1) _ (by omega) hri;rw [Nat.add_sub_cancel,hi]at h1;cases h1;refine ⟨_,bY (show i+1<rules.length by omega),?_⟩;have hl:=hp.left;rw [hr2]at h2;obtain ⟨hq,h2⟩:=List.getElem?_eq_some_iff.1 h2
 have:=NF hV.once hq hv h2
 omega
theorem N3 {s:Ib}(G:SmG s) (F:SmF 20 8 s):Ok (A2 s) fun p=>∃nt nl,Pl nt nl p:=by
 unfold A2;exact AL (LI G F) fun g hg=>AL (PB hg) fun p hp=>AC ⟨_,_,hp⟩
abbrev Rl:Type:=List A0
def beh (R:Rl) (x:Item):Int:=match R[x.1.toNat]? with
 |some r=>(r.2.1[x.2.toNat]?).getD (-1)
 |none=> -1
def OkI (R:Rl) (x:Item):Prop:=0≤x.1∧0≤x.2∧ ∃r,R[x.1.toNat]? =some r∧x.2.toNat≤r.2.1.length
structure VP (nT:Int) (R:Rl):Prop where
 t0:0≤nT
 left:∀r∈R,nT≤r.1
 right:∀r∈R,∀s∈r.2.1,0≤s
 few:R.length≤100
 short:∀r∈R,r.2.1.length≤100
theorem Hy {p:Aw}{x:Item}(h:OkI p.2.2.1 x):BK (qA p B1 0) x=some (beh p.2.2.1 x):=by
 obtain ⟨h0,h1,r,h2,h3⟩:=h;refine Ok.eq ?_;unfold BK;refine Dn h0 h2 ?_;have e:beh p.2.2.1 x=(r.2.1[x.2.toNat]?).getD (-1):=by unfold beh;rw [h2]
 refine AX (fun hc=> ?_) fun hc=> ?_
 ·have hc:=of_decide_eq_true hc;refine AC ?_;rw [e,dJ (by omega)];rfl
 ·have hc:=of_decide_eq_false hc;have hl:x.2.toNat<r.2.1.length:=by omega
  refine Dn h1 (bN hl) (AC ?_);rw [e,bN hl];rfl
theorem Ol {nT:Int}{R:Rl}(V:VP nT R) {x:Item}(h:OkI R x):beh R x= -1∨0≤beh R x:=by
 obtain ⟨h0,h1,r,h2,h3⟩:=h;unfold beh;rw [h2];dsimp only;cases e:r.2.1[x.2.toNat]? with
 |none=>exact .inl rfl
 |some s=>exact .inr (V.right r (bZ h2) s (bZ e))
theorem N4 (q:Aw) (s:Int):DV q s=some (decide (0≤s) && decide (s< (q.1.length:Int))):=by
 refine Ok.eq ?_;unfold DV;refine AL (Q:=fun b=>b=(decide (0≤s) && decide (s< (q.1.length:Int)))) (AX (fun h=>AC ?_) fun h=>AC ?_) fun b hb=>AC hb
 ·rw [decide_eq_true (show 0≤s from of_decide_eq_true h),Bool.true_and]
 ·rw [decide_eq_false (show ¬0≤s from of_decide_eq_false h),Bool.false_and]
theorem KR {l:List Item}{x:Item}(h:l.length≤9223372036854775807):Ap l x=some (decide (x∈l)):=by
 refine Ok.eq ?_;unfold Ap BH;refine AL (Q:=fun k=>(k= -1∧x∉l)∨(0≤k∧x∈l)) ?_ fun k hk=>AC ?_
 ·refine Ho l (fun _ y=>decide (x=y)) (fun k _=>k) h (fun j y hy=> ?_) (fun hn=>AC (.inl ⟨rfl,fun hm=> ?_⟩)) fun j y hy hq _=>AC (.inr ⟨by omega,?_⟩)
  ·rw [Gw,hy,cJ];have e:((x.1,x.2).1==y.1 && ((x.1,x.2).2==y.2 && true))=decide (x=y):=by
    obtain ⟨a,b⟩:=x;obtain ⟨c,d⟩:=y;rw [Bool.and_true,Bool.eq_iff_iff];simp
   rw [e];cases decide (x=y) <;>rfl
  ·obtain ⟨j,hj⟩:=dA hm
   have:=hn j x hj
   simp at this
  ·have:=of_decide_eq_true hq
   subst this;exact bZ hy
 ·rcases hk with ⟨rfl,h⟩|⟨h0,h⟩
  ·rw [decide_eq_false h];rfl
  ·rw [decide_eq_true h];exact decide_eq_true h0
inductive Cl (R:Rl) (K:List Item):Item→Prop
 |base {x:Item} :x∈K→Cl R K x
 |step {y:Item} {k:Nat} {r:A0} :Cl R K y→R[k]? =some r→r.1=beh R y→Cl R K ((k:Int),0)
def Lt (x y:Item):Prop:=x.1<y.1∨x.1=y.1∧x.2<y.2
theorem Lt.irrefl (x:Item):¬Lt x x:=by unfold Lt;omega
theorem Lt.trans {x y z:Item}(h1:Lt x y) (h2:Lt y z):Lt x z:=by unfold Lt at *;omega
theorem MN {l:List Item}(h:l.Nodup):(Ep l).Pairwise Lt:=by
 have h1:=Il Hk Hl l;have h2:(Ep l).Nodup:=(CD _ l).nodup_iff.2 h;refine ((List.pairwise_and_iff.2 ⟨h1,List.nodup_iff_pairwise_ne.1 h2⟩).imp fun {a b} h=> ?_);obtain ⟨h3,h4⟩:=h;simp only [Cg,Bool.not_eq_true',decide_eq_false_iff_not]at h3;have h5:¬(a.1=b.1∧a.2=b.2):=fun e=>h4 (fA e.1 e.2);unfold Lt;omega
theorem LJ {l:List Item}{x:Item}:x∈Ep l↔x∈l:=(CD _ l).mem_iff
theorem I9 (l:List Item):(Ep l).length=l.length:=(CD _ l).length_eq
theorem Iu {R:Rl}{E:List Item}(hn:E.Nodup) (h:∀x∈E,∃k:Nat,k<R.length∧x=((k:Int),0)):E.length≤R.length:=by
 have:=List.Nodup.length_le_of_subset (l₂:=(fB R.length).map fun k:Nat=>((k:Int),(0:Int))) hn (fun x hx=>by
  obtain ⟨k,h1,h2⟩:=h x hx;exact List.mem_map.2 ⟨k,List.mem_range.2 h1,h2.symm⟩)
 simpa using this
structure Jt (R:Rl) (K C:List Item):Prop where
 up:C.Pairwise Lt
 mem:∀x,x∈C↔Cl R K x
 len:C.length≤K.length+R.length
theorem Cl.ok {R:Rl}{K:List Item}(hK:∀x∈K,OkI R x) {x:Item}(h:Cl R K x):OkI R x:=by
 induction h with
 |base h=>exact hK _ h
 | @step y k r _ h1 h2 _=>exact ⟨by dsimp only;omega,by dsimp only;omega,r,by simpa using h1,by simp⟩
set_option maxHeartbeats 1000000 in
theorem LK {p:Aw}(V:VP (p.1.length:Int) p.2.2.1) {K:List Item}(hK:∀x∈K,OkI p.2.2.1 x) (hn:K.Nodup) (hl:K.length≤1000000):Ok (At (qA p B1 0) K) (Jt p.2.2.1 K):=by
 unfold At;have hf:=V.few;refine AK (x:=K) (by unfold EF;rw [if_pos (by omega)]) ?_
 generalize hR:p.2.2.1=R at *
 refine CG (fun (z:Int×List Item×List (Int×Bool))=>0≤z.1∧z.1≤(z.2.1.length:Int)∧(∃E:List Item,z.2.1=K++E∧E.Nodup∧ ∀x∈E,∃k:Nat,k<R.length∧x=((k:Int),0))∧z.2.1.Nodup∧(∀x∈z.2.1,Cl R K x)∧
  (∀s,CW s z.2.2=some true→ ∀(k:Nat) r,R[k]? =some r→r.1=s→((k:Int),(0:Int))∈z.2.1)∧
  ∀(j:Nat) x,(j:Int) <z.1→z.2.1[j]? =some x→ ∀(k:Nat) r,R[k]? =some r→r.1=beh R x→((k:Int),(0:Int))∈z.2.1)
  (fun z=>K.length+R.length - z.1.toNat) (fun b=>b.1.Nodup∧b.1.length≤K.length+R.length∧ ∀x,x∈b.1↔Cl R K x)
  ⟨dV _,by dsimp only;omega,⟨[],by simp,by simp,by simp⟩,hn,fun x hx=>.base hx,(fun s h=>by cases h),fun j x h=>absurd h (by dsimp only;omega)⟩ (fun z hz=> ?_) fun b hb=> ?_
 ·obtain ⟨i,out,come⟩:=z;obtain ⟨h0,h1,hE,hno,hcl,hco,hdo⟩:=hz;dsimp only at h0 h1 hE hno hcl hco hdo ⊢;obtain ⟨E,eE,nE,mE⟩:=hE;have lE:=Iu nE mE;have lo:out.length≤K.length+R.length:=by rw [eE,cG];omega
  refine AX (fun hc=> ?_) fun hc=>A7 ⟨hno,lo,fun x=>⟨hcl x,fun h=> ?_⟩⟩
  ·have hc:=of_decide_eq_true hc;have hi:i.toNat<out.length:=by omega
   have hx:=bN hi;have hxm:=bY hi
   generalize out[i.toNat] =x at hx hxm
   have hox:=(hcl x hxm).ok hK;refine AL (Q:=fun (y:List Item×List (Int×Bool))=>(∃E:List Item,y.1=K++E∧E.Nodup∧ ∀x∈E,∃k:Nat,k<R.length∧x=((k:Int),0))∧y.1.Nodup∧(∀x∈y.1,Cl R K x)∧(∃E2,y.1=out++E2)∧
    (∀s,CW s y.2=some true→ ∀(k:Nat) r,R[k]? =some r→r.1=s→((k:Int),(0:Int))∈y.1)∧ ∀(k:Nat) r,R[k]? =some r→r.1=beh R x→((k:Int),(0:Int))∈y.1) ?_ fun y hy=> ?_
   ·refine Dn h0 hx (AK (x:=beh R x) (by have:=Hy (p:=p) (x:=x) (by rw [hR];exact hox);rw [hR]at this;exact this) ?_);have hb:=Ol V hox
    generalize hs:beh R x=s at hb
    have no:s<0∨s< (p.1.length:Int)→ ∀(k:Nat) r,R[k]? =some r→r.1=s→((k:Int),(0:Int))∈out:=fun h k r hr e=>by
     have:=V.left r (bZ hr)
     omega
    refine AL (Q:=fun b=>(b=true→ ∀(k:Nat) r,R[k]? =some r→r.1=s→((k:Int),(0:Int))∈out)) (AX (fun hc=>AC fun _=>no (.inl (of_decide_eq_true hc))) fun hc=> ?_) fun b hb'=> ?_
    ·have hc:=of_decide_eq_false hc;refine AK (N4 _ _) (AX (fun ht=>AC fun _=>no (.inr ?_)) fun ht=> ?_)
     ·simp only [eB,decide_eq_true_eq]at ht;exact ht.2
     ·refine AK rfl (AC fun h=>hco s ?_);cases hm:CW s come with
      |none=>rw [hm]at h;cases h
      |some b=>rw [hm]at h;exact congrArg some h
    ·refine AX (fun hc=>AC ⟨⟨E,eE,nE,mE⟩,hno,hcl,⟨[],by simp⟩,hco,hb' hc⟩) fun hc=>Cn (fun k (z:List Item)=>(∃E2:List Item,z=out++E2∧ ∀x∈E2,∃q:Nat,q<R.length∧x=((q:Int),0)∧ ∃r,R[q]? =some r∧r.1=s)∧z.Nodup∧ ∀(q:Nat) r,q<k→R[q]? =some r→r.1=s→((q:Int),(0:Int))∈z) (by omega) ⟨⟨[],by simp,by simp⟩,hno,fun q r h=>by omega⟩ (fun k z hk hz=> ?_) fun z hz=> ?_
     ·obtain ⟨⟨E2,e2,m2⟩,n2,d2⟩:=hz;have hr:=bN hk;have lz:z.length≤K.length+R.length:=by
       obtain ⟨n3,n4,n5⟩:=List.nodup_append.1 (show (K++(E++E2)).Nodup by rw [←cT,←eE,←e2];exact n2)
       have:=Iu (R:=R) n4 (fun x hx=>by
        rcases List.mem_append.1 hx with h | h
        ·exact mE x h
        ·obtain ⟨q,a,b,_⟩:=m2 x h;exact ⟨q,a,b⟩)
       rw [e2,eE,cT,cG];omega
      refine AY hr (AL (Q:=fun b=>(b=true→R[k].1=s∧((k:Int),(0:Int))∉z)∧(b=false→R[k].1=s→((k:Int),(0:Int))∈z)) (AX (fun hc=> ?_) fun hc=>AC ⟨by simp,fun _ e=> ?_⟩) fun b hb2=> ?_)
      ·refine AK (KR (by omega)) (AC ⟨fun h=>⟨eq_of_beq hc,?_⟩,fun h _=> ?_⟩)
       ·simpa using h
       ·simpa using h
      ·rw [e]at hc;simp at hc
      ·refine AL (Q:=fun (z':List Item)=>(∃E2:List Item,z'=out++E2∧ ∀x∈E2,∃q:Nat,q<R.length∧x=((q:Int),0)∧ ∃r,R[q]? =some r∧r.1=s)∧z'.Nodup∧ ∀(q:Nat) r,q<k+1→R[q]? =some r→r.1=s→((q:Int),(0:Int))∈z') (AX (fun hc=> ?_) fun hc=>AC ⟨⟨E2,e2,m2⟩,n2,fun q r hq hr' e=> ?_⟩) fun z' hz'=>AC hz'
       ·obtain ⟨g1,g2⟩:=hb2.1 hc;refine BW (by simp only [cK,cX];omega) (AC ⟨⟨E2++ [((k:Int),0)],by rw [e2,cT],fun x hx=> ?_⟩,?_,fun q r hq hr' e=> ?_⟩)
        ·rcases List.mem_append.1 hx with h | h
         ·exact m2 x h
         ·exact ⟨k,hk,List.mem_singleton.1 h,_,hr,g1⟩
        ·refine List.nodup_append.2 ⟨n2,by simp,fun x hx y hy hxy=>g2 ?_⟩;rw [←List.mem_singleton.1 hy,←hxy];exact hx
        ·rcases Nat.lt_succ_iff_lt_or_eq.1 hq with h | rfl
         ·exact cL _ (d2 q r h hr' e)
         ·exact dK _ (List.mem_singleton.2 rfl)
       ·rcases Nat.lt_succ_iff_lt_or_eq.1 hq with h | rfl
        ·exact d2 q r h hr' e
        ·rw [hr]at hr';cases hr';exact hb2.2 hc e
     ·obtain ⟨⟨E2,e2,m2⟩,n2,d2⟩:=hz;have hall:∀(k:Nat) r,R[k]? =some r→r.1=s→((k:Int),(0:Int))∈z:=fun k r hr e=>d2 k r (List.getElem?_eq_some_iff.1 hr).1 hr e;refine AC ⟨⟨E++E2,by rw [e2,eE,cT],?_,fun x hx=> ?_⟩,n2,fun x hx=> ?_,⟨E2,e2⟩,fun s' hs' k r hr e=> ?_,hall⟩
      ·exact (List.nodup_append.1 (show (K++(E++E2)).Nodup by rw [←cT,←eE,←e2];exact n2)).2.1
      ·rcases List.mem_append.1 hx with h | h
       ·exact mE x h
       ·obtain ⟨q,a,b,_⟩:=m2 x h;exact ⟨q,a,b⟩
      ·dsimp only at hx;rw [e2]at hx;rcases List.mem_append.1 hx with h | h
       ·exact hcl x h
       ·obtain ⟨q,a,b,r,c,d⟩:=m2 x h;rw [b];exact .step (hcl _ hxm) c (by rw [d,hs])
      ·dsimp only at hs' ⊢;rw [JM]at hs';split at hs'
       ·rename_i e'
        exact hall k r hr (by rw [e,e'])
       ·rw [e2];exact cL _ (hco s' hs' k r hr e)
   ·obtain ⟨out',come'⟩:=y;obtain ⟨⟨E',eE',nE',mE'⟩,hno',hcl',⟨E2,e2⟩,hco',hx'⟩:=hy;dsimp only at eE' hno' hcl' e2 hco' hx' ⊢;have hw:bM .i64 (i+(1:Int))=i+1:=w64 (by omega) (by omega);have lo':out.length≤out'.length:=by rw [e2,cG];omega
    refine Bi ⟨⟨by dsimp only;rw [hw];omega,by dsimp only;rw [hw];omega,⟨E',eE',nE',mE'⟩,hno',hcl',hco',fun j y hj hy k r hr e=> ?_⟩,by dsimp only;rw [hw];omega⟩;dsimp only at hj hy ⊢;rw [hw]at hj;rcases eC j i with g | g
    ·rw [e2,bX (by omega)]at hy;rw [e2];exact cL _ (hdo j y g hy k r hr e)
    ·have:j=i.toNat:=by omega
     subst this;rw [e2,bX (by omega),hx]at hy;cases hy;exact hx' k r hr e
  ·have hc:=of_decide_eq_false hc
   induction h with
   |base h=>rw [eE];exact cL _ h
   | @step y k r _ g1 g2 ih=>
    obtain ⟨j,hj⟩:=dA ih
    have:=(List.getElem?_eq_some_iff.1 hj).1
    dsimp only at this;exact hdo j y (by omega) hj k r g1 g2
 ·obtain ⟨b1,b2,b3⟩:=hb;refine AK (x:=Ep b.1) (by unfold Fu;rw [if_pos (by omega)]) (AC ⟨MN b1,fun x=>LJ.trans (b3 x),by rw [I9];exact b2⟩)
theorem Hz (u:Nat):∀b∈Lib.decDigits u,48≤b.toNat∧b.toNat≤57:=by
 induction u using eD with
 |ind u ih=>
  intro b hb;rw [Lib.decDigits]at hb;split at hb
  ·rename_i h
   have hb:=List.mem_singleton.1 hb;subst hb
   have:(dC (48+u)).toNat=48+u:=by simp;omega
   omega
  ·rename_i h
   rcases List.mem_append.1 hb with hb | hb
   ·exact ih (u / 10) (by omega) b hb
   ·have hb:=List.mem_singleton.1 hb;subst hb
    have:(dC (48+u % 10)).toNat=48+u % 10:=by simp;omega
    omega
def Om (l:List UInt8):Nat:=l.foldl (fun a b=>a *10+(b.toNat - 48)) 0
theorem KS (u:Nat):Om (Lib.decDigits u)=u:=by
 induction u using eD with
 |ind u ih=>
  rw [Lib.decDigits];split
  ·rename_i h
   have:(dC (48+u)).toNat=48+u:=by simp;omega
   simp only [Om,List.foldl_cons,List.foldl_nil,this];omega
  ·rename_i h
   have e:(dC (48+u % 10)).toNat=48+u % 10:=by simp;omega
   have:=ih (u / 10) (by omega)
   unfold Om at this ⊢;rw [eA,this];simp only [List.foldl_cons,List.foldl_nil,e];omega
theorem Lj {u v:Nat}(h:Lib.decDigits u=Lib.decDigits v):u=v:=by rw [←KS u,h,KS]
theorem MO (i:Int):∀b∈Lib.itoa i,b=45∨(48≤b.toNat∧b.toNat≤57):=by
 intro b hb;unfold Lib.itoa at hb;split at hb
 ·rcases List.mem_cons.1 hb with hb | hb
  ·exact .inl hb
  ·exact .inr (Hz _ b hb)
 ·exact .inr (Hz _ b hb)
theorem NG {i j:Int}(h:Lib.itoa i=Lib.itoa j):i=j:=by
 have no45:∀(u:Nat) (r:List UInt8),Lib.decDigits u≠45::r:=fun u r e=>by
  have:=Hz u 45 (by rw [e];simp)
  simp at this
 unfold Lib.itoa at h;split at h<;>split at h
 ·have:=Lj (List.cons.inj h).2;omega
 ·exact absurd h.symm (no45 _ _)
 ·exact absurd h (no45 _ _)
 ·have:=Lj h;omega
theorem DH (i:Int):∀x∈Bt i,GQ x=true∧x≠32∧x≠46:=by
 intro x hx;unfold Bt at hx;obtain ⟨b,hb,rfl⟩:=List.mem_map.1 hx;unfold GQ;simp only [eB,decide_eq_true_eq];rcases MO i b hb with rfl | h
 ·decide
 ·omega
theorem Iv {i j:Int}(h:Bt i=Bt j):i=j:=by
 unfold Bt at h;refine NG<|List.map_inj_right (f:=fun b:UInt8=>(b.toNat:Int)) ?_ |>.1 h;intro a b hab
 have:a.toNat=b.toNat:=by omega
 exact UInt8.toNat_inj.1 this
theorem Fw {i:Int}(h0: -9223372036854775808≤i) (h1:i≤9223372036854775807):(Bt i).length≤21:=by
 unfold Bt;rw [dD];exact Lib.itoa_length_le i h0 h1
def EA:List Item→List Int
 | [] =>[]
 |x::l=>Bt x.1++46::(Bt x.2++32::EA l)
theorem KT (l m:List Item):EA (l++m)=EA l++EA m:=by
 induction l with
 |nil=>rfl
 |cons x l ih=>simp [EA,ih]
theorem KU {c:Int}:∀ {a b r s:List Int},(∀x∈a,x≠c)→(∀x∈b,x≠c)→a++c::r=b++c::s→a=b∧r=s:=by
 intro a
 induction a with
 |nil=>
  intro b r s _ hb h;cases b with
  |nil=>simpa using h
  |cons y b=>simp at h;exact absurd h.1.symm (hb y (by simp))
 |cons x a ih=>
  intro b r s ha hb h;cases b with
  |nil=>simp at h;exact absurd h.1 (ha x (by simp))
  |cons y b=>
   simp at h;obtain ⟨h1,h2⟩:=ih (fun z hz=>ha z (by simp [hz])) (fun z hz=>hb z (by simp [hz])) h.2;exact ⟨by rw [h.1,h1],h2⟩
theorem NH:∀ {a b:List Item},EA a=EA b→a=b:=by
 intro a
 induction a with
 |nil=>
  intro b h;cases b with
  |nil=>rfl
  |cons y b=>simp [EA]at h
 |cons x a ih=>
  intro b h;cases b with
  |nil=>simp [EA]at h
  |cons y b=>
   obtain ⟨h1,h2⟩:=KU (fun z hz=>(DH x.1 z hz).2.2) (fun z hz=>(DH y.1 z hz).2.2) h;obtain ⟨h3,h4⟩:=KU (fun z hz=>(DH x.2 z hz).2.1) (fun z hz=>(DH y.2 z hz).2.1) h2;rw [fA (Iv h1) (Iv h3),ih h4]
theorem H5 (l:List Item):∀x∈EA l,GQ x=true:=by
 induction l with
 |nil=>intro x hx;cases hx
 |cons y l ih=>
  intro x hx;simp only [EA,dX,List.mem_cons]at hx;rcases hx with h | rfl | h | rfl | h
  ·exact (DH _ x h).1
  ·decide
  ·exact (DH _ x h).1
  ·decide
  ·exact ih x h
def I64 (l:List Item):Prop:= ∀x∈l,0≤x.1∧x.1≤1000000∧0≤x.2∧x.2≤1000000
theorem NI {l:List Item}(h:I64 l):(EA l).length≤l.length *44:=by
 induction l with
 |nil=>simp [EA]
 |cons x l ih=>
  have a:=h x (by simp)
  have:=ih fun y hy=>h y (by simp [hy])
  have h1:=Fw (i:=x.1) (by omega) (by omega);have h2:=Fw (i:=x.2) (by omega) (by omega);simp only [EA,cG,cK];omega
def LL (l:List Item):ByteArray:=⟨((EA l).map fun x=>dC x.toNat).toArray⟩
theorem LM {x:Int}(h:GQ x=true):((dC x.toNat).toNat:Int)=x:=by
 unfold GQ at h;simp only [eB,decide_eq_true_eq]at h;simp;omega
theorem NJ {a b:List Item}(h:LL a=LL b):a=b:=by
 unfold LL at h;simp only [ByteArray.mk.injEq]at h;have h1:∀l:List Int,(∀x∈l,GQ x=true)→(l.map fun x=>dC x.toNat).map (fun b=>(b.toNat:Int))=l:=fun l hl=>by
  rw [List.map_map]
  conv=>rhs;rw [←List.map_id l]
  refine List.map_congr_left fun x hx=>LM (hl x hx)
 refine NH ?_;rw [←h1 (EA a) (H5 a),←h1 (EA b) (H5 b)];rw [List.toArray_inj h]
theorem On {l:List Item}(h:I64 l) (hl:l.length≤20000):Cm l=some (LL l):=by
 refine Ok.eq ?_;unfold Cm;refine Cn (fun k (z:List Int)=>z=EA (l.take k)) (by omega) rfl (fun k z hk hz=> ?_) fun z hz=> ?_
 ·subst hz;have hx:=bN hk;have a:=h _ (bY hk);have e:EA (l.take (k+1))=EA (l.take k) ++EA [l[k]]:=by rw [dE,hx,KT];rfl
  have hlen:=NI (l:=l.take k) fun y hy=>h y (eH hy)
  have:(l.take k).length≤k:=by rw [dH];omega
  have h1:=Fw (i:=l[k].1) (by omega) (by omega);have h2:=Fw (i:=l[k].2) (by omega) (by omega);have c1:Cf (EA (l.take k)) l[k].1 10=some (EA (l.take k) ++Bt l[k].1):=by unfold Cf;rw [if_pos ⟨rfl,by omega,by omega,by omega⟩]
  refine AY hx (AK c1 (BW (by simp;omega) ?_));have c2:Cf (EA (l.take k) ++Bt l[k].1++ [46]) l[k].2 10=some (EA (l.take k) ++Bt l[k].1++ [46] ++Bt l[k].2):=by unfold Cf;rw [if_pos ⟨rfl,by omega,by omega,by simp;omega⟩]
  refine AK c2 (BW (by simp;omega) (AC ?_));rw [e];simp [EA]
 ·subst hz;rw [cY (dB _)];refine AK (x:=LL l) ?_ (AC rfl);unfold Lc LL;rw [if_pos (List.all_eq_true.2 (H5 l))]
def nx (R:Rl) (l:List Item) (s:Int):List Item:=(l.filter fun x=>beh R x==s).map fun x=>(x.1,x.2+1)
theorem OkI.dot {nT:Int}{R:Rl}(V:VP nT R) {x:Item}(h:OkI R x):x.1≤1000∧x.2≤1000:=by
 obtain ⟨h0,h1,r,h2,h3⟩:=h
 have:=V.short r (bZ h2)
 have:=(List.getElem?_eq_some_iff.1 h2).1
 have:=V.few
 omega
theorem OkI.i64 {nT:Int}{R:Rl}(V:VP nT R) {l:List Item}(h:∀x∈l,OkI R x):I64 l:=fun x hx=>by
 have:=(h x hx).dot V
 have:=(h x hx).1
 have:=(h x hx).2.1
 omega
theorem N5 {p:Aw}{nT:Int}(V:VP nT p.2.2.1) {l:List Item}(h:∀x∈l,OkI p.2.2.1 x) (hl:l.length≤1000000) (s:Int):BU (qA p B1 0) l s=some (nx p.2.2.1 l s):=by
 refine Ok.eq ?_;unfold BU;refine Cn (fun k (z:List Item)=>z=nx p.2.2.1 (l.take k) s) (by omega) rfl (fun k z hk hz=> ?_) fun z hz=>AC (by rw [hz,cY (dB _)]);subst hz;have hx:=bN hk;have a:=h _ (bY hk);have ad:=a.dot V;have a2:=a.2.1;have e:nx p.2.2.1 (l.take (k+1)) s=nx p.2.2.1 (l.take k) s++nx p.2.2.1 [l[k]] s:=by
  rw [dE,hx];unfold nx;rw [eL,dN];rfl
 have hlen:(nx p.2.2.1 (l.take k) s).length≤k:=by
  unfold nx;rw [dD]
  have:=dL (fun x=>beh p.2.2.1 x==s) (l.take k)
  rw [dH]at this;omega
 refine AY hx (AK (Hy a) ?_);refine AL (Q:=fun z=>z=nx p.2.2.1 (l.take (k+1)) s) (AX (fun hc=> ?_) fun hc=>AC ?_) fun z hz=>AC hz
 ·refine BW (by simp;omega) (AC ?_);rw [e,w64 (by omega) (by omega)];unfold nx;rw [dS,if_pos hc];rfl
 ·rw [e];unfold nx;rw [dS,if_neg (by rw [hc];decide)];simp
theorem Ju {R:Rl}{l:List Item}{s:Int}{y:Item}:y∈nx R l s↔∃x∈l,beh R x=s∧y=(x.1,x.2+1):=by
 unfold nx;simp only [List.mem_map,List.mem_filter,beq_iff_eq];constructor
 ·rintro ⟨x,⟨h1,h2⟩,h3⟩;exact ⟨x,h1,h2,h3.symm⟩
 ·rintro ⟨x,h1,h2,h3⟩;exact ⟨x,⟨h1,h2⟩,h3.symm⟩
theorem KV {R:Rl}{l:List Item}(h:l.Pairwise Lt) (s:Int):(nx R l s).Pairwise Lt:=by
 unfold nx;rw [List.pairwise_map];exact (h.filter _).imp fun {a b} h=>by unfold Lt at *;dsimp only;omega
theorem Oo (R:Rl) (l:List Item) (s:Int):(nx R l s).length≤l.length:=by
 unfold nx;rw [dD];exact dL _ _
theorem KW {nT:Int}{R:Rl}(V:VP nT R) {l:List Item}(h:∀x∈l,OkI R x) {s:Int}(hs:0≤s):∀y∈nx R l s,OkI R y∧1≤y.2:=fun y hy=>by
 obtain ⟨x,h1,h2,rfl⟩:=Ju.1 hy;obtain ⟨g0,g1,r,g2,g3⟩:=h x h1;refine ⟨⟨g0,by dsimp only;omega,r,g2,?_⟩,by dsimp only;omega⟩;unfold beh at h2;rw [g2]at h2;dsimp only at h2 ⊢;rcases dR x.2.toNat r.2.1.length with g | g
 ·omega
 ·rw [dJ g]at h2;simp at h2;omega
def syr (R:Rl) (l:List Item):List Int:=(l.map (beh R)).filter fun s=>decide (0≤s)
def sy (R:Rl) (l:List Item):List Int:=Lib.compact (Gh (syr R l))
theorem LN {p:Aw}{l:List Item}(h:∀x∈l,OkI p.2.2.1 x) (hl:l.length≤1000000):BG (qA p B1 0) l=some (sy p.2.2.1 l):=by
 refine Ok.eq ?_;unfold BG;have hlen:∀k,(syr p.2.2.1 (l.take k)).length≤l.length:=fun k=>by
  unfold syr
  have:=dL (fun s=>decide (0≤s)) ((l.take k).map (beh p.2.2.1))
  rw [dD,dH]at this;omega
 refine Cn (fun k (z:List Int)=>z=syr p.2.2.1 (l.take k)) (by omega) rfl (fun k z hk hz=> ?_) fun z hz=> ?_
 ·subst hz;have hx:=bN hk;have a:=h _ (bY hk);have e:syr p.2.2.1 (l.take (k+1))=syr p.2.2.1 (l.take k) ++syr p.2.2.1 [l[k]]:=by
   rw [dE,hx];unfold syr;rw [dN,eL];rfl
  have:=hlen k
  refine AY hx (AK (Hy a) ?_);refine AL (Q:=fun z=>z=syr p.2.2.1 (l.take (k+1))) (AX (fun hc=> ?_) fun hc=>AC ?_) fun z hz=>AC hz
  ·refine BW (by simp;omega) (AC ?_);rw [e];unfold syr;rw [List.map_cons,dS,if_pos (by simpa using hc)];rfl
  ·rw [e];unfold syr;rw [List.map_cons,dS,if_neg (by simpa using hc)];simp
 ·subst hz
  have:=hlen l.length
  rw [cY (dB _)]at this ⊢;refine AK (x:=Gh (syr p.2.2.1 l)) (by unfold Le;rw [if_pos (by omega)])<|AK (x:=sy p.2.2.1 l) (by unfold Hi;rw [if_pos (by unfold Gh;rw [(CD _ _).length_eq];omega)];rfl) (AC rfl)
theorem KX (l:List Int):(Gh l).Pairwise (· ≤ ·):=by
 have h1:=Il (le:=fun x y:Int=>decide (x≤y)) (by
  intro a b c h1 h2;simp only [decide_eq_true_eq]at *
  omega) (by
  intro a b;simp only [Bool.or_eq_true,decide_eq_true_eq]
  omega) l
 exact h1.imp fun {a b} h=>of_decide_eq_true h
theorem JP {l:List Int}(h:l.Pairwise (· ≤ ·)):∀m,m≤l.length→(Lib.compactUpTo l.toArray m).Pairwise (· < ·)∧(∀x,x∈Lib.compactUpTo l.toArray m↔x∈l.take m):=by
 intro m
 induction m with
 |zero=>intro _;exact ⟨.nil,fun x=>by simp [Lib.compactUpTo]⟩
 |succ m ih=>
  intro hm;obtain ⟨h1,h2⟩:=ih (by omega);rw [Lib.compactUpTo_succ];have hx:=bN (show m<l.length by omega);have e0:l.toArray[m]! =l[m]:=by rw [getElem!_pos _ m (by simp;omega)];simp
  have et:l.take (m+1)=l.take m++ [l[m]]:=by rw [dE,hx];rfl
  have le:∀x∈l.take m,x≤l[m]:=fun x hx=>by
   obtain ⟨j,hj,rfl⟩:=eJ hx;rw [dH]at hj;rw [eR];exact List.pairwise_iff_getElem.1 h j m (by omega) (by omega) (by omega)
  cases hk:Lib.keeps l.toArray m with
  |true=>
   rw [if_pos rfl,e0,et];refine ⟨List.pairwise_append.2 ⟨h1,by simp,fun x hx y hy=> ?_⟩,fun x=>by rw [dX,dX,h2]⟩;obtain rfl:=List.mem_singleton.1 hy;have hx':=(h2 x).1 hx
   have:=le x hx'
   unfold Lib.keeps at hk;have hk:=of_decide_eq_true hk;rcases hk with rfl | hk
   ·simp at hx'
   ·have e1:l.toArray[m - 1]! =l[m - 1]:=by rw [getElem!_pos _ (m - 1) (by simp;omega)];simp
    rw [e0,e1]at hk;have hm0:m≠0:=fun h0=>by subst h0;simp at hx'
    have hle:x≤l[m - 1]:=by
     obtain ⟨j,hj,rfl⟩:=eJ hx';rw [dH]at hj;rw [eR];rcases dR j (m - 1) with g | g
     ·exact List.pairwise_iff_getElem.1 h j (m - 1) (by omega) (by omega) (by omega)
     ·have:j=m - 1:=by omega
      subst this;exact dV _
    have:=List.pairwise_iff_getElem.1 h (m - 1) m (by omega) (by omega) (by omega)
    omega
  |false=>
   rw [if_neg (by decide),eF,et];refine ⟨h1,fun x=> ?_⟩;rw [h2,dX,List.mem_singleton];unfold Lib.keeps at hk;have hk:=of_decide_eq_false hk;have hm0:m≠0:=fun h0=>hk (.inl h0);have e1:l.toArray[m - 1]! =l[m - 1]:=by rw [getElem!_pos _ (m - 1) (by simp;omega)];simp
   have heq:l[m] =l[m - 1]:=by
    by_cases q:l[m] =l[m - 1]
    ·exact q
    ·exact absurd (.inr (by rw [e0,e1];exact q)) hk
   constructor
   ·exact .inl
   ·rintro (h | rfl)
    ·exact h
    ·rw [heq];refine bZ (i:=m - 1) ?_;rw [List.getElem?_take,if_pos (by omega),bN (by omega)]
theorem PC (R:Rl) (l:List Item):(sy R l).Pairwise (· < ·):=(JP (KX _) _ (dB _)).1
theorem H6 {R:Rl}{l:List Item}{s:Int}:s∈sy R l↔0≤s∧ ∃x∈l,beh R x=s:=by
 unfold sy Lib.compact;rw [(JP (KX _) _ (dB _)).2,cY (dB _)];unfold Gh;rw [(CD _ _).mem_iff];unfold syr;simp only [List.mem_filter,List.mem_map,decide_eq_true_eq];constructor
 ·rintro ⟨⟨x,h1,h2⟩,h3⟩;exact ⟨h3,x,h1,h2⟩
 ·rintro ⟨h3,x,h1,h2⟩;exact ⟨⟨x,h1,h2⟩,h3⟩
theorem LO (R:Rl) (l:List Item):(sy R l).length≤l.length:=by
 have h1:=Im (Gh (syr R l));have h2:(Gh (syr R l)).length=(syr R l).length:=(CD _ _).length_eq;have h3:(syr R l).length≤(l.map (beh R)).length:=dL _ _;rw [dD]at h3;unfold sy;omega
abbrev k0:List Item:=[((0:Int),(0:Int))]
noncomputable def clo (p:Aw) (K:List Item):List Item:=(At (qA p B1 0) K).getD []
abbrev VPp (p:Aw):Prop:=VP (p.1.length:Int) p.2.2.1
structure GF (R:Rl) (k:List Item):Prop where
 ok:∀x∈k,OkI R x
 up:k.Pairwise Lt
theorem Lt.nodup {l:List Item}(h:l.Pairwise Lt):l.Nodup:=List.nodup_iff_pairwise_ne.2 (h.imp fun {a b} h e=>by subst e;exact Lt.irrefl _ h)
theorem Dp {nT:Int}{R:Rl}(V:VP nT R) {l:List Item}(h:∀x∈l,OkI R x) (hn:l.Nodup):l.length≤10100:=by
 have:=List.Nodup.length_le_of_subset (l₂:=(fB 100).flatMap fun a=>(fB 101).map fun b=>(((a:Nat):Int),((b:Nat):Int))) hn (fun x hx=>by
  obtain ⟨h0,h1,r,h2,h3⟩:=h x hx
  have:=V.short r (bZ h2)
  have:=(List.getElem?_eq_some_iff.1 h2).1
  have:=V.few
  refine List.mem_flatMap.2 ⟨x.1.toNat,List.mem_range.2 (by omega),List.mem_map.2 ⟨x.2.toNat,List.mem_range.2 (by omega),?_⟩⟩;exact fA (by dsimp only;omega) (by dsimp only;omega))
 refine eS this ?_;rw [List.length_flatMap];simp only [dD,List.length_range];decide
theorem Dq {p:Aw}(V:VPp p) {K:List Item}(h:GF p.2.2.1 K):At (qA p B1 0) K=some (clo p K)∧Jt p.2.2.1 K (clo p K)∧GF p.2.2.1 (clo p K)∧(clo p K).length≤10100:=by
 have hl:=Dp V h.ok (Lt.nodup h.up);obtain ⟨C,h1,h2⟩:=LK V h.ok (Lt.nodup h.up) (by omega);have e:clo p K=C:=by unfold clo;rw [h1];rfl
 rw [e];have hg:GF p.2.2.1 C:=⟨fun x hx=>((h2.mem x).1 hx).ok h.ok,h2.up⟩;exact ⟨h1,h2,hg,Dp V hg.ok (Lt.nodup hg.up)⟩
noncomputable def DI (p:Aw) (B:List dtK) (k:List Item) (fr wi:Int):Nat×List dtK:=
 match B.findIdx? (fun b=>decide (b.1=k)) with
 |some i=>(i,B)
 |none=>(B.length,B++ [(k,clo p k,fr,wi)])
abbrev BE:Type:=List dtK×List (List Edge)
noncomputable def Ci (p:Aw) (b:dtK) (i:Nat) (y:BE) (s:Int):BE:=((DI p y.1 (nx p.2.2.1 b.2.1 s) (i:Int) s).2,(CQ y.2 y.1.length (DI p y.1 (nx p.2.2.1 b.2.1 s) (i:Int) s).2.length).set i ((((CQ y.2 y.1.length (DI p y.1 (nx p.2.2.1 b.2.1 s) (i:Int) s).2.length))[i]?).getD [] ++ [(s,(((DI p y.1 (nx p.2.2.1 b.2.1 s) (i:Int) s).1:Nat):Int))]))
noncomputable def CT (p:Aw) (b:dtK) (i:Nat) (l:List Int) (y:BE):BE:=l.foldl (Ci p b i) y
noncomputable def stM (p:Aw):Nat→BE
 | 0=>([(k0,clo p k0, -1, -1)],[[]])
 |n+1=>match (stM p n).1[n]? with
  |some b=>CT p b n (sy p.2.2.1 b.2.1) (stM p n)
  |none=>stM p n
noncomputable def mid (p:Aw) (n m:Nat):BE:=match (stM p n).1[n]? with
 |some b=>CT p b n ((sy p.2.2.1 b.2.1).take m) (stM p n)
 |none=>stM p n
theorem E6 (p:Aw) (B:List dtK) (k:List Item) (fr wi:Int):
 (∃i b,DI p B k fr wi=(i,B)∧B[i]? =some b∧b.1=k)∨(DI p B k fr wi=(B.length,B++ [(k,clo p k,fr,wi)])∧ ∀b∈B,b.1≠k):=by
 unfold DI;cases h:B.findIdx? (fun b=>decide (b.1=k)) with
 |none=>
  right
  refine ⟨rfl,fun b hb e=> ?_⟩
  have:=List.findIdx?_eq_none_iff.1 h b hb
  simp [e]at this
 |some i=>
  left
  obtain ⟨hi,h1,_⟩:=List.findIdx?_eq_some_iff_getElem.1 h;exact ⟨i,B[i],rfl,bN hi,of_decide_eq_true h1⟩
def E7 (R:Rl) (B:List dtK) (b:dtK) (syms:List Int) (e:List Edge):Prop:=
 e.map (·.1)=syms∧ ∀x∈e,∃(t:Nat) (bt:dtK),x.2=(t:Int)∧1≤t∧B[t]? =some bt∧bt.1=nx R b.2.1 x.1
structure Inv (p:Aw) (n:Nat) (syms:List Int) (y:BE):Prop where
 wf:∀b∈y.1,GF p.2.2.1 b.1∧b.2.1=clo p b.1
 len:y.2.length=y.1.length
 zero:y.1[0]? =some (k0,clo p k0, -1, -1)
 from_:∀(j:Nat) b,1≤j→y.1[j]? =some b→ ∃(f:Nat) (bf:dtK) (e:List Edge),f<j∧b.2.2.1=(f:Int)∧y.1[f]? =some bf∧b.1=nx p.2.2.1 bf.2.1 b.2.2.2∧b.2.2.2∈sy p.2.2.1 bf.2.1∧y.2[f]? =some e∧(b.2.2.2,(j:Int))∈e
 apart:∀(i j:Nat) bi bj,y.1[i]? =some bi→y.1[j]? =some bj→bi.1=bj.1→i=j
 done:∀(j:Nat) b e,j<n→y.1[j]? =some b→y.2[j]? =some e→E7 p.2.2.1 y.1 b (sy p.2.2.1 b.2.1) e
 cur:∀b e,y.1[n]? =some b→y.2[n]? =some e→E7 p.2.2.1 y.1 b syms e
 fresh:∀(j:Nat) e,n<j→y.2[j]? =some e→e= []
theorem E7.up {R:Rl}{B B':List dtK}{b:dtK}{syms:List Int}{e:List Edge}(H:E7 R B b syms e) (hB:∀(j:Nat) x,B[j]? =some x→B'[j]? =some x):E7 R B' b syms e:=
 ⟨H.1,fun x hx=>by obtain ⟨t,bt,h1,h2,h3,h4⟩:=H.2 x hx;exact ⟨t,bt,h1,h2,hB t bt h3,h4⟩⟩
theorem DY {α:Type}{l:List α}{x y:α}{j:Nat}(h:l[j]? =some y):(l++ [x])[j]? =some y:=by
 rw [bX (List.getElem?_eq_some_iff.1 h).1];exact h
theorem EP {α:Type}{l:List α}{y:α}{j:Nat}(h:l[j]? =some y):j<l.length:=(List.getElem?_eq_some_iff.1 h).1
theorem Inv.grow {p:Aw}{n:Nat}{syms:List Int}{B:List dtK}{E:List (List Edge)}(H:Inv p n syms (B,E)) (hn:n<B.length) {x:dtK}:(E++ [[]]).length=(B++ [x]).length∧(B++ [x])[0]? =some (k0,clo p k0, -1, -1)∧
 (∀(j:Nat) b e,j<n→(B++ [x])[j]? =some b→(E++ [[]])[j]? =some e→E7 p.2.2.1 (B++ [x]) b (sy p.2.2.1 b.2.1) e)∧
 (∀b e,(B++ [x])[n]? =some b→(E++ [[]])[n]? =some e→E7 p.2.2.1 (B++ [x]) b syms e)∧(∀(j:Nat) e,n<j→(E++ [[]])[j]? =some e→e= []):=by
 have hl:=H.len;dsimp only at hl;refine ⟨by simp [hl],DY H.zero,fun j b e hj hb he=> ?_,fun b e hb he=> ?_,fun j e hj he=> ?_⟩
 ·rw [bX (by omega)]at hb he;exact (H.done j b e hj hb he).up fun _ _ h=>DY h
 ·rw [bX (by omega)]at hb he;exact (H.cur b e hb he).up fun _ _ h=>DY h
 ·rcases DW he with h | ⟨_,h⟩
  ·exact H.fresh j e hj h
  ·exact h
theorem Inv.edge {p:Aw}(V:VPp p) {n:Nat}{syms:List Int}{B:List dtK}{E:List (List Edge)}(H:Inv p n syms (B,E)) {b:dtK}(hb:B[n]? =some b) {s:Int}(hs:s∈sy p.2.2.1 b.2.1):Inv p n (syms++ [s]) (Ci p b n (B,E) s):=by
 have hnl:=EP hb;have hl:=H.len;dsimp only at hl;obtain ⟨e,he⟩:∃e,E[n]? =some e:=⟨_,bN (by omega)⟩;obtain ⟨hg,hc⟩:=H.wf b (bZ hb);obtain ⟨_,_,hgc,_⟩:=Dq V hg;obtain ⟨s0,xs,hxs,hxe⟩:=H6.1 hs;have hne:∀y∈nx p.2.2.1 b.2.1 s,1≤y.2:=fun y hy=>(KW V (l:=b.2.1) (by rw [hc];exact hgc.ok) s0 y hy).2;have hnn:∃y,y∈nx p.2.2.1 b.2.1 s:=⟨_,Ju.2 ⟨xs,hxs,hxe,rfl⟩⟩;have hzero:nx p.2.2.1 b.2.1 s≠k0:=fun h=>by
  obtain ⟨y,hy⟩:=hnn
  have:=hne y hy
  rw [h]at hy
  have:=List.mem_singleton.1 hy
  subst this;dsimp only at *;omega
 have hcur:=H.cur b e hb he;unfold Ci;rcases E6 p B (nx p.2.2.1 b.2.1 s) (n:Int) s with ⟨i,bi,h1,h2,h3⟩|⟨h1,h2⟩
 ·dsimp only;rw [h1];dsimp only;have hgE:CQ E B.length B.length=E:=by unfold CQ;rw [if_pos rfl]
  rw [hgE,he,eW];have hi1:1≤i:=by
   rcases eK i with h | h
   ·subst h
    have:=H.zero
    dsimp only at this;rw [h2]at this;cases this;exact absurd h3.symm hzero
   ·exact h
  refine ⟨H.wf,by simp [hl],H.zero,fun j b' hj hb'=> ?_,H.apart,fun j b' e' hj hb' he'=> ?_,fun b' e' hb' he'=> ?_,fun j e' hj he'=> ?_⟩
  ·obtain ⟨f,bf,ef,g1,g2,g3,g4,g5,g6,g7⟩:=H.from_ j b' hj hb';dsimp only at g3 g6 ⊢;by_cases hf:f=n
   ·subst hf;rw [he]at g6;cases g6;exact ⟨f,bf,_,g1,g2,g3,g4,g5,cP (by omega),cL _ g7⟩
   ·exact ⟨f,bf,ef,g1,g2,g3,g4,g5,by rw [cI (fun h=>hf h.symm)];exact g6,g7⟩
  ·dsimp only at he';rw [cI (by omega)]at he';exact H.done j b' e' hj hb' he'
  ·dsimp only at he' hb';rw [cP (by omega)]at he';rw [hb]at hb';cases he';cases hb';refine ⟨by rw [dN,hcur.1];rfl,fun x hx=> ?_⟩;rcases List.mem_append.1 hx with h | h
   ·exact hcur.2 x h
   ·obtain rfl:=List.mem_singleton.1 h;exact ⟨i,bi,rfl,hi1,h2,h3⟩
  ·dsimp only at he';rw [cI (by omega)]at he';exact H.fresh j e' hj he'
 ·dsimp only;rw [h1];dsimp only;have hgE:CQ E B.length (B++ [(nx p.2.2.1 b.2.1 s,clo p (nx p.2.2.1 b.2.1 s),(n:Int),s)]).length=E++ [[]]:=by unfold CQ;rw [if_neg (by simp)]
  have he1:(E++ [[]])[n]? =some e:=DY he;rw [hgE,he1,eW];obtain ⟨q1,q2,q3,q4,q5⟩:=H.grow hnl (x:=(nx p.2.2.1 b.2.1 s,clo p (nx p.2.2.1 b.2.1 s),(n:Int),s));have hgk:GF p.2.2.1 (nx p.2.2.1 b.2.1 s):=⟨fun y hy=>(KW V (l:=b.2.1) (by rw [hc];exact hgc.ok) s0 y hy).1,KV (by rw [hc];exact hgc.up) s⟩
  generalize hX:(nx p.2.2.1 b.2.1 s,clo p (nx p.2.2.1 b.2.1 s),(n:Int),s)=X at *
  have X1:X.1=nx p.2.2.1 b.2.1 s:=by rw [←hX]
  have hlast:(B++ [X])[B.length]? =some X:=by rw [cV (dB _),Nat.sub_self];rfl
  refine ⟨fun b' hb'=> ?_,by simp [hl],q2,fun j b' hj hb'=> ?_,fun i j bi bj hi hj hij=> ?_,fun j b' e' hj hb' he'=> ?_,fun b' e' hb' he'=> ?_,fun j e' hj he'=> ?_⟩
  ·rcases List.mem_append.1 hb' with h | h
   ·exact H.wf b' h
   ·obtain rfl:=List.mem_singleton.1 h;rw [←hX];exact ⟨hgk,rfl⟩
  ·dsimp only at hb' ⊢;rcases DW hb' with h | ⟨hj',rfl⟩
   ·obtain ⟨f,bf,ef,g1,g2,g3,g4,g5,g6,g7⟩:=H.from_ j b' hj h;dsimp only at g3 g6 ⊢;by_cases hf:f=n
    ·subst hf;rw [he]at g6;cases g6;exact ⟨f,bf,_,g1,g2,DY g3,g4,g5,cP (by simp;omega),cL _ g7⟩
    ·exact ⟨f,bf,ef,g1,g2,DY g3,g4,g5,by rw [cI (fun h=>hf h.symm)];exact DY g6,g7⟩
   ·subst hj';refine ⟨n,b,_,hnl,by rw [←hX],DY hb,by rw [←hX],by rw [←hX];exact hs,cP (by simp;omega),dK _ ?_⟩;rw [←hX];exact List.mem_singleton.2 rfl
  ·dsimp only at hi hj;rcases DW hi with a | ⟨a,a'⟩ <;>rcases DW hj with c | ⟨c,c'⟩
   ·exact H.apart i j bi bj a c hij
   ·rw [c',X1]at hij;exact absurd hij (h2 bi (bZ a))
   ·rw [a',X1]at hij;exact absurd hij.symm (h2 bj (bZ c))
   ·omega
  ·dsimp only at he' hb';rw [cI (by omega)]at he';exact q3 j b' e' hj hb' he'
  ·dsimp only at he' hb';rw [cP (by simp;omega)]at he';rw [DY hb]at hb';cases he';cases hb';have hc2:=q4 b e (DY hb) he1;refine ⟨by rw [dN,hc2.1];rfl,fun x hx=> ?_⟩;rcases List.mem_append.1 hx with h | h
   ·exact hc2.2 x h
   ·obtain rfl:=List.mem_singleton.1 h;exact ⟨B.length,X,rfl,by omega,hlast,X1⟩
  ·dsimp only at he';rw [cI (by omega)]at he';exact q5 j e' hj he'
theorem JQ {p:Aw}{b:dtK}{n:Nat}{s:Int}(y:BE):∃l,(Ci p b n y s).1=y.1++l:=by
 unfold Ci;rcases E6 p y.1 (nx p.2.2.1 b.2.1 s) (n:Int) s with ⟨i,bi,h1,_⟩|⟨h1,_⟩
 ·rw [h1];exact ⟨[],by simp⟩
 ·rw [h1];exact ⟨_,rfl⟩
theorem FV {p:Aw}{b:dtK}{n:Nat}:∀(l:List Int) (y:BE),∃m,(CT p b n l y).1=y.1++m:=by
 intro l
 induction l with
 |nil=>intro y;exact ⟨[],by simp [CT]⟩
 |cons s l ih=>
  intro y;obtain ⟨m1,h1⟩:=JQ (p:=p) (b:=b) (n:=n) (s:=s) y;obtain ⟨m2,h2⟩:=ih (Ci p b n y s);exact ⟨m1++m2,by rw [←cT,←h1];exact h2⟩
theorem Inv.fold {p:Aw}(V:VPp p) {n:Nat}{b:dtK}:∀(l:List Int) {syms:List Int}{y:BE},Inv p n syms y→y.1[n]? =some b→(∀s∈l,s∈sy p.2.2.1 b.2.1)→Inv p n (syms++l) (CT p b n l y):=by
 intro l
 induction l with
 |nil=>intro syms y H hb _;rw [eF];exact H
 |cons s l ih=>
  intro syms y H hb hl;obtain ⟨B,E⟩:=y;have h1:=H.edge V hb (hl s (by simp));obtain ⟨m,hm⟩:=JQ (p:=p) (b:=b) (n:=n) (s:=s) (B,E);have h2:=ih h1 (by rw [hm,bX (EP hb)];exact hb) (fun x hx=>hl x (by simp [hx]));rw [cT]at h2;exact h2
theorem Inv.next {p:Aw}{n:Nat}{y:BE}{b:dtK}(hb:y.1[n]? =some b) (H:Inv p n (sy p.2.2.1 b.2.1) y):Inv p (n+1) [] y:=by
 refine ⟨H.wf,H.len,H.zero,H.from_,H.apart,fun j b' e hj hb' he=> ?_,fun b' e hb' he=> ?_,fun j e hj he=>H.fresh j e (by omega) he⟩
 ·rcases Nat.lt_succ_iff_lt_or_eq.1 hj with h | rfl
  ·exact H.done j b' e h hb' he
  ·rw [hb]at hb';cases hb';exact H.cur b e hb he
 ·have:=H.fresh (n+1) e (by omega) he
  subst this;exact ⟨rfl,by simp⟩
theorem Inv.skip {p:Aw}{n:Nat}{syms:List Int}{y:BE}(hn:y.1.length≤n) (H:Inv p n syms y) (m:Nat) (hm:n≤m):Inv p m [] y:=by
 have hl:=H.len;refine ⟨H.wf,H.len,H.zero,H.from_,H.apart,fun j b e hj hb he=>H.done j b e (by have:=EP hb;omega) hb he,fun b e hb he=> ?_,fun j e hj he=> ?_⟩
 ·have:=EP hb;omega
 ·have:=EP he;omega
theorem H7 {p:Aw}(V:VPp p) (hp:1≤p.2.2.1.length):∀n,Inv p n [] (stM p n):=by
 intro n
 induction n with
 |zero=>
  have hg:GF p.2.2.1 k0:=⟨fun x hx=>by
   obtain rfl:=List.mem_singleton.1 hx;exact ⟨by decide,by decide,p.2.2.1[0],bN (by omega),by simp⟩,by simp⟩
  have one:∀(j:Nat) b,(stM p 0).1[j]? =some b→j=0:=fun j b h=>by
   have:=EP h
   simp [stM]at this;exact this
  refine ⟨fun b hb=> ?_,rfl,rfl,fun j b hj hb=> ?_,fun i j bi bj hi hj _=>by rw [one i bi hi,one j bj hj],fun j b e hj=>by omega,fun b e hb he=> ?_,fun j e hj he=> ?_⟩
  ·have:b=(k0,clo p k0, -1, -1):=List.mem_singleton.1 hb
   subst this;exact ⟨hg,rfl⟩
  ·have:=one j b hb;omega
  ·have:e= []:=by simpa [stM]using he.symm
   subst this;exact ⟨rfl,by simp⟩
  ·have:=EP he
   simp [stM]at this;omega
 |succ n ih=>
  unfold stM;cases h:(stM p n).1[n]? with
  |none=>exact ih.skip (List.getElem?_eq_none_iff.1 h) (n+1) (by omega)
  |some b=>
   have h2:=ih.fold V (sy p.2.2.1 b.2.1) h (fun s hs=>hs);refine Inv.next (b:=b) ?_ h2;obtain ⟨m,hm⟩:=FV (p:=p) (b:=b) (n:=n) (sy p.2.2.1 b.2.1) (stM p n);rw [hm,bX (EP h)];exact h
theorem N6 {p:Aw}(V:VPp p) (hp:1≤p.2.2.1.length) {n m:Nat}{b:dtK}(hb:(stM p n).1[n]? =some b):Inv p n ((sy p.2.2.1 b.2.1).take m) (mid p n m)∧(mid p n m).1[n]? =some b:=by
 have H:=(H7 V hp n).fold V ((sy p.2.2.1 b.2.1).take m) hb (fun s hs=>eH hs);obtain ⟨l,hl⟩:=FV (p:=p) (b:=b) (n:=n) ((sy p.2.2.1 b.2.1).take m) (stM p n);unfold mid;rw [hb];exact ⟨H,by rw [hl,bX (EP hb)];exact hb⟩
theorem NK {p:Aw}{n m:Nat}{b:dtK}{s:Int}(hb:(stM p n).1[n]? =some b) (hs:(sy p.2.2.1 b.2.1)[m]? =some s):mid p n (m+1)=Ci p b n (mid p n m) s:=by
 unfold mid;rw [hb];dsimp only;rw [dE,hs];unfold CT;rw [eA];rfl
theorem Lk {p:Aw}{n:Nat}{b:dtK}(hb:(stM p n).1[n]? =some b):mid p n (sy p.2.2.1 b.2.1).length=stM p (n+1):=by
 unfold mid;rw [stM];rw [hb];dsimp only;rw [cY (dB _)]
theorem N7 (p:Aw) (n:Nat):∃l,(stM p (n+1)).1=(stM p n).1++l:=by
 rw [stM];cases h:(stM p n).1[n]? with
 |none=>exact ⟨[],by simp⟩
 |some b=>exact FV _ _
theorem NL (p:Aw) {n m:Nat}(h:n≤m):∃l,(stM p m).1=(stM p n).1++l:=by
 induction h with
 |refl=>exact ⟨[],by simp⟩
 | @step m _ ih=>
  obtain ⟨l,hl⟩:=ih;obtain ⟨l',hl'⟩:=N7 p m;exact ⟨l++l',by rw [hl',hl,cT]⟩
theorem LP {p:Aw}{n:Nat}(h:(stM p n).1.length≤n) {m:Nat}(hm:n≤m):stM p m=stM p n:=by
 induction hm with
 |refl=>rfl
 | @step m hm ih=>
  rw [stM,ih,dJ (eS h hm)]
theorem Ll {α:Type}{o:Option α}{P:α→Prop}(h:Ok (o.bind some) P):Ok o P:=by
 cases o with
 |none=>exact h
 |some x=>exact h
def tot (B:List dtK):Nat:=(B.map (·.2.1.length)).sum
theorem IT (B C:List dtK):tot (B++C)=tot B+tot C:=by unfold tot;rw [dN,List.sum_append]
def Fit (L M:Int) (B:List dtK):Prop:=(B.length:Int) ≤L∧((tot B:Nat):Int) ≤M
theorem Fit.of_app {L M:Int}{B C:List dtK}(h:Fit L M (B++C)):Fit L M B:=by
 unfold Fit at *;rw [IT,cG]at h;omega
structure IP (L M:Int) (fd:Fd) (rm cl:Bv) (B:List dtK):Prop where
 map:∀k,I64 k→CW (LL k) fd=(B.findIdx? (fun b=>decide (b.1=k))).map (fun n:Nat=>(n:Int))
 rlim:rm.1=L
 rused:rm.2.1=(B.length:Int)
 clim:cl.1=M
 cused:cl.2.1=((tot B:Nat):Int)
theorem Lm {m:Bv}{n:Int}(h0:0≤n) (h1:n≤1000000) (h2:0≤m.2.1) (h3:m.2.1≤m.1) (h4:m.1≤1099511627776):
 Ok (Bj m n) fun t=>(n≤m.1 - m.2.1→t.1=0∧t.2.1=m.1∧t.2.2.1=m.2.1+n)∧(m.1 - m.2.1<n→t.1=5∧t.2=m):=by
 unfold Bj CI;refine AU (decide_eq_false (by omega)) (AK rfl ?_);rw [w64 (show -9223372036854775808≤m.1 - m.2.1 by omega) (by omega),w64 (show -9223372036854775808≤m.2.1+n by omega) (by omega)];refine AX (fun hc=>AC ?_) fun hc=>AC ?_
 ·have:=of_decide_eq_true hc
  exact ⟨fun h=>by omega,fun _=>⟨rfl,rfl⟩⟩
 ·have:=of_decide_eq_false hc
  exact ⟨fun _=>⟨rfl,rfl,rfl⟩,fun h=>by omega⟩
theorem MP {B:List dtK}{x:dtK}{k:List Item}(h:∀b∈B,b.1≠x.1):(B++ [x]).findIdx? (fun b=>decide (b.1=k))=if k=x.1 then some B.length else B.findIdx? (fun b=>decide (b.1=k)):=by
 rw [List.findIdx?_append];by_cases e:k=x.1
 ·rw [if_pos e]
  have:B.findIdx? (fun b=>decide (b.1=k))=none:=List.findIdx?_eq_none_iff.2 fun b hb=>decide_eq_false (by rw [e];exact h b hb)
  rw [this];simp [e]
 ·rw [if_neg e]
  have: [x].findIdx? (fun b=>decide (b.1=k))=none:=List.findIdx?_eq_none_iff.2 fun b hb=>decide_eq_false (by
   obtain rfl:=List.mem_singleton.1 hb;exact fun h=>e h.symm)
  rw [this];simp
theorem NM {p:Aw}(V:VPp p) {L M:Int}{fd:Fd}{rm cl:Bv}{B:List dtK}{k:List Item}{fr wi:Int}(C:IP L M fd rm cl B) (F:Fit L M B) (hL:L≤1099511627776) (hM:M≤1099511627776) (g:GF p.2.2.1 k) (hB:B.length<1099512676352):
 Ok (MK p fd B rm cl k fr wi) fun r=>r.1=(((DI p B k fr wi).1:Nat):Int)∧r.2.2.2.1=(DI p B k fr wi).2∧(Fit L M (DI p B k fr wi).2→r.2.1=0∧IP L M r.2.2.1 r.2.2.2.2.1 r.2.2.2.2.2 (DI p B k fr wi).2)∧(¬Fit L M (DI p B k fr wi).2→r.2.1=5):=by
 have hi:=OkI.i64 V g.ok;have hkl:=Dp V g.ok (Lt.nodup g.up);obtain ⟨c1,c2,c3,c4⟩:=Dq V g;have hm:=C.map k hi;unfold MK;refine AK (On hi (by omega)) ?_;unfold DI;cases hf:B.findIdx? (fun b=>decide (b.1=k)) with
 |some i=>
  rw [hf]at hm;rw [hm];exact A4 rfl (AC ⟨rfl,rfl,fun _=>⟨rfl,C⟩,fun h=>absurd F h⟩)
 |none=>
  rw [hf]at hm;have hno:∀b∈B,b.1≠k:=fun b hb=>of_decide_eq_false (List.findIdx?_eq_none_iff.1 hf b hb);rw [hm];have hLB:=F.1;have hMB:=F.2;refine AU rfl (AK c1 ?_);refine AL (Lm (m:=rm) (n:=1) (by decide) (by decide) (by rw [C.rused];omega) (by rw [C.rused,C.rlim];exact hLB) (by rw [C.rlim];exact hL)) fun t ht=> ?_;rw [C.rused,C.rlim]at ht;have htot:tot (B++ [(k,clo p k,fr,wi)])=tot B+(clo p k).length:=by rw [IT];unfold tot;simp
  have hlen:(B++ [(k,clo p k,fr,wi)]).length=B.length+1:=by simp
  refine AL (Q:=fun (z:Int×Bv)=>(Fit L M (B++ [(k,clo p k,fr,wi)])→t.1=0∧z.1=0∧z.2.1=M∧z.2.2.1=((tot B+(clo p k).length:Nat):Int))∧(¬Fit L M (B++ [(k,clo p k,fr,wi)])→z.1=5)) (AX (fun hc=> ?_) fun hc=>AC ?_) fun z hz=> ?_
  ·refine AL (Lm (m:=cl) (n:=(((clo p k).length:Nat):Int)) (by omega) (by omega) (by rw [C.cused];omega) (by rw [C.cused,C.clim];exact hMB) (by rw [C.clim];exact hM)) fun u hu=>AC ?_;rw [C.cused,C.clim]at hu;unfold Fit;rw [htot,hlen];refine ⟨fun h=>⟨eq_of_beq hc,(hu.1 (by omega)).1,(hu.1 (by omega)).2.1,by rw [(hu.1 (by omega)).2.2];omega⟩,fun h=> ?_⟩;rcases eC (M - (tot B:Int)) ((clo p k).length:Int) with q | q
   ·exact (hu.2 q).1
   ·exfalso;refine h ⟨?_,by omega⟩;rcases eC (L - (B.length:Int)) 1 with w | w
    ·have:=(ht.2 w).1
     rw [this]at hc;simp at hc
    ·omega
  ·unfold Fit;rw [htot,hlen];have hc:¬t.1=0:=by simpa using hc
   have hw:L - (B.length:Int) <1:=by
    rcases eC (L - (B.length:Int)) 1 with w | w
    ·exact w
    ·exact absurd (ht.1 w).1 hc
   exact ⟨fun h=>by omega,fun _=>(ht.2 hw).1⟩
  ·refine BW (by simp;omega) (AC ⟨?_,rfl,fun hF=> ?_,fun hF=>hz.2 hF⟩)
   ·dsimp only;rw [hlen,w64 (by omega) (by omega)];omega
   ·obtain ⟨z1,z2,z3,z4⟩:=hz.1 hF;have hF1:1≤L - (B.length:Int):=by unfold Fit at hF;rw [hlen]at hF;omega
    obtain ⟨t1,t2,t3⟩:=ht.1 hF1;refine ⟨z2,fun k' hk'=> ?_,t2,by rw [t3,hlen];omega,z3,by rw [z4,htot]⟩;rw [JM,MP (x:=(k,clo p k,fr,wi)) hno];by_cases e:k'=k
    ·rw [if_pos (by rw [e]),if_pos e];rfl
    ·rw [if_neg (fun h=>e (NJ h)),if_neg e];exact C.map k' hk'
theorem N8 {p:Aw}(V:VPp p) {L M:Int}{fd:Fd}{rm cl:Bv}{B:List dtK}{E:List (List Edge)}{n:Nat}{syms:List Int}{b:dtK}{s:Int}(H:Inv p n syms (B,E)) (hb:B[n]? =some b) (hs:s∈sy p.2.2.1 b.2.1) (hsl:syms.length≤1000000)
 (C:IP L M fd rm cl B) (F:Fit L M B) (hL:L≤1099511627776) (hM:M≤1099511627776) (hB:B.length<1099512676352):
 Ok (Lg p b (n:Int) s (fd,B,E,rm,cl)) fun e=>(Fit L M (Ci p b n (B,E) s).1→ ∃fd' rm' cl',e= .next (fd',(Ci p b n (B,E) s).1,(Ci p b n (B,E) s).2,rm',cl')∧IP L M fd' rm' cl' (Ci p b n (B,E) s).1)∧(¬Fit L M (Ci p b n (B,E) s).1→e= .done 5):=by
 obtain ⟨hg,hc⟩:=H.wf b (bZ hb);obtain ⟨_,_,hgc,hlc⟩:=Dq V hg;rw [←hc]at hgc hlc;have s0:=(H6.1 hs).1;have hgk:GF p.2.2.1 (nx p.2.2.1 b.2.1 s):=⟨fun y hy=>(KW V hgc.ok s0 y hy).1,KV hgc.up s⟩;have hl:=H.len;dsimp only at hl;have hnl:=EP hb;obtain ⟨e,he⟩:∃e,E[n]? =some e:=⟨_,bN (by omega)⟩;have hel:e.length=syms.length:=by rw [← (H.cur b e hb he).1,dD]
 unfold Lg;refine AK (N5 V hgc.ok (by omega) s)<|AL (NM V C F hL hM hgk hB (fr:=(n:Int)) (wi:=s)) fun r hr=> ?_;obtain ⟨r1,r2,r3,r4⟩:=hr;obtain ⟨ri,re,rfd,rB,rrm,rcl⟩:=r;dsimp only at r1 r2 r3 r4 ⊢;subst r1 r2;unfold Ci;dsimp only;by_cases hF:Fit L M (DI p B (nx p.2.2.1 b.2.1 s) (n:Int) s).2
 ·obtain ⟨h1,h2⟩:=r3 hF;subst h1;have hgr:(CQ E B.length (DI p B (nx p.2.2.1 b.2.1 s) (n:Int) s).2.length)[n]? =some e:=by
   unfold CQ;split
   ·exact he
   ·exact DY he
  refine AU rfl (AY hgr (BW (by simp;omega) (Hn (by omega) (by have:=EP hgr;omega) (AC ⟨fun _=>⟨rfd,rrm,rcl,?_,h2⟩,fun h=>absurd hF h⟩))));rw [hgr,dQ];rfl
 ·have h1:=r4 hF;subst h1;exact A4 rfl (AC ⟨fun h=>absurd h hF,fun _=>rfl⟩)
def N9 (p:Aw) (L:Int):Prop:= ∀n m,(((mid p n m).1.length:Nat):Int) ≤L→(mid p n m).1.length<1099512676352
theorem NN (p:Aw) (n m:Nat) {b:dtK}(hb:(stM p n).1[n]? =some b):∃l,(stM p (n+1)).1=(mid p n m).1++l:=by
 rw [←Lk hb];unfold mid;rw [hb];dsimp only;rw [cY (dB _)]
 conv=>rhs;intro l;lhs;rw [←eG m (sy p.2.2.1 b.2.1)]
 unfold CT;rw [eA];exact FV _ _
theorem NO {p:Aw}(V:VPp p) (hp:1≤p.2.2.1.length) {L M:Int}{fd:Fd}{rm cl:Bv}{n:Nat}{b:dtK}(hb:(stM p n).1[n]? =some b) (C:IP L M fd rm cl (stM p n).1) (F:Fit L M (stM p n).1) (hL:L≤1099511627776) (hM:M≤1099511627776) (hR:N9 p L):
 Ok (Jq p b (n:Int) (fd,(stM p n).1,(stM p n).2,rm,cl)) fun e=>(Fit L M (stM p (n+1)).1→ ∃fd' rm' cl',e= .next (fd',(stM p (n+1)).1,(stM p (n+1)).2,rm',cl')∧IP L M fd' rm' cl' (stM p (n+1)).1)∧(¬Fit L M (stM p (n+1)).1→e= .done 5):=by
 have H:=H7 V hp n;obtain ⟨hg,hc⟩:=H.wf b (bZ hb);obtain ⟨_,_,hgc,hlc⟩:=Dq V hg;rw [←hc]at hgc hlc;have hsl:=LO p.2.2.1 b.2.1;unfold Jq;refine AK (LN hgc.ok (by omega)) (Ll ?_);have hm0:mid p n 0=stM p n:=by unfold mid;rw [hb];rfl
 refine Gm (fun m (y:BSt)=>y.2.1=(mid p n m).1∧y.2.2.1=(mid p n m).2∧Fit L M (mid p n m).1∧IP L M y.1 y.2.2.2.1 y.2.2.2.2 (mid p n m).1) (fun q=>q=5∧ ¬Fit L M (stM p (n+1)).1) (by omega) ⟨by rw [hm0],by rw [hm0],by rw [hm0];exact F,by rw [hm0];exact C⟩ (fun m y hm hy=> ?_) (fun y hy=>AC ?_) fun q hq=>AC ⟨fun h=>absurd h hq.2,fun _=>by rw [hq.1]⟩
 ·obtain ⟨fd,B,E,rm,cl⟩:=y;obtain ⟨e1,e2,hF,hC⟩:=hy;dsimp only at e1 e2 hC ⊢;obtain ⟨hI,hbm⟩:=N6 V hp hb (m:=m);have hs:=bN hm;have hsm:=bY hm;have hsucc:=NK hb hs;have hroom:=hR n m hF.1;refine AY hs ?_;subst e1 e2;refine (N8 (B:=(mid p n m).1) (E:=(mid p n m).2) V hI hbm hsm (by rw [dH];omega) hC hF hL hM hroom).mono fun e he=> ?_;have e3:Ci p b n ((mid p n m).1,(mid p n m).2) (sy p.2.2.1 b.2.1)[m] =mid p n (m+1):=hsucc.symm;rw [e3]at he;by_cases hF2:Fit L M (mid p n (m+1)).1
  ·obtain ⟨fd',rm',cl',h1,h2⟩:=he.1 hF2;exact .inl ⟨_,h1,rfl,rfl,hF2,h2⟩
  ·refine .inr ⟨5,he.2 hF2,rfl,fun h=>hF2 ?_⟩;obtain ⟨l,hl⟩:=NN p n (m+1) hb;rw [hl]at h;exact h.of_app
 ·obtain ⟨fd,B,E,rm,cl⟩:=y;obtain ⟨e1,e2,hF,hC⟩:=hy;dsimp only at e1 e2 hC;rw [Lk hb]at e1 e2 hF hC;subst e1 e2;exact ⟨fun _=>⟨fd,rm,cl,rfl,hC⟩,fun h=>absurd hF h⟩
theorem MQ {p:Aw}(V:VPp p) (hp:1≤p.2.2.1.length) {L M:Int}{fd:Fd}{rm cl:Bv}(C:IP L M fd rm cl (stM p 0).1) (F:Fit L M (stM p 0).1) (hL:L≤1099511627776) (hM:M≤1099511627776) (hR:N9 p L):
 Ok (IS p (fd,(stM p 0).1,(stM p 0).2,rm,cl)) fun e=>(∃n fd' rm' cl',e= .next (fd',(stM p n).1,(stM p n).2,rm',cl')∧(stM p n).1.length≤n∧Fit L M (stM p n).1∧IP L M fd' rm' cl' (stM p n).1)∨(e= .done 5∧ ∃n,¬Fit L M (stM p n).1):=by
 unfold IS;refine Ll (CG (fun (z:Int×BSt)=>∃n:Nat,z.1=(n:Int)∧z.2.2.1=(stM p n).1∧z.2.2.2.1=(stM p n).2∧Fit L M (stM p n).1∧IP L M z.2.1 z.2.2.2.2.1 z.2.2.2.2.2 (stM p n).1) (fun z=>(L+1 - z.1).toNat) (fun e=>(∃n fd' rm' cl',e= .next (fd',(stM p n).1,(stM p n).2,rm',cl')∧(stM p n).1.length≤n∧Fit L M (stM p n).1∧IP L M fd' rm' cl' (stM p n).1)∨(e= .done 5∧ ∃n,¬Fit L M (stM p n).1)) ⟨0,rfl,rfl,rfl,F,C⟩ (fun z hz=> ?_) fun e he=>AC he);obtain ⟨i,fd,B,E,rm,cl⟩:=z;obtain ⟨n,e0,e1,e2,hF,hC⟩:=hz;dsimp only at e0 e1 e2 hC ⊢;subst e0 e1 e2;refine AX (fun hc=> ?_) fun hc=>A7 (.inl ⟨n,fd,rm,cl,rfl,?_,hF,hC⟩)
 ·have hc:=of_decide_eq_true hc;have hn:n< (stM p n).1.length:=by omega
  have hb:=bN hn;refine AY hb (AL (NO V hp hb hC hF hL hM hR) fun e he=> ?_);have hFL:=hF.1;by_cases hF2:Fit L M (stM p (n+1)).1
  ·obtain ⟨fd',rm',cl',h1,h2⟩:=he.1 hF2;subst h1;have hw:bM .i64 ((n:Int)+1)=((n+1:Nat):Int):=by rw [w64 (by omega) (by omega)];omega
   refine Bi ⟨⟨n+1,hw,rfl,rfl,hF2,h2⟩,?_⟩;dsimp only;rw [hw];omega
  ·have:=he.2 hF2
   subst this;exact A7 (.inr ⟨rfl,n+1,hF2⟩)
 ·have:=of_decide_eq_false hc
  omega
def CX (n:Int):Int:=if n<0 then 0 else if n>1099511627776 then 1099511627776 else n
theorem NP (n:Int):DF n=some (CX n,0,0):=by
 refine Ok.eq ?_;unfold DF EX;refine AK rfl (AC ?_);refine fA ?_ rfl;dsimp only;unfold CX
 split<;>split<;>(try split) <;>(try split) <;>omega
theorem Gx (n:Int):0≤CX n∧CX n≤1099511627776:=by unfold CX;split<;>(try split) <;>omega
noncomputable def LQ (p:Aw) (n:Nat):ET:=(p.1,p.2.1,p.2.2.1,p.2.2.2.1,p.2.2.2.2.1,p.2.2.2.2.2,C4 (stM p n).1 (stM p n).2,((tot (stM p n).1:Nat):Int))
theorem NQ {p:Aw}(V:VPp p) (hp:1≤p.2.2.1.length) {st it:Int}(hR:N9 p (CX st)):
 Ok (HN p st it) fun r=>(∃n,(stM p n).1.length≤n∧Fit (CX st) (CX it) (stM p n).1∧r=(some (LQ p n),0))∨(r=(none,5)∧ ∃n,¬Fit (CX st) (CX it) (stM p n).1):=by
 unfold HN;have hs:=Gx st;have hi:=Gx it;have hg:=(H7 V hp 0).wf (k0,clo p k0, -1, -1) (List.mem_singleton.2 rfl);have C0:IP (CX st) (CX it) [] (CX st,0,0) (CX it,0,0) []:=⟨fun k _=>rfl,rfl,rfl,rfl,rfl⟩;refine AK (NP st) (AK (NP it) (AL (NM V C0 ⟨hs.1,hi.1⟩ hs.2 hi.2 hg.1 (by simp)) fun r hr=> ?_));obtain ⟨r1,r2,r3,r4⟩:=hr;have e:DI p [] k0 (-1) (-1)=(0,(stM p 0).1):=rfl;rw [e]at r1 r2 r3 r4;obtain ⟨ri,re,rfd,rB,rrm,rcl⟩:=r;dsimp only at r1 r2 r3 r4 ⊢;subst r2;by_cases hF:Fit (CX st) (CX it) (stM p 0).1
 ·obtain ⟨h1,h2⟩:=r3 hF;subst h1;refine AU rfl (AL (MQ V hp h2 hF hs.2 hi.2 hR) fun e he=> ?_);rcases he with ⟨n,fd',rm',cl',rfl,h3,h4,h5⟩|⟨rfl,n,hn⟩
  ·refine AK (x:=((tot (stM p n).1:Nat):Int)) (by unfold CJ;exact congrArg some h5.cused) (AC (.inl ⟨n,h3,h4,rfl⟩))
  ·exact AC (.inr ⟨rfl,n,hn⟩)
 ·have:=r4 hF
  subst this;exact A4 rfl (AC (.inr ⟨rfl,0,hF⟩))
section
variable {φ:AF}{h:AE}{F:List Chk}
noncomputable def BZ (a_0:List Int) (b_1:List Int):Option Bool:=
 cond ((a_0.length:Int) !=(b_1.length:Int))
 (some false)
 ((CV (σ:=Unit) (β:=Bool) 0 (a_0.length:Int) () fun i_z2 z2=>
  (idx a_0 i_z2).bind fun e19=>
  (idx b_1 i_z2).bind fun e22=>
  cond (e19 !=e22)
  (some (cD false))
  (some (cE ()))).bind fun e_z1=>match e_z1 with
  |.next z1=>
   some true
  |.done q35=>some q35)
theorem Di {a_0:Slc}{d:List Int}{b_1:Slc}{e:List Int}(i:Ro.SliceIs (bV .i64) φ a_0 d) (j:Ro.SliceIs (bV .i64) φ b_1 e) (s0:St φ (F) h) {r:Bool}(hd:BZ d e=some r):
 CallsH cN 18 [(sv a_0),(sv b_1)] h (BL fun v h'=>∃ψ:AF,∃y:Bool,Sub φ ψ∧v=((.one aB):Sh).val y∧y=r∧St ψ (F) h'):=by
 refine AV mixed Tryz.func18 ?_;rw [GA];unfold EM;unfold BZ at hd;have f:a_0.2.1=cA d:=i.length;have n:b_1.2.1=cA e:=j.length;refine AG hd (by rw [f,n] <;>rfl) (fun _ hd=> ?_) (fun _ hd=> ?_)
 ·obtain rfl:=iS hd;exact AB ⟨φ,false,(bT _),rfl,rfl,s0⟩
 obtain ⟨a5,o,hd⟩:=bS hd;refine BN o (fun p (y:Int×Bool×Unit) w_ g=>∃ψ:AF,Sub φ ψ∧y.1=p∧()=g∧St ψ (F) w_) ((0:Int),false,()) rfl ⟨φ,(bT _),rfl,rfl,s0⟩ ?_ ?_ ?_
 ·rintro _ z2 a6 _ _ ⟨k,b,rfl,rfl,c⟩ a q l m s;try dsimp only at a q l m
  refine BF (dT f l) ?_;obtain ⟨a7,t,a⟩:=bS a;refine Dv i t (cU b c.sub) ?_;obtain ⟨a8,u,a⟩:=bS a;refine Dv j u (cU b c.sub)<|AG a rfl (fun _ a=> ?_) (fun _ a=> ?_)
  ·obtain rfl:=iS a;obtain rfl:=s _ rfl;try dsimp only at hd
   obtain rfl:=iS hd;exact Ae (Ah (AB ⟨k,false,b,rfl,rfl,c⟩))
  obtain rfl:=iS a;exact Al ((wN z2.1),z2.2.1,()) _ rfl rfl ⟨k,b,m,rfl,c⟩
 ·rintro _ z2 a9 _ ⟨w,x,rfl,rfl,z⟩ a0 a1;subst a1;refine As (dF f a0)<|AO (AR (z2.1,z2.2.1,()) rfl ⟨_,rfl,_,w,x,rfl,rfl,z⟩)
 rintro z1 aa ⟨_,rfl,_,a2,a3,_,rfl,a4⟩;try dsimp only at hd
 obtain rfl:=iS hd;exact AB ⟨a2,true,a3,rfl,rfl,a4⟩
noncomputable def Ba (n_0:Int):Option Int:=cond (decide (n_0< 0)) (some 0) (cond (decide (n_0>1099511627776)) (some 1099511627776) (some n_0))
theorem B0 {n_0:Int}(s0:St φ (F) h) {r:Int}(hd:Ba n_0=some r):
 CallsH cN 34 [(.int .i64 n_0)] h (BL fun v h'=>∃ψ:AF,∃y:Int,Sub φ ψ∧v=((.one aI):Sh).val y∧y=r∧St ψ (F) h'):=by
 refine AV mixed Tryz.func34 ?_;rw [GB];unfold EN;unfold Ba at hd;refine AG hd rfl (fun _ hd=> ?_) (fun _ hd=> ?_)
 ·obtain rfl:=iS hd;exact AB ⟨φ,(0:Int),(bT _),rfl,rfl,s0⟩
 refine AG hd rfl (fun _ hd=> ?_) (fun _ hd=> ?_)
 ·obtain rfl:=iS hd;exact AB ⟨φ,(1099511627776:Int),(bT _),rfl,rfl,s0⟩
 obtain rfl:=iS hd;exact AB ⟨φ,n_0,(bT _),rfl,rfl,s0⟩
noncomputable def Ad (a_0:List Aj) (b_1:List Aj):Option Bool:=
 cond ((a_0.length:Int) !=(b_1.length:Int))
 (some false)
 ((CV (σ:=Unit) (β:=Bool) 0 (a_0.length:Int) () fun i_z2 z2=>
  (idx a_0 i_z2).bind fun e25=>
  (idx b_1 i_z2).bind fun e36=>
  cond (!((e25.1==e36.1) && ((e25.2==e36.2) && true)))
  (some (cD false))
  (some (cE ()))).bind fun e_z1=>match e_z1 with
  |.next z1=>
   some true
  |.done q51=>some q51)
theorem Bu {a_0:Slc}{d:List Aj}{b_1:Slc}{e:List Aj}(i:Ro.SliceIs Av φ a_0 d) (j:Ro.SliceIs Av φ b_1 e) (s0:St φ (F) h) {r:Bool}(hd:Ad d e=some r):
 CallsH cN 15 [(sv a_0),(sv b_1)] h (BL fun v h'=>∃ψ:AF,∃y:Bool,Sub φ ψ∧v=((.one aB):Sh).val y∧y=r∧St ψ (F) h'):=by
 refine AV mixed Tryz.func15 ?_;rw [Fp];unfold D4;unfold Ad at hd;have f:a_0.2.1=cA d:=i.length;have s:b_1.2.1=cA e:=j.length;refine AG hd (by rw [f,s] <;>rfl) (fun _ hd=> ?_) (fun _ hd=> ?_)
 ·obtain rfl:=iS hd;exact AB ⟨φ,false,(bT _),rfl,rfl,s0⟩
 obtain ⟨ak,t,hd⟩:=bS hd;refine BN t (fun u (y:Int×Bool×Unit) w_ g=>∃ψ:AF,Sub φ ψ∧y.1=u∧()=g∧St ψ (F) w_) ((0:Int),false,()) rfl ⟨φ,(bT _),rfl,rfl,s0⟩ ?_ ?_ ?_
 ·rintro _ z2 al _ _ ⟨k,c,rfl,rfl,b⟩ a w l m z;try dsimp only at a w l m
  refine BF (dT f l) ?_;obtain ⟨n,a0,a⟩:=bS a;obtain ⟨am,an,a1,a2,a3,o⟩:=(i.mono c).get a0;refine AH _ a1 (Am a2 ?_);obtain ⟨_,_,rfl,rfl,rfl⟩:=a3;refine AN (x:=n.1) (AD b.sub (o 0 _ rfl)) rfl<|AN (x:=n.2) (by rw [Ac];exact (AD b.sub (o 1 _ rfl))) rfl ?_;obtain ⟨p,a6,a⟩:=bS a;obtain ⟨ao,ap,a7,a8,a9,q⟩:=(j.mono c).get a6;refine AH _ a7 (Am a8 ?_);obtain ⟨_,_,rfl,rfl,rfl⟩:=a9;refine AN (x:=p.1) (AD b.sub (q 0 _ rfl)) rfl<|AN (x:=p.2) (by rw [Ac];exact (AD b.sub (q 1 _ rfl))) rfl<|AG a rfl (fun _ a=> ?_) (fun _ a=> ?_)
  ·obtain rfl:=iS a;obtain rfl:=z _ rfl;try dsimp only at hd
   obtain rfl:=iS hd;exact Ae (Ah (AB ⟨k,false,c,rfl,rfl,b⟩))
  obtain rfl:=iS a;exact Al ((wN z2.1),z2.2.1,()) _ rfl rfl ⟨k,c,m,rfl,b⟩
 ·rintro _ z2 aq _ ⟨ac,ad,rfl,rfl,ae⟩ af ag;subst ag;refine As (dF f af)<|AO (AR (z2.1,z2.2.1,()) rfl ⟨_,rfl,_,ac,ad,rfl,rfl,ae⟩)
 rintro z1 ar ⟨_,rfl,_,ah,ai,_,rfl,aj⟩;try dsimp only at hd
 obtain rfl:=iS hd;exact AB ⟨ah,true,ai,rfl,rfl,aj⟩
noncomputable def CA (a_0:List GS) (b_1:List GS):Option Bool:=
 cond ((a_0.length:Int) !=(b_1.length:Int))
 (some false)
 ((CV (σ:=Unit) (β:=Bool) 0 (a_0.length:Int) () fun i_z2 z2=>
  (idx a_0 i_z2).bind fun e25=>
  (idx b_1 i_z2).bind fun e36=>
  cond (!((e25.1==e36.1) && ((e25.2==e36.2) && true)))
  (some (cD false))
  (some (cE ()))).bind fun e_z1=>match e_z1 with
  |.next z1=>
   some true
  |.done q51=>some q51)
theorem Fx {a_0:Slc}{d:List GS}{b_1:Slc}{e:List GS}(i:Ro.SliceIs ES φ a_0 d) (j:Ro.SliceIs ES φ b_1 e) (s0:St φ (F) h) {r:Bool}(hd:CA d e=some r):
 CallsH cN 16 [(sv a_0),(sv b_1)] h (BL fun v h'=>∃ψ:AF,∃y:Bool,Sub φ ψ∧v=((.one aB):Sh).val y∧y=r∧St ψ (F) h'):=by
 refine AV mixed Tryz.func16 ?_;rw [Fq];unfold D5;unfold CA at hd;have f:a_0.2.1=cA d:=i.length;have s:b_1.2.1=cA e:=j.length;refine AG hd (by rw [f,s] <;>rfl) (fun _ hd=> ?_) (fun _ hd=> ?_)
 ·obtain rfl:=iS hd;exact AB ⟨φ,false,(bT _),rfl,rfl,s0⟩
 obtain ⟨ak,t,hd⟩:=bS hd;refine BN t (fun u (y:Int×Bool×Unit) w_ g=>∃ψ:AF,Sub φ ψ∧y.1=u∧()=g∧St ψ (F) w_) ((0:Int),false,()) rfl ⟨φ,(bT _),rfl,rfl,s0⟩ ?_ ?_ ?_
 ·rintro _ z2 al _ _ ⟨k,c,rfl,rfl,b⟩ a w l m z;try dsimp only at a w l m
  refine BF (dT f l) ?_;obtain ⟨n,a0,a⟩:=bS a;obtain ⟨am,an,a1,a2,a3,o⟩:=(i.mono c).get a0;refine AH _ a1 (Am a2 ?_);obtain ⟨_,_,rfl,rfl,rfl⟩:=a3;refine AN (x:=n.1) (AD b.sub (o 0 _ rfl)) rfl<|AN (x:=n.2) (by rw [Ac];exact (AD b.sub (o 1 _ rfl))) rfl ?_;obtain ⟨p,a6,a⟩:=bS a;obtain ⟨ao,ap,a7,a8,a9,q⟩:=(j.mono c).get a6;refine AH _ a7 (Am a8 ?_);obtain ⟨_,_,rfl,rfl,rfl⟩:=a9;refine AN (x:=p.1) (AD b.sub (q 0 _ rfl)) rfl<|AN (x:=p.2) (by rw [Ac];exact (AD b.sub (q 1 _ rfl))) rfl<|AG a rfl (fun _ a=> ?_) (fun _ a=> ?_)
  ·obtain rfl:=iS a;obtain rfl:=z _ rfl;try dsimp only at hd
   obtain rfl:=iS hd;exact Ae (Ah (AB ⟨k,false,c,rfl,rfl,b⟩))
  obtain rfl:=iS a;exact Al ((wN z2.1),z2.2.1,()) _ rfl rfl ⟨k,c,m,rfl,b⟩
 ·rintro _ z2 aq _ ⟨ac,ad,rfl,rfl,ae⟩ af ag;subst ag;refine As (dF f af)<|AO (AR (z2.1,z2.2.1,()) rfl ⟨_,rfl,_,ac,ad,rfl,rfl,ae⟩)
 rintro z1 ar ⟨_,rfl,_,ah,ai,_,rfl,aj⟩;try dsimp only at hd
 obtain rfl:=iS hd;exact AB ⟨ah,true,ai,rfl,rfl,aj⟩
noncomputable def Bl (l_0:List Aj) (x_1:Aj):Option (List Aj):=(loop (σ:=Int) (β:=Int) 0 fun z3=>(cond (decide (z3< (l_0.length:Int))) ((idx l_0 z3).bind fun e24=>cond (decide (e24.1<x_1.1)) (some true) ((idx l_0 z3).bind fun e35=>cond (e35.1==x_1.1) ((idx l_0 z3).bind fun e46=>some (decide (e46.2<x_1.2))) (some false))) (some false)).bind fun z4=>cond z4 (some (cE (bM .i64 (z3+1)))) (some (cD z3))).bind fun z2=>(cond (decide (z2< (l_0.length:Int))) ((idx l_0 z2).bind fun e72=>some ((e72.1==x_1.1) && ((e72.2==x_1.2) && true))) (some false)).bind fun z14=>cond z14 (some l_0) ((cut l_0 0 z2).bind fun c86=>(cut l_0 z2 (l_0.length:Int)).bind fun c92=>(app ([]:List Aj) c86).bind fun t23=>(app t23 ([(x_1.1,x_1.2)]:List Aj)).bind fun t25=>(app t25 c92).bind fun t26=>some t26)
theorem EB {l_0:Slc}{z:List Aj}{x_1:Int×Int×Unit}(f:Ro.SliceIs Av φ l_0 z) (s0:St φ (F) h) {r:(List Aj)}(hd:Bl z (x_1.1,x_1.2.1)=some r):
 CallsH cN 36 [(sv l_0),(.agg #[(.int .i64 x_1.1),(.int .i64 x_1.2.1)])] h (BL fun v h'=>∃ψ:AF,∃y:Slc,∃a9:List Aj,Sub φ ψ∧v=((.one aS):Sh).val y∧a9=r∧Ro.SliceIs Av ψ y a9∧St ψ (F) h'):=by
 refine AV mixed Tryz.func36 ?_;rw [Gb];unfold Ek;unfold Bl at hd;have a2:l_0.2.1=cA z:=f.length;refine AZ (vs:=[.int .i64 x_1.1,.int .i64 x_1.2.1]) s0 fun r1 d1 ao=> ?_;obtain ⟨ap,aq,hd⟩:=bS hd;refine Bc (fun (y:Int×Unit) w_ g=>∃ψ:AF,Sub φ ψ∧y.1=g∧St ψ (cW 57 r1 [.int .i64 x_1.1,.int .i64 x_1.2.1]::F) w_) (g:=ap) ?_ ?_
 ·refine Cr aq (fun (y:Int×Unit) w_ g=>∃ψ:AF,Sub φ ψ∧y.1=g∧St ψ (cW 57 r1 [.int .i64 x_1.1,.int .i64 x_1.2.1]::F) w_) ((0:Int),()) rfl ⟨φ,(bT _),rfl,ao⟩ ?_
  ·rintro z3 d2 _ _ ⟨p,q,rfl,d⟩ e ar;try dsimp only at e
   obtain ⟨au,c,e⟩:=bS e;refine Ai (fun (y:Bool×Unit) w_ g=>∃ψ:AF,Sub p ψ∧y.1=g∧St ψ (cW 57 r1 [.int .i64 x_1.1,.int .i64 x_1.2.1]::F) w_) (g:=au) ?_ ?_
   ·refine AG c (by rw [a2] <;>rfl) (fun _ c=> ?_) (fun _ c=> ?_)
    ·obtain ⟨av,aw,c⟩:=bS c;obtain ⟨d3,d4,ax,ay,az,b0⟩:=(f.mono q).get aw;refine AH _ ax (Am ay ?_);obtain ⟨_,_,rfl,rfl,rfl⟩:=az;refine AN (x:=av.1) (AD d.sub (b0 0 _ rfl)) rfl<|AA (x:=x_1.1) d rfl<|AG c rfl (fun _ c=> ?_) (fun _ c=> ?_)
     ·obtain rfl:=iS c;exact AP (true,()) rfl ⟨p,(bT _),rfl,d⟩
     obtain ⟨b3,b4,c⟩:=bS c;obtain ⟨d5,d6,b5,b6,b7,b8⟩:=(f.mono q).get b4;refine AH _ b5 (Am b6 ?_);obtain ⟨_,_,rfl,rfl,rfl⟩:=b7;refine AN (x:=b3.1) (AD d.sub (b8 0 _ rfl)) rfl<|AA (x:=x_1.1) d rfl<|AG c rfl (fun _ c=> ?_) (fun _ c=> ?_)
     ·obtain ⟨aa,bb,c⟩:=bS c;obtain ⟨d7,d8,bc,bd,be,bf⟩:=(f.mono q).get bb;refine AH _ bc (Am bd ?_);obtain ⟨_,_,rfl,rfl,rfl⟩:=be;refine AN (x:=aa.2) (by rw [Ac];exact (AD d.sub (bf 1 _ rfl))) rfl<|AA (x:=x_1.2.1) d rfl ?_;obtain rfl:=iS c;exact AP ((decide (aa.2<x_1.2.1)),()) rfl ⟨p,(bT _),rfl,d⟩
     obtain rfl:=iS c;exact AP (false,()) rfl ⟨p,(bT _),rfl,d⟩
    obtain rfl:=iS c;exact AP (false,()) rfl ⟨p,(bT _),rfl,d⟩
   rintro z4 d9 ⟨ab,ac,rfl,ad⟩;try dsimp only at e
   refine AG e rfl (fun _ e=> ?_) (fun _ e=> ?_)
   ·obtain rfl:=iS e;exact Al ((wN z3.1),()) _ rfl rfl ⟨ab,(q.trans ac),rfl,ad⟩
   obtain rfl:=iS e;obtain rfl:=ar _ rfl;exact AO (AR (z3.1,()) rfl ⟨ab,(q.trans ac),rfl,ad⟩)
 rintro z2 da ⟨a3,i,rfl,o⟩;try dsimp only at hd
 obtain ⟨bi,k,hd⟩:=bS hd;refine Ai (fun (y:Bool×Unit) w_ g=>∃ψ:AF,Sub a3 ψ∧y.1=g∧St ψ (cW 57 r1 [.int .i64 x_1.1,.int .i64 x_1.2.1]::F) w_) (g:=bi) ?_ ?_
 ·refine AG k (by rw [a2] <;>rfl) (fun _ k=> ?_) (fun _ k=> ?_)
  ·obtain ⟨a0,bj,k⟩:=bS k;obtain ⟨db,dc,bk,bl,bm,ae⟩:=(f.mono i).get bj;refine AH _ bk (Am bl ?_);obtain ⟨_,_,rfl,rfl,rfl⟩:=bm;refine AN (x:=a0.1) (AD o.sub (ae 0 _ rfl)) rfl<|AN (x:=a0.2) (by rw [Ac];exact (AD o.sub (ae 1 _ rfl))) rfl<|AA (x:=x_1.1) o rfl<|AA (x:=x_1.2.1) o rfl ?_;obtain rfl:=iS k;exact AP (((a0.1==x_1.1) && ((a0.2==x_1.2.1) && true)),()) rfl ⟨a3,(bT _),rfl,o⟩
  obtain rfl:=iS k;exact AP (false,()) rfl ⟨a3,(bT _),rfl,o⟩
 rintro z14 dd ⟨bp,m,rfl,s⟩;try dsimp only at hd
 refine AG hd rfl (fun _ hd=> ?_) (fun _ hd=> ?_)
 ·obtain rfl:=iS hd;exact AB ⟨bp,l_0,z,(i.trans m),rfl,rfl,(f.mono (i.trans m)),s.tail⟩
 obtain ⟨a4,bq,hd⟩:=bS hd;obtain ⟨br,a1⟩:=(f.mono (i.trans m)).cut (sz:=2) bq rfl;refine Am br ?_;have a5:=a1.length;refine AA (x:=x_1.1) s rfl<|AA (x:=x_1.2.1) s rfl ?_;obtain ⟨a6,bs,hd⟩:=bS hd;obtain ⟨af,u⟩:=(f.mono (i.trans m)).cut (sz:=2) bs rfl;rw [←a2]at af u;refine Am af ?_;have a7:=u.length;refine Jf ?_ ?_
 ·refine AZ (vs:=[]) s fun r22 de w=>AS (cH (b:=r1) (j:=0) w.at1 rfl)<|AS (cH (b:=r1) (j:=1) w.at1 rfl)<|Jf ?_ ?_
  ·obtain ⟨df,bt,bu⟩:=a1.heap w.sub;have bv:=dO (r:=Av) (l:=([]:List Aj)) (n:=0) w .nil rfl (by decide);obtain ⟨dg,bw,hd⟩:=bS hd;refine Aa (r:=Av) (ms:=a4) Bp bv rfl bu bt a5.symm bw ?_;intro t23 dh a8;refine AS (cH (b:=r1) (j:=0) a8.at1 rfl)<|AS (cH (b:=r1) (j:=1) a8.at1 rfl)<|AZ (vs:=[.int .i64 x_1.1,.int .i64 x_1.2.1]) a8 fun r24 di ag=> ?_;obtain ⟨dj,bx,hd⟩:=bS hd;refine Aa (r:=Av) (ms:=([(x_1.1,x_1.2.1)]:List Aj)) Bp ag.tail rfl (cS ag) (.cons (a:=[_,_]) ⟨[_],_,rfl,rfl,rfl⟩ .nil) rfl bx ?_;intro t25 dk ah;obtain ⟨dl,bz,c0⟩:=u.heap ah.sub;obtain ⟨c1,c2,hd⟩:=bS hd;refine Aa (r:=Av) (ms:=a6) Bp ah rfl c0 bz a7.symm c2 ?_;intro t26 dm c3;obtain ⟨c4,c5,c6,c7⟩:=cB (t:=t26) c3;obtain rfl:=iS hd;exact AB ⟨c4,t26,c1,((i.trans m).trans c5),rfl,rfl,c6,c7.tail⟩
  ·refine AZ (vs:=[.int .i64 x_1.1,.int .i64 x_1.2.1]) w fun r27 dn ai=> ?_;obtain ⟨dp,c8,c9⟩:=a1.heap ai.sub;have ca:=dO (r:=Av) (l:=([]:List Aj)) (n:=0) ai.at1 .nil rfl (by decide);obtain ⟨dq,cb,hd⟩:=bS hd;refine Aa (r:=Av) (ms:=a4) Bp ca rfl c9 c8 a5.symm cb ?_;intro t28 dr aj;obtain ⟨ds,cc,hd⟩:=bS hd;refine Aa (r:=Av) (ms:=([(x_1.1,x_1.2.1)]:List Aj)) Bp aj.at1.tail rfl (cS aj.at1) (.cons (a:=[_,_]) ⟨[_],_,rfl,rfl,rfl⟩ .nil) rfl cc ?_;intro t29 dt ak;obtain ⟨du,cd,ce⟩:=u.heap ak.sub;obtain ⟨cf,cg,hd⟩:=bS hd;refine Aa (r:=Av) (ms:=a6) Bp ak rfl ce cd a7.symm cg ?_;intro t30 dv ch;obtain ⟨ci,cj,ck,cl⟩:=cB (t:=t30) ch;obtain rfl:=iS hd;exact AB ⟨ci,t30,cf,((i.trans m).trans cj),rfl,rfl,ck,cl.tail⟩
 ·refine AZ (vs:=[.int .i64 x_1.1,.int .i64 x_1.2.1]) s fun r31 dw cm=>AZ (vs:=[]) cm fun r32 dx al=> ?_;obtain ⟨dy,cn,co⟩:=a1.heap al.sub;have cp:=dO (r:=Av) (l:=([]:List Aj)) (n:=0) al .nil rfl (by decide);obtain ⟨dz,cq,hd⟩:=bS hd;refine Aa (r:=Av) (ms:=a4) Bp cp rfl co cn a5.symm cq ?_;intro t33 e0 am;obtain ⟨e1,cr,hd⟩:=bS hd;refine Aa (r:=Av) (ms:=([(x_1.1,x_1.2.1)]:List Aj)) Bp am.at1.tail rfl (cS am.at1) (.cons (a:=[_,_]) ⟨[_],_,rfl,rfl,rfl⟩ .nil) rfl cr ?_;intro t34 e2 an;obtain ⟨e3,cs,ct⟩:=u.heap an.sub;obtain ⟨cu,cv,hd⟩:=bS hd;refine Aa (r:=Av) (ms:=a6) Bp an rfl ct cs a7.symm cv ?_;intro t35 e4 cw;obtain ⟨cx,cy,cz,d0⟩:=cB (t:=t35) cw;obtain rfl:=iS hd;exact AB ⟨cx,t35,cu,((i.trans m).trans cy),rfl,rfl,cz,d0.tail⟩
noncomputable def BP (p_0:Aw) (x_1:Aj):Option Int:=(idx p_0.2.2.1 x_1.1).bind fun e25=>cond (decide (x_1.2< (e25.2.1.length:Int))) ((idx p_0.2.2.1 x_1.1).bind fun e41=>(idx e41.2.1 x_1.2).bind fun e51=>some e51) (some (-1:Int))
theorem DJ {p_0:Pl6}{b:List ByteArray}{c:List ByteArray}{d:List A0}{e:List Int}{f:List Int}{g:List ByteArray}{x_1:Int×Int×Unit}(ad:Ro.SliceIs bR φ p_0.1 b) (ae:Ro.SliceIs bR φ p_0.2.1 c) (i:Ro.SliceIs A5 φ p_0.2.2.1 d) (af:Ro.SliceIs (bV .i64) φ p_0.2.2.2.1 e) (ag:Ro.SliceIs (bV .i64) φ p_0.2.2.2.2.1 f) (ah:Ro.SliceIs bR φ p_0.2.2.2.2.2.1 g) (s0:St φ (F) h) {r:Int}(hd:BP (b,c,d,e,f,g) (x_1.1,x_1.2.1)=some r):
 CallsH cN 35 [(aG p_0),(.agg #[(.int .i64 x_1.1),(.int .i64 x_1.2.1)])] h (BL fun v h'=>∃ψ:AF,∃y:Int,Sub φ ψ∧v=((.one aI):Sh).val y∧y=r∧St ψ (F) h'):=by
 refine AV mixed Tryz.func35 ?_;rw [FR];unfold Df;unfold BP at hd;refine AZ (vs:=[sv p_0.1,sv p_0.2.1,sv p_0.2.2.1,sv p_0.2.2.2.1,sv p_0.2.2.2.2.1,sv p_0.2.2.2.2.2.1]) s0 fun r1 ai j=>AZ (vs:=[.int .i64 x_1.1,.int .i64 x_1.2.1]) j fun r2 aj a=>AA (x:=x_1.2.1) a rfl<|AA (x:=p_0.2.2.1) a.at1 rfl<|AA (x:=x_1.1) a rfl ?_;obtain ⟨ak,k,hd⟩:=bS hd;obtain ⟨al,am,l,m,n,o⟩:=i.get k;refine AH _ l (Am m ?_);obtain ⟨_,_,rfl,rfl,⟨_,_,rfl,⟨u,rfl,w⟩,t⟩⟩:=n;have z:=w.length;obtain rfl:=t;refine AN (x:=u) (by rw [Ac];exact (AD a.sub (o 1 _ rfl))) rfl<|AG hd (by rw [z] <;>rfl) (fun _ hd=> ?_) (fun _ hd=> ?_)
 ·refine AA (x:=p_0.2.2.1) a.at1 rfl<|AA (x:=x_1.1) a rfl ?_;obtain ⟨an,a0,hd⟩:=bS hd;obtain ⟨ao,ap,a1,a2,a3,a4⟩:=i.get a0;refine AH _ a1 (Am a2 ?_);obtain ⟨_,_,rfl,rfl,⟨_,_,rfl,⟨a9,rfl,aa⟩,rfl⟩⟩:=a3;refine AN (x:=a9) (by rw [Ac];exact (AD a.sub (a4 1 _ rfl))) rfl<|AA (x:=x_1.2.1) a rfl ?_;obtain ⟨ab,ac,hd⟩:=bS hd;refine Dv aa ac a.sub ?_;obtain rfl:=iS hd;exact AB ⟨φ,ab,(bT _),rfl,rfl,a.tail.tail⟩
 obtain rfl:=iS hd;exact AB ⟨φ,(-1:Int),(bT _),rfl,rfl,a.tail.tail⟩
noncomputable def Ao (p_0:Aw) (kernel_1:List Aj):Option (List Aj):=(app ([]:List Aj) kernel_1).bind fun t3=>(loop (σ:=(Bool×List Aj)) (β:=List Aj) (true,t3) fun z5=>cond z5.1 ((loop (σ:=(Int×Bool×List Aj)) (β:=(Bool×List Aj)) (0,false,z5.2) fun z7=>(cond (decide (z7.1< (z7.2.2.length:Int))) (some (!z7.2.1)) (some false)).bind fun z8=>cond z8 ((idx z7.2.2 z7.1).bind fun e75=>(BP (p_0.1,p_0.2.1,p_0.2.2.1,p_0.2.2.2.1,p_0.2.2.2.2.1,p_0.2.2.2.2.2) (e75.1,e75.2)).bind fun t18=>(Fe (σ:=(Bool×List Aj)) 0 (p_0.2.2.1.length:Int) (z7.2.1,z7.2.2) fun i_z20 z20=>(idx p_0.2.2.1 i_z20).bind fun e109=>(cond (e109.1==t18) ((Bl z20.2 (i_z20,0)).bind fun t26=>(cond z20.1 (some true) (some (decide ((t26.length:Int) >(z20.2.length:Int))))).bind fun z27=>some (z27,t26)) (some (z20.1,z20.2))).bind fun z25=>some (z25.1,z25.2)).bind fun z19=>some (cE ((bM .i64 (z7.1+1)),z19.1,z19.2))) (some (cD (z7.2.1,z7.2.2)))).bind fun z6=>some (cE (z6.1,z6.2))) (some (cD z5.2))).bind fun z4=>some z4
theorem FG {p_0:Pl6}{a6:List ByteArray}{a7:List ByteArray}{z:List A0}{a8:List Int}{a9:List Int}{aa:List ByteArray}{kernel_1:Slc}{q:List Aj}(b2:Ro.SliceIs bR φ p_0.1 a6) (b3:Ro.SliceIs bR φ p_0.2.1 a7) (a0:Ro.SliceIs A5 φ p_0.2.2.1 z) (b4:Ro.SliceIs (bV .i64) φ p_0.2.2.2.1 a8) (b5:Ro.SliceIs (bV .i64) φ p_0.2.2.2.2.1 a9) (b6:Ro.SliceIs bR φ p_0.2.2.2.2.2.1 aa) (ab:Ro.SliceIs Av φ kernel_1 q) (s0:St φ (F) h) {r:(List Aj)}(hd:Ao (a6,a7,z,a8,a9,aa) q=some r):
 CallsH cN 55 [(aG p_0),(sv kernel_1)] h (BL fun v h'=>∃ψ:AF,∃y:Slc,∃ac:List Aj,Sub φ ψ∧v=((.one aS):Sh).val y∧ac=r∧Ro.SliceIs Av ψ y ac∧St ψ (F) h'):=by
 refine AV mixed Tryz.func55 ?_;rw [FE];unfold DS;unfold Ao at hd;have ad:p_0.2.2.1.2.1=cA z:=a0.length;have b7:kernel_1.2.1=cA q:=ab.length;refine AZ (vs:=[sv p_0.1,sv p_0.2.1,sv p_0.2.2.1,sv p_0.2.2.2.1,sv p_0.2.2.2.2.1,sv p_0.2.2.2.2.2.1]) s0 fun r1 db b8=>AZ (vs:=[]) b8 fun r2 dc ae=> ?_;obtain ⟨dd,b9,ba⟩:=ab.heap ae.sub;have bb:=dO (r:=Av) (l:=([]:List Aj)) (n:=0) ae .nil rfl (by decide);obtain ⟨bc,bd,hd⟩:=bS hd;refine Aa (r:=Av) (ms:=q) Bp bb rfl ba b9 b7.symm bd ?_;intro t3 de be;obtain ⟨a1,j,bf,bg⟩:=cB (t:=t3) be;obtain ⟨bh,bi,hd⟩:=bS hd;refine Bc (fun (y:Bool×Slc×Unit) w_ g=>∃ψ:AF,∃af:List Aj,Sub a1 ψ∧af=g∧Ro.SliceIs Av ψ y.2.1 af∧St ψ (Wq2 r1 p_0::F) w_) (g:=bh) ?_ ?_
 ·refine Cr bi (fun (y:Bool×Slc×Unit) w_ g=>∃ψ:AF,∃ag:List Aj,Sub a1 ψ∧(y.1,ag)=g∧Ro.SliceIs Av ψ y.2.1 ag∧St ψ (Wq2 r1 p_0::F) w_) (true,t3,()) rfl ⟨a1,bc,(bT _),rfl,bf,bg⟩ ?_
  ·rintro z5 df _ _ ⟨s,ah,e,rfl,ai,aj⟩ f bj;try dsimp only at f
   refine AG f rfl (fun _ f=> ?_) (fun _ f=> ?_)
   ·obtain ⟨bk,bl,f⟩:=bS f;refine Bc (fun (y:Int×Bool×Slc×Unit) w_ g=>∃ψ:AF,∃ak:List Aj,Sub s ψ∧(y.2.1,ak)=g∧Ro.SliceIs Av ψ y.2.2.1 ak∧St ψ (Wq2 r1 p_0::F) w_) (g:=bk) ?_ ?_
    ·refine Cr bl (fun (y:Int×Bool×Slc×Unit) w_ g=>∃ψ:AF,∃al:List Aj,Sub s ψ∧(y.1,y.2.1,al)=g∧Ro.SliceIs Av ψ y.2.2.1 al∧St ψ (Wq2 r1 p_0::F) w_) ((0:Int),false,z5.2.1,()) rfl ⟨s,ah,(bT _),rfl,ai,aj⟩ ?_
     ·rintro z7 dg _ _ ⟨a2,am,i,rfl,u,an⟩ a bm;try dsimp only at a
      have bn:=u.length;obtain ⟨bo,m,a⟩:=bS a;refine Ai (fun (y:Bool×Unit) w_ g=>∃ψ:AF,Sub a2 ψ∧y.1=g∧St ψ (Wq2 r1 p_0::F) w_) (g:=bo) ?_ ?_
      ·refine AG m (by rw [bn] <;>rfl) (fun _ m=> ?_) (fun _ m=> ?_)
       ·obtain rfl:=iS m;exact AP ((!z7.2.1),()) rfl ⟨a2,(bT _),rfl,an⟩
       obtain rfl:=iS m;exact AP (false,()) rfl ⟨a2,(bT _),rfl,an⟩
      rintro z8 dh ⟨bp,b,rfl,c⟩;try dsimp only at a
      refine AG a rfl (fun _ a=> ?_) (fun _ a=> ?_)
      ·refine AA (x:=p_0.1) c rfl<|AA (x:=p_0.2.1) c rfl<|AA (x:=p_0.2.2.1) c rfl<|AA (x:=p_0.2.2.2.1) c rfl<|AA (x:=p_0.2.2.2.2.1) c rfl<|AA (x:=p_0.2.2.2.2.2.1) c rfl ?_;obtain ⟨w,bq,a⟩:=bS a;obtain ⟨di,dj,br,bs,bt,ao⟩:=(u.mono b).get bq;refine AH _ br (Am bs ?_);obtain ⟨_,_,rfl,rfl,rfl⟩:=bt;refine AN (x:=w.1) (AD c.sub (ao 0 _ rfl)) rfl<|AN (x:=w.2) (by rw [Ac];exact (AD c.sub (ao 1 _ rfl))) rfl ?_;obtain ⟨dk,bw,a⟩:=bS a;refine AM (DJ (p_0:=(p_0.1,p_0.2.1,p_0.2.2.1,p_0.2.2.2.1,p_0.2.2.2.2.1,p_0.2.2.2.2.2.1,())) (x_1:=(w.1,w.2,())) (b2.mono (((j.trans e).trans i).trans b)) (b3.mono (((j.trans e).trans i).trans b)) (a0.mono (((j.trans e).trans i).trans b)) (b4.mono (((j.trans e).trans i).trans b)) (b5.mono (((j.trans e).trans i).trans b)) (b6.mono (((j.trans e).trans i).trans b)) c bw) ?_;rintro _ dl ⟨ap,t18,a3,rfl,rfl,bx⟩;refine ⟨t18,rfl,?_⟩;obtain ⟨dm,bz,a⟩:=bS a;refine Ca bz (fun c0 (y:Int×Bool×Slc×Unit) w_ g=>∃ψ:AF,∃aq:List Aj,Sub ap ψ∧y.1=c0∧(y.2.1,aq)=g∧Ro.SliceIs Av ψ y.2.2.1 aq∧St ψ (Wq2 r1 p_0::F) w_) ((0:Int),z7.2.1,z7.2.2.1,()) rfl ⟨ap,am,(bT _),rfl,rfl,(u.mono (b.trans a3)),bx⟩ ?_ ?_ ?_
       ·rintro _ z20 dn _ _ ⟨ar,c1,au,rfl,rfl,a4,o⟩ k c2 av aw;try dsimp only at k c2 av aw
        have c3:=a4.length;refine AA (x:=p_0.2.2.1) o rfl<|BF (dT ad av)<|AA (x:=p_0.2.2.1) o rfl ?_;obtain ⟨c4,c5,k⟩:=bS k;obtain ⟨dp,dq,c6,c7,c8,c9⟩:=(a0.mono (((((j.trans e).trans i).trans b).trans a3).trans au)).get c5;refine AH _ c6 (Am c7 ?_);obtain ⟨_,_,rfl,rfl,⟨_,_,rfl,⟨dr,rfl,ds⟩,rfl⟩⟩:=c8;refine AN (x:=c4.1) (AD o.sub (c9 0 _ rfl)) rfl ?_;obtain ⟨ce,d,k⟩:=bS k;refine Ai (fun (y:Bool×Slc×Unit) w_ g=>∃ψ:AF,∃ax:List Aj,Sub ar ψ∧(y.1,ax)=g∧Ro.SliceIs Av ψ y.2.1 ax∧St ψ (Wq2 r1 p_0::F) w_) (g:=ce) ?_ ?_
        ·refine AG d rfl (fun _ d=> ?_) (fun _ d=> ?_)
         ·obtain ⟨dt,cf,d⟩:=bS d;refine AM (EB (x_1:=(z20.1,(0:Int),())) a4 o cf) ?_;rintro _ du ⟨a5,t26,cg,ch,rfl,rfl,ay,az⟩;refine ⟨t26,rfl,?_⟩;have ci:=ay.length;obtain ⟨cj,p,d⟩:=bS d;refine Ai (fun (y:Bool×Unit) w_ g=>∃ψ:AF,Sub a5 ψ∧y.1=g∧St ψ (Wq2 r1 p_0::F) w_) (g:=cj) ?_ ?_
          ·refine AG p rfl (fun _ p=> ?_) (fun _ p=> ?_)
           ·obtain rfl:=iS p;exact AP (true,()) rfl ⟨a5,(bT _),rfl,az⟩
           obtain rfl:=iS p;exact AP ((decide ((t26.2.1:Int) >(z20.2.2.1.2.1:Int))),()) rfl ⟨a5,(bT _),(by rw [ci,c3]),az⟩
          rintro z27 dv ⟨ck,b0,rfl,cl⟩;try dsimp only at d
          obtain rfl:=iS d;exact AP (z27.1,t26,()) rfl ⟨ck,cg,(ch.trans b0),rfl,(ay.mono b0),cl⟩
         obtain rfl:=iS d;exact AP (z20.2.1,z20.2.2.1,()) rfl ⟨ar,c1,(bT _),rfl,a4,o⟩
        rintro z25 dw ⟨cm,cn,co,rfl,cp,cq⟩;try dsimp only at k
        obtain rfl:=iS k;exact Al ((wN z20.1),z25.1,z25.2.1,()) _ rfl rfl ⟨cm,cn,(au.trans co),aw,rfl,cp,cq⟩
       ·rintro _ z20 dx ⟨cr,cs,ct,rfl,rfl,cu,b1⟩ cv;refine AA (x:=p_0.2.2.1) b1 rfl<|As (dF ad cv)<|AO (AR (z20.1,z20.2.1,z20.2.2.1,()) rfl ⟨_,cr,cs,ct,rfl,rfl,cu,b1⟩)
       rintro z19 dy ⟨_,cw,cx,cy,_,rfl,cz,d0⟩;try dsimp only at a
       obtain rfl:=iS a;exact Al ((wN z7.1),z19.2.1,z19.2.2.1,()) _ rfl rfl ⟨cw,cx,(((i.trans b).trans a3).trans cy),rfl,cz,d0⟩
      obtain rfl:=iS a;obtain rfl:=bm _ rfl;exact AO (AR (z7.1,z7.2.1,z7.2.2.1,()) rfl ⟨bp,am,(i.trans b),rfl,(u.mono b),c⟩)
    rintro z6 dz ⟨d1,d2,d3,rfl,d4,d5⟩;try dsimp only at f
    obtain rfl:=iS f;exact Al (z6.2.1,z6.2.2.1,()) _ rfl rfl ⟨d1,d2,(e.trans d3),rfl,d4,d5⟩
   obtain rfl:=iS f;obtain rfl:=bj _ rfl;exact AO (AR (z5.1,z5.2.1,()) rfl ⟨s,ah,e,rfl,ai,aj⟩)
 rintro z4 e0 ⟨d6,d7,d8,rfl,d9,da⟩;try dsimp only at hd
 obtain rfl:=iS hd;exact AB ⟨d6,z4.2.1,d7,(j.trans d8),rfl,rfl,d9,da.tail⟩
noncomputable def Ay (a_0:I7) (state_1:Int) (sym_2:Int):Option Int:=
 (cond (decide (state_1< 0))
 (some true)
 (some (decide (state_1≥ (a_0.2.2.2.2.2.2.2.2.1.length:Int))))).bind fun z1=>
 cond z1
 (some (-1:Int))
 ((loop (σ:=Int) (β:=AT Unit Int) 0 fun z5=>
  (idx a_0.2.2.2.2.2.2.2.2.1 state_1).bind fun e96=>
  cond (decide (z5< (e96.length:Int)))
  ((idx a_0.2.2.2.2.2.2.2.2.1 state_1).bind fun e102=>
   (idx e102 z5).bind fun e111=>
   cond (e111.1==sym_2)
   ((idx a_0.2.2.2.2.2.2.2.2.1 state_1).bind fun e119=>
    (idx e119 z5).bind fun e128=>
    some (cD (cD e128.2)))
   (some (cE (bM .i64 (z5+1)))))
  (some (cD (cE ())))).bind fun e_z4=>match e_z4 with
  |.next z4=>
   some (-1:Int)
  |.done q138=>some q138)
theorem C5 {a_0:Option Addr}{n:I7}{state_1:Int}{sym_2:Int}(o:Pt Mz φ a_0 n) (s0:St φ (F) h) {r:Int}(hd:Ay n state_1 sym_2=some r):
 CallsH cN 12 [(.pointer a_0),(.int .i64 state_1),(.int .i64 sym_2)] h (BL fun v h'=>∃ψ:AF,∃y:Int,Sub φ ψ∧v=((.one aI):Sh).val y∧y=r∧St ψ (F) h'):=by
 refine AV mixed Tryz.func12 ?_;rw [FF];unfold DT;unfold Ay at hd;obtain ⟨u,e,hd⟩:=bS hd;refine Ai (fun (y:Bool×Unit) w_ g=>∃ψ:AF,Sub φ ψ∧y.1=g∧St ψ (F) w_) (g:=u) ?_ ?_
 ·refine AG e rfl (fun _ e=> ?_) (fun _ e=> ?_)
  ·obtain rfl:=iS e;exact AP (true,()) rfl ⟨φ,(bT _),rfl,s0⟩
  obtain ⟨av,aw,w,⟨_,_,rfl,⟨ax,rfl,ay⟩,_,_,rfl,⟨az,rfl,b0⟩,_,_,rfl,⟨b1,rfl,b2⟩,_,_,rfl,⟨b3,rfl,b4⟩,_,_,rfl,⟨b5,rfl,b6⟩,_,_,rfl,⟨b7,rfl,b8⟩,_,_,rfl,⟨b9,rfl,ba⟩,_,_,rfl,⟨bb,rfl,bc⟩,_,_,rfl,⟨p,rfl,z⟩,_,_,rfl,⟨bd,rfl,be⟩,_,_,rfl,⟨bf,rfl,bg⟩,rfl⟩,a0⟩:=id o;have a1:=z.length;refine AH _ w<|AN (x:=p) (AD s0.sub (a0.at 8 rfl)) rfl ?_;obtain rfl:=iS e;exact AP ((decide (state_1≥ (p.2.1:Int))),()) rfl ⟨φ,(bT _),(by rw [a1]),s0⟩
 rintro z1 bh ⟨f,b,rfl,q⟩;try dsimp only at hd
 refine AG hd rfl (fun _ hd=> ?_) (fun _ hd=> ?_)
 ·obtain rfl:=iS hd;exact AB ⟨f,(-1:Int),b,rfl,rfl,q⟩
 obtain ⟨a2,a3,hd⟩:=bS hd;refine Bc (fun (y:Int×Int×Unit) w_ g=>∃ψ:AF,Sub f ψ∧cE ()=g∧St ψ (F) w_) (g:=a2) ?_ ?_
 ·refine Cr a3 (fun (y:Int×Int×Unit) w_ g=>∃ψ:AF,Sub f ψ∧y.1=g∧St ψ (F) w_) ((0:Int),(0:Int),()) rfl ⟨f,(bT _),rfl,q⟩ ?_
  ·rintro z5 bi _ _ ⟨i,c,rfl,d⟩ a s;try dsimp only at a
   obtain ⟨bj,bk,j,⟨_,_,rfl,⟨bl,rfl,bm⟩,_,_,rfl,⟨bn,rfl,bo⟩,_,_,rfl,⟨bp,rfl,bq⟩,_,_,rfl,⟨br,rfl,bs⟩,_,_,rfl,⟨bt,rfl,bu⟩,_,_,rfl,⟨bv,rfl,bw⟩,_,_,rfl,⟨bx,rfl,bz⟩,_,_,rfl,⟨c0,rfl,c1⟩,_,_,rfl,⟨k,rfl,l⟩,_,_,rfl,⟨c2,rfl,c3⟩,_,_,rfl,⟨c4,rfl,c5⟩,rfl⟩,m⟩:=id o;refine AH _ j<|AN (x:=k) (AD (cU (b.trans c) d.sub) (m.at 8 rfl)) rfl ?_;obtain ⟨c6,a4,a⟩:=bS a;refine Hv l a4 (cU (b.trans c) d.sub) fun c7 a5=> ?_;have a6:=a5.length;refine AG a (by rw [a6] <;>rfl) (fun _ a=> ?_) (fun _ a=> ?_)
   ·refine AH _ j<|AN (x:=k) (AD (cU (b.trans c) d.sub) (m.at 8 rfl)) rfl ?_;obtain ⟨c8,a7,a⟩:=bS a;refine Hv l a7 (cU (b.trans c) d.sub) fun c9 a8=> ?_;obtain ⟨a9,aa,a⟩:=bS a;obtain ⟨ca,cb,ab,ac,ad,ae⟩:=(a8.mono (b.trans c)).get aa;refine AH _ ab (Am ac ?_);obtain ⟨_,_,rfl,rfl,rfl⟩:=ad;refine AN (x:=a9.1) (AD d.sub (ae 0 _ rfl)) rfl<|AG a rfl (fun _ a=> ?_) (fun _ a=> ?_)
    ·refine AH _ j<|AN (x:=k) (AD (cU (b.trans c) d.sub) (m.at 8 rfl)) rfl ?_;obtain ⟨cc,ah,a⟩:=bS a;refine Hv l ah (cU (b.trans c) d.sub) fun cd ai=> ?_;obtain ⟨t,aj,a⟩:=bS a;obtain ⟨ce,cf,ak,al,am,an⟩:=(ai.mono (b.trans c)).get aj;refine AH _ ak (Am al ?_);obtain ⟨_,_,rfl,rfl,rfl⟩:=am;refine AN (x:=t.2) (by rw [Ac];exact (AD d.sub (an 1 _ rfl))) rfl ?_;obtain rfl:=iS a;obtain rfl:=s _ rfl;try dsimp only at hd
     obtain rfl:=iS hd;exact Ae (Ah (AB ⟨i,t.2,(b.trans c),rfl,rfl,d⟩))
    obtain rfl:=iS a;exact Al ((wN z5.1),z5.2.1,()) _ rfl rfl ⟨i,c,rfl,d⟩
   obtain rfl:=iS a;obtain rfl:=s _ rfl;exact AO (AR (z5.1,z5.2.1,()) rfl ⟨i,c,rfl,d⟩)
 rintro z4 cg ⟨aq,ar,rfl,au⟩;try dsimp only at hd
 obtain rfl:=iS hd;exact AB ⟨aq,(-1:Int),(b.trans ar),rfl,rfl,au⟩
noncomputable def BS (a_0:I7) (state_1:Int) (seq_2:List Int):Option Int:=(cond (decide (state_1< 0)) (some true) (some (decide (state_1≥ (a_0.2.2.2.2.2.2.1.length:Int))))).bind fun z1=>cond z1 (some (-1:Int)) ((loop (σ:=(Int×Int)) (β:=Int) (0,state_1) fun z5=>(cond (decide (z5.1< (seq_2.length:Int))) (some (decide (z5.2≥ 0))) (some false)).bind fun z6=>cond z6 ((idx seq_2 z5.1).bind fun e65=>(Ay a_0 z5.2 e65).bind fun t9=>some (cE ((bM .i64 (z5.1+1)),t9))) (some (cD z5.2))).bind fun z4=>some z4)
theorem Et {a_0:Option Addr}{m:I7}{state_1:Int}{seq_2:Slc}{j:List Int}(n:Pt Mz φ a_0 m) (o:Ro.SliceIs (bV .i64) φ seq_2 j) (s0:St φ (F) h) {r:Int}(hd:BS m state_1 j=some r):
 CallsH cN 22 [(.pointer a_0),(.int .i64 state_1),(sv seq_2)] h (BL fun v h'=>∃ψ:AF,∃y:Int,Sub φ ψ∧v=((.one aI):Sh).val y∧y=r∧St ψ (F) h'):=by
 refine AV mixed Tryz.func22 ?_;rw [El];unfold C1;unfold BS at hd;have t:seq_2.2.1=cA j:=o.length;obtain ⟨u,b,hd⟩:=bS hd;refine Ai (fun (y:Bool×Unit) w_ g=>∃ψ:AF,Sub φ ψ∧y.1=g∧St ψ (F) w_) (g:=u) ?_ ?_
 ·refine AG b rfl (fun _ b=> ?_) (fun _ b=> ?_)
  ·obtain rfl:=iS b;exact AP (true,()) rfl ⟨φ,(bT _),rfl,s0⟩
  obtain ⟨af,ag,w,⟨_,_,rfl,⟨ah,rfl,ai⟩,_,_,rfl,⟨aj,rfl,ak⟩,_,_,rfl,⟨al,rfl,am⟩,_,_,rfl,⟨an,rfl,ao⟩,_,_,rfl,⟨ap,rfl,aq⟩,_,_,rfl,⟨ar,rfl,au⟩,_,_,rfl,⟨p,rfl,z⟩,_,_,rfl,⟨av,rfl,aw⟩,_,_,rfl,⟨ax,rfl,ay⟩,_,_,rfl,⟨az,rfl,b0⟩,_,_,rfl,⟨b1,rfl,b2⟩,rfl⟩,a0⟩:=id n;have a1:=z.length;refine AH _ w<|AN (x:=p) (AD s0.sub (a0.at 6 rfl)) rfl ?_;obtain rfl:=iS b;exact AP ((decide (state_1≥ (p.2.1:Int))),()) rfl ⟨φ,(bT _),(by rw [a1]),s0⟩
 rintro z1 b3 ⟨d,e,rfl,q⟩;try dsimp only at hd
 refine AG hd rfl (fun _ hd=> ?_) (fun _ hd=> ?_)
 ·obtain rfl:=iS hd;exact AB ⟨d,(-1:Int),e,rfl,rfl,q⟩
 obtain ⟨a2,a3,hd⟩:=bS hd;refine Bc (fun (y:Int×Int×Unit) w_ g=>∃ψ:AF,Sub d ψ∧y.2.1=g∧St ψ (F) w_) (g:=a2) ?_ ?_
 ·refine Cr a3 (fun (y:Int×Int×Unit) w_ g=>∃ψ:AF,Sub d ψ∧(y.1,y.2.1)=g∧St ψ (F) w_) ((0:Int),state_1,()) rfl ⟨d,(bT _),rfl,q⟩ ?_
  ·rintro z5 b4 _ _ ⟨k,f,rfl,s⟩ a a4;try dsimp only at a
   obtain ⟨a5,c,a⟩:=bS a;refine Ai (fun (y:Bool×Unit) w_ g=>∃ψ:AF,Sub k ψ∧y.1=g∧St ψ (F) w_) (g:=a5) ?_ ?_
   ·refine AG c (by rw [t] <;>rfl) (fun _ c=> ?_) (fun _ c=> ?_)
    ·obtain rfl:=iS c;exact AP ((decide (z5.2.1≥ (0:Int))),()) rfl ⟨k,(bT _),rfl,s⟩
    obtain rfl:=iS c;exact AP (false,()) rfl ⟨k,(bT _),rfl,s⟩
   rintro z6 b5 ⟨a6,i,rfl,l⟩;try dsimp only at a
   refine AG a rfl (fun _ a=> ?_) (fun _ a=> ?_)
   ·obtain ⟨b6,a7,a⟩:=bS a;refine Dv o a7 (cU ((e.trans f).trans i) l.sub) ?_;obtain ⟨b7,a8,a⟩:=bS a;refine AM (C5 (n.mono ((e.trans f).trans i)) l a8) ?_;rintro _ b8 ⟨a9,t9,aa,rfl,rfl,ab⟩;refine ⟨t9,rfl,?_⟩;obtain rfl:=iS a;exact Al ((wN z5.1),t9,()) _ rfl rfl ⟨a9,((f.trans i).trans aa),rfl,ab⟩
   obtain rfl:=iS a;obtain rfl:=a4 _ rfl;exact AO (AR (z5.1,z5.2.1,()) rfl ⟨a6,(f.trans i),rfl,l⟩)
 rintro z4 b9 ⟨ac,ad,rfl,ae⟩;try dsimp only at hd
 obtain rfl:=iS hd;exact AB ⟨ac,z4.2.1,(e.trans ad),rfl,rfl,ae⟩
noncomputable def A9 (a_0:I7) (state_1:Int):Option (List Int):=(loop (σ:=(List Int×Int)) (β:=List Int) (([]:List Int),state_1) fun z2=>(cond (decide (z2.2>0)) (some (decide (z2.2< (a_0.2.2.2.2.2.2.1.length:Int)))) (some false)).bind fun z3=>cond z3 ((idx a_0.2.2.2.2.2.2.2.2.2.2.1 z2.2).bind fun e99=>(app ([e99]:List Int) z2.1).bind fun t11=>(idx a_0.2.2.2.2.2.2.2.2.2.1 z2.2).bind fun e113=>some (cE (t11,e113))) (some (cD z2.1))).bind fun z1=>some z1
theorem Cj {a_0:Option Addr}{o:I7}{state_1:Int}(p:Pt Mz φ a_0 o) (s0:St φ (F) h) {r:(List Int)}(hd:A9 o state_1=some r):
 CallsH cN 20 [(.pointer a_0),(.int .i64 state_1)] h (BL fun v h'=>∃ψ:AF,∃y:Slc,∃q:List Int,Sub φ ψ∧v=((.one aS):Sh).val y∧q=r∧Ro.SliceIs (bV .i64) ψ y q∧St ψ (F) h'):=by
 refine AV mixed Tryz.func20 ?_;rw [Em];unfold C2;unfold A9 at hd;obtain ⟨a4,a5,hd⟩:=bS hd;refine Bc (fun (y:Slc×Int×Unit) w_ g=>∃ψ:AF,∃s:List Int,Sub φ ψ∧s=g∧Ro.SliceIs (bV .i64) ψ y.1 s∧St ψ (F) w_) (g:=a4) ?_ ?_
 ·refine Cr a5 (fun (y:Slc×Int×Unit) w_ g=>∃ψ:AF,∃u:List Int,Sub φ ψ∧(u,y.2.1)=g∧Ro.SliceIs (bV .i64) ψ y.1 u∧St ψ (F) w_) (((none,0,0):Slc),state_1,()) rfl ⟨φ,[],(bT _),rfl,(bW (bV .i64) φ),s0⟩ ?_
  ·rintro z2 b0 _ _ ⟨i,w,d,rfl,j,k⟩ b a6;try dsimp only at b
   obtain ⟨a7,e,b⟩:=bS b;refine Ai (fun (y:Bool×Unit) w_ g=>∃ψ:AF,Sub i ψ∧y.1=g∧St ψ (F) w_) (g:=a7) ?_ ?_
   ·refine AG e rfl (fun _ e=> ?_) (fun _ e=> ?_)
    ·obtain ⟨b1,b2,a8,⟨_,_,rfl,⟨b3,rfl,b4⟩,_,_,rfl,⟨b5,rfl,b6⟩,_,_,rfl,⟨b7,rfl,b8⟩,_,_,rfl,⟨b9,rfl,ba⟩,_,_,rfl,⟨bb,rfl,bc⟩,_,_,rfl,⟨bd,rfl,be⟩,_,_,rfl,⟨z,rfl,a9⟩,_,_,rfl,⟨bf,rfl,bg⟩,_,_,rfl,⟨bh,rfl,bi⟩,_,_,rfl,⟨bj,rfl,bk⟩,_,_,rfl,⟨bl,rfl,bm⟩,rfl⟩,aa⟩:=id p;have ab:=a9.length;refine AH _ a8<|AN (x:=z) (AD (cU d k.sub) (aa.at 6 rfl)) rfl ?_;obtain rfl:=iS e;exact AP ((decide (z2.2.1< (z.2.1:Int))),()) rfl ⟨i,(bT _),(by rw [ab]),k⟩
    obtain rfl:=iS e;exact AP (false,()) rfl ⟨i,(bT _),rfl,k⟩
   rintro z3 bn ⟨ac,c,rfl,f⟩;try dsimp only at b
   refine AG b rfl (fun _ b=> ?_) (fun _ b=> ?_)
   ·obtain ⟨bo,bp,a0,⟨_,_,rfl,⟨bq,rfl,br⟩,_,_,rfl,⟨bs,rfl,bt⟩,_,_,rfl,⟨bu,rfl,bv⟩,_,_,rfl,⟨bw,rfl,bx⟩,_,_,rfl,⟨bz,rfl,c0⟩,_,_,rfl,⟨c1,rfl,c2⟩,_,_,rfl,⟨c3,rfl,c4⟩,_,_,rfl,⟨c5,rfl,c6⟩,_,_,rfl,⟨c7,rfl,c8⟩,_,_,rfl,⟨ad,rfl,ae⟩,_,_,rfl,⟨af,rfl,ag⟩,rfl⟩,a1⟩:=id p;refine AH _ a0<|AN (x:=af) (AD (cU (d.trans c) f.sub) (a1.at 10 rfl)) rfl ?_;obtain ⟨a2,ah,b⟩:=bS b;refine Dv ag ah (cU (d.trans c) f.sub)<|AZ (vs:=[.int .i64 a2]) f fun r10 c9 a3=> ?_;obtain ⟨ca,ai,aj⟩:=(j.mono c).heap a3.sub;have ak:=dO (r:=(bV .i64)) (l:=([a2]:List Int)) (n:=1) a3 (.cons (a:=[_]) rfl .nil) rfl (by decide);obtain ⟨al,am,b⟩:=bS b;refine Aa (r:=(bV .i64)) (ms:=w) DE ak rfl aj ai j.length.symm am ?_;intro t11 cb m;refine AH _ a0<|AN (x:=ad) (AD (cU (d.trans c) m.sub) (a1.at 9 rfl)) rfl ?_;obtain ⟨an,ao,b⟩:=bS b;refine Dv ae ao (cU (d.trans c) m.sub) ?_;obtain ⟨ap,aq,ar,au⟩:=cB (t:=t11) m;obtain rfl:=iS b;exact Al (t11,an,()) _ rfl rfl ⟨ap,al,((d.trans c).trans aq),rfl,ar,au⟩
   obtain rfl:=iS b;obtain rfl:=a6 _ rfl;exact AO (AR (z2.1,z2.2.1,()) rfl ⟨ac,w,(d.trans c),rfl,(j.mono c),f⟩)
 rintro z1 cc ⟨av,aw,ax,rfl,ay,az⟩;try dsimp only at hd
 obtain rfl:=iS hd;exact AB ⟨av,z1.1,aw,ax,rfl,rfl,ay,az⟩
end
abbrev RW:Type:=(List ByteArray×List ByteArray×List A0×List Int×List Int×List ByteArray×List (List Aj)×List (List Aj)×List Slc×List Int×List Int×Int)
abbrev rW:Rep RW:=(dM (eX (cF bR)) (dM (eX (cF bR)) (dM (eX (cF A5)) (dM (eX (cF (bV .i64))) (dM (eX (cF (bV .i64))) (dM (eX (cF bR)) (dM (eZ 46 (cF Av)) (dM (eZ 46 (cF Av)) (dM (eZ 50 fE) (dM (eZ 3 (bV .i64)) (dM (eZ 3 (bV .i64)) (eX (bV .i64)))))))))))))
theorem Iw:G0 cN 41 41 46 1:=⟨eT,.inl eT,⟨Tryz.t46,by kernel_rfl,rfl,⟨_,rfl,rfl⟩,by decide,by decide⟩,by decide⟩
theorem LR:G0 cN 42 42 50 1:=⟨eU,.inl eU,⟨Tryz.t50,by kernel_rfl,rfl,⟨_,rfl,rfl⟩,by decide,by decide⟩,by decide⟩
noncomputable def BO (a_0:RW) (k_1:List Aj) (from_2:Int) (with_3:Int):Option (Int×RW):=
 (loop (σ:=Int) (β:=AT Unit (Int×RW)) 0 fun z2=>
  cond (decide (z2< (a_0.2.2.2.2.2.2.1.length:Int)))
  ((idx a_0.2.2.2.2.2.2.1 z2).bind fun e131=>
   (Ad e131 k_1).bind fun t9=>
   cond t9
   (some (cD (cD (z2,(a_0.1,a_0.2.1,a_0.2.2.1,a_0.2.2.2.1,a_0.2.2.2.2.1,a_0.2.2.2.2.2.1,a_0.2.2.2.2.2.2.1,a_0.2.2.2.2.2.2.2.1,a_0.2.2.2.2.2.2.2.2.1,a_0.2.2.2.2.2.2.2.2.2.1,a_0.2.2.2.2.2.2.2.2.2.2.1,(a_0.2.2.2.2.2.2.2.2.2.2.2))))))
   (some (cE (bM .i64 (z2+1)))))
  (some (cD (cE ())))).bind fun e_z1=>match e_z1 with
 |.next z1=>
  (Ao (a_0.1,a_0.2.1,a_0.2.2.1,a_0.2.2.2.1,a_0.2.2.2.2.1,a_0.2.2.2.2.2.1) k_1).bind fun t17=>
  (app a_0.2.2.2.2.2.2.1 ([k_1]:List (List Aj))).bind fun t21=>
  (app a_0.2.2.2.2.2.2.2.1 ([t17]:List (List Aj))).bind fun t26=>
  (app a_0.2.2.2.2.2.2.2.2.1 ([((none,0,0):Slc)]:List Slc)).bind fun t31=>
  (app a_0.2.2.2.2.2.2.2.2.2.1 ([from_2]:List Int)).bind fun t36=>
  (app a_0.2.2.2.2.2.2.2.2.2.2.1 ([with_3]:List Int)).bind fun t41=>
  some ((bM .i64 ((t21.length:Int) - 1)),(a_0.1,a_0.2.1,a_0.2.2.1,a_0.2.2.2.1,a_0.2.2.2.2.1,a_0.2.2.2.2.2.1,t21,t26,t31,t36,t41,(bM .i64 ((a_0.2.2.2.2.2.2.2.2.2.2.2)+(t17.length:Int)))))
 |.done q450=>some q450
theorem CU {φ:AF}{h:AE}{F:List Chk}{a_0:Option Addr}{b:RW}{k_1:Slc}{a0:List Aj}{from_2:Int}{with_3:Int}(a1:Ro.SliceIs Av φ k_1 a0) (s0:St φ (cO 44 rW a_0 b::F) h) {r:(Int×RW)}(hd:BO b a0 from_2 with_3=some r):
 CallsH cN 33 [(.pointer a_0),(.slice k_1.1 k_1.2.1 k_1.2.2),(.int .i64 from_2),(.int .i64 with_3)] h (BL fun v h'=>∃ψ:AF,∃y:Int,∃b2:RW,Sub φ ψ∧v=((.one aI):Sh).val y∧(y,b2)=r∧St ψ (cO 44 rW a_0 b2::F) h'):=by
 refine AV mixed Tryz.func33 ?_;rw [EW];unfold Cq;unfold BO at hd;have il:k_1.2.1=cA a0:=a1.length;obtain ⟨c1,c2,hd⟩:=bS hd;refine Bc (fun (y:Int×Int×Unit) w_ g=>∃ψ:AF,Sub φ ψ∧cE ()=g∧St ψ (cO 44 rW a_0 b::F) w_) (g:=c1) ?_ ?_
 ·refine Cr c2 (fun (y:Int×Int×Unit) w_ g=>∃ψ:AF,Sub φ ψ∧y.1=g∧St ψ (cO 44 rW a_0 b::F) w_) ((0:Int),(0:Int),()) rfl ⟨φ,(bT _),rfl,s0⟩ ?_
  ·rintro z2 im _ _ ⟨ac,a2,rfl,c3⟩ c b3;try dsimp only at c
   obtain ⟨w,io,b4,ip,c4⟩:=c3.open;obtain rfl:a_0=some ⟨w,0,none⟩:=by simpa using b4
   clear b4;have c5:=c4.at1;obtain ⟨iq,ir,rfl,it,c6⟩:=c5.pair;obtain ⟨⟨e,c9,a3⟩,c8⟩:=c6.ro;subst c9;have iu:=a3.length;obtain ⟨iv,iw,rfl,ix,ca⟩:=c8.pair;obtain ⟨⟨f,cd,a4⟩,cc⟩:=ca.ro;subst cd;have iy:=a4.length;obtain ⟨iz,j0,rfl,j1,ce⟩:=cc.pair;obtain ⟨⟨i,ch,a5⟩,cg⟩:=ce.ro;subst ch;have j2:=a5.length;obtain ⟨j3,j4,rfl,j5,ci⟩:=cg.pair;obtain ⟨⟨j,cl,a6⟩,ck⟩:=ci.ro;subst cl;have j6:=a6.length;obtain ⟨j7,j8,rfl,j9,cm⟩:=ck.pair;obtain ⟨⟨k,cp,a7⟩,co⟩:=cm.ro;subst cp;have ja:=a7.length;obtain ⟨jb,jc,rfl,jd,cq⟩:=co.pair;obtain ⟨⟨l,cu,a8⟩,ct⟩:=cq.ro;subst cu;have je:=a8.length;obtain ⟨jf,jg,rfl,jh,ad⟩:=ct.pair;obtain ⟨a9,cv⟩:=ad.rowCs;subst cv;have cw:=ad.rowLen;have cx:=ad.at1;obtain ⟨ji,jj,rfl,jk,ae⟩:=cx.pair;obtain ⟨b5,cy⟩:=ae.rowCs;subst cy;have jl:=ae.rowLen;have cz:=ae.at1;obtain ⟨jm,jn,rfl,jo,af⟩:=cz.pair;obtain ⟨b6,d0⟩:=af.rowCs;subst d0;have jp:=af.rowLen;have d1:=af.at1;obtain ⟨jq,jr,rfl,js,ag⟩:=d1.pair;obtain ⟨b7,d2⟩:=ag.rowCs;subst d2;have jt:=ag.rowLen;have d3:=ag.at1;obtain ⟨ju,jv,rfl,jw,ah⟩:=d3.pair;obtain ⟨b8,d4⟩:=ah.rowCs;subst d4;have jx:=ah.rowLen;have d5:=ah.at1;obtain ⟨d6,d7⟩:=d5.ro;subst d6;have z:St ac (cR 3 (bV .i64) b8 b.2.2.2.2.2.2.2.2.2.2.1::cR 3 (bV .i64) b7 b.2.2.2.2.2.2.2.2.2.1::cR 50 fE b6 b.2.2.2.2.2.2.2.2.1::cR 46 (cF Av) b5 b.2.2.2.2.2.2.2.1::cR 46 (cF Av) a9 b.2.2.2.2.2.2.1::cW 44 w [sv e,sv f,sv i,sv j,sv k,sv l,sv a9,sv b5,sv b6,sv b7,sv b8,.int .i64 (b.2.2.2.2.2.2.2.2.2.2.2)]::F) _:=d7;refine AH _ rfl<|AA (x:=a9) z.at5 rfl<|AG c (by rw [cw] <;>rfl) (fun _ c=> ?_) (fun _ c=> ?_)
   ·refine AH _ rfl<|AA (x:=a9) z.at5 rfl ?_;obtain ⟨jy,d8,c⟩:=bS c;obtain ⟨jz,k0,d9,da,db,dc⟩:=(z.at4).get d8;refine AH _ d9 (Am da ?_);obtain ⟨dd,rfl,b9⟩:=db;have k1:=b9.length;refine AN (x:=dd) (dc 0 _ rfl) rfl ?_;obtain ⟨k2,de,c⟩:=bS c;refine AM (Bu b9 (a1.mono a2) z de) ?_;rintro _ k3 ⟨aa,t9,d,rfl,rfl,ba⟩;refine ⟨t9,rfl,?_⟩;refine AG c rfl (fun _ c=> ?_) (fun _ c=> ?_)
    ·have df:=ba.at4;have dg:=df.at4;have dh:=dg.at4;have di:=dh.at4;have dj:=di.at4;have dk:=cC (r:=(bV .i64)) (cs:=[.int .i64 (b.2.2.2.2.2.2.2.2.2.2.2)]) (x:=(b.2.2.2.2.2.2.2.2.2.2.2)) dj rfl;have dl:=dk.at1;have dm:=bU dl;have dn:=dm.at1;have dp:=bU dn;have dq:=dp.at1;have dr:=bU dq;have ds:=dr.at1;have dt:=bU ds;have du:=dt.at1;have dv:=bU du;have dw:=cC (r:=(cF bR)) (cs:=[.slice l.1 l.2.1 l.2.2]) (x:=b.2.2.2.2.2.1) dv ⟨l,rfl,(a8.mono d)⟩;have dx:=bU dw;have dy:=cC (r:=(cF (bV .i64))) (cs:=[.slice k.1 k.2.1 k.2.2]) (x:=b.2.2.2.2.1) dx ⟨k,rfl,(a7.mono d)⟩;have dz:=bU dy;have e0:=cC (r:=(cF (bV .i64))) (cs:=[.slice j.1 j.2.1 j.2.2]) (x:=b.2.2.2.1) dz ⟨j,rfl,(a6.mono d)⟩;have e1:=bU e0;have e2:=cC (r:=(cF A5)) (cs:=[.slice i.1 i.2.1 i.2.2]) (x:=b.2.2.1) e1 ⟨i,rfl,(a5.mono d)⟩;have e3:=bU e2;have e4:=cC (r:=(cF bR)) (cs:=[.slice f.1 f.2.1 f.2.2]) (x:=b.2.1) e3 ⟨f,rfl,(a4.mono d)⟩;have e5:=bU e4;have e6:=cC (r:=(cF bR)) (cs:=[.slice e.1 e.2.1 e.2.2]) (x:=b.1) e5 ⟨e,rfl,(a3.mono d)⟩;have e7:=bU e6;have e8:St aa (cO 44 rW (some ⟨w,0,none⟩) (b.1,b.2.1,b.2.2.1,b.2.2.2.1,b.2.2.2.2.1,b.2.2.2.2.2.1,b.2.2.2.2.2.2.1,b.2.2.2.2.2.2.2.1,b.2.2.2.2.2.2.2.2.1,b.2.2.2.2.2.2.2.2.2.1,b.2.2.2.2.2.2.2.2.2.2.1,(b.2.2.2.2.2.2.2.2.2.2.2))::F) _:=dU e7.at1;obtain rfl:=iS c;obtain rfl:=b3 _ rfl;try dsimp only at hd
     obtain rfl:=iS hd;exact Ae (Ah (AB ⟨aa,z2.1,(b.1,b.2.1,b.2.2.1,b.2.2.2.1,b.2.2.2.2.1,b.2.2.2.2.2.1,b.2.2.2.2.2.2.1,b.2.2.2.2.2.2.2.1,b.2.2.2.2.2.2.2.2.1,b.2.2.2.2.2.2.2.2.2.1,b.2.2.2.2.2.2.2.2.2.2.1,(b.2.2.2.2.2.2.2.2.2.2.2)),(a2.trans d),rfl,rfl,e8⟩))
    have e9:=ba.at4;have ea:=e9.at4;have eb:=ea.at4;have ec:=eb.at4;have ed:=ec.at4;have ee:=cC (r:=(bV .i64)) (cs:=[.int .i64 (b.2.2.2.2.2.2.2.2.2.2.2)]) (x:=(b.2.2.2.2.2.2.2.2.2.2.2)) ed rfl;have ef:=ee.at1;have eg:=bU ef;have eh:=eg.at1;have ei:=bU eh;have ej:=ei.at1;have ek:=bU ej;have el:=ek.at1;have em:=bU el;have en:=em.at1;have eo:=bU en;have ep:=cC (r:=(cF bR)) (cs:=[.slice l.1 l.2.1 l.2.2]) (x:=b.2.2.2.2.2.1) eo ⟨l,rfl,(a8.mono d)⟩;have er:=bU ep;have es:=cC (r:=(cF (bV .i64))) (cs:=[.slice k.1 k.2.1 k.2.2]) (x:=b.2.2.2.2.1) er ⟨k,rfl,(a7.mono d)⟩;have eu:=bU es;have ev:=cC (r:=(cF (bV .i64))) (cs:=[.slice j.1 j.2.1 j.2.2]) (x:=b.2.2.2.1) eu ⟨j,rfl,(a6.mono d)⟩;have ew:=bU ev;have ex:=cC (r:=(cF A5)) (cs:=[.slice i.1 i.2.1 i.2.2]) (x:=b.2.2.1) ew ⟨i,rfl,(a5.mono d)⟩;have ey:=bU ex;have ez:=cC (r:=(cF bR)) (cs:=[.slice f.1 f.2.1 f.2.2]) (x:=b.2.1) ey ⟨f,rfl,(a4.mono d)⟩;have f0:=bU ez;have f1:=cC (r:=(cF bR)) (cs:=[.slice e.1 e.2.1 e.2.2]) (x:=b.1) f0 ⟨e,rfl,(a3.mono d)⟩;have f2:=bU f1;have f3:St aa (cO 44 rW (some ⟨w,0,none⟩) (b.1,b.2.1,b.2.2.1,b.2.2.2.1,b.2.2.2.2.1,b.2.2.2.2.2.1,b.2.2.2.2.2.2.1,b.2.2.2.2.2.2.2.1,b.2.2.2.2.2.2.2.2.1,b.2.2.2.2.2.2.2.2.2.1,b.2.2.2.2.2.2.2.2.2.2.1,(b.2.2.2.2.2.2.2.2.2.2.2))::F) _:=dU f2.at1;obtain rfl:=iS c;exact Al ((bM .i64 (z2.1+(1:Int))),z2.2.1,()) _ rfl rfl ⟨aa,(a2.trans d),rfl,f3⟩
   have f4:=z.at4;have f5:=f4.at4;have f6:=f5.at4;have f7:=f6.at4;have f8:=f7.at4;have f9:=cC (r:=(bV .i64)) (cs:=[.int .i64 (b.2.2.2.2.2.2.2.2.2.2.2)]) (x:=(b.2.2.2.2.2.2.2.2.2.2.2)) f8 rfl;have fa:=f9.at1;have fb:=bU fa;have fc:=fb.at1;have fd:=bU fc;have fe:=fd.at1;have ff:=bU fe;have fg:=ff.at1;have fh:=bU fg;have fi:=fh.at1;have fj:=bU fi;have fk:=cC (r:=(cF bR)) (cs:=[.slice l.1 l.2.1 l.2.2]) (x:=b.2.2.2.2.2.1) fj ⟨l,rfl,a8⟩;have fl:=bU fk;have fm:=cC (r:=(cF (bV .i64))) (cs:=[.slice k.1 k.2.1 k.2.2]) (x:=b.2.2.2.2.1) fl ⟨k,rfl,a7⟩;have fn:=bU fm;have fo:=cC (r:=(cF (bV .i64))) (cs:=[.slice j.1 j.2.1 j.2.2]) (x:=b.2.2.2.1) fn ⟨j,rfl,a6⟩;have fp:=bU fo;have fq:=cC (r:=(cF A5)) (cs:=[.slice i.1 i.2.1 i.2.2]) (x:=b.2.2.1) fp ⟨i,rfl,a5⟩;have fr:=bU fq;have fs:=cC (r:=(cF bR)) (cs:=[.slice f.1 f.2.1 f.2.2]) (x:=b.2.1) fr ⟨f,rfl,a4⟩;have ft:=bU fs;have fu:=cC (r:=(cF bR)) (cs:=[.slice e.1 e.2.1 e.2.2]) (x:=b.1) ft ⟨e,rfl,a3⟩;have fv:=bU fu;have fw:St ac (cO 44 rW (some ⟨w,0,none⟩) (b.1,b.2.1,b.2.2.1,b.2.2.2.1,b.2.2.2.2.1,b.2.2.2.2.2.1,b.2.2.2.2.2.2.1,b.2.2.2.2.2.2.2.1,b.2.2.2.2.2.2.2.2.1,b.2.2.2.2.2.2.2.2.2.1,b.2.2.2.2.2.2.2.2.2.2.1,(b.2.2.2.2.2.2.2.2.2.2.2))::F) _:=dU fv.at1;obtain rfl:=iS c;obtain rfl:=b3 _ rfl;exact AO (AR (z2.1,z2.2.1,()) rfl ⟨ac,a2,rfl,fw⟩)
 rintro z1 k4 ⟨fx,ai,rfl,fy⟩;try dsimp only at hd
 obtain ⟨aj,k5,bb,k6,fz⟩:=fy.open;obtain rfl:a_0=some ⟨aj,0,none⟩:=by simpa using bb
 clear bb;have g0:=fz.at1;obtain ⟨k7,k8,rfl,k9,g1⟩:=g0.pair;obtain ⟨⟨n,g4,ak⟩,g3⟩:=g1.ro;subst g4;have ka:=ak.length;obtain ⟨kb,kc,rfl,kd,g5⟩:=g3.pair;obtain ⟨⟨o,g8,al⟩,g7⟩:=g5.ro;subst g8;have ke:=al.length;obtain ⟨kf,kg,rfl,kh,g9⟩:=g7.pair;obtain ⟨⟨p,gc,am⟩,gb⟩:=g9.ro;subst gc;have ki:=am.length;obtain ⟨kj,kk,rfl,kl,gd⟩:=gb.pair;obtain ⟨⟨q,gg,an⟩,gf⟩:=gd.ro;subst gg;have km:=an.length;obtain ⟨kn,ko,rfl,kp,gh⟩:=gf.pair;obtain ⟨⟨s,gk,ao⟩,gj⟩:=gh.ro;subst gk;have kq:=ao.length;obtain ⟨kr,ks,rfl,kt,gl⟩:=gj.pair;obtain ⟨⟨t,go,ap⟩,gn⟩:=gl.ro;subst go;have ku:=ap.length;obtain ⟨kv,kw,rfl,kx,aq⟩:=gn.pair;obtain ⟨ar,gp⟩:=aq.rowCs;subst gp;have ky:=aq.rowLen;have gq:=aq.at1;obtain ⟨kz,l0,rfl,l1,au⟩:=gq.pair;obtain ⟨av,gr⟩:=au.rowCs;subst gr;have l2:=au.rowLen;have gs:=au.at1;obtain ⟨l3,l4,rfl,l5,aw⟩:=gs.pair;obtain ⟨ax,gt⟩:=aw.rowCs;subst gt;have l6:=aw.rowLen;have gu:=aw.at1;obtain ⟨l7,l8,rfl,l9,ay⟩:=gu.pair;obtain ⟨az,gv⟩:=ay.rowCs;subst gv;have la:=ay.rowLen;have gw:=ay.at1;obtain ⟨lb,lc,rfl,ld,b0⟩:=gw.pair;obtain ⟨b1,gx⟩:=b0.rowCs;subst gx;have le:=b0.rowLen;have gy:=b0.at1;obtain ⟨gz,h0⟩:=gy.ro;subst gz;have u:St fx (cR 3 (bV .i64) b1 b.2.2.2.2.2.2.2.2.2.2.1::cR 3 (bV .i64) az b.2.2.2.2.2.2.2.2.2.1::cR 50 fE ax b.2.2.2.2.2.2.2.2.1::cR 46 (cF Av) av b.2.2.2.2.2.2.2.1::cR 46 (cF Av) ar b.2.2.2.2.2.2.1::cW 44 aj [sv n,sv o,sv p,sv q,sv s,sv t,sv ar,sv av,sv ax,sv az,sv b1,.int .i64 (b.2.2.2.2.2.2.2.2.2.2.2)]::F) _:=h0;refine AH _ rfl<|AA (x:=n) u.at5 rfl<|AA (x:=o) u.at5 rfl<|AA (x:=p) u.at5 rfl<|AA (x:=q) u.at5 rfl<|AA (x:=s) u.at5 rfl<|AA (x:=t) u.at5 rfl ?_;obtain ⟨lf,h1,hd⟩:=bS hd;refine AM (FG (p_0:=(n,o,p,q,s,t,())) ak al am an ao ap (a1.mono ai) u h1) ?_;rintro _ lg ⟨bc,t17,ab,m,rfl,rfl,bd,be⟩;refine ⟨t17,rfl,?_⟩;have h2:=bd.length;refine AH _ rfl<|AA (x:=ar) be.at5 rfl<|AZ (vs:=[sv k_1]) be fun r20 lh bf=> ?_;have h3:=cS bf;have h4:=bf.tail;have h5:=h4.at4;obtain ⟨bg,h6,hd⟩:=bS hd;refine Aa (r:=(cF Av)) (ms:=([a0]:List (List Aj))) Iw h5 rfl h3 (.cons (a:=[_]) ⟨k_1,rfl,(a1.mono (ai.trans m))⟩ .nil) rfl h6 ?_;intro t21 li bh;have h7:=bh.rowLen;refine AH _ rfl<|AI bh.at5 rfl rfl fun lj bi=>AH _ rfl<|AA (x:=av) bi rfl<|AZ (vs:=[sv t17]) bi fun r25 lk bj=> ?_;have h8:=cS bj;have h9:=bj.tail;have hb:=h9.at5;obtain ⟨bk,hc,hd⟩:=bS hd;refine Aa (r:=(cF Av)) (ms:=([ab]:List (List Aj))) Iw hb rfl h8 (.cons (a:=[_]) ⟨t17,rfl,bd⟩ .nil) rfl hc ?_;intro t26 ll bl;have lm:=bl.rowLen;refine AH _ rfl<|AI bl.at1 rfl rfl fun ln bm=>AH _ rfl<|AA (x:=ax) bm rfl<|AZ (vs:=[.slice none 0 0]) bm fun r30 lo bn=> ?_;have he:=cS bn;have hf:=bn.tail;have hg:=hf.at5;obtain ⟨bo,hh,hd⟩:=bS hd;refine Aa (r:=fE) (ms:=([((none,0,0):Slc)]:List Slc)) LR hg rfl he (.cons (a:=[_]) rfl .nil) rfl hh ?_;intro t31 lp bp;have lq:=bp.rowLen;refine AH _ rfl<|AI bp.at1 rfl rfl fun lr bq=>AH _ rfl<|AA (x:=az) bq rfl<|AZ (vs:=[.int .i64 from_2]) bq fun r35 ls br=> ?_;have hi:=cS br;have hj:=br.tail;have hk:=hj.at5;obtain ⟨bs,hl,hd⟩:=bS hd;refine Aa (r:=(bV .i64)) (ms:=([from_2]:List Int)) DE hk rfl hi (.cons (a:=[_]) rfl .nil) rfl hl ?_;intro t36 lt bt;have lu:=bt.rowLen;refine AH _ rfl<|AI bt.at1 rfl rfl fun lv bu=>AH _ rfl<|AA (x:=b1) bu rfl<|AZ (vs:=[.int .i64 with_3]) bu fun r40 lw bv=> ?_;have hm:=cS bv;have hn:=bv.tail;have ho:=hn.at5;obtain ⟨bw,hp,hd⟩:=bS hd;refine Aa (r:=(bV .i64)) (ms:=([with_3]:List Int)) DE ho rfl hm (.cons (a:=[_]) rfl .nil) rfl hp ?_;intro t41 lx bx;have ly:=bx.rowLen;refine AH _ rfl<|AI bx.at1 rfl rfl fun lz bz=>AH _ rfl<|AA (x:=(b.2.2.2.2.2.2.2.2.2.2.2)) bz rfl<|AH _ rfl<|AI bz rfl rfl fun m0 c0=>AH _ rfl<|AA (x:=t21) c0 rfl ?_;have hq:=c0.at5;have hr:=hq.at5;have hs:=hr.at5;have ht:=hs.at5;have hu:=ht.at5;have hv:=cC (r:=(bV .i64)) (cs:=[.int .i64 (bM .i64 ((b.2.2.2.2.2.2.2.2.2.2.2)+(t17.2.1:Int)))]) (x:=(bM .i64 ((b.2.2.2.2.2.2.2.2.2.2.2)+(ab.length:Int)))) hu (show _=_ by rw [h2];rfl);have hw:=hv.at1;have hx:=bU hw;have hy:=hx.at1;have hz:=bU hy;have i0:=hz.at1;have i1:=bU i0;have i2:=i1.at1;have i3:=bU i2;have i4:=i3.at1;have i5:=bU i4;have i6:=cC (r:=(cF bR)) (cs:=[.slice t.1 t.2.1 t.2.2]) (x:=b.2.2.2.2.2.1) i5 ⟨t,rfl,(ap.mono m)⟩;have i7:=bU i6;have i8:=cC (r:=(cF (bV .i64))) (cs:=[.slice s.1 s.2.1 s.2.2]) (x:=b.2.2.2.2.1) i7 ⟨s,rfl,(ao.mono m)⟩;have i9:=bU i8;have ia:=cC (r:=(cF (bV .i64))) (cs:=[.slice q.1 q.2.1 q.2.2]) (x:=b.2.2.2.1) i9 ⟨q,rfl,(an.mono m)⟩;have ib:=bU ia;have ic:=cC (r:=(cF A5)) (cs:=[.slice p.1 p.2.1 p.2.2]) (x:=b.2.2.1) ib ⟨p,rfl,(am.mono m)⟩;have ie:=bU ic;have ig:=cC (r:=(cF bR)) (cs:=[.slice o.1 o.2.1 o.2.2]) (x:=b.2.1) ie ⟨o,rfl,(al.mono m)⟩;have ih:=bU ig;have ii:=cC (r:=(cF bR)) (cs:=[.slice n.1 n.2.1 n.2.2]) (x:=b.1) ih ⟨n,rfl,(ak.mono m)⟩;have ij:=bU ii;have ik:St bc (cO 44 rW (some ⟨aj,0,none⟩) (b.1,b.2.1,b.2.2.1,b.2.2.2.1,b.2.2.2.2.1,b.2.2.2.2.2.1,bg,bk,bo,bs,bw,(bM .i64 ((b.2.2.2.2.2.2.2.2.2.2.2)+(ab.length:Int))))::F) _:=dU ij.at1;obtain rfl:=iS hd;exact AB ⟨bc,(bM .i64 ((t21.2.1:Int) - (1:Int))),(b.1,b.2.1,b.2.2.1,b.2.2.2.1,b.2.2.2.2.1,b.2.2.2.2.2.1,bg,bk,bo,bs,bw,(bM .i64 ((b.2.2.2.2.2.2.2.2.2.2.2)+(ab.length:Int)))),(ai.trans m),rfl,(by rw [h7]),ik⟩
section
variable {φ:AF}{h:AE}{F:List Chk}
theorem Ln {φ:AF}{S S':List Slc}{E:List (List Edge)}{B B':List dtK}{c i:Nat}(hS:S.length=B.length) (hE:E.length=B.length) (H:By φ S E c) (hf:D9 S E i) (h:(B'=B∧S'=S)∨ ∃x,B'=B++ [x] ∧S'=S++ [B1]):
 S'.length=B'.length∧(CQ E B.length B'.length).length=B'.length∧By φ S' (CQ E B.length B'.length) c∧D9 S' (CQ E B.length B'.length) i∧(∀(j:Nat) s,S[j]? =some s→S'[j]? =some s)∧(∀(j:Nat) e,E[j]? =some e→(CQ E B.length B'.length)[j]? =some e)∧ ∀(j:Nat) b,B[j]? =some b→B'[j]? =some b:=by
 rcases h with ⟨rfl,rfl⟩|⟨x,rfl,rfl⟩
 ·unfold CQ;rw [if_pos rfl];exact ⟨hS,hE,H,hf,fun _ _ h=>h,fun _ _ h=>h,fun _ _ h=>h⟩
 ·unfold CQ;rw [if_neg (by simp)];have ap:∀ {α:Type} {l:List α} {x y:α} {j:Nat},l[j]? =some y→(l++ [x])[j]? =some y:=fun {α l x y j} h=>by
   rw [bX (List.getElem?_eq_some_iff.1 h).1];exact h
  exact ⟨by simp [hS],by simp [hE],H.snoc (by omega),hf.snoc,fun _ _ h=>ap h,fun _ _ h=>ap h,fun _ _ h=>ap h⟩
theorem KY {S:List Slc}{E:List (List Edge)}{i:Nat}(H:D9 S E i) (h1:i<S.length) (h2:i<E.length):S[i]? =some B1∧E[i]? =some []:=by
 have a:=bN h1;have b:=bN h2;exact ⟨by rw [a,(H i (dB _)).1 _ a],by rw [b,(H i (dB _)).2 _ b]⟩
theorem D9.mono {S:List Slc}{E:List (List Edge)}{i i':Nat}(H:D9 S E i) (h:i≤i'):D9 S E i':=fun j hj=>H j (eS h hj)
theorem NR {φ:AF}{S:List Slc}{E:List (List Edge)}{i:Nat}{s:Slc}{e:List Edge}(H:By φ S E i) (hf:D9 S E (i+1)):By φ (S.set i s) (E.set i e) i∧D9 (S.set i s) (E.set i e) (i+1):=by
 refine ⟨fun j s' e' hj h1 h2=> ?_,fun j hj=>⟨fun s' h=> ?_,fun e' h=> ?_⟩⟩
 ·rw [cI (by omega)]at h1 h2;exact H j s' e' hj h1 h2
 ·rw [cI (by omega)]at h;exact (hf j hj).1 s' h
 ·rw [cI (by omega)]at h;exact (hf j hj).2 e' h
theorem NS {φ:AF}{S:List Slc}{E:List (List Edge)}{i:Nat}{s:Slc}{e:List Edge}(H:By φ S E i) (hs:S[i]? =some s) (he:E[i]? =some e) (k:Ro.SliceIs ES φ s e):By φ S E (i+1):=by
 intro j s' e' hj h1 h2;by_cases hji:j=i
 ·subst hji;rw [hs]at h1;rw [he]at h2;cases h1;cases h2;exact k
 ·exact H j s' e' hji h1 h2
theorem St.to9' {e a0 a1 a2 a3 a4 a5 a6 a7 a8:Chk}(H:St φ (e::a4::a0::a1::a2::a3::a5::a6::a7::a8::F) h):St φ (a0::a1::a2::a3::a4::a5::a6::a7::a8::e::F) h:=
 H.at9.at9.at9.at9.at5.at9.at9.at9.at9
def OL (φ:AF) (c3 c4 c5 c6 m a r1 r2:Nat) (p:Aw) (G:List Chk) (i:Nat) (y:BSt) (w:AE):Prop:= ∃(ψ:AF) (ls:Slc) (S:List Slc),Sub φ ψ∧S.length=y.2.1.length∧y.2.2.1.length=y.2.1.length∧By ψ S y.2.2.1 i∧D9 S y.2.2.1 i∧St ψ (bC c3 c4 c5 c6 m a r1 r2 y.1 p ls 0 (C4 y.2.1 S) y.2.2.2.1 y.2.2.2.2 G) w
def PD (φ:AF) (c3 c4 c5 c6 m a r1 r2:Nat) (p:Aw) (G:List Chk) (i:Nat) (b:dtK) (y:BSt) (w:AE):Prop:= ∃(ψ:AF) (ls:Slc) (S:List Slc) (s:Slc) (e:List Edge),Sub φ ψ∧S.length=y.2.1.length∧y.2.2.1.length=y.2.1.length∧By ψ S y.2.2.1 i∧D9 S y.2.2.1 (i+1)∧S[i]? =some s∧y.2.2.1[i]? =some e∧y.2.1[i]? =some b∧St ψ (bC c3 c4 c5 c6 m a r1 r2 y.1 p ls 0 (C4 y.2.1 S) y.2.2.2.1 y.2.2.2.2 (cR 84 ES s e::G)) w
set_option maxHeartbeats 4000000 in
theorem H8 {p_0:Slc×Slc×Slc×Slc×Slc×Slc×Unit}{d0:List ByteArray}{d1:List ByteArray}{d2:List A0}{d3:List Int}{d4:List Int}{d5:List ByteArray}{st it:Int}
 (gk:IM φ) (k0:Ro.SliceIs bR φ p_0.1 d0) (k1:Ro.SliceIs bR φ p_0.2.1 d1) (k2:Ro.SliceIs A5 φ p_0.2.2.1 d2) (k3:Ro.SliceIs (bV .i64) φ p_0.2.2.2.1 d3) (k4:Ro.SliceIs (bV .i64) φ p_0.2.2.2.2.1 d4) (k5:Ro.SliceIs bR φ p_0.2.2.2.2.2.1 d5) (s0:St φ F h) {r:Option ET×Int} (hd:HN (d0,d1,d2,d3,d4,d5) st it=some r):
 CallsH cN 7 [(.agg #[.slice p_0.1.1 p_0.1.2.1 p_0.1.2.2,.slice p_0.2.1.1 p_0.2.1.2.1 p_0.2.1.2.2,.slice p_0.2.2.1.1 p_0.2.2.1.2.1 p_0.2.2.1.2.2,.slice p_0.2.2.2.1.1 p_0.2.2.2.1.2.1 p_0.2.2.2.1.2.2,.slice p_0.2.2.2.2.1.1 p_0.2.2.2.2.1.2.1 p_0.2.2.2.2.1.2.2,.slice p_0.2.2.2.2.2.1.1 p_0.2.2.2.2.2.1.2.1 p_0.2.2.2.2.2.1.2.2]),.int .i64 st,.int .i64 it] h (BL fun v h'=>∃ψ:AF,∃y:Option Addr×Int×Unit,∃l1:Option ET,Sub φ ψ∧v=((.tuple [.atom .pointer,.atom (.int .i64)]):Sh).val y∧(l1,y.2.1)=r∧Np Ic ψ y.1 l1∧St ψ F h'):=by
 refine AV mixed Tryz.func7 ?_;rw [Hx];unfold GT;unfold HN at hd;obtain ⟨rm,hrm,hd1⟩:=bS hd;clear hd;obtain ⟨cl,hcl,hd2⟩:=bS hd1;clear hd1;obtain ⟨ra,hra,hd⟩:=bS hd2;clear hd2;refine AZ (vs:=[sv p_0.1,sv p_0.2.1,sv p_0.2.2.1,sv p_0.2.2.2.1,sv p_0.2.2.2.2.1,sv p_0.2.2.2.2.2.1]) s0 fun b1 h1 s1=>AA (x:=p_0.1) s1 rfl<|AA (x:=p_0.2.1) s1 rfl<|AA (x:=p_0.2.2.1) s1 rfl<|AA (x:=p_0.2.2.2.1) s1 rfl<|AA (x:=p_0.2.2.2.2.1) s1 rfl<|AA (x:=p_0.2.2.2.2.2.1) s1 rfl<|AZ (vs:=[sv p_0.1,sv p_0.2.1,sv p_0.2.2.1,sv p_0.2.2.2.1,sv p_0.2.2.2.2.1,sv p_0.2.2.2.2.2.1,.slice none 0 0,.int .i64 (0:Int)]) s1 fun a h2 s2=>AZ (vs:=[.pointer none]) s2 fun c4 h3 s3=>AI s3 rfl rfl fun h4 s4=>AM (G6 s4 hrm) ?_;rintro _ h5 ⟨ψ1,y10,_,le1,rfl,rfl,s5⟩;refine ⟨y10,rfl,?_⟩;refine AM (G6 s5 hcl) ?_;rintro _ h6 ⟨ψ2,y11,_,le2,rfl,rfl,s6⟩;refine ⟨y11,rfl,?_⟩;obtain ⟨r2,vs2,rfl,q2,s6⟩:=fD s6;have s6:=(fC s6 q2).at1;obtain ⟨r1,vs1,rfl,q1,s6⟩:=fD s6;have s6:=(fC s6 q1).at1;refine AZ (vs:=[.pointer none]) s6 fun c5 h7 s7=>AZ (vs:=[.pointer none]) s7 fun c6 h8 s8=>AI s8.at1 rfl rfl fun h9 s9=>AI s9.at1 rfl rfl fun h10 s10=>KF kyS (bV .i64) s10 fun m h11 s11=>AZ (vs:=[.map none]) s11 fun c3 h12 s12=>AI s12 rfl rfl fun h13 s13=>AZ (vs:=[.int .i64 (0:Int),.int .i64 (0:Int)]) s13 fun k16 h14 s14=> ?_;have s15:=dO (r:=Av) (l:=[((0:Int),(0:Int))]) (n:=1) s14 (.cons (a:=[_,_]) ⟨[_],_,rfl,rfl,rfl⟩ .nil) rfl (by decide);obtain ⟨ψ3,le3,kk,s16⟩:=cB (t:=(some ⟨k16,0,none⟩,1,1)) s15;have le13:=(le1.trans le2).trans le3;have s17:=fC (r:=CH) (x:=qA (d0,d1,d2,d3,d4,d5) B1 0) s16.at7 ⟨[_],_,rfl,⟨_,rfl,k0.mono le13⟩,[_],_,rfl,⟨_,rfl,k1.mono le13⟩,[_],_,rfl,⟨_,rfl,k2.mono le13⟩,[_],_,rfl,⟨_,rfl,k3.mono le13⟩,[_],_,rfl,⟨_,rfl,k4.mono le13⟩,[_],_,rfl,⟨_,rfl,k5.mono le13⟩,[_],_,rfl,rfl,rfl⟩;have s18:=(s17.nil 77 roB).at6.at5.at7.at7.at4.at5.at8.at8.at8;refine AM (Lf (B:=[]) (S:=[]) (ls:=B1) (gk.mono le13) kk rfl s18 hra) ?_;rintro _ h15 ⟨ψ4,y17,ls0,S0,le4,rfl,e1,e2,hG0,s19⟩;refine ⟨y17,rfl,?_⟩;have le14:=le13.trans le4;refine AG hd (by rw [e2]) (fun _ hd=> ?_) (fun _ hd=> ?_)
 ·obtain rfl:=iS hd;exact AB ⟨ψ4,(none,y17.2.1,()),none,le14,rfl,by rw [e2],rfl,(St.tail9 s19).tail⟩
 obtain ⟨g,hg,hd⟩:=bS hd;refine Bc (fun (z:Int×Int×Option Addr×Unit) w (g:AT BSt Int)=>∃y i,g=cE y∧y.2.1.length≤i∧OL φ c3 c4 c5 c6 m a r1 r2 (d0,d1,d2,d3,d4,d5) (cW 32 b1 [sv p_0.1,sv p_0.2.1,sv p_0.2.2.1,sv p_0.2.2.2.1,sv p_0.2.2.2.2.1,sv p_0.2.2.2.2.2.1]::F) i y w) (g:=g) ?_ ?_
 ·unfold IS at hg;refine Cr hg (fun (z:Int×Int×Option Addr×Unit) w (x:Int×BSt)=>z.1=x.1∧0≤x.1∧OL φ c3 c4 c5 c6 m a r1 r2 (d0,d1,d2,d3,d4,d5) (cW 32 b1 [sv p_0.1,sv p_0.2.1,sv p_0.2.2.1,sv p_0.2.2.2.1,sv p_0.2.2.2.2.1,sv p_0.2.2.2.2.2.1]::F) x.1.toNat x.2 w) ((0:Int),(0:Int),none,()) rfl ⟨rfl,dV _,?_⟩ ?_
  ·obtain ⟨g1,g2,g3,g4,_⟩:=Ln (E:=[]) (c:=0) (i:=0) (φ:=ψ4) (S:=[]) (B:=[]) rfl rfl (fun j s e _ h _=>by simp at h) (fun j _=>⟨fun s h=>by simp at h,fun e h=>by simp at h⟩) hG0;exact ⟨ψ4,ls0,S0,le14,g1,g2,g3,g4,s19⟩
  rintro ⟨i,z2,z3,_⟩ w ⟨_,fd,B,E,rm',cl'⟩ eo ⟨rfl,hi0,ψ,ls,S,le,hS,hE,hok,hfr,s⟩ hd' hbo;dsimp only at hi0 hS hE hok hfr s hd' ⊢;have nL:=St.rowLen s.at4;have nM:=St.rowMax s.at4;rw [CP hS]at nL nM;refine AA (x:=some ⟨a,0,none⟩) s.at2 rfl<|AH _ rfl<|Hu ls (LB s)<|AG hd' (by rw [nL]) (fun hlt hd'=> ?_) (fun hge hd'=> ?_)
  ·have hlt:=of_decide_eq_true hlt;obtain ⟨b,hb,hd1⟩:=bS hd';clear hd';obtain ⟨es,hes,hd'⟩:=bS hd1;clear hd1;refine AA (x:=some ⟨a,0,none⟩) s.at2 rfl<|AH _ rfl<|Hu ls (LB s) ?_;obtain ⟨f1,f2⟩:=KY hfr (by omega) (by omega);obtain ⟨a26,cs26,ea26,hi26,q26,cl26⟩:=St.get s.at4 (Is hb f1);refine AH _ ea26 (Am hi26 ?_);obtain ⟨_,_,rfl,⟨t0,rfl,q0⟩,_,_,rfl,⟨t1,rfl,q1⟩,_,_,rfl,rfl,_,_,rfl,rfl,rfl⟩:=q26;refine AN (x:=t1) (by rw [Ac];exact cl26 1 _ rfl) rfl<|AA (x:=some ⟨a,0,none⟩) s.at2 rfl ?_;unfold Jq at hes;obtain ⟨syms,hsy,hes1⟩:=bS hes;clear hes;have hes:=hes1;clear hes1;refine AM (FT q1 s.at3 (by rw [KO];exact hsy)) ?_;rintro _ w2 ⟨ψ5,y29,_,le5,rfl,rfl,k29,s20⟩;refine ⟨y29,rfl,?_⟩;have n29:=k29.length;have s20:=(St.back3 s20);have s21:=St.to9 (s20.nil 84 ES);refine Bc (fun (z:Int×Int×Option Addr×Unit) w (g:AT BSt Int)=>∃y,g=cE y∧PD ψ5 c3 c4 c5 c6 m a r1 r2 (d0,d1,d2,d3,d4,d5) (cW 32 b1 [sv p_0.1,sv p_0.2.1,sv p_0.2.2.1,sv p_0.2.2.2.1,sv p_0.2.2.2.2.1,sv p_0.2.2.2.2.2.1]::F) i.toNat b y w) (g:=es) ?_ ?_
   ·refine Jj hes (fun j (z:Int×Int×Option Addr×Unit) w (y:BSt)=>z.1=j∧PD ψ5 c3 c4 c5 c6 m a r1 r2 (d0,d1,d2,d3,d4,d5) (cW 32 b1 [sv p_0.1,sv p_0.2.1,sv p_0.2.2.1,sv p_0.2.2.2.1,sv p_0.2.2.2.2.1,sv p_0.2.2.2.2.2.1]::F) i.toNat b y w) ((0:Int),z2,z3,()) rfl ⟨rfl,ψ5,ls,S,B1,[],bT _,hS,hE,hok.mono le5,hfr.mono (by omega),f1,f2,(Ea hb).2.2,s21⟩ ?_ ?_
    ·rintro _ ⟨j,u2,u3,_⟩ w3 ⟨fd3,B3,E3,rm3,cl3⟩ e3 ⟨rfl,ψ6,ls3,S3,s_,e_,le6,hS3,hE3,hok3,hfr3,hs3,he3,hb3,s22⟩ hd3 hj1 hj2 hw hbi;dsimp only at hS3 hE3 hok3 hfr3 he3 hb3 s22 hd3 hj1 hj2 hw ⊢;refine BF (by rw [n29];exact decide_eq_true hj2) ?_;obtain ⟨sym,hsym,hd31⟩:=bS hd3;clear hd3;unfold Lg at hd31;obtain ⟨kn,hkn,hd32⟩:=bS hd31;clear hd31;obtain ⟨r3,hr3,hd3⟩:=bS hd32;clear hd32;dsimp only at hd3 hr3;obtain ⟨a32,cs32,ea32,hi32,q32,cl32⟩:=(k29.mono le6).get hsym;refine AH _ ea32 (Am hi32 ?_);obtain rfl:=q32;refine AN (x:=sym) (AD s22.sub (cl32 0 _ rfl)) rfl<|AA (x:=some ⟨a,0,none⟩) s22.at2 rfl<|AM (Gi (q1.mono (le5.trans le6)) s22.at3 (by rw [M3];exact hkn)) ?_;rintro _ w4 ⟨ψ7,y35,_,le7,rfl,rfl,k35,s23⟩;refine ⟨y35,rfl,?_⟩;refine AM (Lf (gk.mono (((le.trans le5).trans le6).trans le7)) k35 hS3 (St.back3 s23) hr3) ?_;rintro _ w5 ⟨ψ8,y36,ls4,S4,le8,rfl,e31,e32,hG,s24⟩;refine ⟨y36,rfl,?_⟩;refine AG hd3 (by rw [e32]) (fun _ hd3=> ?_) (fun _ hd3=> ?_)
     ·obtain rfl:=iS hd3;obtain rfl:=hbi _ rfl;obtain rfl:=iS hd';obtain rfl:=hbo _ rfl;obtain rfl:=iS hd;exact Ae (Ah (Ae (Ah (AB ⟨ψ8,(none,y36.2.1,()),none,((((le.trans le5).trans le6).trans le7).trans le8),rfl,by rw [e32],rfl,(St.tail9 s24).tail.tail⟩))))
     obtain ⟨el,hel,hd34⟩:=bS hd3;clear hd3;obtain ⟨el',hel',hd35⟩:=bS hd34;clear hd34;obtain ⟨E',hE',hd3⟩:=bS hd35;clear hd35;obtain rfl:=iS hd3;obtain ⟨g1,g2,g3,g4,g5,g6,g7⟩:=Ln hS3 hE3 ((hok3.mono le7).mono le8) hfr3 hG;have hs4:=g5 _ _ hs3;have he4:=g6 _ _ he3;have hb4:=g7 _ _ hb3;obtain ⟨_,hlE,helx⟩:=Ea hel;rw [he4]at helx;obtain rfl:=Option.some.inj helx;rw [←e31]at hel';have hbi4:idx r3.2.2.2.1 i=some b:=by unfold idx;rw [if_pos hi0];exact hb4
     refine AA (x:=some ⟨a,0,none⟩) s24.at2 rfl<|AH _ rfl<|Hu ls4 (LB s24)<|AA (x:=some ⟨a,0,none⟩) s24.at2 rfl<|AH _ rfl<|Hu ls4 (LB s24) ?_;obtain ⟨a43,cs43,ea43,hi43,q43,cl43⟩:=St.get s24.at4 (Is hbi4 hs4);refine AH _ ea43 (Am hi43 ?_);obtain ⟨_,_,rfl,⟨v0,rfl,p0⟩,_,_,rfl,⟨v1,rfl,p1⟩,_,_,rfl,rfl,_,_,rfl,rfl,rfl⟩:=q43;refine AN (x:=s_) (by rw [Ac];exact cl43 2 _ rfl) rfl<|GR (vs:=[.int .i64 sym,.int .i64 y36.1]) s24 fun r45 w6 keep s25=>AS (keep _ _ (by rw [Ac];exact cl43 2 _ rfl))<|AS (LB s25.tail)<|AS (cH s25.tail.at2 rfl)<|AS (LB s25.tail)<|AS (cH s25.tail.at2 rfl)<|Aa (r:=ES) (ms:=[(sym,y36.1)]) Oe s25.tail.at9 rfl (cS s25) (.cons (a:=[_,_]) ⟨[_],_,rfl,rfl,rfl⟩ .nil) rfl hel' fun s46 w7 s26=>AS (LB s26.tail)<|AS (cH s26.tail.at2 rfl)<|AH _ ea43 (Am hi43 ?_);have hset:GO (C4 r3.2.2.2.1 S4) i (G8 b s46)=some (C4 r3.2.2.2.1 (S4.set i.toNat s46)):=by
      unfold GO;rw [if_pos ⟨hi0,by rw [CP g1];omega⟩,M4 _ hb4]
     refine Jl (j:=2) s26.at5 (Is hbi4 hs4) hset (fun cs hq=> ?_) rfl rfl ea43 (Ac _ _ _) fun w8 s27=> ?_
     ·obtain ⟨_,_,rfl,⟨x0,rfl,o0⟩,_,_,rfl,⟨x1,rfl,o1⟩,_,_,rfl,rfl,_,_,rfl,rfl,rfl⟩:=hq;exact ⟨[_],_,rfl,⟨x0,rfl,o0⟩,[_],_,rfl,⟨x1,rfl,o1⟩,[_],_,rfl,rfl,[_],_,rfl,rfl,rfl⟩
     obtain ⟨_,_,rfl⟩:=FI hE';obtain ⟨w1,w2⟩:=NR (s:=s46) (e:=el') g3 g4;have s28:=St.to9' s27.at1;exact Al ((bM .i64 (j+(1:Int))),u2,u3,()) _ rfl rfl ⟨hw,ψ8,ls4,S4.set i.toNat s46,s46,el',(le6.trans le7).trans le8,by rw [List.length_set];exact g1,by rw [List.length_set];exact g2,w1,w2,by rw [cP (by omega)],by rw [cP (by omega)],hb4,s28⟩
    ·rintro _ ⟨j,u2,u3,_⟩ w3 y3 ⟨rfl,hI⟩ hge hr3;refine As (by rw [n29];exact decide_eq_false (Int.not_lt.2 hge))<|AO (AR (j,u2,u3,()) rfl ⟨y3,hr3,hI⟩)
   rintro ⟨z1,u2,u3,_⟩ w3 ⟨⟨fd3,B3,E3,rm3,cl3⟩,rfl,ψ6,ls3,S3,s_,e_,le6,hS3,hE3,hok3,hfr3,hs3,he3,hb3,s22⟩;dsimp only at hS3 hE3 hok3 hfr3 he3 hb3 s22;obtain rfl:=iS hd';obtain ⟨ψ7,le7,kE,s23⟩:=cB s22.at9;have hw:bM .i64 (i+1)=i+1:=w64 (by omega) (by unfold maxLen at nM;omega);have hi1:(i+1).toNat=i.toNat+1:=by omega
   refine Al ((bM .i64 (i+(1:Int))),u2,u3,()) _ rfl rfl ⟨rfl,by rw [hw];omega,ψ7,ls3,S3,((le.trans le5).trans le6).trans le7,hS3,hE3,?_,?_,s23⟩
   ·rw [hw,hi1];exact NS (hok3.mono le7) hs3 he3 kE
   ·rw [hw,hi1];exact hfr3
  ·have hge:=of_decide_eq_false hge;obtain rfl:=iS hd';obtain rfl:=hbo _ rfl;exact AO (AR (i,z2,z3,()) rfl ⟨_,i.toNat,rfl,by dsimp only;omega,ψ,ls,S,le,hS,hE,hok,hfr,s⟩)
 rintro ⟨z1,z2,z3,_⟩ w ⟨⟨fd,B,E,rm',cl'⟩,i,rfl,hi,ψ,ls,S,le,hS,hE,hok,hfr,s⟩;dsimp only at hd hi hS hE hok hfr s;obtain ⟨tot,ht,hd⟩:=bS hd;obtain rfl:=iS hd;refine AA (x:=some ⟨a,0,none⟩) s.at2 rfl<|AA (x:=some ⟨r2,0,none⟩) s.at7 rfl<|AM (Gd s.at8 ht) ?_;rintro _ w1 ⟨ψ5,y50,le5,rfl,rfl,s20⟩;refine ⟨y50,rfl,?_⟩;refine AS (cH s20.at3 rfl)<|AH _ rfl ?_;obtain ⟨b,vs,e,⟨_,_,rfl,⟨u0,rfl,kk0⟩,_,_,rfl,⟨u1,rfl,kk1⟩,_,_,rfl,⟨u2,rfl,kk2⟩,_,_,rfl,⟨u3,rfl,kk3⟩,_,_,rfl,⟨u4,rfl,kk4⟩,_,_,rfl,⟨u5,rfl,kk5⟩,_,_,rfl,rfl,rfl⟩,s21⟩:=fD s20.at4;obtain rfl:a=b:=by simpa using e
 refine AI s21 rfl rfl fun w2 s22=>AA (x:=some ⟨a,0,none⟩) s22.at4 rfl ?_;obtain ⟨ψ6,le6,kR,s23⟩:=cB s22.at5;have kS:=ML hS hE (fun j s e h1 h2=>(hok j s e (by have:=(List.getElem?_eq_some_iff.1 h1).1;omega) h1 h2).mono (le5.trans le6)) kR;have s24:=fC (r:=Ic) (x:=(d0,d1,d2,d3,d4,d5,C4 B E,y50)) s23 ⟨[_],_,rfl,⟨u0,rfl,kk0.mono le6⟩,[_],_,rfl,⟨u1,rfl,kk1.mono le6⟩,[_],_,rfl,⟨u2,rfl,kk2.mono le6⟩,[_],_,rfl,⟨u3,rfl,kk3.mono le6⟩,[_],_,rfl,⟨u4,rfl,kk4.mono le6⟩,[_],_,rfl,⟨u5,rfl,kk5.mono le6⟩,[_],_,rfl,⟨ls,rfl,kS⟩,rfl⟩;obtain ⟨ψ7,le7,kP,s25⟩:=St.freezeR (Mw _) s24;exact AB ⟨ψ7,(some ⟨a,0,none⟩,(0:Int),()),some _,(((le.trans le5).trans le6).trans le7),rfl,rfl,kP,s25.tail.tail.tail.tail.tail.tail.tail.tail⟩
end
abbrev RS (ε:Type):Type:=List (List Item)×List (List Item)×List ε×List Int×List Int×Int
abbrev RP:Type:=Aw
abbrev mkW {ε:Type}(p:RP) (y:RS ε):List ByteArray×List ByteArray×List A0×List Int×List Int×List ByteArray×RS ε:=(p.1,p.2.1,p.2.2.1,p.2.2.2.1,p.2.2.2.2.1,p.2.2.2.2.2,y)
theorem MR {σ β γ:Type}{s:σ}{f:σ→Option (AT σ β)}{f':σ→Option (AT σ γ)}(g:β→γ) (h:∀s,f' s=(f s).map fun e=>match e with
 |.next s=>.next s
 |.done b=>.done (g b)):loop s f'=(loop s f).map g:=by
 have it:∀n s,FB f' n s=(FB f n s).map g:=by
  intro n
  induction n with
  |zero=>intro s;rfl
  |succ n ih=>
   intro s;unfold FB;rw [h];cases f s with
   |none=>rfl
   |some e=>cases e with
    |next s=>exact ih s
    |done b=>rfl
 cases hl:loop s f with
 |some b=>
  obtain ⟨n,hn⟩:=Cx.1 hl;exact Cx.2 ⟨n,by rw [it,hn];rfl⟩
 |none=>
  cases hl':loop s f' with
  |none=>rfl
  |some c=>
   obtain ⟨n,hn⟩:=Cx.1 hl';rw [it]at hn;cases hi:FB f n s with
   |none=>rw [hi]at hn;cases hn
   |some b=>
    rw [Cx.2 ⟨n,hi⟩]at hl;cases hl
noncomputable def Ix (K:List (List Item)) (k:List Item):Option (AT Unit Int):=loop (σ:=Int) (β:=AT Unit Int) 0 fun z=>cond (decide (z< (K.length:Int))) ((idx K z).bind fun e=>(Ad e k).bind fun t=>cond t (some (cD (cD z))) (some (cE (bM .i64 (z+1))))) (some (cD (cE ())))
noncomputable def placeG {ε:Type}(nl:ε) (p:RP) (y:RS ε) (k:List Item) (fr wi:Int):Option (Int×RS ε):=
 (Ix y.1 k).bind fun e=>match e with
 |.next _=>
  (Ao p k).bind fun c=>
  (app y.1 [k]).bind fun K=>(app y.2.1 [c]).bind fun I=>(app y.2.2.1 [nl]).bind fun E=>(app y.2.2.2.1 [fr]).bind fun F=>(app y.2.2.2.2.1 [wi]).bind fun W=>
  some (bM .i64 ((K.length:Int) - 1),(K,I,E,F,W,bM .i64 (y.2.2.2.2.2+(c.length:Int))))
 |.done j=>some (j,y)
theorem NT (p:RP) (y:RS Slc) (k:List Item) (fr wi:Int):BO (mkW p y) k fr wi=(placeG B1 p y k fr wi).map fun r=>(r.1,mkW p r.2):=by
 unfold BO placeG Ix;rw [MR (fun (e:AT Unit Int)=>(match e with
  |.next u=>cE u
  |.done j=>cD (j,mkW p y):AT Unit (Int×RW))) (f:=fun z=>cond (decide (z< (y.1.length:Int)))
  ((idx y.1 z).bind fun e=>(Ad e k).bind fun t=>cond t (some (cD (cD z))) (some (cE (bM .i64 (z+(1:Int))))))
  (some (cD (cE ())))) (fun z=> ?_)]
 ·cases loop (σ:=Int) (β:=AT Unit Int) (0:Int) fun z=>cond (decide (z< (y.1.length:Int)))
   ((idx y.1 z).bind fun e=>(Ad e k).bind fun t=>cond t (some (cD (cD z))) (some (cE (bM .i64 (z+(1:Int))))))
   (some (cD (cE ()))) with
  |none=>rfl
  |some e=>
   cases e with
   |done j=>rfl
   |next u=>
    show (Ao p k).bind _=((Ao p k).bind _).map _;cases Ao p k with
    |none=>rfl
    |some c=>
     show (app y.1 [k]).bind _=((app y.1 [k]).bind _).map _;cases app y.1 [k]with
     |none=>rfl
     |some K=>
      show (app y.2.1 [c]).bind _=((app y.2.1 [c]).bind _).map _;cases app y.2.1 [c]with
      |none=>rfl
      |some I=>
       show (app y.2.2.1 [B1]).bind _=((app y.2.2.1 [B1]).bind _).map _;cases app y.2.2.1 [B1]with
       |none=>rfl
       |some E=>
        show (app y.2.2.2.1 [fr]).bind _=((app y.2.2.2.1 [fr]).bind _).map _;cases app y.2.2.2.1 [fr]with
        |none=>rfl
        |some F=>
         show (app y.2.2.2.2.1 [wi]).bind _=((app y.2.2.2.2.1 [wi]).bind _).map _;cases app y.2.2.2.2.1 [wi]with
         |none=>rfl
         |some W=>rfl
 ·show cond _ _ _=Option.map _ (cond _ _ _);show cond (decide (z< (y.1.length:Int))) _ _=_;cases decide (z< (y.1.length:Int)) with
  |false=>rfl
  |true=>
   show (idx y.1 z).bind _=((idx y.1 z).bind _).map _;cases idx y.1 z with
   |none=>rfl
   |some e=>
    show (Ad e k).bind _=((Ad e k).bind _).map _;cases Ad e k with
    |none=>rfl
    |some t=>cases t<;>rfl
theorem LS {p:RP}{K I:List (List Item)}{E:List (List Edge)}{S:List Slc}{F W:List Int}{tot:Int}{k:List Item}{fr wi:Int}{n:Int}{y:RS (List Edge)}(hl:S.length=E.length) (h:placeG [] p (K,I,E,F,W,tot) k fr wi=some (n,y)):
 ∃S',placeG B1 p (K,I,S,F,W,tot) k fr wi=some (n,(y.1,y.2.1,S',y.2.2.2))∧((y=(K,I,E,F,W,tot)∧S'=S)∨(S'=S++ [B1] ∧y.2.2.1=E++ [[]] ∧ ∃c,y.1=K++ [k] ∧y.2.1=I++ [c])):=by
 unfold placeG at h ⊢;obtain ⟨e,he,h⟩:=bS h;rw [he];dsimp only at h ⊢;rw [cJ];cases e with
 |done j=>cases h;exact ⟨S,rfl,.inl ⟨rfl,rfl⟩⟩
 |next u=>
  obtain ⟨c,h1,h⟩:=bS h;obtain ⟨K',h2,h⟩:=bS h;obtain ⟨I',h3,h⟩:=bS h;obtain ⟨E',h4,h⟩:=bS h;obtain ⟨F',h5,h⟩:=bS h;obtain ⟨W',h6,h⟩:=bS h;cases h;obtain ⟨b,rfl⟩:=GP h4;have h4':app S [B1] =some (S++ [B1]):=Er (by rw [hl];exact b);obtain ⟨_,rfl⟩:=GP h2;obtain ⟨_,rfl⟩:=GP h3;refine ⟨S++ [B1],?_,.inr ⟨rfl,rfl,c,rfl,rfl⟩⟩;dsimp only;rw [h1,cJ,h2,cJ,h3,cJ,h4',cJ,h5,cJ,h6,cJ]
noncomputable def OA (p:RP) (I:List Item) (sym:Int):Option (List Item):=Fe 0 (I.length:Int) ([]:List Item) fun j k=>(idx I j).bind fun x=>(BP p x).bind fun b=>cond (b==sym) (Bl k (x.1,bM .i64 (x.2+1))) (some k)
noncomputable def symR (p:RP) (i sym:Int) (y:RS (List Edge)):Option (RS (List Edge)):=(idx y.2.1 i).bind fun I=>(OA p I sym).bind fun k=>cond (decide ((k.length:Int) >0)) ((placeG [] p y k i sym).bind fun r=>(idx r.2.2.2.1 i).bind fun el=>(app el [(sym,r.1)]).bind fun el'=>(GO r.2.2.2.1 i el').bind fun E=>some (r.2.1,r.2.2.1,E,r.2.2.2.2)) (some y)
noncomputable def Jv (p:RP) (i:Int) (y:RS (List Edge)):Option (RS (List Edge)):=Fe 0 (bM .i64 ((p.1.length:Int)+(p.2.1.length:Int))+1) y fun sym y=>symR p i sym y
noncomputable def JR (st it:Int) (y:RS (List Edge)):Option Bool:=(Ba st).bind fun h=>cond (decide ((y.1.length:Int) >h)) (some true) ((Ba it).bind fun h=>some (decide (y.2.2.2.2.2>h)))
noncomputable def Jw (p:RP) (st it:Int) (y:RS (List Edge)):Option (Option (RS (List Edge))):=loop (σ:=Int×RS (List Edge)) (0,y) fun z=>cond (decide (z.1< (z.2.1.length:Int))) ((JR st it z.2).bind fun m=>cond m (some (cD none)) ((Jv p z.1 z.2).bind fun y=>some (cE (bM .i64 (z.1+1),y)))) (some (cD (some z.2)))
noncomputable def Iy (p:RP) (st it:Int):Option (Option I7):=
 (placeG [] p ([],[],[],[],[],0) [(0,0)] (-1:Int) (-1:Int)).bind fun r=>
 (Jw p st it r.2).bind fun e=>match e with
 |none=>some none
 |some y=>(JR st it y).bind fun m=>cond m (some none) (some (some (mkW p y)))
end Go.Proofs.YteoafgapjneblaaGreatDoor
