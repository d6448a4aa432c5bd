/-
  SimVb, C5, LawsH, put together.
  Conditions: none; each part tells its own.
-/
import Derived.Test.YteolcjbobmpdiaaGreatDoorKh2
import Derived.Test.YteolcjbobmpdiaaGreatDoorKh5
import Derived.KernelRfl
import Derived.Test.YteolcjbobmpdiaaGreatDoorKh6
import Derived.Test.YteolcjbobmpdiaaGreatDoorKh3
open Go.Eng.Sub renaming refl → bR
open List renaming getElem?_eq_getElem → bT
open Go.Eng.AY renaming next → bU,done → bW
open Go.Eng.Ro renaming int → bV
open Go.IntKind renaming wrap → bX
open Go.Proofs.Tryz renaming prog → bY
open Go.Eng.Ok renaming eq → bZ
namespace Go.Proofs.YteolcjbobmpdiaaGreatDoor
open Go Go.Eng
set_option linter.unusedVariables false
set_option maxRecDepth 100000
noncomputable def By (small_0:KZ):Option Bool:=
 (Cc).bind fun t2=>
 (Bf (small_0.1,small_0.2.1,small_0.2.2.1,small_0.2.2.2.1,small_0.2.2.2.2.1,small_0.2.2.2.2.2.1,small_0.2.2.2.2.2.2) 12 5).bind fun t10=>
 cond (!t10)
 (some t2)
 ((As (small_0.1,small_0.2.1,small_0.2.2.1,small_0.2.2.2.1,small_0.2.2.2.2.1,small_0.2.2.2.2.2.1,small_0.2.2.2.2.2.2)).bind fun t18=>
  cond (!t18.2.2.2.2.2.2.2.2.2)
  (some t2)
  (t18.2.2.2.2.2.2.2.2.1.bind fun e78=>
   (BH e78).bind fun t20=>
   (loop (σ:=(Int×Int)) (β:=AY Int Bool) (0,0) fun z22=>
    t18.2.2.2.2.2.2.1.bind fun e102=>
    (Bn e102).bind fun t23=>
    cond (decide (z22.1<t23))
    ((MK t18.2.2.2.2.2.2.2.1 z22.1).bind fun t24=>
     (C5 (σ:=Int) (β:=Bool) 0 (t18.1.length:Int) z22.2 fun i_z26 z26=>
      (((forS (σ:=List Int) 0 (t24.length:Int) ([]:List Int) fun i_z30 z30=>
       (idx t24 i_z30).bind fun e159=>
       (OM t18.2.2.2.2.2.2.2.1 z22.1 e159).bind fun t33=>
       (Ao t33 i_z26).bind fun t34=>
       (cond t34
       ((idx t24 i_z30).bind fun e181=>
        (app z30 ([e181]:List Int)).bind fun t39=>
        some t39)
       (some z30)).bind fun z35=>
       some z35).bind fun z29=>
      (BM e102 z22.1 i_z26).bind fun t40=>
      (CH e78 z22.1 i_z26).bind fun t41=>
      (cond (t41.1==1)
      (cond (t41.2==t40)
       (cond (decide (t40≥ 0))
        (some true)
        (cond (t41.1==2)
         ((Ao z29 t41.2).bind fun t48=>
          cond t48
          (cond (decide (t41.2>0))
           (some true)
           (cond (t41.1==3)
            ((Ao z29 0).bind fun t51=>
             some t51)
            (some false)))
          (cond (t41.1==3)
           ((Ao z29 0).bind fun t53=>
            some t53)
           (some false)))
         (cond (t41.1==3)
          ((Ao z29 0).bind fun t55=>
           some t55)
          (some false))))
       (cond (t41.1==2)
        ((Ao z29 t41.2).bind fun t58=>
         cond t58
         (cond (decide (t41.2>0))
          (some true)
          (cond (t41.1==3)
           ((Ao z29 0).bind fun t61=>
            some t61)
           (some false)))
         (cond (t41.1==3)
          ((Ao z29 0).bind fun t63=>
           some t63)
          (some false)))
        (cond (t41.1==3)
         ((Ao z29 0).bind fun t65=>
          some t65)
         (some false))))
      (cond (t41.1==2)
       ((Ao z29 t41.2).bind fun t68=>
        cond t68
        (cond (decide (t41.2>0))
         (some true)
         (cond (t41.1==3)
          ((Ao z29 0).bind fun t71=>
           some t71)
          (some false)))
        (cond (t41.1==3)
         ((Ao z29 0).bind fun t73=>
          some t73)
         (some false)))
       (cond (t41.1==3)
        ((Ao z29 0).bind fun t75=>
         some t75)
        (some false)))).bind fun z43=>
      (cond (decide ((z29.length:Int) >1))
      (some true)
      (cond ((z29.length:Int)==1)
       (some (decide (t40≥ 0)))
       (some false))).bind fun z76=>
      cond z76
      ((cond (decide (z26≥ (t20.length:Int)))
       (some true)
       ((idx t20 z26).bind fun e479=>
        cond (e479.1 !=z22.1)
        (some true)
        ((idx t20 z26).bind fun e507=>
         cond (e507.2.1 !=i_z26)
         (some true)
         ((idx t20 z26).bind fun e535=>
          cond (e535.2.2.1 !=t40)
          (some true)
          ((idx t20 z26).bind fun e563=>
           cond (!((e563.2.2.2.2.1==t41.1) && ((e563.2.2.2.2.2.1==t41.2) && true)))
           (some true)
           ((idx t20 z26).bind fun e591=>
            (Cn e591.2.2.2.1 z29).bind fun t91=>
            cond (!t91)
            (some true)
            (cond (!z43)
             (cond (!((t41.1==0) && ((t41.2==0) && true)))
              (some true)
              ((idx t20 z26).bind fun e629=>
               some e629.2.2.2.2.2.2))
             (some false)))))))).bind fun z77=>
       cond z77
       (some (bW false))
       (some (bU (bX .i64 (z26+1)))))
      ((cond (!z43)
       (cond (!((t41.1==0) && ((t41.2==0) && true)))
        (some true)
        (cond (decide (t40≥ 0))
         (some true)
         (some (decide ((z29.length:Int) >0)))))
       (some false)).bind fun z96=>
       cond z96
       (some (bW false))
       (some (bU z26)))):Option (AY Int Bool)).bind fun e_z28=>match e_z28 with
      |.next z28=>
       some (bU z28)
      |.done q716=>some (bW q716)).bind fun e_z25=>match e_z25 with
     |.next z25=>
      some (bU ((bX .i64 (z22.1+1)),z25))
     |.done q734=>some (bW (bW q734)))
    (some (bW (bU z22.2)))).bind fun e_z21=>match e_z21 with
   |.next z21=>
    (cond t2
    (some (z21==(t20.length:Int)))
    (some false)).bind fun z99=>
    some z99
   |.done q760=>some q760))
set_option maxHeartbeats 4000000 in
theorem FO {φ:AE}{h:AH}{F:List Chk}{small_0:Int×Int×Slc×Slc×Slc×Slc×Slc×Unit}{b5:List Int}{b6:List (List Int)}{b7:List Int}{b8:List Int}{b9:List Int}(gk:Kz φ) (ba:Ro.SliceIs (bV .u8) φ small_0.2.2.1 b5) (bb:Ro.SliceIs (Ro.list (bV .u8)) φ small_0.2.2.2.1 b6) (bc:Ro.SliceIs (bV .u8) φ small_0.2.2.2.2.1 b7) (bd:Ro.SliceIs (bV .u8) φ small_0.2.2.2.2.2.1 b8) (be:Ro.SliceIs (bV .u8) φ small_0.2.2.2.2.2.2.1 b9) (s0:St φ (F) h) {r:Bool}(hd:By (small_0.1,small_0.2.1,b5,b6,b7,b8,b9)=some r):
 CallsH bY 9 [(.agg #[(.int .u8 small_0.1),(.int .u8 small_0.2.1),(sv small_0.2.2.1),(sv small_0.2.2.2.1),(sv small_0.2.2.2.2.1),(sv small_0.2.2.2.2.2.1),(sv small_0.2.2.2.2.2.2.1)])] h (Ap fun v h'=>∃ψ:AE,∃y:Bool,Sub φ ψ∧v=((.one aB):Sh).val y∧y=r∧St ψ (F) h'):=by
 refine AR mixed Tryz.func9 ?_;rw [FN];unfold DV;unfold By at hd;refine AT (vs:=[.int .u8 small_0.1,.int .u8 small_0.2.1,sv small_0.2.2.1,sv small_0.2.2.2.1,sv small_0.2.2.2.2.1,sv small_0.2.2.2.2.2.1,sv small_0.2.2.2.2.2.2.1]) s0 fun r1 jh cd=> ?_;obtain ⟨ji,ce,hd⟩:=bS hd;refine AJ (FK gk cd ce) ?_;rintro _ jj ⟨jk,t2,k,rfl,rfl,aa⟩;refine ⟨t2,rfl,?_⟩;refine AA (x:=small_0.1) aa rfl<|AA (x:=small_0.2.1) aa rfl<|AA (x:=small_0.2.2.1) aa rfl<|AA (x:=small_0.2.2.2.1) aa rfl<|AA (x:=small_0.2.2.2.2.1) aa rfl<|AA (x:=small_0.2.2.2.2.2.1) aa rfl<|AA (x:=small_0.2.2.2.2.2.2.1) aa rfl ?_;obtain ⟨jl,cf,hd⟩:=bS hd;refine AJ (Dx (s_0:=(small_0.1,small_0.2.1,small_0.2.2.1,small_0.2.2.2.1,small_0.2.2.2.2.1,small_0.2.2.2.2.2.1,small_0.2.2.2.2.2.2.1,())) (ba.mono k) (bb.mono k) (bc.mono k) (bd.mono k) (be.mono k) aa cf) ?_;rintro _ jm ⟨cg,t10,q,rfl,rfl,a6⟩;refine ⟨t10,rfl,?_⟩;refine AI hd rfl (fun _ hd=> ?_) (fun _ hd=> ?_)
 ·obtain rfl:=iS hd;exact AB ⟨cg,t2,(k.trans q),rfl,rfl,a6.tail⟩
 refine AA (x:=small_0.1) a6 rfl<|AA (x:=small_0.2.1) a6 rfl<|AA (x:=small_0.2.2.1) a6 rfl<|AA (x:=small_0.2.2.2.1) a6 rfl<|AA (x:=small_0.2.2.2.2.1) a6 rfl<|AA (x:=small_0.2.2.2.2.2.1) a6 rfl<|AA (x:=small_0.2.2.2.2.2.2.1) a6 rfl ?_;obtain ⟨jn,ch,hd⟩:=bS hd;refine AJ (CT (small_0:=(small_0.1,small_0.2.1,small_0.2.2.1,small_0.2.2.2.1,small_0.2.2.2.2.1,small_0.2.2.2.2.2.1,small_0.2.2.2.2.2.2.1,())) (gk.mono (k.trans q)) (ba.mono (k.trans q)) (bb.mono (k.trans q)) (bc.mono (k.trans q)) (bd.mono (k.trans q)) (be.mono (k.trans q)) a6 ch) ?_;rintro _ jo ⟨ci,t18,jp,jq,jr,js,jt,ju,jv,w,jw,ak,rfl,rfl,cj,jx,jy,jz,k0,k1,ck,cl,cm⟩;refine ⟨t18,rfl,?_⟩;try dsimp only at hd
 have bf:=cj.length;refine AT (vs:=[.slice none 0 0,.slice none 0 0,.slice none 0 0,.slice none 0 0,.slice none 0 0,.slice none 0 0]) cm fun r19 k2 cn=>AK cn rfl rfl fun k3 co=>AK co rfl rfl fun k4 cp=>AK cp rfl rfl fun k5 cq=>AK cq rfl rfl fun k6 cr=>AK cr rfl rfl fun k7 cs=>AK cs rfl rfl fun k8 bg=>AI hd rfl (fun _ hd=> ?_) (fun _ hd=> ?_)
 ·obtain rfl:=iS hd;exact AB ⟨ci,t2,((k.trans q).trans ak),rfl,rfl,bg.tail.tail.tail⟩
 obtain ⟨k9,ct,hd⟩:=bS hd;have bh:=(cl).get ct;obtain ⟨ka,cu,hd⟩:=bS hd;refine AJ (B2 bh bg cu) ?_;rintro _ kb ⟨ar,t20,kc,aj,rfl,rfl,ae,cv⟩;refine ⟨t20,rfl,?_⟩;have bi:=ae.length;obtain ⟨cw,cx,hd⟩:=bS hd;refine Av (fun (y:Int×Int×Bool×Unit) w_ g=>∃ψ:AE,Sub ar ψ∧bU y.2.1=g∧St ψ (cW 32 r19 [sv t18.1.1,sv t18.1.2.1,sv t18.1.2.2.1,sv t18.1.2.2.2.1,sv t18.1.2.2.2.2.1,sv t18.1.2.2.2.2.2.1]::⟨BV,[.pointer t18.2.2.1],w⟩::Wq0 r1 small_0::F) w_) (g:=cw) ?_ ?_
 ·refine Ez cx (fun (y:Int×Int×Bool×Unit) w_ g=>∃ψ:AE,Sub ar ψ∧(y.1,y.2.1)=g∧St ψ (cW 32 r19 [sv t18.1.1,sv t18.1.2.1,sv t18.1.2.2.1,sv t18.1.2.2.2.1,sv t18.1.2.2.2.2.1,sv t18.1.2.2.2.2.2.1]::⟨BV,[.pointer t18.2.2.1],w⟩::Wq0 r1 small_0::F) w_) ((0:Int),(0:Int),false,()) rfl ⟨ar,(bR _),rfl,cv.at2.at2.at2⟩ ?_
  ·rintro z22 kd _ _ ⟨ke,m,rfl,cy⟩ j au;try dsimp only at j
   obtain ⟨kf,cz,j⟩:=bS j;have bj:=((ck.mono (aj.trans m))).get cz;obtain ⟨kg,d0,j⟩:=bS j;refine AJ (Cm bj cy d0) ?_;rintro _ kh ⟨d1,t23,n,rfl,rfl,bk⟩;refine ⟨t23,rfl,?_⟩;refine AI j rfl (fun _ j=> ?_) (fun _ j=> ?_)
   ·have d2:=bk.at1;obtain ⟨ki,d3,j⟩:=bS j;refine AJ (ON d2 d3) ?_;rintro _ kj ⟨bl,t24,kk,s,rfl,rfl,av,d4⟩;refine ⟨t24,rfl,?_⟩;have bm:=av.length;obtain ⟨kl,d5,j⟩:=bS j;refine BX d5 (fun d6 (y:Int×Int×Bool×Unit) w_ g=>∃ψ:AE,Sub bl ψ∧y.1=d6∧y.2.1=g∧St ψ (⟨BV,[.pointer t18.2.2.1],w⟩::cW 32 r19 [sv t18.1.1,sv t18.1.2.1,sv t18.1.2.2.1,sv t18.1.2.2.2.1,sv t18.1.2.2.2.2.1,sv t18.1.2.2.2.2.2.1]::Wq0 r1 small_0::F) w_) ((0:Int),z22.2.1,z22.2.2.1,()) rfl ⟨bl,(bR _),rfl,rfl,d4.at2.at2.at2⟩ ?_ ?_ ?_
    ·rintro _ z26 km _ _ ⟨aw,l,rfl,rfl,bn⟩ a7 d7 bo bp bq;try dsimp only at a7 d7 bo bp
     refine AA (x:=t18.1.1) bn.at1 rfl<|Aj (dT bf bo) ?_;obtain ⟨d8,e,a7⟩:=bS a7;refine Av (fun (y:Int×Bool×Unit) w_ g=>∃ψ:AE,Sub aw ψ∧bU y.1=g∧St ψ (⟨BV,[.pointer t18.2.2.1],w⟩::cW 32 r19 [sv t18.1.1,sv t18.1.2.1,sv t18.1.2.2.1,sv t18.1.2.2.2.1,sv t18.1.2.2.2.2.1,sv t18.1.2.2.2.2.2.1]::Wq0 r1 small_0::F) w_) (g:=d8) ?_ ?_
     ·have d9:=bn.nil 3 (bV .i64);obtain ⟨kn,da,e⟩:=bS e;refine B0 da (fun db (y:Int×Slc×Unit) w_ g=>∃ψ:AE,∃br:List Int,Sub aw ψ∧y.1=db∧br=g∧St ψ (cR 3 (bV .i64) y.2.1 br::⟨BV,[.pointer t18.2.2.1],w⟩::cW 32 r19 [sv t18.1.1,sv t18.1.2.1,sv t18.1.2.2.1,sv t18.1.2.2.2.1,sv t18.1.2.2.2.2.1,sv t18.1.2.2.2.2.2.1]::Wq0 r1 small_0::F) w_) ((0:Int),((none,0,0):Slc),()) rfl ⟨aw,[],(bR _),rfl,rfl,d9.at3.at3.at3.at3⟩ ?_ ?_ ?_
      ·rintro _ z30 ko _ _ ⟨kp,dc,ao,rfl,rfl,bs⟩ z dd bt bu;try dsimp only at z dd bt bu
       refine Aj (dT bm bt) ?_;obtain ⟨kq,de,z⟩:=bS z;refine Ck av de (Sub.trans (l.trans ao) bs.sub) ?_;obtain ⟨kr,df,z⟩:=bS z;refine AJ (RZ (gk.b.mono ((((((((k.trans q).trans ak).trans aj).trans m).trans n).trans s).trans l).trans ao)) bs.at1 df) ?_;rintro _ ks ⟨kt,t33,ku,bv,rfl,rfl,dg,dh⟩;refine ⟨t33,rfl,?_⟩;obtain ⟨kv,di,z⟩:=bS z;refine AJ (Ax dg dh di) ?_;rintro _ kw ⟨ax,t34,bw,rfl,rfl,ay⟩;refine ⟨t34,rfl,?_⟩;obtain ⟨dj,a8,z⟩:=bS z;refine Af (fun (y:Slc×Unit) w_ g=>∃ψ:AE,∃bx:List Int,Sub ax ψ∧bx=g∧St ψ (cR 3 (bV .i64) y.1 bx::⟨BV,[.pointer t18.2.2.1],w⟩::cW 32 r19 [sv t18.1.1,sv t18.1.2.1,sv t18.1.2.2.1,sv t18.1.2.2.2.1,sv t18.1.2.2.2.2.1,sv t18.1.2.2.2.2.2.1]::Wq0 r1 small_0::F) w_) (g:=dj) ?_ ?_
       ·refine AI a8 rfl (fun _ a8=> ?_) (fun _ a8=> ?_)
        ·obtain ⟨bz,dk,a8⟩:=bS a8;refine Ck av dk (Sub.trans (((l.trans ao).trans bv).trans bw) ay.sub)<|AT (vs:=[.int .i64 bz]) ay fun r38 kx c0=> ?_;obtain ⟨dl,dm,a8⟩:=bS a8;refine Ah (r:=(bV .i64)) (ms:=([bz]:List Int)) D2 c0.tail.at1 rfl (St.cells c0) (.cons (a:=[_]) rfl .nil) rfl dm ?_;intro t39 ky dn;obtain rfl:=iS a8;exact AN (t39,()) rfl ⟨ax,dl,(bR _),rfl,dn.at3.at3.at3.at3⟩
        obtain rfl:=iS a8;exact AN (z30.2.1,()) rfl ⟨ax,dc,(bR _),rfl,ay.at1.at3.at3.at3.at3⟩
       rintro z35 kz ⟨dp,dq,dr,rfl,ds⟩;try dsimp only at z
       obtain rfl:=iS z;exact Ag ((wN z30.1),z35.1,()) _ rfl rfl ⟨dp,dq,(((ao.trans bv).trans bw).trans dr),bu,rfl,ds.at3.at3.at3.at3⟩
      ·rintro _ z30 l0 ⟨dt,du,dv,rfl,rfl,dw⟩ dx;refine Aa (dF bm dx)<|AO (AQ (z30.1,z30.2.1,()) rfl ⟨_,dt,du,dv,rfl,rfl,dw.at3.at3.at3.at3⟩)
      rintro z29 l1 ⟨_,l2,l3,u,_,rfl,c1⟩;try dsimp only at e
      have az:=c1.rowLen;obtain ⟨l4,dy,e⟩:=bS e;refine AJ (Cx (bj.mono (((n.trans s).trans l).trans u)) c1 dy) ?_;rintro _ l5 ⟨l6,t40,a0,rfl,rfl,dz⟩;refine ⟨t40,rfl,?_⟩;obtain ⟨l7,e0,e⟩:=bS e;refine AJ (EP (bh.mono ((((((aj.trans m).trans n).trans s).trans l).trans u).trans a0)) dz e0) ?_;rintro _ l8 ⟨l9,t41,a4,rfl,rfl,e1⟩;refine ⟨t41,rfl,?_⟩;try dsimp only at e
      refine AT (vs:=[.int .i64 (0:Int),.int .i64 (0:Int)]) e1 fun r42 la e2=>AK e2 rfl rfl fun lb e3=>AK e3 rfl rfl fun lc e4=> ?_;obtain ⟨al,a5,o,f⟩:=St.freezeRow (t:=z29.2.1) e4.at1;obtain ⟨e5,c,e⟩:=bS e;refine Af (fun (y:Bool×Unit) w_ g=>∃ψ:AE,Sub al ψ∧y.1=g∧St ψ (cW 77 r42 [.int .i64 t41.1,.int .i64 t41.2.1]::⟨BV,[.pointer t18.2.2.1],w⟩::cW 32 r19 [sv t18.1.1,sv t18.1.2.1,sv t18.1.2.2.1,sv t18.1.2.2.2.1,sv t18.1.2.2.2.2.1,sv t18.1.2.2.2.2.2.1]::Wq0 r1 small_0::F) w_) (g:=e5) ?_ ?_
      ·refine AA (x:=t41.1) f rfl<|AI c rfl (fun _ c=> ?_) (fun _ c=> ?_)
       ·refine AA (x:=t41.2.1) f rfl<|AI c rfl (fun _ c=> ?_) (fun _ c=> ?_)
        ·refine AI c rfl (fun _ c=> ?_) (fun _ c=> ?_)
         ·have e6:=f.at3;obtain rfl:=iS c;exact AN (true,()) rfl ⟨al,(bR _),rfl,e6.at3.at3.at3⟩
         refine AA (x:=t41.1) f rfl<|AI c rfl (fun _ c=> ?_) (fun _ c=> ?_)
         ·refine AA (x:=t41.2.1) f rfl ?_;obtain ⟨ld,e7,c⟩:=bS c;refine AJ (Ax o f e7) ?_;rintro _ le ⟨b0,t48,af,rfl,rfl,ab⟩;refine ⟨t48,rfl,?_⟩;refine AI c rfl (fun _ c=> ?_) (fun _ c=> ?_)
          ·refine AA (x:=t41.2.1) ab rfl<|AI c rfl (fun _ c=> ?_) (fun _ c=> ?_)
           ·have e8:=ab.at3;obtain rfl:=iS c;exact AN (true,()) rfl ⟨b0,af,rfl,e8.at3.at3.at3⟩
           refine AA (x:=t41.1) ab rfl<|AI c rfl (fun _ c=> ?_) (fun _ c=> ?_)
           ·obtain ⟨lf,e9,c⟩:=bS c;refine AJ (Ax (o.mono af) ab e9) ?_;rintro _ lg ⟨ea,t51,eb,rfl,rfl,ec⟩;refine ⟨t51,rfl,?_⟩;obtain rfl:=iS c;exact AN (t51,()) rfl ⟨ea,(af.trans eb),rfl,ec.at3.at3.at3.at3⟩
           obtain rfl:=iS c;exact AN (false,()) rfl ⟨b0,af,rfl,ab.at3.at3.at3.at3⟩
          refine AA (x:=t41.1) ab rfl<|AI c rfl (fun _ c=> ?_) (fun _ c=> ?_)
          ·obtain ⟨lh,ed,c⟩:=bS c;refine AJ (Ax (o.mono af) ab ed) ?_;rintro _ li ⟨ee,t53,ef,rfl,rfl,eg⟩;refine ⟨t53,rfl,?_⟩;obtain rfl:=iS c;exact AN (t53,()) rfl ⟨ee,(af.trans ef),rfl,eg.at3.at3.at3.at3⟩
          obtain rfl:=iS c;exact AN (false,()) rfl ⟨b0,af,rfl,ab.at3.at3.at3.at3⟩
         refine AA (x:=t41.1) f rfl<|AI c rfl (fun _ c=> ?_) (fun _ c=> ?_)
         ·obtain ⟨lj,eh,c⟩:=bS c;refine AJ (Ax o f eh) ?_;rintro _ lk ⟨ei,t55,ej,rfl,rfl,ek⟩;refine ⟨t55,rfl,?_⟩;obtain rfl:=iS c;exact AN (t55,()) rfl ⟨ei,ej,rfl,ek.at3.at3.at3.at3⟩
         obtain rfl:=iS c;exact AN (false,()) rfl ⟨al,(bR _),rfl,f.at3.at3.at3.at3⟩
        refine AA (x:=t41.1) f rfl<|AI c rfl (fun _ c=> ?_) (fun _ c=> ?_)
        ·refine AA (x:=t41.2.1) f rfl ?_;obtain ⟨ll,el,c⟩:=bS c;refine AJ (Ax o f el) ?_;rintro _ lm ⟨b1,t58,ag,rfl,rfl,ac⟩;refine ⟨t58,rfl,?_⟩;refine AI c rfl (fun _ c=> ?_) (fun _ c=> ?_)
         ·refine AA (x:=t41.2.1) ac rfl<|AI c rfl (fun _ c=> ?_) (fun _ c=> ?_)
          ·have em:=ac.at3;obtain rfl:=iS c;exact AN (true,()) rfl ⟨b1,ag,rfl,em.at3.at3.at3⟩
          refine AA (x:=t41.1) ac rfl<|AI c rfl (fun _ c=> ?_) (fun _ c=> ?_)
          ·obtain ⟨ln,en,c⟩:=bS c;refine AJ (Ax (o.mono ag) ac en) ?_;rintro _ lo ⟨eo,t61,ep,rfl,rfl,er⟩;refine ⟨t61,rfl,?_⟩;obtain rfl:=iS c;exact AN (t61,()) rfl ⟨eo,(ag.trans ep),rfl,er.at3.at3.at3.at3⟩
          obtain rfl:=iS c;exact AN (false,()) rfl ⟨b1,ag,rfl,ac.at3.at3.at3.at3⟩
         refine AA (x:=t41.1) ac rfl<|AI c rfl (fun _ c=> ?_) (fun _ c=> ?_)
         ·obtain ⟨lp,es,c⟩:=bS c;refine AJ (Ax (o.mono ag) ac es) ?_;rintro _ lq ⟨eu,t63,ev,rfl,rfl,ew⟩;refine ⟨t63,rfl,?_⟩;obtain rfl:=iS c;exact AN (t63,()) rfl ⟨eu,(ag.trans ev),rfl,ew.at3.at3.at3.at3⟩
         obtain rfl:=iS c;exact AN (false,()) rfl ⟨b1,ag,rfl,ac.at3.at3.at3.at3⟩
        refine AA (x:=t41.1) f rfl<|AI c rfl (fun _ c=> ?_) (fun _ c=> ?_)
        ·obtain ⟨lr,ex,c⟩:=bS c;refine AJ (Ax o f ex) ?_;rintro _ ls ⟨ey,t65,ez,rfl,rfl,f0⟩;refine ⟨t65,rfl,?_⟩;obtain rfl:=iS c;exact AN (t65,()) rfl ⟨ey,ez,rfl,f0.at3.at3.at3.at3⟩
        obtain rfl:=iS c;exact AN (false,()) rfl ⟨al,(bR _),rfl,f.at3.at3.at3.at3⟩
       refine AA (x:=t41.1) f rfl<|AI c rfl (fun _ c=> ?_) (fun _ c=> ?_)
       ·refine AA (x:=t41.2.1) f rfl ?_;obtain ⟨lt,f1,c⟩:=bS c;refine AJ (Ax o f f1) ?_;rintro _ lu ⟨b2,t68,ah,rfl,rfl,ad⟩;refine ⟨t68,rfl,?_⟩;refine AI c rfl (fun _ c=> ?_) (fun _ c=> ?_)
        ·refine AA (x:=t41.2.1) ad rfl<|AI c rfl (fun _ c=> ?_) (fun _ c=> ?_)
         ·have f2:=ad.at3;obtain rfl:=iS c;exact AN (true,()) rfl ⟨b2,ah,rfl,f2.at3.at3.at3⟩
         refine AA (x:=t41.1) ad rfl<|AI c rfl (fun _ c=> ?_) (fun _ c=> ?_)
         ·obtain ⟨lv,f3,c⟩:=bS c;refine AJ (Ax (o.mono ah) ad f3) ?_;rintro _ lw ⟨f4,t71,f5,rfl,rfl,f6⟩;refine ⟨t71,rfl,?_⟩;obtain rfl:=iS c;exact AN (t71,()) rfl ⟨f4,(ah.trans f5),rfl,f6.at3.at3.at3.at3⟩
         obtain rfl:=iS c;exact AN (false,()) rfl ⟨b2,ah,rfl,ad.at3.at3.at3.at3⟩
        refine AA (x:=t41.1) ad rfl<|AI c rfl (fun _ c=> ?_) (fun _ c=> ?_)
        ·obtain ⟨lx,f7,c⟩:=bS c;refine AJ (Ax (o.mono ah) ad f7) ?_;rintro _ ly ⟨f8,t73,f9,rfl,rfl,fa⟩;refine ⟨t73,rfl,?_⟩;obtain rfl:=iS c;exact AN (t73,()) rfl ⟨f8,(ah.trans f9),rfl,fa.at3.at3.at3.at3⟩
        obtain rfl:=iS c;exact AN (false,()) rfl ⟨b2,ah,rfl,ad.at3.at3.at3.at3⟩
       refine AA (x:=t41.1) f rfl<|AI c rfl (fun _ c=> ?_) (fun _ c=> ?_)
       ·obtain ⟨lz,fb,c⟩:=bS c;refine AJ (Ax o f fb) ?_;rintro _ m0 ⟨fc,t75,fd,rfl,rfl,fe⟩;refine ⟨t75,rfl,?_⟩;obtain rfl:=iS c;exact AN (t75,()) rfl ⟨fc,fd,rfl,fe.at3.at3.at3.at3⟩
       obtain rfl:=iS c;exact AN (false,()) rfl ⟨al,(bR _),rfl,f.at3.at3.at3.at3⟩
      rintro z43 m1 ⟨ap,a1,rfl,b3⟩;try dsimp only at e
      obtain ⟨ff,a9,e⟩:=bS e;refine Af (fun (y:Bool×Unit) w_ g=>∃ψ:AE,Sub ap ψ∧y.1=g∧St ψ (cW 77 r42 [.int .i64 t41.1,.int .i64 t41.2.1]::⟨BV,[.pointer t18.2.2.1],w⟩::cW 32 r19 [sv t18.1.1,sv t18.1.2.1,sv t18.1.2.2.1,sv t18.1.2.2.2.1,sv t18.1.2.2.2.2.1,sv t18.1.2.2.2.2.2.1]::Wq0 r1 small_0::F) w_) (g:=ff) ?_ ?_
      ·refine AI a9 (by rw [az] <;>rfl) (fun _ a9=> ?_) (fun _ a9=> ?_)
       ·have fg:=b3.at3;obtain rfl:=iS a9;exact AN (true,()) rfl ⟨ap,(bR _),rfl,fg.at3.at3.at3⟩
       refine AI a9 (by rw [az] <;>rfl) (fun _ a9=> ?_) (fun _ a9=> ?_)
       ·have fh:=b3.at3;obtain rfl:=iS a9;exact AN ((decide (t40≥ (0:Int))),()) rfl ⟨ap,(bR _),rfl,fh.at3.at3.at3⟩
       obtain rfl:=iS a9;exact AN (false,()) rfl ⟨ap,(bR _),rfl,b3.at3.at3.at3.at3⟩
      rintro z76 m2 ⟨a2,a3,rfl,i⟩;try dsimp only at e
      refine AI e rfl (fun _ e=> ?_) (fun _ e=> ?_)
      ·obtain ⟨fi,d,e⟩:=bS e;refine Af (fun (y:Bool×Unit) w_ g=>∃ψ:AE,Sub a2 ψ∧y.1=g∧St ψ (cW 77 r42 [.int .i64 t41.1,.int .i64 t41.2.1]::⟨BV,[.pointer t18.2.2.1],w⟩::cW 32 r19 [sv t18.1.1,sv t18.1.2.1,sv t18.1.2.2.1,sv t18.1.2.2.2.1,sv t18.1.2.2.2.2.1,sv t18.1.2.2.2.2.2.1]::Wq0 r1 small_0::F) w_) (g:=fi) ?_ ?_
       ·refine AI d (by rw [bi] <;>rfl) (fun _ d=> ?_) (fun _ d=> ?_)
        ·have fj:=i.at3;obtain rfl:=iS d;exact AN (true,()) rfl ⟨a2,(bR _),rfl,fj.at3.at3.at3⟩
        obtain ⟨fk,fl,d⟩:=bS d;obtain ⟨m3,m4,fm,fn,fo,fp⟩:=(ae.mono (((((((((m.trans n).trans s).trans l).trans u).trans a0).trans a4).trans a5).trans a1).trans a3)).get fl;refine AG _ fm (Ab fn ?_);obtain ⟨_,_,rfl,rfl,⟨_,_,rfl,rfl,⟨_,_,rfl,rfl,⟨_,_,rfl,⟨m5,rfl,m6⟩,⟨_,_,rfl,rfl,⟨_,_,rfl,rfl,rfl⟩⟩⟩⟩⟩⟩:=fo;refine AF (x:=fk.1) (AC i.sub (fp 0 _ rfl)) rfl<|AI d rfl (fun _ d=> ?_) (fun _ d=> ?_)
        ·have g2:=i.at3;obtain rfl:=iS d;exact AN (true,()) rfl ⟨a2,(bR _),rfl,g2.at3.at3.at3⟩
        obtain ⟨g3,g4,d⟩:=bS d;obtain ⟨m7,m8,g5,g6,g7,g8⟩:=(ae.mono (((((((((m.trans n).trans s).trans l).trans u).trans a0).trans a4).trans a5).trans a1).trans a3)).get g4;refine AG _ g5 (Ab g6 ?_);obtain ⟨_,_,rfl,rfl,⟨_,_,rfl,rfl,⟨_,_,rfl,rfl,⟨_,_,rfl,⟨m9,rfl,ma⟩,⟨_,_,rfl,rfl,⟨_,_,rfl,rfl,rfl⟩⟩⟩⟩⟩⟩:=g7;refine AF (x:=g3.2.1) (by rw [AV];exact (AC i.sub (g8 1 _ rfl))) rfl<|AI d rfl (fun _ d=> ?_) (fun _ d=> ?_)
        ·have gm:=i.at3;obtain rfl:=iS d;exact AN (true,()) rfl ⟨a2,(bR _),rfl,gm.at3.at3.at3⟩
        obtain ⟨gn,go,d⟩:=bS d;obtain ⟨mb,mc,gp,gq,gr,gs⟩:=(ae.mono (((((((((m.trans n).trans s).trans l).trans u).trans a0).trans a4).trans a5).trans a1).trans a3)).get go;refine AG _ gp (Ab gq ?_);obtain ⟨_,_,rfl,rfl,⟨_,_,rfl,rfl,⟨_,_,rfl,rfl,⟨_,_,rfl,⟨md,rfl,me⟩,⟨_,_,rfl,rfl,⟨_,_,rfl,rfl,rfl⟩⟩⟩⟩⟩⟩:=gr;refine AF (x:=gn.2.2.1) (by rw [AV];exact (AC i.sub (gs 2 _ rfl))) rfl<|AI d rfl (fun _ d=> ?_) (fun _ d=> ?_)
        ·have h5:=i.at3;obtain rfl:=iS d;exact AN (true,()) rfl ⟨a2,(bR _),rfl,h5.at3.at3.at3⟩
        obtain ⟨c2,h6,d⟩:=bS d;obtain ⟨mf,mg,h7,h8,h9,c3⟩:=(ae.mono (((((((((m.trans n).trans s).trans l).trans u).trans a0).trans a4).trans a5).trans a1).trans a3)).get h6;refine AG _ h7 (Ab h8 ?_);obtain ⟨_,_,rfl,rfl,⟨_,_,rfl,rfl,⟨_,_,rfl,rfl,⟨_,_,rfl,⟨mh,rfl,mi⟩,⟨_,_,rfl,rfl,⟨_,_,rfl,rfl,rfl⟩⟩⟩⟩⟩⟩:=h9;refine AF (x:=c2.2.2.2.2.1) (by rw [AV];exact (AC i.sub (c3 4 _ rfl))) rfl<|AF (x:=c2.2.2.2.2.2.1) (by rw [AV,AV];exact (AC i.sub (c3 5 _ rfl))) rfl<|AA (x:=t41.1) i rfl<|AA (x:=t41.2.1) i rfl<|AI d rfl (fun _ d=> ?_) (fun _ d=> ?_)
        ·have ho:=i.at3;obtain rfl:=iS d;exact AN (true,()) rfl ⟨a2,(bR _),rfl,ho.at3.at3.at3⟩
        obtain ⟨mj,hp,d⟩:=bS d;obtain ⟨mk,ml,hq,hr,hs,ht⟩:=(ae.mono (((((((((m.trans n).trans s).trans l).trans u).trans a0).trans a4).trans a5).trans a1).trans a3)).get hp;refine AG _ hq (Ab hr ?_);obtain ⟨_,_,rfl,rfl,⟨_,_,rfl,rfl,⟨_,_,rfl,rfl,⟨_,_,rfl,⟨i2,rfl,i3⟩,⟨_,_,rfl,rfl,⟨_,_,rfl,rfl,rfl⟩⟩⟩⟩⟩⟩:=hs;refine AF (x:=i2) (by rw [AV];exact (AC i.sub (ht 3 _ rfl))) rfl ?_;obtain ⟨mm,i8,d⟩:=bS d;refine AJ (JO i3 (o.mono (a1.trans a3)) i i8) ?_;rintro _ mn ⟨aq,t91,am,rfl,rfl,ai⟩;refine ⟨t91,rfl,?_⟩;refine AI d rfl (fun _ d=> ?_) (fun _ d=> ?_)
        ·have i9:=ai.at3;obtain rfl:=iS d;exact AN (true,()) rfl ⟨aq,am,rfl,i9.at3.at3.at3⟩
        refine AI d rfl (fun _ d=> ?_) (fun _ d=> ?_)
        ·refine AA (x:=t41.1) ai rfl<|AA (x:=t41.2.1) ai rfl<|AI d rfl (fun _ d=> ?_) (fun _ d=> ?_)
         ·have ia:=ai.at3;obtain rfl:=iS d;exact AN (true,()) rfl ⟨aq,am,rfl,ia.at3.at3.at3⟩
         obtain ⟨c4,ib,d⟩:=bS d;obtain ⟨mo,mp,ic,ie,ig,ih⟩:=(ae.mono ((((((((((m.trans n).trans s).trans l).trans u).trans a0).trans a4).trans a5).trans a1).trans a3).trans am)).get ib;refine AG _ ic (Ab ie ?_);obtain ⟨_,_,rfl,rfl,⟨_,_,rfl,rfl,⟨_,_,rfl,rfl,⟨_,_,rfl,⟨mq,rfl,mr⟩,⟨_,_,rfl,rfl,⟨_,_,rfl,rfl,rfl⟩⟩⟩⟩⟩⟩:=ig;refine AF (x:=c4.2.2.2.2.2.2) (by rw [AV];exact (AC ai.sub (ih 6 _ rfl))) rfl ?_;obtain rfl:=iS d;exact AN (c4.2.2.2.2.2.2,()) rfl ⟨aq,am,rfl,ai.at3.at3.at3.at3⟩
        obtain rfl:=iS d;exact AN (false,()) rfl ⟨aq,am,rfl,ai.at3.at3.at3.at3⟩
       rintro z77 mu ⟨c5,c6,rfl,c7⟩;try dsimp only at e
       refine AI e rfl (fun _ e=> ?_) (fun _ e=> ?_)
       ·obtain rfl:=iS e;try dsimp only at a7
        obtain rfl:=iS a7;obtain rfl:=bq _ rfl;try dsimp only at j
        obtain rfl:=iS j;obtain rfl:=au _ rfl;try dsimp only at hd
        obtain rfl:=iS hd;exact Ai (Ak (Ai (Ak (Ai (AB ⟨c5,false,((((((((((((((k.trans q).trans ak).trans aj).trans m).trans n).trans s).trans l).trans u).trans a0).trans a4).trans a5).trans a1).trans a3).trans c6),rfl,rfl,c7.tail.tail.tail.tail⟩)))))
       obtain rfl:=iS e;exact AQ ((wN z26.2.1),z26.2.2.1,()) rfl ⟨c5,((((((u.trans a0).trans a4).trans a5).trans a1).trans a3).trans c6),rfl,c7.tail.at2.at2.at2⟩
      obtain ⟨iw,p,e⟩:=bS e;refine Af (fun (y:Bool×Unit) w_ g=>∃ψ:AE,Sub a2 ψ∧y.1=g∧St ψ (cW 77 r42 [.int .i64 t41.1,.int .i64 t41.2.1]::⟨BV,[.pointer t18.2.2.1],w⟩::cW 32 r19 [sv t18.1.1,sv t18.1.2.1,sv t18.1.2.2.1,sv t18.1.2.2.2.1,sv t18.1.2.2.2.2.1,sv t18.1.2.2.2.2.2.1]::Wq0 r1 small_0::F) w_) (g:=iw) ?_ ?_
      ·refine AI p rfl (fun _ p=> ?_) (fun _ p=> ?_)
       ·refine AA (x:=t41.1) i rfl<|AA (x:=t41.2.1) i rfl<|AI p rfl (fun _ p=> ?_) (fun _ p=> ?_)
        ·have ix:=i.at3;obtain rfl:=iS p;exact AN (true,()) rfl ⟨a2,(bR _),rfl,ix.at3.at3.at3⟩
        refine AI p rfl (fun _ p=> ?_) (fun _ p=> ?_)
        ·have iy:=i.at3;obtain rfl:=iS p;exact AN (true,()) rfl ⟨a2,(bR _),rfl,iy.at3.at3.at3⟩
        have iz:=i.at3.at3.at3.at3;obtain rfl:=iS p;exact AN ((decide ((z29.2.1.2.1:Int) >(0:Int))),()) rfl ⟨a2,(bR _),(by rw [az]),iz⟩
       obtain rfl:=iS p;exact AN (false,()) rfl ⟨a2,(bR _),rfl,i.at3.at3.at3.at3⟩
      rintro z96 mv ⟨c8,c9,rfl,ca⟩;try dsimp only at e
      refine AI e rfl (fun _ e=> ?_) (fun _ e=> ?_)
      ·obtain rfl:=iS e;try dsimp only at a7
       obtain rfl:=iS a7;obtain rfl:=bq _ rfl;try dsimp only at j
       obtain rfl:=iS j;obtain rfl:=au _ rfl;try dsimp only at hd
       obtain rfl:=iS hd;exact Ai (Ak (Ai (Ak (Ai (AB ⟨c8,false,((((((((((((((k.trans q).trans ak).trans aj).trans m).trans n).trans s).trans l).trans u).trans a0).trans a4).trans a5).trans a1).trans a3).trans c9),rfl,rfl,ca.tail.tail.tail.tail⟩)))))
      obtain rfl:=iS e;exact MX (z26.2.1,z26.2.2.1,()) rfl ⟨c8,((((((u.trans a0).trans a4).trans a5).trans a1).trans a3).trans c9),rfl,ca.tail.at2.at2.at2⟩
     rintro z28 mw ⟨j0,j1,rfl,j2⟩;try dsimp only at a7
     obtain rfl:=iS a7;exact Ag ((wN z26.1),z28.1,z28.2.1,()) _ rfl rfl ⟨j0,(l.trans j1),bp,rfl,j2.at2.at2.at2⟩
    ·rintro _ z26 mx _ ⟨j3,j4,rfl,rfl,cb⟩ j5 j6;subst j6;refine AA (x:=t18.1.1) cb.at1 rfl<|Aa (dF bf j5)<|AO (AQ (z26.1,z26.2.1,z26.2.2.1,()) rfl ⟨_,rfl,_,j3,j4,rfl,rfl,cb.at2.at2.at2⟩)
    rintro z25 my ⟨_,rfl,_,j7,j8,_,rfl,j9⟩;try dsimp only at j
    obtain rfl:=iS j;exact Ag ((wN z22.1),z25.2.1,z25.2.2.1,()) _ rfl rfl ⟨j7,(((m.trans n).trans s).trans j8),rfl,j9.at2.at1.at2⟩
   obtain rfl:=iS j;obtain rfl:=au _ rfl;exact AO (AQ (z22.1,z22.2.1,z22.2.2.1,()) rfl ⟨d1,(m.trans n),rfl,bk.at2.at2.at2⟩)
 rintro z21 mz ⟨b4,ja,rfl,cc⟩;try dsimp only at hd
 obtain ⟨jb,an,hd⟩:=bS hd;refine Af (fun (y:Bool×Unit) w_ g=>∃ψ:AE,Sub b4 ψ∧y.1=g∧St ψ (cW 32 r19 [sv t18.1.1,sv t18.1.2.1,sv t18.1.2.2.1,sv t18.1.2.2.2.1,sv t18.1.2.2.2.2.1,sv t18.1.2.2.2.2.2.1]::⟨BV,[.pointer t18.2.2.1],w⟩::Wq0 r1 small_0::F) w_) (g:=jb) ?_ ?_
 ·refine AI an rfl (fun _ an=> ?_) (fun _ an=> ?_)
  ·have jc:=cc.at2;have jd:=jc.at2.at2;obtain rfl:=iS an;exact AN ((z21.2.1==(t20.2.1:Int)),()) rfl ⟨b4,(bR _),(by rw [bi]),jd⟩
  obtain rfl:=iS an;exact AN (false,()) rfl ⟨b4,(bR _),rfl,cc.at2.at2.at2⟩
 rintro z99 n0 ⟨je,jf,rfl,jg⟩;try dsimp only at hd
 obtain rfl:=iS hd;exact AB ⟨je,z99.1,(((((k.trans q).trans ak).trans aj).trans ja).trans jf),rfl,rfl,jg.tail.tail.tail⟩
end Go.Proofs.YteolcjbobmpdiaaGreatDoor
namespace Go.Proofs.YteolcjbobmpdiaaGreatDoor
open Go Go.Eng Dg
set_option linter.unusedVariables false
set_option maxRecDepth 100000
theorem Ub {l:List Int}(h:l.length≤1000000):Cn l l=some true:=by
 unfold Cn;exact bZ (AU (by simp) (Xe l.length (by omega) (fun i hi=>bZ (AW (bT hi) (AW (bT hi) (AU (by simp) (AD rfl))))) (AD rfl)))
section
variable {p:dtP}{B:List dtK}{E:List (List Edge)}{d:LkD}{tt:Int}
set_option maxHeartbeats 4000000 in
theorem Rg {s:KZ}(G:SmG s):By s=some true:=by
 refine bZ ?_;unfold By;refine AL Ob (AP (U4 G 12 5) fun b hb=>Ac (fun _=>AD rfl) fun hb'=> ?_);refine AP (UZ G (hb (by simpa using hb'))) fun m hm=> ?_;rcases hm with hm | ⟨hm,p,B,E,d,tt,nt,nl,g,hp,hA,hd,hg,hpl,M,hG⟩
 ·exact Bd (by simp [hm]) (AD rfl)
 refine AU (by simp [hm]) ?_;have h1:m.1=p.1:=by rw [←hp]
 rw [hA,hd,hg,h1];have H:=M.all;have hf:=H.few;have hT:=hpl.terms.len;have hn5:=hpl.nt5;obtain ⟨A,hAe⟩:∃A,Au p B E tt=A:=⟨_,rfl⟩;have hcl:=NQ p (Au p B E tt) d B B.length;have hmul:B.length *p.1.length≤300 *10:=Nat.mul_le_mul hf (by omega);have hcs:∀x∈clA p (Au p B E tt) d B B.length,x.2.2.2.1.length≤1000000:=by
  have each:∀(i n:Nat),i<B.length→ ∀x∈clS p (Au p B E tt) d (dlB p B i) i n,x.2.2.2.1.length≤1000000:=by
   intro i n hi
   induction n with
   |zero=>intro x hx;cases hx
   |succ n ih=>
    intro x hx;rcases List.mem_append.1 hx with h | h
    ·exact ih x h
    ·have hbi:=bT hi;have hdl:dlB p B i=CS p.2.2.1 (B[i]).2.1:=by unfold dlB;rw [hbi]
     have:=QW M hbi (n:Int)
     rw [←hdl]at this;unfold DH at h;split at h
     ·obtain rfl:=List.mem_singleton.1 h;dsimp only;omega
     ·cases h
  have all:∀n,n≤B.length→ ∀x∈clA p (Au p B E tt) d B n,x.2.2.2.1.length≤1000000:=by
   intro n
   induction n with
   |zero=>intro _ x hx;cases hx
   |succ n ih=>
    intro hn x hx;rcases List.mem_append.1 hx with h | h
    ·exact ih (by omega) x h
    ·exact each n _ (by omega) x h
  exact all _ (Nat.le_refl _)
 refine AL rfl (AL (LX hG (by omega) hcs) ?_);refine ED (fun (z:Int×Int)=>∃i:Nat,z=((i:Int),(((clA p (Au p B E tt) d B i).length:Nat):Int))∧i≤B.length) (fun z=>B.length - z.1.toNat) (fun b=>b= .next (((clA p (Au p B E tt) d B B.length).length:Nat):Int)) ⟨0,rfl,Nat.zero_le _⟩ (fun z hz=> ?_) fun b hb=> ?_
 ·obtain ⟨i,rfl,hi⟩:=hz;rcases Nat.lt_or_eq_of_le hi with hi | rfl
  ·have hbi:=bT hi;obtain ⟨bi,hbe⟩:∃b,B[i] =b:=⟨_,rfl⟩;rw [hbe]at hbi;have hdl:dlB p B i=CS p.2.2.1 bi.2.1:=by unfold dlB;rw [hbi]
   have hdle:=Mr (l:=[]) M hbi;refine AL rfl (AL (LR H.fin) (Bd (decide_eq_true (by dsimp only;omega)) (AL (Pa M hbi) ?_)));rw [←hdl];refine EC (fun t (z:Int)=>z=(((clA p (Au p B E tt) d B i++clS p (Au p B E tt) d (dlB p B i) i t).length:Nat):Int)) (by omega) (by simp [clS]) (fun t z ht hz=> ?_) fun z hz=> ?_
   ·subst hz;have hrl:=QW M hbi (t:Int);rw [←hdl]at hrl;have hks:∀k∈rsL d (dlB p B i) (i:Int) (t:Int),0≤k:=fun k hk=>by
     have hk:=(List.mem_filter.1 hk).1;rw [hdl]at hk;obtain ⟨j,hj⟩:=List.getElem?_of_mem hk;obtain ⟨k',r,rfl,_,_⟩:=Ms M hbi hj;omega
    refine AP (Q:=fun e=>e=bU (((clA p (Au p B E tt) d B i++clS p (Au p B E tt) d (dlB p B i) i (t+1)).length:Nat):Int)) ?_ fun e he=>by rw [he];exact Ea rfl
    refine AL (x:=rsL d (dlB p B i) (i:Int) (t:Int)) (Od (Re d (i:Int) (t:Int)) (by rw [hdl];omega) fun j x acc hx hacc=> ?_) ?_
    ·have hj:=(List.getElem?_eq_some_iff.1 hx).1;have hxm:=List.mem_of_getElem? hx;rw [hdl]at hxm hj;obtain ⟨l,g1,g2,g3⟩:=Td M hbi hxm (t:Int);refine bZ (AW hx (AL g1 (AL (X5 (by omega) (t:Int)) ?_)));rw [g3];cases Re d (i:Int) (t:Int) x with
     |true=>exact AP (Q:=fun z=>z=acc++ [x]) (Bd rfl (AW hx (Bk (by simp;omega) (AD rfl)))) fun z hz=>AD (by rw [hz];rfl)
     |false=>exact AP (Q:=fun z=>z=acc) (AU rfl (AD rfl)) fun z hz=>AD (by rw [hz];rfl)
    refine AL (QU M hbi _) (AL (Xk hG hi ht) ?_);obtain ⟨k1,k2⟩:=Mu p (t:Int) (goV (Au p B E tt) (i:Int) (t:Int)) (rs:=rsL d (dlB p B i) (i:Int) (t:Int)) (by omega) (Oe hpl _);have hkf:=Ua k2 hks;have hat:=WX (A:=Au p B E tt) (d:=d) hi ht;have hcs1:clS p (Au p B E tt) d (dlB p B i) i (t+1)=clS p (Au p B E tt) d (dlB p B i) i t++DH p (Au p B E tt) d (dlB p B i) (i:Int) (t:Int):=rfl;rw [hcs1];unfold Rf;unfold DH at hat ⊢;obtain ⟨kv,hkv⟩:∃kv,I5 p (t:Int) (goV (Au p B E tt) (i:Int) (t:Int)) (rsL d (dlB p B i) (i:Int) (t:Int))=kv:=⟨_,rfl⟩;rw [hkv]at hkf hat ⊢;obtain ⟨rs,hrs⟩:∃rs,rsL d (dlB p B i) (i:Int) (t:Int)=rs:=⟨_,rfl⟩;obtain ⟨go,hgo⟩:∃go,goV (Au p B E tt) (i:Int) (t:Int)=go:=⟨_,rfl⟩;rw [hrs,hgo]at hkf hat ⊢;rw [hrs]at hrl hks;have hin:∀x,Ao rs x=some (decide (x∈rs)):=fun x=>X5 (by omega) x;refine AP (Q:=fun c=>c=K5 kv.1 kv.2.1 go rs) ?_ fun c hc=> ?_
    ·simp only [hin,Option.bind_some];unfold K5;cases (kv.1==1) <;>cases (kv.2.1==go) <;>cases decide (go≥0) <;>cases (kv.1==2) <;>cases decide (kv.2.1∈rs) <;>cases decide (kv.2.1>0) <;>cases (kv.1==3) <;>exact ⟨_,rfl,by simp⟩
    subst hc;refine AP (Q:=fun c=>c=two rs go) (Ac (fun h=>AD ?_) fun h=> ?_) fun c hc=> ?_
    ·have h:=of_decide_eq_true h;unfold two;rw [decide_eq_true (show 1<rs.length by omega)];rfl
    ·have h:=of_decide_eq_false h;unfold two;rw [decide_eq_false (show ¬1<rs.length by omega),Bool.false_or];refine Ac (fun h2=>AD ?_) fun h2=>AD ?_
     ·have h2:=eq_of_beq h2;rw [decide_eq_true (show rs.length=1 by omega)];rfl
     ·have h2:=ne_of_beq_false h2;rw [decide_eq_false (show ¬rs.length=1 by omega)];rfl
    subst hc;refine Ac (fun h=> ?_) fun h=> ?_
    ·obtain ⟨x,e,hx⟩:=hat h;rw [if_pos h]at e ⊢;obtain rfl:=(List.cons.inj e).1;have hL:=(List.getElem?_eq_some_iff.1 hx).1;have hnx:Ok (some (bU (bX .i64 ((((clA p (Au p B E tt) d B i++clS p (Au p B E tt) d (dlB p B i) i t).length:Nat):Int)+(1:Int))):AY Int Bool)) (fun e=>e=bU (((clA p (Au p B E tt) d B i++(clS p (Au p B E tt) d (dlB p B i) i t++ [((i:Int),(t:Int),go,rs,kv.1,kv.2.1,kv.2.2)])).length:Nat):Int)):=by
      refine AD ?_;rw [wr1 hL (by omega)];simp only [List.length_append,List.length_cons,List.length_nil,Nat.add_assoc,Nat.zero_add]
     refine AP (Q:=fun c=>c=false) (AU (decide_eq_false (by omega)) (AW hx (AU (by simp) (AW hx (AU (by simp) (AW hx (AU (by simp) (AW hx (AU (by simp) (AW hx (AL (Ub (show rs.length≤1000000 by omega)) (AU rfl (Ac (fun hf=> ?_) fun hf=>AD rfl))))))))))))) fun c hc=>by rw [hc];exact AU rfl hnx
     have hf:K5 kv.1 kv.2.1 go rs=false:=by simpa using hf
     rcases hkf with g | ⟨g,_⟩
     ·rw [hf]at g;cases g
     ·exact AU (by rw [g];rfl) (AW hx (AD (by rw [g])))
    ·rw [if_neg (by rw [h];simp),List.append_nil];refine AP (Q:=fun c=>c=false) (Ac (fun hf=> ?_) fun hf=>AD rfl) fun c hc=>by rw [hc];exact AU rfl (AD rfl)
     have hf:K5 kv.1 kv.2.1 go rs=false:=by simpa using hf
     rcases hkf with g | ⟨g,g2⟩
     ·rw [hf]at g;cases g
     ·rcases g2 with g2 | ⟨rfl,g3⟩
      ·rw [h]at g2;cases g2
      ·exact AU (by rw [g];rfl) (AU (decide_eq_false (by omega)) (AD (by simp)))
   ·refine ⟨_,rfl,.inl ⟨_,rfl,⟨i+1,?_,hi⟩,?_⟩⟩
    ·rw [hz,KF,wr1 hi (by omega)]
    ·dsimp only;rw [wr1 hi (by omega)];omega
  ·refine ⟨_,?_,.inr ⟨_,rfl,rfl⟩⟩;exact bZ (AL rfl (AL (LR H.fin) (AU (decide_eq_false (by dsimp only;omega)) (AD rfl))))
 ·subst hb;exact AP (Q:=fun c=>c=true) (Bd rfl (AD (by simp))) fun c hc=>AD hc
end
end Go.Proofs.YteolcjbobmpdiaaGreatDoor
namespace Go.Proofs.YteolcjbobmpdiaaGreatDoor
open Go Go.Eng
set_option linter.unusedVariables false
section
variable {h:AH}
theorem resolveClashes {n:Nat}{cs:List Value}(gk:Kz (Be h)) (hr:F5 bY h n 25 cs):CallsH bY 9 [.agg cs.toArray] h (Ap (TF h)):=by
 obtain ⟨s,d2,d3,d4,d5,d6,rfl,h2,h3,h4,h5,h6,G⟩:=RD hr;exact Q4 (FO (small_0:=s) gk h2 h3 h4 h5 h6 (St.start h) (Rg G))
end
end Go.Proofs.YteolcjbobmpdiaaGreatDoor
