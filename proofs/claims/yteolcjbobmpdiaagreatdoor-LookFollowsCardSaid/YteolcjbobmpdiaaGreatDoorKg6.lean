/-
  SimUe, M7, LawsG, put together.
  Conditions: none; each part tells its own.
-/
import Derived.Test.YteolcjbobmpdiaaGreatDoorKg2
import Derived.Test.YteolcjbobmpdiaaGreatDoorKg5
import Derived.KernelRfl
import Derived.Test.YteolcjbobmpdiaaGreatDoorKg3
open List renaming getElem?_eq_getElem → bR,mem_of_getElem? → bU
open Go.Eng.Sub renaming trans → bT,refl → bV
open Go.Eng.Ab renaming done → bW,next → bY
open Go.IntKind renaming wrap → bX
open Go.Eng.Ro renaming int → bZ
open Go.Proofs.Tryz renaming prog → cA
open Go.Eng.Ok renaming eq → cC
namespace Go.Proofs.YteolcjbobmpdiaaGreatDoor
open Go Go.Eng
set_option linter.unusedVariables false
set_option maxRecDepth 100000
noncomputable def By (small_0:Le):Option Bool:=
 (Cx).bind fun t2=>
 (Bi (small_0.1,small_0.2.1,small_0.2.2.1,small_0.2.2.2.1,small_0.2.2.2.2.1,small_0.2.2.2.2.2.1,small_0.2.2.2.2.2.2) 12 5).bind fun t10=>
 cond (!t10)
 (some t2)
 ((B6 (small_0.1,small_0.2.1,small_0.2.2.1,small_0.2.2.2.1,small_0.2.2.2.2.1,small_0.2.2.2.2.2.1,small_0.2.2.2.2.2.2)).bind fun t18=>
  cond (!t18.2.2.2.2.2.2.2.2)
  (some t2)
  ((Na (t18.1,t18.2.1,t18.2.2.1,t18.2.2.2.1,t18.2.2.2.2.1,t18.2.2.2.2.2.1)).bind fun t26=>
   (loop (σ:=Int) (β:=Ab Unit Bool) 0 fun z28=>
    t18.2.2.2.2.2.2.1.bind fun e94=>
    (BW e94).bind fun t29=>
    cond (decide (z28<t29))
    ((LU t18.2.2.2.2.2.2.2.1 z28).bind fun t30=>
     (C2 (σ:=Unit) (β:=Bool) 0 (t30.length:Int) () fun i_z32 z32=>
      ((idx t30 i_z32).bind fun e130=>
      cond (decide (e130< 0))
      (some true)
      ((idx t30 i_z32).bind fun e136=>
       some (decide (e136≥ (t18.2.2.1.length:Int))))).bind fun z33=>
      cond z33
      (some (bW false))
      ((idx t30 i_z32).bind fun e150=>
       (NP t18.2.2.2.2.2.2.2.1 z28 e150).bind fun t41=>
       (idx t30 i_z32).bind fun e175=>
       (idx t18.2.2.1 e175).bind fun e184=>
       (idx t26.2.2.1 (bX .i64 (e184.1 - (t18.1.length:Int)))).bind fun e197=>
       (Ca e197).bind fun t52=>
       (cond ((t41.length:Int)==0)
       (some true)
       ((idx t30 i_z32).bind fun e214=>
        cond (e214==0)
        ((B5 t41 ([(0:Int)]:List Int)).bind fun t57=>
         some (!t57))
        (some false))).bind fun z53=>
       cond z53
       (some (bW false))
       ((C2 (σ:=Unit) (β:=Bool) 0 (t41.length:Int) () fun i_z59 z59=>
        (idx t41 i_z59).bind fun e260=>
        (Cs t52 e260).bind fun t62=>
        cond (!t62)
        (some (bW false))
        (some (bY ()))).bind fun e_z58=>match e_z58 with
        |.next z58=>
         some (bY ())
        |.done q291=>some (bW q291)))).bind fun e_z31=>match e_z31 with
     |.next z31=>
      some (bY (bX .i64 (z28+1)))
     |.done q311=>some (bW (bW q311)))
    (some (bW (bY ())))).bind fun e_z27=>match e_z27 with
   |.next z27=>
    some t2
   |.done q324=>some q324))
theorem Fq {φ:AD}{h:AH}{F:List Chk}{small_0:Int×Int×Slc×Slc×Slc×Slc×Slc×Unit}{al:List Int}{am:List (List Int)}{an:List Int}{ao:List Int}{ap:List Int}(gk:MN φ) (aq:Ro.SliceIs (bZ .u8) φ small_0.2.2.1 al) (ar:Ro.SliceIs (Ro.list (bZ .u8)) φ small_0.2.2.2.1 am) (au:Ro.SliceIs (bZ .u8) φ small_0.2.2.2.2.1 an) (av:Ro.SliceIs (bZ .u8) φ small_0.2.2.2.2.2.1 ao) (aw:Ro.SliceIs (bZ .u8) φ small_0.2.2.2.2.2.2.1 ap) (s0:St φ (F) h) {r:Bool}(hd:By (small_0.1,small_0.2.1,al,am,an,ao,ap)=some r):
 CallsH cA 4 [(.agg #[(.int .u8 small_0.1),(.int .u8 small_0.2.1),(sv small_0.2.2.1),(sv small_0.2.2.2.1),(sv small_0.2.2.2.2.1),(sv small_0.2.2.2.2.2.1),(sv small_0.2.2.2.2.2.2.1)])] h (Ar fun v h'=>∃ψ:AD,∃y:Bool,Sub φ ψ∧v=((.one aB):Sh).val y∧y=r∧St ψ (F) h'):=by
 refine AO mixed Tryz.func4 ?_;rw [Fo];unfold Dm;unfold By at hd;refine AV (vs:=[.int .u8 small_0.1,.int .u8 small_0.2.1,sv small_0.2.2.1,sv small_0.2.2.2.1,sv small_0.2.2.2.2.1,sv small_0.2.2.2.2.2.1,sv small_0.2.2.2.2.2.2.1]) s0 fun r1 e4 bc=> ?_;obtain ⟨e5,bd,hd⟩:=bS hd;refine AI (IU gk bc bd) ?_;rintro _ e6 ⟨e7,t2,e,rfl,rfl,z⟩;refine ⟨t2,rfl,?_⟩;refine AA (x:=small_0.1) z rfl<|AA (x:=small_0.2.1) z rfl<|AA (x:=small_0.2.2.1) z rfl<|AA (x:=small_0.2.2.2.1) z rfl<|AA (x:=small_0.2.2.2.2.1) z rfl<|AA (x:=small_0.2.2.2.2.2.1) z rfl<|AA (x:=small_0.2.2.2.2.2.2.1) z rfl ?_;obtain ⟨e8,be,hd⟩:=bS hd;refine AI (Ga (s_0:=(small_0.1,small_0.2.1,small_0.2.2.1,small_0.2.2.2.1,small_0.2.2.2.2.1,small_0.2.2.2.2.2.1,small_0.2.2.2.2.2.2.1,())) (aq.mono e) (ar.mono e) (au.mono e) (av.mono e) (aw.mono e) z be) ?_;rintro _ e9 ⟨bf,t10,i,rfl,rfl,q⟩;refine ⟨t10,rfl,?_⟩;refine AK hd rfl (fun _ hd=> ?_) (fun _ hd=> ?_)
 ·obtain rfl:=iS hd;exact AB ⟨bf,t2,(e.trans i),rfl,rfl,q.tail⟩
 refine AA (x:=small_0.1) q rfl<|AA (x:=small_0.2.1) q rfl<|AA (x:=small_0.2.2.1) q rfl<|AA (x:=small_0.2.2.2.1) q rfl<|AA (x:=small_0.2.2.2.2.1) q rfl<|AA (x:=small_0.2.2.2.2.2.1) q rfl<|AA (x:=small_0.2.2.2.2.2.2.1) q rfl ?_;obtain ⟨ea,bg,hd⟩:=bS hd;refine AI (E8 (small_0:=(small_0.1,small_0.2.1,small_0.2.2.1,small_0.2.2.2.1,small_0.2.2.2.2.1,small_0.2.2.2.2.2.1,small_0.2.2.2.2.2.2.1,())) (gk.mono (e.trans i)) (aq.mono (e.trans i)) (ar.mono (e.trans i)) (au.mono (e.trans i)) (av.mono (e.trans i)) (aw.mono (e.trans i)) q bg) ?_;rintro _ eb ⟨bh,t18,ec,ed,ee,ef,eg,eh,ei,a3,a4,rfl,rfl,ax,bi,ac,bj,bk,bl,bm,bn⟩;refine ⟨t18,rfl,?_⟩;try dsimp only at hd
 have bo:=ax.length;have bp:=ac.length;refine AV (vs:=[.slice none 0 0,.slice none 0 0,.slice none 0 0,.slice none 0 0,.slice none 0 0,.slice none 0 0]) bn fun r19 ej bq=>AR bq rfl rfl fun ek br=>AR br rfl rfl fun el bs=>AR bs rfl rfl fun em bt=>AR bt rfl rfl fun en bu=>AR bu rfl rfl fun eo bv=>AR bv rfl rfl fun ep a0=>AK hd rfl (fun _ hd=> ?_) (fun _ hd=> ?_)
 ·obtain rfl:=iS hd;exact AB ⟨bh,t2,((e.trans i).trans a4),rfl,rfl,a0.tail.tail.tail⟩
 refine AA (x:=t18.1.1) a0 rfl<|AA (x:=t18.1.2.1) a0 rfl<|AA (x:=t18.1.2.2.1) a0 rfl<|AA (x:=t18.1.2.2.2.1) a0 rfl<|AA (x:=t18.1.2.2.2.2.1) a0 rfl<|AA (x:=t18.1.2.2.2.2.2.1) a0 rfl ?_;obtain ⟨er,bw,hd⟩:=bS hd;refine AI (TC (p_0:=(t18.1.1,t18.1.2.1,t18.1.2.2.1,t18.1.2.2.2.1,t18.1.2.2.2.2.1,t18.1.2.2.2.2.2.1,())) ax bi ac bj bk bl a0 bw) ?_;rintro _ es ⟨ad,t26,eu,a1,rfl,rfl,bx,bz⟩;refine ⟨t26,rfl,?_⟩;obtain ⟨c0,c1,hd⟩:=bS hd;refine Ap (fun (y:Int×Bool×Unit) w_ g=>∃ψ:AD,Sub ad ψ∧bY ()=g∧St ψ (cW 32 r19 [sv t18.1.1,sv t18.1.2.1,sv t18.1.2.2.1,sv t18.1.2.2.2.1,sv t18.1.2.2.2.2.1,sv t18.1.2.2.2.2.2.1]::⟨Et,[.pointer t18.2.2.1],a3⟩::Wq0 r1 small_0::F) w_) (g:=c0) ?_ ?_
 ·refine DZ c1 (fun (y:Int×Bool×Unit) w_ g=>∃ψ:AD,Sub ad ψ∧y.1=g∧St ψ (cW 32 r19 [sv t18.1.1,sv t18.1.2.1,sv t18.1.2.2.1,sv t18.1.2.2.2.1,sv t18.1.2.2.2.2.1,sv t18.1.2.2.2.2.2.1]::⟨Et,[.pointer t18.2.2.1],a3⟩::Wq0 r1 small_0::F) w_) ((0:Int),false,()) rfl ⟨ad,(bV _),rfl,bz.at2.at2.at2⟩ ?_
  ·rintro z28 ev _ _ ⟨ew,m,rfl,c2⟩ d a9;try dsimp only at d
   obtain ⟨ex,c3,d⟩:=bS d;obtain ⟨ey,c4,d⟩:=bS d;refine AI (CY (((bm.mono (a1.trans m))).get c3) c2 c4) ?_;rintro _ ez ⟨c5,t29,o,rfl,rfl,ay⟩;refine ⟨t29,rfl,?_⟩;refine AK d rfl (fun _ d=> ?_) (fun _ d=> ?_)
   ·have c6:=ay.at1;obtain ⟨f0,c7,d⟩:=bS d;refine AI (NQ c6 c7) ?_;rintro _ f1 ⟨az,t30,f2,s,rfl,rfl,a5,c8⟩;refine ⟨t30,rfl,?_⟩;have b0:=a5.length;obtain ⟨f3,c9,d⟩:=bS d;refine BK c9 (fun ca (y:Int×Bool×Unit) w_ g=>∃ψ:AD,Sub az ψ∧y.1=ca∧()=g∧St ψ (⟨Et,[.pointer t18.2.2.1],a3⟩::cW 32 r19 [sv t18.1.1,sv t18.1.2.1,sv t18.1.2.2.1,sv t18.1.2.2.2.1,sv t18.1.2.2.2.2.1,sv t18.1.2.2.2.2.2.1]::Wq0 r1 small_0::F) w_) ((0:Int),z28.2.1,()) rfl ⟨az,(bV _),rfl,rfl,c8.at2.at2.at2⟩ ?_ ?_ ?_
    ·rintro _ z32 f4 _ _ ⟨ae,f,rfl,rfl,a7⟩ c cb b1 b2 af;try dsimp only at c cb b1 b2
     refine Aa (dT b0 b1) ?_;obtain ⟨cc,u,c⟩:=bS c;refine Aj (fun (y:Bool×Unit) w_ g=>∃ψ:AD,Sub ae ψ∧y.1=g∧St ψ (⟨Et,[.pointer t18.2.2.1],a3⟩::cW 32 r19 [sv t18.1.1,sv t18.1.2.1,sv t18.1.2.2.1,sv t18.1.2.2.2.1,sv t18.1.2.2.2.2.1,sv t18.1.2.2.2.2.2.1]::Wq0 r1 small_0::F) w_) (g:=cc) ?_ ?_
     ·obtain ⟨f5,cd,u⟩:=bS u;refine Ce a5 cd (bT f a7.sub)<|AK u rfl (fun _ u=> ?_) (fun _ u=> ?_)
      ·have ce:=a7.at2;obtain rfl:=iS u;exact AQ (true,()) rfl ⟨ae,(bV _),rfl,ce.at2.at2⟩
      obtain ⟨cf,cg,u⟩:=bS u;refine Ce a5 cg (bT f a7.sub)<|AA (x:=t18.1.2.2.1) a7.at1 rfl ?_;have ch:=a7.at2.at2.at2;obtain rfl:=iS u;exact AQ ((decide (cf≥ (t18.1.2.2.1.2.1:Int))),()) rfl ⟨ae,(bV _),(by rw [bp]),ch⟩
     rintro z33 f6 ⟨ci,k,rfl,ag⟩;try dsimp only at c
     refine AK c rfl (fun _ c=> ?_) (fun _ c=> ?_)
     ·obtain rfl:=iS c;obtain rfl:=af _ rfl;try dsimp only at d
      obtain rfl:=iS d;obtain rfl:=a9 _ rfl;try dsimp only at hd
      obtain rfl:=iS hd;exact Ag (Ai (Ag (Ai (AB ⟨ci,false,((((((((e.trans i).trans a4).trans a1).trans m).trans o).trans s).trans f).trans k),rfl,rfl,ag.tail.tail.tail⟩))))
     obtain ⟨f7,cj,c⟩:=bS c;refine Ce a5 cj (bT (f.trans k) ag.sub) ?_;obtain ⟨f8,ck,c⟩:=bS c;refine AI (QH (gk.b.mono ((((((((e.trans i).trans a4).trans a1).trans m).trans o).trans s).trans f).trans k)) ag ck) ?_;rintro _ f9 ⟨fa,t41,fb,w,rfl,rfl,ah,a2⟩;refine ⟨t41,rfl,?_⟩;have ai:=ah.length;obtain ⟨fc,fd,cl,⟨_,_,rfl,⟨fe,rfl,ff⟩,_,_,rfl,⟨fg,rfl,fh⟩,_,_,rfl,⟨cm,rfl,cn⟩,rfl⟩,co⟩:=id bx;refine AF _ cl<|AC (x:=cm) (AE (bT (((((m.trans o).trans s).trans f).trans k).trans w) a2.sub) (co.at 2 rfl)) rfl<|AA (x:=t18.1.2.2.1) a2.at1 rfl ?_;obtain ⟨fi,cp,c⟩:=bS c;refine Ce a5 cp (bT ((f.trans k).trans w) a2.sub) ?_;obtain ⟨cq,cr,c⟩:=bS c;obtain ⟨fj,fk,cs,ct,cu,cv⟩:=(ac.mono ((((((a1.trans m).trans o).trans s).trans f).trans k).trans w)).get cr;refine AF _ cs (AY ct ?_);obtain ⟨_,_,rfl,rfl,⟨_,_,rfl,⟨fl,rfl,fm⟩,rfl⟩⟩:=cu;refine AC (x:=cq.1) (AE a2.sub (cv 0 _ rfl)) rfl<|AA (x:=t18.1.1) a2.at1 rfl ?_;obtain ⟨fn,b3,c⟩:=bS c;rw [←bo]at b3;refine Mn cn b3 (bT (((((m.trans o).trans s).trans f).trans k).trans w) a2.sub) fun fo d0=> ?_;obtain ⟨fp,d1,c⟩:=bS c;refine AI (Iv (d0.mono (((((m.trans o).trans s).trans f).trans k).trans w)) a2 d1) ?_;rintro _ fq ⟨aj,t52,fr,a6,rfl,rfl,d2,aa⟩;refine ⟨t52,rfl,?_⟩;obtain ⟨d3,j,c⟩:=bS c;refine Aj (fun (y:Bool×Unit) w_ g=>∃ψ:AD,Sub aj ψ∧y.1=g∧St ψ (⟨Et,[.pointer t18.2.2.1],a3⟩::cW 32 r19 [sv t18.1.1,sv t18.1.2.1,sv t18.1.2.2.1,sv t18.1.2.2.2.1,sv t18.1.2.2.2.2.1,sv t18.1.2.2.2.2.2.1]::Wq0 r1 small_0::F) w_) (g:=d3) ?_ ?_
     ·refine AK j (by rw [ai] <;>rfl) (fun _ j=> ?_) (fun _ j=> ?_)
      ·have d4:=aa.at2;obtain rfl:=iS j;exact AQ (true,()) rfl ⟨aj,(bV _),rfl,d4.at2.at2⟩
      obtain ⟨fs,d5,j⟩:=bS j;refine Ce a5 d5 (bT (((f.trans k).trans w).trans a6) aa.sub)<|AK j rfl (fun _ j=> ?_) (fun _ j=> ?_)
      ·refine AV (vs:=[.int .i64 (0:Int)]) aa fun r56 ft d6=> ?_;have d7:=St.lit (r:=(bZ .i64)) (l:=([(0:Int)]:List Int)) (n:=1) d6 (.cons (a:=[_]) rfl .nil) rfl (by decide);obtain ⟨fu,b4,d8,d9⟩:=St.freezeRow (t:=((some ⟨r56,0,none⟩,1,1):Slc)) d7;obtain ⟨fv,da,j⟩:=bS j;refine AI (DN (ah.mono (a6.trans b4)) d8 d9 da) ?_;rintro _ fw ⟨db,t57,dc,rfl,rfl,dd⟩;refine ⟨t57,rfl,?_⟩;obtain rfl:=iS j;exact AQ ((!t57),()) rfl ⟨db,(b4.trans dc),rfl,dd.at2.at2.at2⟩
      obtain rfl:=iS j;exact AQ (false,()) rfl ⟨aj,(bV _),rfl,aa.at2.at2.at2⟩
     rintro z53 fx ⟨ak,a8,rfl,b5⟩;try dsimp only at c
     refine AK c rfl (fun _ c=> ?_) (fun _ c=> ?_)
     ·obtain rfl:=iS c;obtain rfl:=af _ rfl;try dsimp only at d
      obtain rfl:=iS d;obtain rfl:=a9 _ rfl;try dsimp only at hd
      obtain rfl:=iS hd;exact Ag (Ai (Ag (Ai (AB ⟨ak,false,(((((((((((e.trans i).trans a4).trans a1).trans m).trans o).trans s).trans f).trans k).trans w).trans a6).trans a8),rfl,rfl,b5.tail.tail.tail⟩))))
     obtain ⟨fy,de,c⟩:=bS c;refine BK de (fun df (y:Int×Bool×Unit) w_ g=>∃ψ:AD,Sub ak ψ∧y.1=df∧()=g∧St ψ (⟨Et,[.pointer t18.2.2.1],a3⟩::cW 32 r19 [sv t18.1.1,sv t18.1.2.1,sv t18.1.2.2.1,sv t18.1.2.2.2.1,sv t18.1.2.2.2.2.1,sv t18.1.2.2.2.2.2.1]::Wq0 r1 small_0::F) w_) ((0:Int),z32.2.1,()) rfl ⟨ak,(bV _),rfl,rfl,b5.at2.at2.at2⟩ ?_ ?_ ?_
     ·rintro _ z59 fz _ _ ⟨g0,ab,rfl,rfl,b6⟩ p dg b7 b8 dh;try dsimp only at p dg b7 b8
      refine Aa (dT ai b7) ?_;obtain ⟨g1,di,p⟩:=bS p;refine Ce ah di (bT ((a6.trans a8).trans ab) b6.sub) ?_;obtain ⟨g2,dj,p⟩:=bS p;refine AI (J6 (d2.mono (a8.trans ab)) b6 dj) ?_;rintro _ g3 ⟨b9,t62,ba,rfl,rfl,bb⟩;refine ⟨t62,rfl,?_⟩;refine AK p rfl (fun _ p=> ?_) (fun _ p=> ?_)
      ·obtain rfl:=iS p;obtain rfl:=dh _ rfl;try dsimp only at c
       obtain rfl:=iS c;obtain rfl:=af _ rfl;try dsimp only at d
       obtain rfl:=iS d;obtain rfl:=a9 _ rfl;try dsimp only at hd
       obtain rfl:=iS hd;exact Ag (Ai (Ag (Ai (Ag (Ai (AB ⟨b9,false,(((((((((((((e.trans i).trans a4).trans a1).trans m).trans o).trans s).trans f).trans k).trans w).trans a6).trans a8).trans ab).trans ba),rfl,rfl,bb.tail.tail.tail⟩))))))
      obtain rfl:=iS p;exact Ad ((wN z59.1),z59.2.1,()) _ rfl rfl ⟨b9,(ab.trans ba),b8,rfl,bb.at2.at2.at2⟩
     ·rintro _ z59 g4 _ ⟨dk,dl,rfl,rfl,dm⟩ dn dp;subst dp;refine AT (dF ai dn)<|AJ (AL (z59.1,z59.2.1,()) rfl ⟨_,rfl,_,dk,dl,rfl,rfl,dm.at2.at2.at2⟩)
     rintro z58 g5 ⟨_,rfl,_,dq,dr,_,rfl,ds⟩;try dsimp only at c
     obtain rfl:=iS c;exact Ad ((wN z32.1),z58.2.1,()) _ rfl rfl ⟨dq,(((((f.trans k).trans w).trans a6).trans a8).trans dr),b2,rfl,ds.at2.at2.at2⟩
    ·rintro _ z32 g6 _ ⟨dt,du,rfl,rfl,dv⟩ dw dx;subst dx;refine AT (dF b0 dw)<|AJ (AL (z32.1,z32.2.1,()) rfl ⟨_,rfl,_,dt,du,rfl,rfl,dv.at2.at2.at2⟩)
    rintro z31 g7 ⟨_,rfl,_,dy,dz,_,rfl,e0⟩;try dsimp only at d
    obtain rfl:=iS d;exact Ad ((wN z28.1),z31.2.1,()) _ rfl rfl ⟨dy,(((m.trans o).trans s).trans dz),rfl,e0.at2.at1.at2⟩
   obtain rfl:=iS d;obtain rfl:=a9 _ rfl;exact AJ (AL (z28.1,z28.2.1,()) rfl ⟨c5,(m.trans o),rfl,ay.at2.at2.at2⟩)
 rintro z27 g8 ⟨e1,e2,rfl,e3⟩;try dsimp only at hd
 obtain rfl:=iS hd;exact AB ⟨e1,t2,((((e.trans i).trans a4).trans a1).trans e2),rfl,rfl,e3.tail.tail.tail⟩
end Go.Proofs.YteolcjbobmpdiaaGreatDoor
namespace Go.Proofs.YteolcjbobmpdiaaGreatDoor
open Go Go.Eng Dg
set_option linter.unusedVariables false
set_option maxRecDepth 100000
section
variable {p:dtP}{B:List dtK}{E:List (List Edge)}{d:LkD}{tt:Int}
theorem WC (M:MkI p B E d tt) {s k:Nat}(hk:k<p.2.2.1.length):Ok (NP (some d) (s:Int) (k:Int)) fun t=>((∀j,j∈t↔Lk (nT p) p.2.2.1 (KB B) (TrB p B E) s k j)∧t.length≤64000)∧t.Pairwise (· < ·):=by
 obtain ⟨t,h1,h2⟩:=WA M (s:=s) hk;refine ⟨t,h1,h2,?_⟩;unfold NP at h1;rw [Option.bind_some]at h1;split at h1
 ·next x hg=>
  have:=iS h1
  cases this;exact List.Pairwise.nil
 ·next x hg=>
  obtain ⟨a1,_⟩:=M.lk.some_ _ _ hg;rw [Hf a1]at h1;cases iS h1;exact Pn _
theorem TD {row:List Bool}(h:row.length≤1000):Ok (Ca row) fun l=>(∀t,Hs row t→t∈l)∧l.length≤row.length:=by
 unfold Ca;refine B8 (fun j (z:List Int)=>z.length≤j∧ ∀t,t< (j:Int)→Hs row t→t∈z) (by omega) ⟨by simp,fun t h0 h1=>by have:=h1.1;omega⟩ (fun j z hj hz=> ?_) fun z hz=>AG ⟨fun t ht=>hz.2 t (by have:=(List.getElem?_eq_some_iff.1 ht.2).1;have:=ht.1;omega) ht,hz.1⟩;have hx:=bR hj;obtain ⟨x,hxe⟩:∃x,row[j] =x:=⟨_,rfl⟩;rw [hxe]at hx;obtain ⟨z1,z2⟩:=hz;refine AW hx (AN (Q:=fun (l:List Int)=>l.length≤j+1∧(∀t,t∈z→t∈l)∧(x=true→(j:Int)∈l)) ?_ fun l hl=>AG ⟨hl.1,fun t h0 h1=> ?_⟩)
 ·refine Ae (fun h=>Bo (by simp;omega) (AG ⟨by simp;omega,fun t ht=>List.mem_append_left _ ht,fun _=>by simp⟩)) fun h=>AG ⟨by omega,fun t ht=>ht,fun e=>by rw [h]at e;cases e⟩
 ·by_cases e:t=(j:Int)
  ·subst e;have h2:=h1.2;rw [Int.toNat_natCast,hx]at h2;exact hl.2.2 (by simpa using h2)
  ·exact hl.2.1 t (z2 t (by omega) h1)
theorem TE {l:List Int}(hu:l.Pairwise (· < ·)) (h:∀x∈l,x=0) (hn:l≠[]):l= [0]:=by
 cases l with
 |nil=>exact (hn rfl).elim
 |cons a l=>
  have ha:=h a (by simp);subst ha;cases l with
  |nil=>rfl
  |cons b l=>
   have hb:=h b (by simp)
   have:=(List.pairwise_cons.1 hu).1 b (by simp)
   omega
set_option maxHeartbeats 1000000 in
theorem MX {s:Le}(G:SmG s):By s=some true:=by
 refine cC ?_;unfold By;refine AS RM (AN (Wm G 12 5) fun b hb=>Ae (fun _=>AG rfl) fun hb'=> ?_);refine AN (V9 G (hb (by simpa using hb'))) fun m hm=> ?_;rcases hm with hm | ⟨hm,p,B,E,d,tt,nt,nl,hp,hA,hd,hpl,M⟩
 ·exact Cu (by simp [hm]) (AG rfl)
 refine Ak (by simp [hm]) ?_;have hR:m.2.2.1=p.2.2.1:=by rw [←hp]
 have h1:m.1=p.1:=by rw [←hp]
 rw [hA,hd,hR,h1,←hR,←h1,hp,hR,h1];have H:=M.all;have A:=H.aut;have hf:=H.few;have hT:=H.sy.t1;have hV:=H.sy.v1;have hRf:=H.sy.few;have hnT:nT p=(p.1.length:Int):=rfl;obtain ⟨st,hz⟩:=H.zero;refine AN (VA H.sy hz) fun fo hfo=> ?_;obtain ⟨f1,f2,f3⟩:=hfo;refine S8 B.length (by omega) (fun i hi=> ?_) ?_ (AG rfl)
 ·have hbi:=bR hi;obtain ⟨bi,hbe⟩:∃b,B[i] =b:=⟨_,rfl⟩;rw [hbe]at hbi;have hdl:=S9 (l:=[]) M hbi;refine AS rfl (AS (NI H.fin) (Cu (decide_eq_true (by omega)) (AS (S7 M hbi) ?_)));refine R7 _ (by omega) (fun k hk=>cC ?_) (AG (by rw [wr1 hi (by omega)]));have hx:=bR hk;obtain ⟨x,hxe⟩:∃x,(Fl p.2.2.1 bi.2.1)[k] =x:=⟨_,rfl⟩;rw [hxe]at hx;obtain ⟨k',r,rfl,hr,hit⟩:=TA M hbi hx;have hk':=(List.getElem?_eq_some_iff.1 hr).1;obtain ⟨l0,l1⟩:=H.sy.left r (bU hr);refine AN (Q:=fun c=>c=false) (AW hx (Ak (decide_eq_false (by omega)) (AW hx (AG (decide_eq_false (by omega)))))) fun c hc=> ?_;subst hc;refine Ak rfl (AW hx (AN (WC M (s:=i) hk') fun t ht=> ?_));obtain ⟨⟨t1,t2⟩,t3⟩:=ht;have hld:=Vi H.gr A (s:=i) (k:=k') hi hr;obtain ⟨j0,hj0⟩:=hld.2 hit;have hne:t≠[]:=fun e=>by
   have:=(t1 j0).2 hj0
   rw [e]at this;cases this
  have hw:bX .i64 (r.1 - (p.1.length:Int))=r.1 - nT p:=w64 (by omega) (by omega);have hlt:(r.1 - nT p).toNat<fo.2.2.1.length:=by omega
  have hrow:=bR hlt;obtain ⟨row,hrowe⟩:∃row,fo.2.2.1[(r.1 - nT p).toNat] =row:=⟨_,rfl⟩;rw [hrowe]at hrow;have hrl:=f2 row (bU hrow);refine AW hx (AW hr ?_);rw [hw];refine DC (by omega) hrow (AN (TD (by omega)) fun l hl=> ?_);refine AN (Q:=fun c=>c=false) (Ak ?_ (AW hx (Ae (fun h0=> ?_) fun _=>AG rfl))) fun c hc=> ?_
  ·have:=List.length_pos_iff.2 hne
   rw [beq_eq_false_iff_ne];omega
  ·have h0:=eq_of_beq h0
   have:k'=0:=by omega
   subst this;have e:=TE t3 (fun x hx=>Rs ((t1 x).1 hx)) hne;subst e;exact AS (show B5 [0] [0] =some true by kernel_rfl) (AG rfl)
  ·subst hc;refine Ak rfl (R7 _ (by omega) (fun j hj=>cC ?_) (AG rfl));have hxj:=bR hj;obtain ⟨y,hye⟩:∃y,t[j] =y:=⟨_,rfl⟩;rw [hye]at hxj;have hlk:=(t1 y).1 (bU hxj);obtain ⟨l',g1,g2⟩:=f3 r.1 y l0 (Xl H.gr A hr hlk);rw [hrow]at g1;cases g1;have hin:=hl.1 y g2;have hll:=hl.2;exact AW hxj (AS (Xn (by omega) y) (Ak (by rw [decide_eq_true hin];rfl) (AG rfl)))
 ·exact cC (AS rfl (AS (NI H.fin) (Ak (decide_eq_false (by omega)) (AG rfl))))
end
end Go.Proofs.YteolcjbobmpdiaaGreatDoor
namespace Go.Proofs.YteolcjbobmpdiaaGreatDoor
open Go Go.Eng
set_option linter.unusedVariables false
section
variable {h:AH}
theorem lookFollows {n:Nat}{cs:List Value}(gk:MN (BR h)) (hr:Fz cA h n 25 cs):CallsH cA 4 [.agg cs.toArray] h (Ar (Tv h)):=by
 obtain ⟨s,d2,d3,d4,d5,d6,rfl,h2,h3,h4,h5,h6,G⟩:=UF hr;exact Tw (Fq (small_0:=s) gk h2 h3 h4 h5 h6 (St.start h) (MX G))
end
end Go.Proofs.YteolcjbobmpdiaaGreatDoor
