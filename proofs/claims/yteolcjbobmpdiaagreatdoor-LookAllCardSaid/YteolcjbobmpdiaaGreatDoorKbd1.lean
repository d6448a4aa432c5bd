/-
  SimUd, M5, LawsD, put together.
  Conditions: none; each part tells its own.
-/
import Derived.Test.YteolcjbobmpdiaaGreatDoorKb2
import Derived.Test.YteolcjbobmpdiaaGreatDoorKb6
import Derived.KernelRfl
import Derived.Test.YteolcjbobmpdiaaGreatDoorKb3
namespace Go.Proofs.YteolcjbobmpdiaaGreatDoor
open Go Go.Eng
set_option linter.unusedVariables false
set_option maxRecDepth 100000
noncomputable def CU (small_0:KQ):Option Bool:=
 (CK).bind fun t2=>
 (BS (small_0.1,small_0.2.1,small_0.2.2.1,small_0.2.2.2.1,small_0.2.2.2.2.1,small_0.2.2.2.2.2.1,small_0.2.2.2.2.2.2) (12:Int) (5:Int)).bind fun t10=>
 cond (!t10)
 (some t2)
 ((Bk (small_0.1,small_0.2.1,small_0.2.2.1,small_0.2.2.2.1,small_0.2.2.2.2.1,small_0.2.2.2.2.2.1,small_0.2.2.2.2.2.2)).bind fun t18=>
  cond (!t18.2.2.2.2.2.2.2.2)
  (some t2)
  ((loop (σ:=Int) (β:=AU Unit Bool) (0:Int) fun z21=>
   t18.2.2.2.2.2.2.1.bind fun e86=>
   (BF e86).bind fun t22=>
   cond (decide (z21<t22))
   ((Gu t18.2.2.2.2.2.2.2.1 z21).bind fun t23=>
    (Cf (σ:=Unit) (β:=Bool) (0:Int) (((List.length t23):Nat):Int) () fun i_z25 z25=>
     (idx t23 i_z25).bind fun e120=>
     (L9 t18.2.2.2.2.2.2.2.1 z21 e120).bind fun t28=>
     (idx t23 i_z25).bind fun e132=>
     (Hw t18.2.2.2.2.2.2.2.1 z21 e132).bind fun t31=>
     (Cf (σ:=Unit) (β:=Bool) (0:Int) (((List.length t31):Nat):Int) () fun i_z33 z33=>
      (idx t31 i_z33).bind fun e165=>
      (BK e86 e165.2).bind fun t36=>
      (Cf (σ:=Unit) (β:=Bool) (0:Int) (((List.length t36):Nat):Int) () fun i_z38 z38=>
       ((idx t36 i_z38).bind fun e202=>
       cond (decide (e202.1< (((List.length t18.1):Nat):Int)))
       ((idx t36 i_z38).bind fun e213=>
        (Bw t28 e213.1).bind fun t45=>
        some (!t45))
       (some false)).bind fun z39=>
       cond z39
       (some (AU.done false))
       (some (AU.next ()))).bind fun e_z37=>match e_z37 with
      | .next z37=>
       (idx t31 i_z33).bind fun e262=>
       (Gu t18.2.2.2.2.2.2.2.1 e262.2).bind fun t48=>
       (Cf (σ:=Unit) (β:=Bool) (0:Int) (((List.length t48):Nat):Int) () fun i_z50 z50=>
        (((idx t48 i_z50).bind fun e293=>
        (idx t18.2.2.1 e293).bind fun e302=>
        cond (decide ((((List.length e302.2.1):Nat):Int) >(0:Int)))
        (some (AU.next ()))
        ((idx t31 i_z33).bind fun e321=>
         (idx t48 i_z50).bind fun e326=>
         (L9 t18.2.2.2.2.2.2.2.1 e321.2 e326).bind fun t61=>
         (Cf (σ:=Unit) (β:=Bool) (0:Int) (((List.length t61):Nat):Int) () fun i_z63 z63=>
          ((idx t31 i_z33).bind fun e361=>
          cond (decide (e361.2>(0:Int)))
          ((idx t61 i_z63).bind fun e366=>
           (Bw t28 e366).bind fun t69=>
           cond (!t69)
           (cond ((((List.length t31):Nat):Int)==(1:Int))
            ((idx t31 i_z33).bind fun e381=>
             (idx t48 i_z50).bind fun e386=>
             (CJ e86 t18.2.2.2.2.2.2.2.1 e381.2 e386).bind fun t74=>
             some t74)
            (some false))
           (some false))
          (some false)).bind fun z64=>
          cond z64
          (some (AU.done false))
          (some (AU.next ()))).bind fun e_z62=>match e_z62 with
         | .next z62=>
          some (AU.next ())
         | .done q436=>some (AU.done q436))):Option (AU Unit Bool)).bind fun e_z51=>match e_z51 with
        | .next z51=>
         some (AU.next ())
        | .done q445=>some (AU.done q445)).bind fun e_z49=>match e_z49 with
       | .next z49=>
        some (AU.next ())
       | .done q463=>some (AU.done q463)
      | .done q464=>some (AU.done q464)).bind fun e_z32=>match e_z32 with
     | .next z32=>
      some (AU.next ())
     | .done q482=>some (AU.done q482)).bind fun e_z24=>match e_z24 with
    | .next z24=>
     some (AU.next (IntKind.wrap .i64 (z21+(1:Int))))
    | .done q500=>some (AU.done (AU.done q500)))
   (some (AU.done (AU.next ())))).bind fun e_z20=>match e_z20 with
   | .next z20=>
    some t2
   | .done q513=>some q513))
theorem G3 {φ:AC} {h:AH} {F:List Chk} {small_0:Int×Int×Slc×Slc×Slc×Slc×Slc×Unit} {au:List Int} {av:List (List Int)} {aw:List Int} {ax:List Int} {ay:List Int} (gk:KE φ) (az:Ro.SliceIs (Ro.int .u8) φ small_0.2.2.1 au) (b0:Ro.SliceIs (Ro.list (Ro.int .u8)) φ small_0.2.2.2.1 av) (b1:Ro.SliceIs (Ro.int .u8) φ small_0.2.2.2.2.1 aw) (b2:Ro.SliceIs (Ro.int .u8) φ small_0.2.2.2.2.2.1 ax) (b3:Ro.SliceIs (Ro.int .u8) φ small_0.2.2.2.2.2.2.1 ay) (s0:St φ (F) h) {r:Bool} (hd:CU (small_0.1,small_0.2.1,au,av,aw,ax,ay)=some r):
 CallsH Tryz.prog 7 [(.agg #[(.int .u8 small_0.1),(.int .u8 small_0.2.1),(sv small_0.2.2.1),(sv small_0.2.2.2.1),(sv small_0.2.2.2.2.1),(sv small_0.2.2.2.2.2.1),(sv small_0.2.2.2.2.2.2.1)])] h (Ar fun v h'=> ∃ψ:AC,∃y:Bool,Sub φ ψ∧v=((.one aB):Sh).val y∧y=r∧St ψ (F) h'):=by
 refine AR mixed Tryz.func7 ?_
 rw [G2]
 unfold Ei
 unfold CU at hd
 refine AY (vs:= [.int .u8 small_0.1, .int .u8 small_0.2.1,sv small_0.2.2.1,sv small_0.2.2.2.1,sv small_0.2.2.2.2.1,sv small_0.2.2.2.2.2.1,sv small_0.2.2.2.2.2.2.1]) s0 fun r1 hg c3=> ?_
 obtain ⟨hh,c4,hd⟩:=bS hd
 refine AI (Ej gk c3 c4) ?_
 rintro _ hi ⟨hj,t2,f,rfl,rfl,a1⟩
 refine ⟨t2,rfl,?_⟩
 refine AA (x:=small_0.1) a1 rfl ?_
 refine AA (x:=small_0.2.1) a1 rfl ?_
 refine AA (x:=small_0.2.2.1) a1 rfl ?_
 refine AA (x:=small_0.2.2.2.1) a1 rfl ?_
 refine AA (x:=small_0.2.2.2.2.1) a1 rfl ?_
 refine AA (x:=small_0.2.2.2.2.2.1) a1 rfl ?_
 refine AA (x:=small_0.2.2.2.2.2.2.1) a1 rfl ?_
 obtain ⟨hk,c5,hd⟩:=bS hd
 refine AI (DV (s_0:=(small_0.1,small_0.2.1,small_0.2.2.1,small_0.2.2.2.1,small_0.2.2.2.2.1,small_0.2.2.2.2.2.1,small_0.2.2.2.2.2.2.1,())) (az.mono f) (b0.mono f) (b1.mono f) (b2.mono f) (b3.mono f) a1 c5) ?_
 rintro _ hl ⟨c6,t10,l,rfl,rfl,s⟩
 refine ⟨t10,rfl,?_⟩
 refine AL hd rfl (fun _ hd=> ?_) (fun _ hd=> ?_)
 ·obtain rfl:=iS hd
  exact AB ⟨c6,t2,(f.trans l),rfl,rfl,s.tail⟩
 refine AA (x:=small_0.1) s rfl ?_
 refine AA (x:=small_0.2.1) s rfl ?_
 refine AA (x:=small_0.2.2.1) s rfl ?_
 refine AA (x:=small_0.2.2.2.1) s rfl ?_
 refine AA (x:=small_0.2.2.2.2.1) s rfl ?_
 refine AA (x:=small_0.2.2.2.2.2.1) s rfl ?_
 refine AA (x:=small_0.2.2.2.2.2.2.1) s rfl ?_
 obtain ⟨hm,c7,hd⟩:=bS hd
 refine AI (DI (small_0:=(small_0.1,small_0.2.1,small_0.2.2.1,small_0.2.2.2.1,small_0.2.2.2.2.1,small_0.2.2.2.2.2.1,small_0.2.2.2.2.2.2.1,())) (gk.mono (f.trans l)) (az.mono (f.trans l)) (b0.mono (f.trans l)) (b1.mono (f.trans l)) (b2.mono (f.trans l)) (b3.mono (f.trans l)) s c7) ?_
 rintro _ hn ⟨af,t18,ho,hp,hq,hr,hs,ht,hu,j,a9,rfl,rfl,c8,hv,c9,hw,hx,hy,ca,cb⟩
 refine ⟨t18,rfl,?_⟩
 try dsimp only at hd
 have cc:=c8.length
 refine AY (vs:= [.slice none 0 0, .slice none 0 0, .slice none 0 0, .slice none 0 0, .slice none 0 0, .slice none 0 0]) cb fun r19 hz cd=> ?_
 refine AQ cd rfl rfl fun i0 ce=> ?_
 refine AQ ce rfl rfl fun i1 cf=> ?_
 refine AQ cf rfl rfl fun i2 cg=> ?_
 refine AQ cg rfl rfl fun i3 ch=> ?_
 refine AQ ch rfl rfl fun i4 ci=> ?_
 refine AQ ci rfl rfl fun i5 b4=> ?_
 refine AL hd rfl (fun _ hd=> ?_) (fun _ hd=> ?_)
 ·obtain rfl:=iS hd
  exact AB ⟨af,t2,((f.trans l).trans a9),rfl,rfl,b4.tail.tail.tail⟩
 obtain ⟨cj,ck,hd⟩:=bS hd
 refine AT (fun (y:Int×Bool×Unit) w_ g=> ∃ψ:AC,Sub af ψ∧AU.next ()=g∧St ψ (cW 32 r19 [sv t18.1.1,sv t18.1.2.1,sv t18.1.2.2.1,sv t18.1.2.2.2.1,sv t18.1.2.2.2.2.1,sv t18.1.2.2.2.2.2.1] ::⟨BO, [.pointer t18.2.2.1],j⟩::Wq0 r1 small_0::F) w_) (g:=cj) ?_ ?_
 ·refine Dr ck (fun (y:Int×Bool×Unit) w_ g=> ∃ψ:AC,Sub af ψ∧y.1=g∧St ψ (cW 32 r19 [sv t18.1.1,sv t18.1.2.1,sv t18.1.2.2.1,sv t18.1.2.2.2.1,sv t18.1.2.2.2.2.1,sv t18.1.2.2.2.2.2.1] ::⟨BO, [.pointer t18.2.2.1],j⟩::Wq0 r1 small_0::F) w_) ((0:Int),false,()) rfl ⟨af,(Sub.refl _),rfl,b4.at2.at2.at2⟩ ?_
  ·rintro z21 i6 _ _ ⟨i7,a2,rfl,cl⟩ e ai
   try dsimp only at e
   obtain ⟨i8,cm,e⟩:=bS e
   have aj:=((ca.mono a2)).get cm
   obtain ⟨i9,cn,e⟩:=bS e
   refine AI (Bj aj cl cn) ?_
   rintro _ ia ⟨co,t22,t,rfl,rfl,b5⟩
   refine ⟨t22,rfl,?_⟩
   refine AL e rfl (fun _ e=> ?_) (fun _ e=> ?_)
   ·have cp:=b5.at1
    obtain ⟨ib,cq,e⟩:=bS e
    refine AI (GR cp cq) ?_
    rintro _ ic ⟨ak,t23,ie,a3,rfl,rfl,al,cr⟩
    refine ⟨t23,rfl,?_⟩
    have b6:=al.length
    obtain ⟨cs,ct,e⟩:=bS e
    refine AT (fun (y:Int×Bool×Unit) w_ g=> ∃ψ:AC,Sub ak ψ∧AU.next ()=g∧St ψ (⟨BO, [.pointer t18.2.2.1],j⟩::cW 32 r19 [sv t18.1.1,sv t18.1.2.1,sv t18.1.2.2.1,sv t18.1.2.2.2.1,sv t18.1.2.2.2.2.1,sv t18.1.2.2.2.2.2.1] ::Wq0 r1 small_0::F) w_) (g:=cs) ?_ ?_
    ·refine Be ct (fun cu (y:Int×Bool×Unit) w_ g=> ∃ψ:AC,Sub ak ψ∧y.1=cu∧()=g∧St ψ (⟨BO, [.pointer t18.2.2.1],j⟩::cW 32 r19 [sv t18.1.1,sv t18.1.2.1,sv t18.1.2.2.1,sv t18.1.2.2.2.1,sv t18.1.2.2.2.2.1,sv t18.1.2.2.2.2.2.1] ::Wq0 r1 small_0::F) w_) ((0:Int),z21.2.1,()) rfl ⟨ak,(Sub.refl _),rfl,rfl,cr.at2.at2.at2⟩ ?_ ?_
     ·rintro _ z25 ig _ _ ⟨ih,p,rfl,rfl,b7⟩ i cv b8 b9 ba
      try dsimp only at i cv b8 b9
      refine Ai (dT b6 b8) ?_
      obtain ⟨ii,cw,i⟩:=bS i
      refine CV al cw (Sub.trans p b7.sub) ?_
      obtain ⟨ij,cx,i⟩:=bS i
      refine AI (JS (gk.b.mono ((((((f.trans l).trans a9).trans a2).trans t).trans a3).trans p)) b7 cx) ?_
      rintro _ ik ⟨il,t28,im,a4,rfl,rfl,bb,bc⟩
      refine ⟨t28,rfl,?_⟩
      obtain ⟨io,cy,i⟩:=bS i
      refine CV al cy (Sub.trans (p.trans a4) bc.sub) ?_
      obtain ⟨ip,cz,i⟩:=bS i
      refine AI (Hx bc cz) ?_
      rintro _ iq ⟨am,t31,ir,u,rfl,rfl,aa,d0⟩
      refine ⟨t31,rfl,?_⟩
      have an:=aa.length
      obtain ⟨d1,d2,i⟩:=bS i
      refine AT (fun (y:Int×Bool×Unit) w_ g=> ∃ψ:AC,Sub am ψ∧AU.next ()=g∧St ψ (⟨BO, [.pointer t18.2.2.1],j⟩::cW 32 r19 [sv t18.1.1,sv t18.1.2.1,sv t18.1.2.2.1,sv t18.1.2.2.2.1,sv t18.1.2.2.2.2.1,sv t18.1.2.2.2.2.2.1] ::Wq0 r1 small_0::F) w_) (g:=d1) ?_ ?_
      ·refine Be d2 (fun d3 (y:Int×Bool×Unit) w_ g=> ∃ψ:AC,Sub am ψ∧y.1=d3∧()=g∧St ψ (⟨BO, [.pointer t18.2.2.1],j⟩::cW 32 r19 [sv t18.1.1,sv t18.1.2.1,sv t18.1.2.2.1,sv t18.1.2.2.2.1,sv t18.1.2.2.2.2.1,sv t18.1.2.2.2.2.2.1] ::Wq0 r1 small_0::F) w_) ((0:Int),z25.2.1,()) rfl ⟨am,(Sub.refl _),rfl,rfl,d0.at2.at2.at2⟩ ?_ ?_
       ·rintro _ z33 it _ _ ⟨iu,k,rfl,rfl,bd⟩ c d4 be bf bg
        try dsimp only at c d4 be bf
        refine Ai (dT an be) ?_
        obtain ⟨d5,d6,c⟩:=bS c
        obtain ⟨iv,iw,d7,d8,d9,da⟩:=(aa.mono k).get d6
        refine AF _ d7 (Aa d8 ?_)
        obtain ⟨_,_,rfl,db,dc⟩:=d9
        obtain rfl:=db
        obtain rfl:=dc
        refine AG (x:=d5.2) (by rw [Ae]; exact (AE bd.sub (da 1 _ rfl))) rfl ?_
        obtain ⟨ix,dd,c⟩:=bS c
        refine AI (CB (aj.mono (((((t.trans a3).trans p).trans a4).trans u).trans k)) bd dd) ?_
        rintro _ iy ⟨ao,t36,iz,m,rfl,rfl,ap,de⟩
        refine ⟨t36,rfl,?_⟩
        have bh:=ap.length
        obtain ⟨df,dg,c⟩:=bS c
        refine AT (fun (y:Int×Bool×Unit) w_ g=> ∃ψ:AC,Sub ao ψ∧AU.next ()=g∧St ψ (⟨BO, [.pointer t18.2.2.1],j⟩::cW 32 r19 [sv t18.1.1,sv t18.1.2.1,sv t18.1.2.2.1,sv t18.1.2.2.2.1,sv t18.1.2.2.2.2.1,sv t18.1.2.2.2.2.2.1] ::Wq0 r1 small_0::F) w_) (g:=df) ?_ ?_
        ·refine Be dg (fun dh (y:Int×Bool×Unit) w_ g=> ∃ψ:AC,Sub ao ψ∧y.1=dh∧()=g∧St ψ (⟨BO, [.pointer t18.2.2.1],j⟩::cW 32 r19 [sv t18.1.1,sv t18.1.2.1,sv t18.1.2.2.1,sv t18.1.2.2.2.1,sv t18.1.2.2.2.2.1,sv t18.1.2.2.2.2.2.1] ::Wq0 r1 small_0::F) w_) ((0:Int),z33.2.1,()) rfl ⟨ao,(Sub.refl _),rfl,rfl,de.at2.at2.at2⟩ ?_ ?_
         ·rintro _ z38 j0 _ _ ⟨bi,ac,rfl,rfl,ad⟩ w di bj bk dj
          try dsimp only at w di bj bk
          refine Ai (dT bh bj) ?_
          obtain ⟨dk,o,w⟩:=bS w
          refine Ao (fun (y:Bool×Unit) w_ g=> ∃ψ:AC,Sub bi ψ∧y.1=g∧St ψ (⟨BO, [.pointer t18.2.2.1],j⟩::cW 32 r19 [sv t18.1.1,sv t18.1.2.1,sv t18.1.2.2.1,sv t18.1.2.2.2.1,sv t18.1.2.2.2.2.1,sv t18.1.2.2.2.2.2.1] ::Wq0 r1 small_0::F) w_) (g:=dk) ?_ ?_
          ·obtain ⟨dl,dm,o⟩:=bS o
           obtain ⟨j1,j2,dn,dp,dq,dr⟩:=(ap.mono ac).get dm
           refine AF _ dn (Aa dp ?_)
           obtain ⟨_,_,rfl,ds,dt⟩:=dq
           obtain rfl:=ds
           obtain rfl:=dt
           refine AG (x:=dl.1) (AE ad.sub (dr 0 _ rfl)) rfl ?_
           refine AA (x:=t18.1.1) ad.at1 rfl ?_
           refine AL o (by rw [cc] <;>rfl) (fun _ o=> ?_) (fun _ o=> ?_)
           ·obtain ⟨du,dv,o⟩:=bS o
            obtain ⟨j3,j4,dw,dx,dy,dz⟩:=(ap.mono ac).get dv
            refine AF _ dw (Aa dx ?_)
            obtain ⟨_,_,rfl,e0,e1⟩:=dy
            obtain rfl:=e0
            obtain rfl:=e1
            refine AG (x:=du.1) (AE ad.sub (dz 0 _ rfl)) rfl ?_
            obtain ⟨j5,e2,o⟩:=bS o
            refine AI (Ds (bb.mono (((u.trans k).trans m).trans ac)) ad e2) ?_
            rintro _ j6 ⟨e3,t45,e4,rfl,rfl,e5⟩
            refine ⟨t45,rfl,?_⟩
            obtain rfl:=iS o
            exact AS ((!t45),()) rfl ⟨e3,e4,rfl,e5.at2.at2.at2⟩
           obtain rfl:=iS o
           exact AS (false,()) rfl ⟨bi,(Sub.refl _),rfl,ad.at2.at2.at2⟩
          rintro z39 j7 ⟨bl,bm,rfl,bn⟩
          try dsimp only at w
          refine AL w rfl (fun _ w=> ?_) (fun _ w=> ?_)
          ·obtain rfl:=iS w
           obtain rfl:=dj _ rfl
           try dsimp only at c
           obtain rfl:=iS c
           obtain rfl:=bg _ rfl
           try dsimp only at i
           obtain rfl:=iS i
           obtain rfl:=ba _ rfl
           try dsimp only at e
           obtain rfl:=iS e
           obtain rfl:=ai _ rfl
           try dsimp only at hd
           obtain rfl:=iS hd
           exact Af (Ah (Af (Ah (Af (Ah (Af (Ah (AB ⟨bl,false,((((((((((((f.trans l).trans a9).trans a2).trans t).trans a3).trans p).trans a4).trans u).trans k).trans m).trans ac).trans bm),rfl,rfl,bn.tail.tail.tail⟩))))))))
          obtain rfl:=iS w
          exact Ag ((wN z38.1),z38.2.1,()) _ rfl rfl ⟨bl,(ac.trans bm),bk,rfl,bn.at2.at2.at2⟩
         ·rintro _ z38 j8 _ ⟨e6,e7,rfl,rfl,e8⟩ e9 ea
          subst ea
          refine AX (dF bh e9) ?_
          exact AJ (AK (z38.1,z38.2.1,()) rfl ⟨e6,e7,rfl,e8.at2.at2.at2⟩)
        rintro z37 j9 ⟨ja,q,rfl,bo⟩
        try dsimp only at c
        obtain ⟨eb,ec,c⟩:=bS c
        obtain ⟨jb,jc,ed,ee,ef,eg⟩:=(aa.mono ((k.trans m).trans q)).get ec
        refine AF _ ed (Aa ee ?_)
        obtain ⟨_,_,rfl,eh,ei⟩:=ef
        obtain rfl:=eh
        obtain rfl:=ei
        refine AG (x:=eb.2) (by rw [Ae]; exact (AE bo.sub (eg 1 _ rfl))) rfl ?_
        obtain ⟨jd,ej,c⟩:=bS c
        refine AI (GR bo ej) ?_
        rintro _ je ⟨aq,t48,jf,z,rfl,rfl,ag,ek⟩
        refine ⟨t48,rfl,?_⟩
        have bp:=ag.length
        obtain ⟨el,em,c⟩:=bS c
        refine AT (fun (y:Int×Bool×Unit) w_ g=> ∃ψ:AC,Sub aq ψ∧AU.next ()=g∧St ψ (⟨BO, [.pointer t18.2.2.1],j⟩::cW 32 r19 [sv t18.1.1,sv t18.1.2.1,sv t18.1.2.2.1,sv t18.1.2.2.2.1,sv t18.1.2.2.2.2.1,sv t18.1.2.2.2.2.2.1] ::Wq0 r1 small_0::F) w_) (g:=el) ?_ ?_
        ·refine Be em (fun en (y:Int×Bool×Unit) w_ g=> ∃ψ:AC,Sub aq ψ∧y.1=en∧()=g∧St ψ (⟨BO, [.pointer t18.2.2.1],j⟩::cW 32 r19 [sv t18.1.1,sv t18.1.2.1,sv t18.1.2.2.1,sv t18.1.2.2.2.1,sv t18.1.2.2.2.2.1,sv t18.1.2.2.2.2.2.1] ::Wq0 r1 small_0::F) w_) ((0:Int),z37.2.1,()) rfl ⟨aq,(Sub.refl _),rfl,rfl,ek.at2.at2.at2⟩ ?_ ?_
         ·rintro _ z50 jg _ _ ⟨bq,n,rfl,rfl,a6⟩ a7 eo br bs ep
          try dsimp only at a7 eo br bs
          refine Ai (dT bp br) ?_
          obtain ⟨er,d,a7⟩:=bS a7
          refine AT (fun (y:Bool×Unit) w_ g=> ∃ψ:AC,Sub bq ψ∧AU.next ()=g∧St ψ (⟨BO, [.pointer t18.2.2.1],j⟩::cW 32 r19 [sv t18.1.1,sv t18.1.2.1,sv t18.1.2.2.1,sv t18.1.2.2.2.1,sv t18.1.2.2.2.2.1,sv t18.1.2.2.2.2.2.1] ::Wq0 r1 small_0::F) w_) (g:=er) ?_ ?_
          ·refine AA (x:=t18.1.2.2.1) a6.at1 rfl ?_
           obtain ⟨jh,es,d⟩:=bS d
           refine CV ag es (Sub.trans n a6.sub) ?_
           obtain ⟨ji,eu,d⟩:=bS d
           obtain ⟨jj,jk,ev,ew,ex,ey⟩:=(c9.mono ((((((((((a2.trans t).trans a3).trans p).trans a4).trans u).trans k).trans m).trans q).trans z).trans n)).get eu
           refine AF _ ev (Aa ew ?_)
           obtain ⟨_,_,rfl,ez,f0⟩:=ex
           obtain rfl:=ez
           obtain ⟨_,_,rfl,f1,f2⟩:=f0
           obtain ⟨f3,rfl,f4⟩:=f1
           have f5:=f4.length
           obtain rfl:=f2
           refine AG (x:=f3) (by rw [Ae]; exact (AE a6.sub (ey 1 _ rfl))) rfl ?_
           refine AL d (by rw [f5] <;>rfl) (fun _ d=> ?_) (fun _ d=> ?_)
           ·have f6:=a6.at2
            obtain rfl:=iS d
            exact AK (z50.2.1,()) rfl ⟨bq,(Sub.refl _),rfl,f6.at2.at2⟩
           obtain ⟨f7,f8,d⟩:=bS d
           obtain ⟨jl,jm,f9,fa,fb,fc⟩:=(aa.mono ((((k.trans m).trans q).trans z).trans n)).get f8
           refine AF _ f9 (Aa fa ?_)
           obtain ⟨_,_,rfl,fd,fe⟩:=fb
           obtain rfl:=fd
           obtain rfl:=fe
           refine AG (x:=f7.2) (by rw [Ae]; exact (AE a6.sub (fc 1 _ rfl))) rfl ?_
           obtain ⟨jn,ff,d⟩:=bS d
           refine CV ag ff (Sub.trans n a6.sub) ?_
           obtain ⟨jo,fg,d⟩:=bS d
           refine AI (JS (gk.b.mono (((((((((((((f.trans l).trans a9).trans a2).trans t).trans a3).trans p).trans a4).trans u).trans k).trans m).trans q).trans z).trans n)) a6 fg) ?_
           rintro _ jp ⟨ar,t61,jq,a8,rfl,rfl,bt,fh⟩
           refine ⟨t61,rfl,?_⟩
           have bu:=bt.length
           obtain ⟨fi,fj,d⟩:=bS d
           refine AT (fun (y:Int×Bool×Unit) w_ g=> ∃ψ:AC,Sub ar ψ∧AU.next ()=g∧St ψ (⟨BO, [.pointer t18.2.2.1],j⟩::cW 32 r19 [sv t18.1.1,sv t18.1.2.1,sv t18.1.2.2.1,sv t18.1.2.2.2.1,sv t18.1.2.2.2.2.1,sv t18.1.2.2.2.2.2.1] ::Wq0 r1 small_0::F) w_) (g:=fi) ?_ ?_
           ·refine Be fj (fun fk (y:Int×Bool×Unit) w_ g=> ∃ψ:AC,Sub ar ψ∧y.1=fk∧()=g∧St ψ (⟨BO, [.pointer t18.2.2.1],j⟩::cW 32 r19 [sv t18.1.1,sv t18.1.2.1,sv t18.1.2.2.1,sv t18.1.2.2.2.1,sv t18.1.2.2.2.2.1,sv t18.1.2.2.2.2.2.1] ::Wq0 r1 small_0::F) w_) ((0:Int),z50.2.1,()) rfl ⟨ar,(Sub.refl _),rfl,rfl,fh.at2.at2.at2⟩ ?_ ?_
            ·rintro _ z63 jr _ _ ⟨bv,a5,rfl,rfl,ah⟩ a0 fl bw bx fm
             try dsimp only at a0 fl bw bx
             refine Ai (dT bu bw) ?_
             obtain ⟨fn,a,a0⟩:=bS a0
             refine Ao (fun (y:Bool×Unit) w_ g=> ∃ψ:AC,Sub bv ψ∧y.1=g∧St ψ (⟨BO, [.pointer t18.2.2.1],j⟩::cW 32 r19 [sv t18.1.1,sv t18.1.2.1,sv t18.1.2.2.1,sv t18.1.2.2.2.1,sv t18.1.2.2.2.2.1,sv t18.1.2.2.2.2.2.1] ::Wq0 r1 small_0::F) w_) (g:=fn) ?_ ?_
             ·obtain ⟨fo,fp,a⟩:=bS a
              obtain ⟨js,jt,fq,fr,fs,ft⟩:=(aa.mono ((((((k.trans m).trans q).trans z).trans n).trans a8).trans a5)).get fp
              refine AF _ fq (Aa fr ?_)
              obtain ⟨_,_,rfl,fu,fv⟩:=fs
              obtain rfl:=fu
              obtain rfl:=fv
              refine AG (x:=fo.2) (by rw [Ae]; exact (AE ah.sub (ft 1 _ rfl))) rfl ?_
              refine AL a rfl (fun _ a=> ?_) (fun _ a=> ?_)
              ·obtain ⟨ju,fw,a⟩:=bS a
               refine CV bt fw (Sub.trans a5 ah.sub) ?_
               obtain ⟨jv,fx,a⟩:=bS a
               refine AI (Ds (bb.mono (((((((u.trans k).trans m).trans q).trans z).trans n).trans a8).trans a5)) ah fx) ?_
               rintro _ jw ⟨bz,t69,ab,rfl,rfl,ae⟩
               refine ⟨t69,rfl,?_⟩
               refine AL a rfl (fun _ a=> ?_) (fun _ a=> ?_)
               ·refine AL a (by rw [an] <;>rfl) (fun _ a=> ?_) (fun _ a=> ?_)
                ·obtain ⟨fy,fz,a⟩:=bS a
                 obtain ⟨jx,jy,g0,g1,g2,g3⟩:=(aa.mono (((((((k.trans m).trans q).trans z).trans n).trans a8).trans a5).trans ab)).get fz
                 refine AF _ g0 (Aa g1 ?_)
                 obtain ⟨_,_,rfl,g4,g5⟩:=g2
                 obtain rfl:=g4
                 obtain rfl:=g5
                 refine AG (x:=fy.2) (by rw [Ae]; exact (AE ae.sub (g3 1 _ rfl))) rfl ?_
                 obtain ⟨jz,g6,a⟩:=bS a
                 refine CV ag g6 (Sub.trans (((n.trans a8).trans a5).trans ab) ae.sub) ?_
                 obtain ⟨k0,g7,a⟩:=bS a
                 refine AI (IA (aj.mono ((((((((((((t.trans a3).trans p).trans a4).trans u).trans k).trans m).trans q).trans z).trans n).trans a8).trans a5).trans ab)) ae g7) ?_
                 rintro _ k1 ⟨g8,t74,g9,rfl,rfl,ga⟩
                 refine ⟨t74,rfl,?_⟩
                 obtain rfl:=iS a
                 exact AS (t74,()) rfl ⟨g8,(ab.trans g9),rfl,ga.at2.at2.at2⟩
                obtain rfl:=iS a
                exact AS (false,()) rfl ⟨bz,ab,rfl,ae.at2.at2.at2⟩
               obtain rfl:=iS a
               exact AS (false,()) rfl ⟨bz,ab,rfl,ae.at2.at2.at2⟩
              obtain rfl:=iS a
              exact AS (false,()) rfl ⟨bv,(Sub.refl _),rfl,ah.at2.at2.at2⟩
             rintro z64 k2 ⟨c0,c1,rfl,c2⟩
             try dsimp only at a0
             refine AL a0 rfl (fun _ a0=> ?_) (fun _ a0=> ?_)
             ·obtain rfl:=iS a0
              obtain rfl:=fm _ rfl
              try dsimp only at d
              obtain rfl:=iS d
              try dsimp only at a7
              obtain rfl:=iS a7
              obtain rfl:=ep _ rfl
              try dsimp only at c
              obtain rfl:=iS c
              obtain rfl:=bg _ rfl
              try dsimp only at i
              obtain rfl:=iS i
              obtain rfl:=ba _ rfl
              try dsimp only at e
              obtain rfl:=iS e
              obtain rfl:=ai _ rfl
              try dsimp only at hd
              obtain rfl:=iS hd
              exact Af (Ah (Ah (Af (Ah (Af (Ah (Af (Ah (Af (Ah (AB ⟨c0,false,((((((((((((((((f.trans l).trans a9).trans a2).trans t).trans a3).trans p).trans a4).trans u).trans k).trans m).trans q).trans z).trans n).trans a8).trans a5).trans c1),rfl,rfl,c2.tail.tail.tail⟩)))))))))))
             obtain rfl:=iS a0
             exact Ag ((wN z63.1),z63.2.1,()) _ rfl rfl ⟨c0,(a5.trans c1),bx,rfl,c2.at2.at2.at2⟩
            ·rintro _ z63 k3 _ ⟨gb,gc,rfl,rfl,gd⟩ ge gf
             subst gf
             refine AX (dF bu ge) ?_
             exact AJ (AK (z63.1,z63.2.1,()) rfl ⟨gb,gc,rfl,gd.at2.at2.at2⟩)
           rintro z62 k4 ⟨gg,gh,rfl,gi⟩
           try dsimp only at d
           obtain rfl:=iS d
           exact LQ (z62.2.1,()) rfl ⟨gg,(a8.trans gh),rfl,gi.at2.at2.at2⟩
          rintro z51 k5 ⟨gj,gl,rfl,gm⟩
          try dsimp only at a7
          obtain rfl:=iS a7
          exact Ag ((wN z50.1),z51.1,()) _ rfl rfl ⟨gj,(n.trans gl),bs,rfl,gm.at2.at2.at2⟩
         ·rintro _ z50 k6 _ ⟨gn,go,rfl,rfl,gp⟩ gq gr
          subst gr
          refine AX (dF bp gq) ?_
          exact AJ (AK (z50.1,z50.2.1,()) rfl ⟨gn,go,rfl,gp.at2.at2.at2⟩)
        rintro z49 k7 ⟨gs,gt,rfl,gu⟩
        try dsimp only at c
        obtain rfl:=iS c
        exact Ag ((wN z33.1),z49.2.1,()) _ rfl rfl ⟨gs,((((k.trans m).trans q).trans z).trans gt),bf,rfl,gu.at2.at2.at2⟩
       ·rintro _ z33 k8 _ ⟨gv,gw,rfl,rfl,gx⟩ gy gz
        subst gz
        refine AX (dF an gy) ?_
        exact AJ (AK (z33.1,z33.2.1,()) rfl ⟨gv,gw,rfl,gx.at2.at2.at2⟩)
      rintro z32 k9 ⟨h0,h1,rfl,h2⟩
      try dsimp only at i
      obtain rfl:=iS i
      exact Ag ((wN z25.1),z32.2.1,()) _ rfl rfl ⟨h0,(((p.trans a4).trans u).trans h1),b9,rfl,h2.at2.at2.at2⟩
     ·rintro _ z25 ka _ ⟨h3,h4,rfl,rfl,h5⟩ h6 h7
      subst h7
      refine AX (dF b6 h6) ?_
      exact AJ (AK (z25.1,z25.2.1,()) rfl ⟨h3,h4,rfl,h5.at2.at2.at2⟩)
    rintro z24 kb ⟨h8,h9,rfl,hb⟩
    try dsimp only at e
    obtain rfl:=iS e
    exact Ag ((wN z21.1),z24.2.1,()) _ rfl rfl ⟨h8,(((a2.trans t).trans a3).trans h9),rfl,hb.at2.at1.at2⟩
   obtain rfl:=iS e
   obtain rfl:=ai _ rfl
   exact AJ (AK (z21.1,z21.2.1,()) rfl ⟨co,(a2.trans t),rfl,b5.at2.at2.at2⟩)
 rintro z20 kc ⟨hc,he,rfl,hf⟩
 try dsimp only at hd
 obtain rfl:=iS hd
 exact AB ⟨hc,t2,(((f.trans l).trans a9).trans he),rfl,rfl,hf.tail.tail.tail⟩
end Go.Proofs.YteolcjbobmpdiaaGreatDoor
namespace Go.Proofs.YteolcjbobmpdiaaGreatDoor
open Go Go.Eng Dg
set_option linter.unusedVariables false
set_option maxRecDepth 100000
section
variable {p:dtP} {B:List dtK} {E:List (List Edge)} {d:LkD} {tt:Int}
theorem UW (M:MkI p B E d tt) {m k:Nat} (hm:m<B.length) (hk:k<p.2.2.1.length):
 Ok (CJ (C4 p B E tt) (some d) (m:Int) (k:Int)) fun b=>b=true→ ∀n a n' a',TrB p B E n a m→TrB p B E n' a' m→n=n'∧a=a':=by
 have H:=M.all
 have hf:=H.few
 unfold CJ
 refine DL (fun (z:Int×Int)=> ∃i:Nat,z.1=(i:Int)∧i≤B.length∧(0≤z.2∧z.2≤(i * 10100:Nat))∧(z.2=0→ ∀n a,n<i→ ¬TrB p B E n a m)∧(z.2=1→ ∀n a n' a',n<i→n'<i→TrB p B E n a m→TrB p B E n' a' m→n=n'∧a=a')) (fun z=>B.length - z.1.toNat)
  (fun z=>z=1→ ∀n a n' a',TrB p B E n a m→TrB p B E n' a' m→n=n'∧a=a') ⟨0,rfl,Nat.zero_le _,⟨by simp,by simp⟩,fun _ n a h=>by omega,fun h=>by simp at h⟩ (fun z hz=> ?_) fun z hz=> ?_
 ·obtain ⟨z1,c⟩:=z
  obtain ⟨i,h1,hi,hc,h0,h2⟩:=hz
  dsimp only at h1 hc h0 h2 ⊢
  subst h1
  refine AN (Ht H.fin) (Ac (fun hlt=> ?_) fun hlt=>Bs fun h n a n' a' g1 g2=>h2 h n a n' a' ?_ ?_ g1 g2)
  ·have hlt:i<B.length:=by have:=of_decide_eq_true hlt; omega
   have hb:=List.getElem?_eq_getElem hlt
   obtain ⟨es,he⟩:=H.fin.edge hb
   have hel:=H.fin.edges_len H.vp hb he
   have hnd:=Vh p.2.2.1 B[i].2.1
   rw [← (H.fin.done i _ es hb he).1] at hnd
   refine AN (JI H.vp H.fin hb he) ?_
   refine B5 (fun j (c:Int)=>(0≤c∧c≤(i * 10100+j:Nat))∧(c=0→(∀n a,n<i→ ¬TrB p B E n a m)∧ ∀e ∈ es.take j,e.2 ≠ (m:Int))∧(c=1→ ∀n a n' a',(n<i∨(n=i∧(a,(m:Int)) ∈ es.take j))→(n'<i∨(n'=i∧(a',(m:Int)) ∈ es.take j))→TrB p B E n a m→TrB p B E n' a' m→n=n'∧a=a')) (by omega)
    ⟨⟨hc.1,by omega⟩,fun h=>⟨h0 h,by simp⟩,fun h n a n' a' g1 g2=>h2 h n a n' a' (g1.elim id fun g=>by simp at g) (g2.elim id fun g=>by simp at g)⟩ (fun j c hj hI=> ?_) fun c hI=> ?_
   ·obtain ⟨⟨c0,c1⟩,I0,I1⟩:=hI
    have hx:=List.getElem?_eq_getElem hj
    obtain ⟨e,hee⟩: ∃e,es[j] =e:=⟨_,rfl⟩
    rw [hee] at hx
    refine AV hx (AM (Q:=fun (c:Int)=>(0≤c∧c≤(i * 10100+(j+1):Nat))∧(c=0→(∀n a,n<i→ ¬TrB p B E n a m)∧ ∀e ∈ es.take (j+1),e.2 ≠ (m:Int))∧(c=1→ ∀n a n' a',(n<i∨(n=i∧(a,(m:Int)) ∈ es.take (j+1)))→(n'<i∨(n'=i∧(a',(m:Int)) ∈ es.take (j+1)))→TrB p B E n a m→TrB p B E n' a' m→n=n'∧a=a')) (Ac (fun h=>AD ?_) fun h=>AD ?_) fun c hc=>AD hc)
    ·have h:e.2=(m:Int):=eq_of_beq h
     rw [w64 (by omega) (by omega)]
     refine ⟨⟨by omega,by omega⟩,fun h=>by omega,fun hc1=> ?_⟩
     obtain ⟨z0,z1⟩:=I0 (by omega)
     intro n a n' a' g1 g2 t1 t2
     have one: ∀n a,(n<i∨(n=i∧(a,(m:Int)) ∈ es.take (j+1)))→TrB p B E n a m→n=i∧a=e.1:=fun n a g t=>by
      rcases g with g | ⟨g,gm⟩
      ·exact absurd t (z0 n a g)
      ·rcases (Ap hx).1 gm with gm | gm
       ·exact absurd rfl (z1 _ gm)
       ·exact ⟨g,by rw [← gm]⟩
     obtain ⟨o1,o2⟩:=one n a g1 t1
     obtain ⟨o3,o4⟩:=one n' a' g2 t2
     exact ⟨by rw [o1,o3],by rw [o2,o4]⟩
    ·have h:e.2 ≠ (m:Int):=by simpa using h
     refine ⟨⟨c0,by omega⟩,fun hc0=>⟨(I0 hc0).1,fun e' he'=> ?_⟩,fun hc1 n a n' a' g1 g2 t1 t2=> ?_⟩
     ·rcases (Ap hx).1 he' with g | rfl
      ·exact (I0 hc0).2 e' g
      ·exact h
     ·have red: ∀n a,(n<i∨(n=i∧(a,(m:Int)) ∈ es.take (j+1)))→(n<i∨(n=i∧(a,(m:Int)) ∈ es.take j)):=fun n a g=>by
       rcases g with g | ⟨g,gm⟩
       ·exact .inl g
       ·rcases (Ap hx).1 gm with gm | gm
        ·exact .inr ⟨g,gm⟩
        ·exact absurd (by rw [← gm]) h
      exact I1 hc1 n a n' a' (red n a g1) (red n' a' g2) t1 t2
   ·obtain ⟨⟨c0,c1⟩,I0,I1⟩:=hI
    rw [List.take_of_length_le (Nat.le_refl _)] at I0 I1
    have mem: ∀ {n a},n<i+1→TrB p B E n a m→n<i∨(n=i∧(a,(m:Int)) ∈ es):=fun {n a} g t=>by
     rcases Nat.lt_succ_iff_lt_or_eq.1 g with g | rfl
     ·exact .inl g
     ·exact .inr ⟨rfl,(Eg H.fin hlt he).2 ⟨m,rfl,t⟩⟩
    refine CQ ⟨⟨i+1,wr1 hlt (by omega),hlt,⟨c0,by omega⟩,fun h n a g t=> ?_,fun h n a n' a' g1 g2 t1 t2=>I1 h n a n' a' (mem g1 t1) (mem g2 t2) t1 t2⟩,?_⟩
    ·rcases mem g t with g' | ⟨_,g'⟩
     ·exact (I0 h).1 n a g' t
     ·exact (I0 h).2 (a,(m:Int)) g' rfl
    ·rw [wr1 hlt (by omega)]
     omega
  ·have:=of_decide_eq_false hlt
   have:=(H.aut.st g1).1
   unfold SB at this
   omega
  ·have:=of_decide_eq_false hlt
   have:=(H.aut.st g2).1
   unfold SB at this
   omega
 ·refine AM (Q:=fun b=>b=true→ ∀n a n' a',TrB p B E n a m→TrB p B E n' a' m→n=n'∧a=a') (Ac (fun h=>AM (Lj M hm (List.getElem?_eq_getElem hk)) fun w _=>AD fun _=>hz (eq_of_beq h)) fun h=>AD fun g=>by cases g) fun b hb=>AD hb
set_option maxHeartbeats 1000000 in
theorem Pv {s:KQ} (G:SmG s):CU s=some true:=by
 refine Ok.eq ?_
 unfold CU
 refine AN NC (AM (S1 G 12 5) fun b hb=>Ac (fun _=>AD rfl) fun hb'=> ?_)
 refine AM (Ra G (hb (by simpa using hb'))) fun m hm=> ?_
 rcases hm with hm | ⟨hm,p,B,E,d,tt,nt,nl,hp,hA,hd,hpl,M⟩
 ·exact Cp (by simp [hm]) (AD rfl)
 refine An (by simp [hm]) ?_
 have hT:m.1=p.1:=by rw [← hp]
 have hR:m.2.2.1=p.2.2.1:=by rw [← hp]
 rw [hA,hd,hT,hR]
 have H:=M.all
 have A:=H.aut
 have hf:=H.few
 have hnT:nT p=(p.1.length:Int):=rfl
 refine N0 B.length (by omega) (fun i hi=> ?_) ?_ (AD rfl)
 ·have hbi:=List.getElem?_eq_getElem hi
  obtain ⟨bi,hbe⟩: ∃b,B[i] =b:=⟨_,rfl⟩
  rw [hbe] at hbi
  have hdl:=Jm (l:= []) M hbi
  refine AN rfl (AN (Ht H.fin) (Cp (decide_eq_true (by omega)) (AN (Jl M hbi) ?_)))
  refine IB _ (by omega) (fun k hk=>Ok.eq ?_) (AD (by rw [wr1 hi (by omega)]))
  have hx:=List.getElem?_eq_getElem hk
  obtain ⟨k',r,hke,hr,hit⟩:=Jn M hbi hx
  rw [hke] at hx
  refine AV hx (AM (MJ M (s:=i) (BM hr)) fun t ht=>AV hx (AM (Lj M hi hr) fun w hw=> ?_))
  obtain ⟨t1,t2⟩:=ht
  obtain ⟨w1,w2⟩:=hw
  refine IB _ (by omega) (fun n hn=>Ok.eq ?_) (AD rfl)
  have hwn:=List.getElem?_eq_getElem hn
  obtain ⟨y,hye⟩: ∃y,w[n] =y:=⟨_,rfl⟩
  rw [hye] at hwn
  obtain ⟨_,n0,m0,g1,g2,g3⟩:=(w2 y).1 (List.mem_of_getElem? hwn)
  have hy2:y.2=(m0:Int):=by rw [g3]
  have hm0:m0<B.length:=(A.st g1).2.1
  have hk0:=(A.starts H.gr hr g1).1
  have hbm:=List.getElem?_eq_getElem hm0
  obtain ⟨bm,hbme⟩: ∃b,B[m0] =b:=⟨_,rfl⟩
  rw [hbme] at hbm
  obtain ⟨es,he⟩:=H.fin.edge hbm
  have hel:=H.fin.edges_len H.vp hbm he
  have hdm:=Jm (l:= []) M hbm
  refine AV hwn ?_
  rw [hy2]
  refine AN (JI H.vp H.fin hbm he) ?_
  refine IB _ (by omega) (fun j hj=>Ok.eq ?_) ?_
  ·have hej:=List.getElem?_eq_getElem hj
   obtain ⟨e,hee⟩: ∃e,es[j] =e:=⟨_,rfl⟩
   rw [hee] at hej
   refine AM (Q:=fun c=>c=false) (AV hej (Ac (fun hc=>AV hej (AN (T2 (by omega) e.1) (AD ?_))) fun hc=>AD rfl)) fun c hc=>by rw [hc]; exact An rfl (AD rfl)
   obtain ⟨q,_,hq⟩:=(Eg H.fin hm0 he (s:=e.1) (t:=e.2)).1 (List.mem_of_getElem? hej)
   have hc:=of_decide_eq_true hc
   rw [decide_eq_true ((t1 e.1).2 (Tz hk0 hr g1 g2 hq (by omega)))]
   rfl
  ·refine AV hwn ?_
   rw [hy2]
   refine AN (Jl M hbm) ?_
   refine IB _ (by omega) (fun j hj=>Ok.eq ?_) (AD rfl)
   have hxj:=List.getElem?_eq_getElem hj
   obtain ⟨j',r',hje,hr',hit'⟩:=Jn M hbm hxj
   rw [hje] at hxj
   refine AM (Q:=fun (e:AU Unit Bool)=>e= .next ()) ?_ fun e he=>by rw [he]; exact AD rfl
   refine AV hxj (AV hr' (Ac (fun _=>AD rfl) fun hc=> ?_))
   have hnil:r'.2.1= [] :=by
    have:=of_decide_eq_false hc
    exact List.eq_nil_of_length_eq_zero (by omega)
   refine AV hwn (AV hxj ?_)
   rw [hy2]
   refine AM (MJ M (s:=m0) (BM hr')) fun u hu=> ?_
   obtain ⟨u1,u2⟩:=hu
   refine IB _ (by omega) (fun x hx=>Ok.eq ?_) (AD rfl)
   have hux:=List.getElem?_eq_getElem hx
   obtain ⟨v,hve⟩: ∃v,u[x] =v:=⟨_,rfl⟩
   rw [hve] at hux
   refine AM (Q:=fun c=>c=false) (AV hwn (Ac (fun hc=>AV hux (AN (T2 (by omega) v) (Ac (fun hc2=>Ac (fun hc3=>AV hwn (AV hxj ?_)) fun _=>AD rfl) fun _=>AD rfl))) fun _=>AD rfl)) fun c hc=>by rw [hc]; exact An rfl (AD rfl)
   rw [hy2]
   refine AM (UW M hm0 (BM hr')) fun b hb=>AD ?_
   cases b with
   | false=>rfl
   | true=>
    exfalso
    have:=Wq H.gr A hk0 hr g1 g2 (fun n' a' h=>hb rfl _ _ _ _ h g1) hr' hnil ((u1 v).1 (List.mem_of_getElem? hux))
    rw [decide_eq_true ((t1 v).2 this)] at hc2
    cases hc2
 ·exact Ok.eq (AN rfl (AN (Ht H.fin) (An (decide_eq_false (by omega)) (AD rfl))))
end
end Go.Proofs.YteolcjbobmpdiaaGreatDoor
namespace Go.Proofs.YteolcjbobmpdiaaGreatDoor
open Go Go.Eng
set_option linter.unusedVariables false
section
variable {h:AH}
theorem W4 {n:Nat} {cs:List Value} (gk:KE (BN h)) (hr:FM Tryz.prog h n 25 cs):CallsH Tryz.prog 7 [.agg cs.toArray] h (Ar (RD h)):=by
 obtain ⟨s,d2,d3,d4,d5,d6,rfl,h2,h3,h4,h5,h6,G⟩:=PQ hr
 exact PH (G3 (small_0:=s) gk h2 h3 h4 h5 h6 (St.start h) (Pv G))
end
end Go.Proofs.YteolcjbobmpdiaaGreatDoor
