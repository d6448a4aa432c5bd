/-
  SimUc, M4, LawsC, put together.
  Conditions: none; each part tells its own.
-/
import Derived.Test.YteolcjbobmpdiaaGreatDoorKb2
import Derived.Test.YteolcjbobmpdiaaGreatDoorKb6
import Derived.KernelRfl
import Derived.Test.YteolcjbobmpdiaaGreatDoorKb3
namespace Go.Proofs.YteolcjbobmpdiaaGreatDoor
open Go Go.Eng
set_option linter.unusedVariables false
set_option maxRecDepth 100000
noncomputable def CN (small_0:KQ):Option Bool:=
 (CK).bind fun t2=>
 (BS (small_0.1,small_0.2.1,small_0.2.2.1,small_0.2.2.2.1,small_0.2.2.2.2.1,small_0.2.2.2.2.2.1,small_0.2.2.2.2.2.2) (12:Int) (5:Int)).bind fun t10=>
 cond (!t10)
 (some t2)
 ((Bk (small_0.1,small_0.2.1,small_0.2.2.1,small_0.2.2.2.1,small_0.2.2.2.2.1,small_0.2.2.2.2.2.1,small_0.2.2.2.2.2.2)).bind fun t18=>
  cond (!t18.2.2.2.2.2.2.2.2)
  (some t2)
  ((loop (σ:=Int) (β:=AU Unit Bool) (0:Int) fun z21=>
   t18.2.2.2.2.2.2.1.bind fun e86=>
   (BF e86).bind fun t22=>
   cond (decide (z21<t22))
   ((Gu t18.2.2.2.2.2.2.2.1 z21).bind fun t23=>
    (Cf (σ:=Unit) (β:=Bool) (0:Int) (((List.length t23):Nat):Int) () fun i_z25 z25=>
     (((idx t23 i_z25).bind fun e122=>
     cond (e122==(0:Int))
     (some (AU.next ()))
     ((idx t23 i_z25).bind fun e128=>
      (L9 t18.2.2.2.2.2.2.2.1 z21 e128).bind fun t31=>
      (idx t23 i_z25).bind fun e140=>
      (Hw t18.2.2.2.2.2.2.2.1 z21 e140).bind fun t34=>
      (Cf (σ:=Unit) (β:=Bool) (0:Int) (((List.length t31):Nat):Int) () fun i_z36 z36=>
       (forS (σ:=Bool) (0:Int) (((List.length t34):Nat):Int) false fun i_z38 z38=>
        (cond z38
        (some true)
        ((idx t34 i_z38).bind fun e193=>
         (idx t31 i_z36).bind fun e204=>
         (CS e86 t18.2.2.2.2.2.2.2.1 (((List.length t18.1):Nat):Int) e193.2).bind fun t45=>
         (Bw t45 e204).bind fun t46=>
         some t46)).bind fun z39=>
        some z39).bind fun z37=>
       cond (!z37)
       (some (AU.done false))
       (some (AU.next ()))).bind fun e_z35=>match e_z35 with
      | .next z35=>
       some (AU.next ())
      | .done q269=>some (AU.done q269))):Option (AU Unit Bool)).bind fun e_z26=>match e_z26 with
     | .next z26=>
      some (AU.next ())
     | .done q278=>some (AU.done q278)).bind fun e_z24=>match e_z24 with
    | .next z24=>
     some (AU.next (IntKind.wrap .i64 (z21+(1:Int))))
    | .done q296=>some (AU.done (AU.done q296)))
   (some (AU.done (AU.next ())))).bind fun e_z20=>match e_z20 with
   | .next z20=>
    some t2
   | .done q309=>some q309))
theorem GU {φ:AC} {h:AH} {F:List Chk} {small_0:Int×Int×Slc×Slc×Slc×Slc×Slc×Unit} {a8:List Int} {a9:List (List Int)} {aa:List Int} {ab:List Int} {ac:List Int} (gk:KE φ) (ad:Ro.SliceIs (Ro.int .u8) φ small_0.2.2.1 a8) (ae:Ro.SliceIs (Ro.list (Ro.int .u8)) φ small_0.2.2.2.1 a9) (af:Ro.SliceIs (Ro.int .u8) φ small_0.2.2.2.2.1 aa) (ag:Ro.SliceIs (Ro.int .u8) φ small_0.2.2.2.2.2.1 ab) (ah:Ro.SliceIs (Ro.int .u8) φ small_0.2.2.2.2.2.2.1 ac) (s0:St φ (F) h) {r:Bool} (hd:CN (small_0.1,small_0.2.1,a8,a9,aa,ab,ac)=some r):
 CallsH Tryz.prog 6 [(.agg #[(.int .u8 small_0.1),(.int .u8 small_0.2.1),(sv small_0.2.2.1),(sv small_0.2.2.2.1),(sv small_0.2.2.2.2.1),(sv small_0.2.2.2.2.2.1),(sv small_0.2.2.2.2.2.2.1)])] h (Ar fun v h'=> ∃ψ:AC,∃y:Bool,Sub φ ψ∧v=((.one aB):Sh).val y∧y=r∧St ψ (F) h'):=by
 refine AR mixed Tryz.func6 ?_
 rw [GT]
 unfold EM
 unfold CN at hd
 refine AY (vs:= [.int .u8 small_0.1, .int .u8 small_0.2.1,sv small_0.2.2.1,sv small_0.2.2.2.1,sv small_0.2.2.2.2.1,sv small_0.2.2.2.2.2.1,sv small_0.2.2.2.2.2.2.1]) s0 fun r1 dz b9=> ?_
 obtain ⟨e0,ba,hd⟩:=bS hd
 refine AI (Ej gk b9 ba) ?_
 rintro _ e1 ⟨e2,t2,c,rfl,rfl,l⟩
 refine ⟨t2,rfl,?_⟩
 refine AA (x:=small_0.1) l rfl ?_
 refine AA (x:=small_0.2.1) l rfl ?_
 refine AA (x:=small_0.2.2.1) l rfl ?_
 refine AA (x:=small_0.2.2.2.1) l rfl ?_
 refine AA (x:=small_0.2.2.2.2.1) l rfl ?_
 refine AA (x:=small_0.2.2.2.2.2.1) l rfl ?_
 refine AA (x:=small_0.2.2.2.2.2.2.1) l rfl ?_
 obtain ⟨e3,bb,hd⟩:=bS hd
 refine AI (DV (s_0:=(small_0.1,small_0.2.1,small_0.2.2.1,small_0.2.2.2.1,small_0.2.2.2.2.1,small_0.2.2.2.2.2.1,small_0.2.2.2.2.2.2.1,())) (ad.mono c) (ae.mono c) (af.mono c) (ag.mono c) (ah.mono c) l bb) ?_
 rintro _ e4 ⟨bc,t10,f,rfl,rfl,j⟩
 refine ⟨t10,rfl,?_⟩
 refine AL hd rfl (fun _ hd=> ?_) (fun _ hd=> ?_)
 ·obtain rfl:=iS hd
  exact AB ⟨bc,t2,(c.trans f),rfl,rfl,j.tail⟩
 refine AA (x:=small_0.1) j rfl ?_
 refine AA (x:=small_0.2.1) j rfl ?_
 refine AA (x:=small_0.2.2.1) j rfl ?_
 refine AA (x:=small_0.2.2.2.1) j rfl ?_
 refine AA (x:=small_0.2.2.2.2.1) j rfl ?_
 refine AA (x:=small_0.2.2.2.2.2.1) j rfl ?_
 refine AA (x:=small_0.2.2.2.2.2.2.1) j rfl ?_
 obtain ⟨e5,bd,hd⟩:=bS hd
 refine AI (DI (small_0:=(small_0.1,small_0.2.1,small_0.2.2.1,small_0.2.2.2.1,small_0.2.2.2.2.1,small_0.2.2.2.2.2.1,small_0.2.2.2.2.2.2.1,())) (gk.mono (c.trans f)) (ad.mono (c.trans f)) (ae.mono (c.trans f)) (af.mono (c.trans f)) (ag.mono (c.trans f)) (ah.mono (c.trans f)) j bd) ?_
 rintro _ e6 ⟨a2,t18,e7,e8,e9,ea,eb,ec,ed,i,s,rfl,rfl,be,ee,ef,eg,eh,ei,bf,bg⟩
 refine ⟨t18,rfl,?_⟩
 try dsimp only at hd
 have bh:=be.length
 refine AY (vs:= [.slice none 0 0, .slice none 0 0, .slice none 0 0, .slice none 0 0, .slice none 0 0, .slice none 0 0]) bg fun r19 ej bi=> ?_
 refine AQ bi rfl rfl fun ek bj=> ?_
 refine AQ bj rfl rfl fun el bk=> ?_
 refine AQ bk rfl rfl fun em bl=> ?_
 refine AQ bl rfl rfl fun en bm=> ?_
 refine AQ bm rfl rfl fun eo bn=> ?_
 refine AQ bn rfl rfl fun ep ai=> ?_
 refine AL hd rfl (fun _ hd=> ?_) (fun _ hd=> ?_)
 ·obtain rfl:=iS hd
  exact AB ⟨a2,t2,((c.trans f).trans s),rfl,rfl,ai.tail.tail.tail⟩
 obtain ⟨bo,bp,hd⟩:=bS hd
 refine AT (fun (y:Int×Bool×Unit) w_ g=> ∃ψ:AC,Sub a2 ψ∧AU.next ()=g∧St ψ (cW 32 r19 [sv t18.1.1,sv t18.1.2.1,sv t18.1.2.2.1,sv t18.1.2.2.2.1,sv t18.1.2.2.2.2.1,sv t18.1.2.2.2.2.2.1] ::⟨BO, [.pointer t18.2.2.1],i⟩::Wq0 r1 small_0::F) w_) (g:=bo) ?_ ?_
 ·refine Dr bp (fun (y:Int×Bool×Unit) w_ g=> ∃ψ:AC,Sub a2 ψ∧y.1=g∧St ψ (cW 32 r19 [sv t18.1.1,sv t18.1.2.1,sv t18.1.2.2.1,sv t18.1.2.2.2.1,sv t18.1.2.2.2.2.1,sv t18.1.2.2.2.2.2.1] ::⟨BO, [.pointer t18.2.2.1],i⟩::Wq0 r1 small_0::F) w_) ((0:Int),false,()) rfl ⟨a2,(Sub.refl _),rfl,ai.at2.at2.at2⟩ ?_
  ·rintro z21 er _ _ ⟨es,o,rfl,bq⟩ d aj
   try dsimp only at d
   obtain ⟨eu,br,d⟩:=bS d
   have ak:=((bf.mono o)).get br
   obtain ⟨ev,bs,d⟩:=bS d
   refine AI (Bj ak bq bs) ?_
   rintro _ ew ⟨bt,t22,p,rfl,rfl,al⟩
   refine ⟨t22,rfl,?_⟩
   refine AL d rfl (fun _ d=> ?_) (fun _ d=> ?_)
   ·have bu:=al.at1
    obtain ⟨ex,bv,d⟩:=bS d
    refine AI (GR bu bv) ?_
    rintro _ ey ⟨a5,t23,ez,t,rfl,rfl,a3,bw⟩
    refine ⟨t23,rfl,?_⟩
    have am:=a3.length
    obtain ⟨bx,bz,d⟩:=bS d
    refine AT (fun (y:Int×Bool×Unit) w_ g=> ∃ψ:AC,Sub a5 ψ∧AU.next ()=g∧St ψ (⟨BO, [.pointer t18.2.2.1],i⟩::cW 32 r19 [sv t18.1.1,sv t18.1.2.1,sv t18.1.2.2.1,sv t18.1.2.2.2.1,sv t18.1.2.2.2.2.1,sv t18.1.2.2.2.2.2.1] ::Wq0 r1 small_0::F) w_) (g:=bx) ?_ ?_
    ·refine Be bz (fun c0 (y:Int×Bool×Unit) w_ g=> ∃ψ:AC,Sub a5 ψ∧y.1=c0∧()=g∧St ψ (⟨BO, [.pointer t18.2.2.1],i⟩::cW 32 r19 [sv t18.1.1,sv t18.1.2.1,sv t18.1.2.2.1,sv t18.1.2.2.2.1,sv t18.1.2.2.2.2.1,sv t18.1.2.2.2.2.2.1] ::Wq0 r1 small_0::F) w_) ((0:Int),z21.2.1,()) rfl ⟨a5,(Sub.refl _),rfl,rfl,bw.at2.at2.at2⟩ ?_ ?_
     ·rintro _ z25 f0 _ _ ⟨an,m,rfl,rfl,a4⟩ n c1 ao ap c2
      try dsimp only at n c1 ao ap
      refine Ai (dT am ao) ?_
      obtain ⟨c3,a,n⟩:=bS n
      refine AT (fun (y:Bool×Unit) w_ g=> ∃ψ:AC,Sub an ψ∧AU.next ()=g∧St ψ (⟨BO, [.pointer t18.2.2.1],i⟩::cW 32 r19 [sv t18.1.1,sv t18.1.2.1,sv t18.1.2.2.1,sv t18.1.2.2.2.1,sv t18.1.2.2.2.2.1,sv t18.1.2.2.2.2.2.1] ::Wq0 r1 small_0::F) w_) (g:=c3) ?_ ?_
      ·obtain ⟨f1,c4,a⟩:=bS a
       refine CV a3 c4 (Sub.trans m a4.sub) ?_
       refine AL a rfl (fun _ a=> ?_) (fun _ a=> ?_)
       ·have c5:=a4.at2
        obtain rfl:=iS a
        exact AK (z25.2.1,()) rfl ⟨an,(Sub.refl _),rfl,c5.at2.at2⟩
       obtain ⟨f2,c6,a⟩:=bS a
       refine CV a3 c6 (Sub.trans m a4.sub) ?_
       obtain ⟨f3,c7,a⟩:=bS a
       refine AI (JS (gk.b.mono ((((((c.trans f).trans s).trans o).trans p).trans t).trans m)) a4 c7) ?_
       rintro _ f4 ⟨f5,t31,f6,u,rfl,rfl,aq,ar⟩
       refine ⟨t31,rfl,?_⟩
       have au:=aq.length
       obtain ⟨f7,c8,a⟩:=bS a
       refine CV a3 c8 (Sub.trans (m.trans u) ar.sub) ?_
       obtain ⟨f8,c9,a⟩:=bS a
       refine AI (Hx ar c9) ?_
       rintro _ f9 ⟨a6,t34,fa,w,rfl,rfl,av,ca⟩
       refine ⟨t34,rfl,?_⟩
       have aw:=av.length
       obtain ⟨cb,cc,a⟩:=bS a
       refine AT (fun (y:Int×Bool×Unit) w_ g=> ∃ψ:AC,Sub a6 ψ∧AU.next ()=g∧St ψ (⟨BO, [.pointer t18.2.2.1],i⟩::cW 32 r19 [sv t18.1.1,sv t18.1.2.1,sv t18.1.2.2.1,sv t18.1.2.2.2.1,sv t18.1.2.2.2.2.1,sv t18.1.2.2.2.2.2.1] ::Wq0 r1 small_0::F) w_) (g:=cb) ?_ ?_
       ·refine Be cc (fun cd (y:Int×Bool×Unit) w_ g=> ∃ψ:AC,Sub a6 ψ∧y.1=cd∧()=g∧St ψ (⟨BO, [.pointer t18.2.2.1],i⟩::cW 32 r19 [sv t18.1.1,sv t18.1.2.1,sv t18.1.2.2.1,sv t18.1.2.2.2.1,sv t18.1.2.2.2.2.1,sv t18.1.2.2.2.2.2.1] ::Wq0 r1 small_0::F) w_) ((0:Int),z25.2.1,()) rfl ⟨a6,(Sub.refl _),rfl,rfl,ca.at2.at2.at2⟩ ?_ ?_
        ·rintro _ z36 fb _ _ ⟨a7,q,rfl,rfl,ce⟩ k cf ax ay cg
         try dsimp only at k cf ax ay
         refine Ai (dT au ax) ?_
         obtain ⟨ch,ci,k⟩:=bS k
         refine AT (fun (y:Int×Bool×Unit) w_ g=> ∃ψ:AC,Sub a7 ψ∧y.2.1=g∧St ψ (⟨BO, [.pointer t18.2.2.1],i⟩::cW 32 r19 [sv t18.1.1,sv t18.1.2.1,sv t18.1.2.2.1,sv t18.1.2.2.2.1,sv t18.1.2.2.2.2.1,sv t18.1.2.2.2.2.2.1] ::Wq0 r1 small_0::F) w_) (g:=ch) ?_ ?_
         ·refine BJ ci (fun cj (y:Int×Bool×Unit) w_ g=> ∃ψ:AC,Sub a7 ψ∧y.1=cj∧y.2.1=g∧St ψ (⟨BO, [.pointer t18.2.2.1],i⟩::cW 32 r19 [sv t18.1.1,sv t18.1.2.1,sv t18.1.2.2.1,sv t18.1.2.2.2.1,sv t18.1.2.2.2.2.1,sv t18.1.2.2.2.2.2.1] ::Wq0 r1 small_0::F) w_) ((0:Int),false,()) rfl ⟨a7,(Sub.refl _),rfl,rfl,ce.at2.at2.at2⟩ ?_ ?_
          ·rintro _ z38 fc _ _ ⟨az,z,rfl,rfl,a0⟩ a1 ck b0 b1
           try dsimp only at a1 ck b0 b1
           refine Ai (dT aw b0) ?_
           obtain ⟨cl,e,a1⟩:=bS a1
           refine Ao (fun (y:Bool×Unit) w_ g=> ∃ψ:AC,Sub az ψ∧y.1=g∧St ψ (⟨BO, [.pointer t18.2.2.1],i⟩::cW 32 r19 [sv t18.1.1,sv t18.1.2.1,sv t18.1.2.2.1,sv t18.1.2.2.2.1,sv t18.1.2.2.2.2.1,sv t18.1.2.2.2.2.2.1] ::Wq0 r1 small_0::F) w_) (g:=cl) ?_ ?_
           ·refine AL e rfl (fun _ e=> ?_) (fun _ e=> ?_)
            ·have cm:=a0.at2
             obtain rfl:=iS e
             exact AS (true,()) rfl ⟨az,(Sub.refl _),rfl,cm.at2.at2⟩
            refine AA (x:=t18.1.1) a0.at1 rfl ?_
            obtain ⟨cn,co,e⟩:=bS e
            obtain ⟨fd,fe,cp,cq,cr,cs⟩:=(av.mono (q.trans z)).get co
            refine AF _ cp (Aa cq ?_)
            obtain ⟨_,_,rfl,ct,cu⟩:=cr
            obtain rfl:=ct
            obtain rfl:=cu
            refine AG (x:=cn.2) (by rw [Ae]; exact (AE a0.sub (cs 1 _ rfl))) rfl ?_
            obtain ⟨cv,cw,e⟩:=bS e
            obtain ⟨ff,fg,cx,cy,cz,b2⟩:=(aq.mono ((w.trans q).trans z)).get cw
            refine AF _ cx (Aa cy ?_)
            obtain rfl:=cz
            refine AG (x:=cv) (AE a0.sub (b2 0 _ rfl)) rfl ?_
            obtain ⟨fh,b3,e⟩:=bS e
            rw [← bh] at b3
            refine AI (Ib (gk.b.mono ((((((((((c.trans f).trans s).trans o).trans p).trans t).trans m).trans u).trans w).trans q).trans z)) (ak.mono ((((((p.trans t).trans m).trans u).trans w).trans q).trans z)) a0 b3) ?_
            rintro _ fi ⟨fj,t45,fk,b4,rfl,rfl,d0,b5⟩
            refine ⟨t45,rfl,?_⟩
            refine AO (AE (Sub.trans b4 b5.sub) (b2 0 _ rfl)) ?_
            obtain ⟨fl,d1,e⟩:=bS e
            refine AI (Ds d0 b5 d1) ?_
            rintro _ fm ⟨d2,t46,d3,rfl,rfl,d4⟩
            refine ⟨t46,rfl,?_⟩
            obtain rfl:=iS e
            exact AS (t46,()) rfl ⟨d2,(b4.trans d3),rfl,d4.at2.at2.at2⟩
           rintro z39 fn ⟨d5,d6,rfl,d7⟩
           try dsimp only at a1
           obtain rfl:=iS a1
           exact Ag ((wN z38.1),z39.1,()) _ rfl rfl ⟨d5,(z.trans d6),b1,rfl,d7.at2.at2.at2⟩
          ·rintro _ z38 fo ⟨d8,d9,rfl,rfl,da⟩ db
           refine AX (dF aw db) ?_
           exact AJ (AK (z38.1,z38.2.1,()) rfl ⟨d8,d9,rfl,da.at2.at2.at2⟩)
         rintro z37 fp ⟨b6,b7,rfl,b8⟩
         try dsimp only at k
         refine AL k rfl (fun _ k=> ?_) (fun _ k=> ?_)
         ·obtain rfl:=iS k
          obtain rfl:=cg _ rfl
          try dsimp only at a
          obtain rfl:=iS a
          try dsimp only at n
          obtain rfl:=iS n
          obtain rfl:=c2 _ rfl
          try dsimp only at d
          obtain rfl:=iS d
          obtain rfl:=aj _ rfl
          try dsimp only at hd
          obtain rfl:=iS hd
          exact Af (Ah (Ah (Af (Ah (Af (Ah (AB ⟨b6,false,((((((((((c.trans f).trans s).trans o).trans p).trans t).trans m).trans u).trans w).trans q).trans b7),rfl,rfl,b8.tail.tail.tail⟩)))))))
         obtain rfl:=iS k
         exact Ag ((wN z36.1),z36.2.1,()) _ rfl rfl ⟨b6,(q.trans b7),ay,rfl,b8.at2.at2.at2⟩
        ·rintro _ z36 fq _ ⟨dc,dd,rfl,rfl,de⟩ df dg
         subst dg
         refine AX (dF au df) ?_
         exact AJ (AK (z36.1,z36.2.1,()) rfl ⟨dc,dd,rfl,de.at2.at2.at2⟩)
       rintro z35 fr ⟨dh,di,rfl,dj⟩
       try dsimp only at a
       obtain rfl:=iS a
       exact LQ (z35.2.1,()) rfl ⟨dh,((u.trans w).trans di),rfl,dj.at2.at2.at2⟩
      rintro z26 fs ⟨dk,dl,rfl,dm⟩
      try dsimp only at n
      obtain rfl:=iS n
      exact Ag ((wN z25.1),z26.1,()) _ rfl rfl ⟨dk,(m.trans dl),ap,rfl,dm.at2.at2.at2⟩
     ·rintro _ z25 ft _ ⟨dn,dp,rfl,rfl,dq⟩ dr ds
      subst ds
      refine AX (dF am dr) ?_
      exact AJ (AK (z25.1,z25.2.1,()) rfl ⟨dn,dp,rfl,dq.at2.at2.at2⟩)
    rintro z24 fu ⟨dt,du,rfl,dv⟩
    try dsimp only at d
    obtain rfl:=iS d
    exact Ag ((wN z21.1),z24.2.1,()) _ rfl rfl ⟨dt,(((o.trans p).trans t).trans du),rfl,dv.at2.at1.at2⟩
   obtain rfl:=iS d
   obtain rfl:=aj _ rfl
   exact AJ (AK (z21.1,z21.2.1,()) rfl ⟨bt,(o.trans p),rfl,al.at2.at2.at2⟩)
 rintro z20 fv ⟨dw,dx,rfl,dy⟩
 try dsimp only at hd
 obtain rfl:=iS hd
 exact AB ⟨dw,t2,(((c.trans f).trans s).trans dx),rfl,rfl,dy.tail.tail.tail⟩
end Go.Proofs.YteolcjbobmpdiaaGreatDoor
namespace Go.Proofs.YteolcjbobmpdiaaGreatDoor
open Go Go.Eng Dg
set_option linter.unusedVariables false
set_option maxRecDepth 100000
section
variable {p:dtP} {B:List dtK} {E:List (List Edge)} {d:LkD} {tt:Int}
theorem SU (M:MkI p B E d tt) {m:Nat} (hm:m<B.length):Ok (CS (C4 p B E tt) (some d) (((List.length p.1):Nat):Int) (m:Int)) fun l=>l.length≤1000000000∧ ∀j,j ∈ l ↔ Nx (nT p) p.2.2.1 (KB B) (TrB p B E) m j:=by
 have H:=M.all
 have hb:=List.getElem?_eq_getElem hm
 obtain ⟨b,hbe⟩: ∃b,B[m] =b:=⟨_,rfl⟩
 rw [hbe] at hb
 obtain ⟨es,he⟩:=H.fin.edge hb
 have hel:=H.fin.edges_len H.vp hb he
 have hdl:=Jm (l:= []) M hb
 have hnT:nT p=(p.1.length:Int):=rfl
 unfold CS
 refine AN (JI H.vp H.fin hb he) ?_
 refine B5 (fun k (z:List Int)=>z.length≤k∧ ∀j,j ∈ z ↔ ∃e ∈ es.take k,e.1<nT p∧e.1=j) (by omega) ⟨by simp,by simp⟩ (fun k z hk hz=> ?_) fun z hz=> ?_
 ·obtain ⟨z1,z2⟩:=hz
  have hx:=List.getElem?_eq_getElem hk
  obtain ⟨e,hee⟩: ∃e,es[k] =e:=⟨_,rfl⟩
  rw [hee] at hx
  refine AV hx (AM (Q:=fun (z:List Int)=>z.length≤k+1∧ ∀j,j ∈ z ↔ ∃e ∈ es.take (k+1),e.1<nT p∧e.1=j) (Ac (fun hc=>AV hx (Bm (by simp; omega) (AD ⟨by simp; omega,fun j=> ?_⟩))) fun hc=>AD ⟨by omega,fun j=> ?_⟩) fun z hz=>AD hz)
  ·have hc:=of_decide_eq_true hc
   rw [List.mem_append,z2,List.mem_singleton]
   constructor
   ·rintro (⟨e',h1,h2⟩ | h)
    ·exact ⟨e',(Ap hx).2 (.inl h1),h2⟩
    ·exact ⟨e,(Ap hx).2 (.inr rfl),by omega,h.symm⟩
   ·rintro ⟨e',h1,h2,h3⟩
    rcases (Ap hx).1 h1 with h1 | rfl
    ·exact .inl ⟨e',h1,h2,h3⟩
    ·exact .inr h3.symm
  ·have hc:=of_decide_eq_false hc
   rw [z2]
   constructor
   ·rintro ⟨e',h1,h2⟩; exact ⟨e',(Ap hx).2 (.inl h1),h2⟩
   ·rintro ⟨e',h1,h2,h3⟩
    rcases (Ap hx).1 h1 with h1 | rfl
    ·exact ⟨e',h1,h2,h3⟩
    ·omega
 obtain ⟨z1,z2⟩:=hz
 rw [List.take_of_length_le (Nat.le_refl _)] at z2
 refine AN (Jl M hb) ?_
 refine B5 (fun i (y:List Int)=>y.length≤10100+i * 64000∧ ∀j,j ∈ y ↔ j ∈ z∨ ∃k:Nat,(k:Int) ∈ (FY p.2.2.1 b.2.1).take i∧Lk (nT p) p.2.2.1 (KB B) (TrB p B E) m k j) (by omega) ⟨by omega,by simp⟩ (fun i y hi hy=> ?_) fun y hy=>AD ⟨by have:=hy.1; omega,fun j=> ?_⟩
 ·obtain ⟨y1,y2⟩:=hy
  have hx:=List.getElem?_eq_getElem hi
  obtain ⟨k,r,hk,hr,hit⟩:=Jn M hb hx
  rw [hk] at hx
  refine AV hx (AM (MJ M (s:=m) (BM hr)) fun t ht=>Bm (by omega) (AD ⟨by rw [List.length_append]; omega,fun j=> ?_⟩))
  rw [List.mem_append,y2,ht.1]
  constructor
  ·rintro ((h | ⟨k',h1,h2⟩) | h)
   ·exact .inl h
   ·exact .inr ⟨k',(Ap hx).2 (.inl h1),h2⟩
   ·exact .inr ⟨k,(Ap hx).2 (.inr rfl),h⟩
  ·rintro (h | ⟨k',h1,h2⟩)
   ·exact .inl (.inl h)
   ·rcases (Ap hx).1 h1 with h1 | h1
    ·exact .inl (.inr ⟨k',h1,h2⟩)
    ·have:k'=k:=by omega
     subst this
     exact .inr h2
 ·rw [hy.2,z2,List.take_of_length_le (Nat.le_refl _)]
  unfold Nx
  constructor
  ·rintro (⟨e,h1,h2,rfl⟩ | ⟨k,h1,h2⟩)
   ·obtain ⟨q,_,hq⟩:=(Eg H.fin hm he (s:=e.1) (t:=e.2)).1 h1
    exact .inl ⟨h2,q,hq⟩
   ·obtain ⟨k',r,e,hr,hit⟩:=(NB M hb).1 h1
    have:k=k':=by omega
    subst this
    exact .inr ⟨k,r,hr,hit,h2⟩
  ·rintro (⟨h1,q,hq⟩ | ⟨k,r,hr,hit,h⟩)
   ·exact .inl ⟨_,(Eg H.fin hm he).2 ⟨q,rfl,hq⟩,h1,rfl⟩
   ·exact .inr ⟨k,(NB M hb).2 ⟨k,r,rfl,hr,hit⟩,h⟩
theorem UV (M:MkI p B E d tt) {i k:Nat} {r:BC} (hr:p.2.2.1[k]? =some r) (hit:It p.2.2.1 (KB B) i k r.2.1.length) (hk:0<k) {j:Int} (h:Lk (nT p) p.2.2.1 (KB B) (TrB p B E) i k j) {w:List Edge}
 (hw: ∀e,e ∈ w ↔ It p.2.2.1 (KB B) i k r.2.1.length∧ ∃n m:Nat,TrB p B E n r.1 m∧Pth (TrB p B E) n r.2.1 i∧e=(r.1,(m:Int))): ∃e ∈ w,∃m:Nat,e.2=(m:Int)∧m<B.length∧Nx (nT p) p.2.2.1 (KB B) (TrB p B E) m j:=by
 have H:=M.all
 obtain ⟨n,m,r',h1,h2,h3,h4⟩:=U1 H.gr H.aut hk h
 rw [hr] at h1
 cases h1
 exact ⟨(r.1,(m:Int)),(hw _).2 ⟨hit,n,m,h2,h3,rfl⟩,m,rfl,(H.aut.st h2).2.1,h4⟩
set_option maxHeartbeats 1000000 in
theorem Oj {s:KQ} (G:SmG s):CN s=some true:=by
 refine Ok.eq ?_
 unfold CN
 refine AN NC (AM (S1 G 12 5) fun b hb=>Ac (fun _=>AD rfl) fun hb'=> ?_)
 refine AM (Ra G (hb (by simpa using hb'))) fun m hm=> ?_
 rcases hm with hm | ⟨hm,p,B,E,d,tt,nt,nl,hp,hA,hd,hpl,M⟩
 ·exact Cp (by simp [hm]) (AD rfl)
 refine An (by simp [hm]) ?_
 have hT:m.1=p.1:=by rw [← hp]
 rw [hA,hd,hT]
 have H:=M.all
 have A:=H.aut
 have hf:=H.few
 refine N0 B.length (by omega) (fun i hi=> ?_) ?_ (AD rfl)
 ·have hbi:=List.getElem?_eq_getElem hi
  obtain ⟨bi,hbe⟩: ∃b,B[i] =b:=⟨_,rfl⟩
  rw [hbe] at hbi
  have hdl:=Jm (l:= []) M hbi
  refine AN rfl (AN (Ht H.fin) (Cp (decide_eq_true (by omega)) (AN (Jl M hbi) ?_)))
  refine IB _ (by omega) (fun k hk=>Ok.eq ?_) (AD (by rw [wr1 hi (by omega)]))
  have hx:=List.getElem?_eq_getElem hk
  obtain ⟨k',r,hke,hr,hit⟩:=Jn M hbi hx
  rw [hke] at hx
  refine AM (Q:=fun (e:AU Unit Bool)=>e= .next ()) ?_ fun e he=>by rw [he]; exact AD rfl
  refine AV hx (Ac (fun _=>AD rfl) fun hc=> ?_)
  have hk0:0<k':=by
   rcases Nat.eq_zero_or_pos k' with rfl | h
   ·simp at hc
   ·exact h
  refine AV hx (AM (MJ M (s:=i) (BM hr)) fun t ht=>AV hx (AM (Lj M hi hr) fun w hw=> ?_))
  obtain ⟨t1,t2⟩:=ht
  obtain ⟨w1,w2⟩:=hw
  refine IB _ (by omega) (fun j hj=>Ok.eq ?_) (AD rfl)
  have htj:=List.getElem?_eq_getElem hj
  obtain ⟨x,hxe⟩: ∃x,t[j] =x:=⟨_,rfl⟩
  rw [hxe] at htj
  obtain ⟨e,he,mm,hm1,hm2,hm3⟩:=UV M hr hit hk0 ((t1 x).1 (List.mem_of_getElem? htj)) w2
  obtain ⟨ix,hix⟩:=List.getElem?_of_mem he
  refine B5 (fun n (z:Bool)=>ix<n→z=true) (by omega) (fun h=>by omega) (fun n z hn hz=> ?_) fun z hz=> ?_
  ·refine AM (Q:=fun (z:Bool)=>ix<n+1→z=true) (Ac (fun h=>AD fun _=>rfl) fun h=> ?_) fun z hz=>AD hz
   have hwn:=List.getElem?_eq_getElem hn
   obtain ⟨y,hye⟩: ∃y,w[n] =y:=⟨_,rfl⟩
   rw [hye] at hwn
   obtain ⟨_,n0,m0,g1,g2,g3⟩:=(w2 y).1 (List.mem_of_getElem? hwn)
   refine AV hwn (AV htj ?_)
   have hy2:y.2=(m0:Int):=by rw [g3]
   rw [hy2]
   refine AM (SU M (A.st g1).2.1) fun l hl=>AN (T2 (by omega) x) (AD fun hlt=> ?_)
   by_cases hin:ix=n
   ·subst hin
    rw [hwn] at hix
    cases hix
    have:mm=m0:=by omega
    subst this
    exact decide_eq_true ((hl.2 x).2 hm3)
   ·have:=hz (by omega)
    rw [this] at h
    cases h
  ·have:=hz (BM hix)
   subst this
   exact An rfl (AD rfl)
 ·exact Ok.eq (AN rfl (AN (Ht H.fin) (An (decide_eq_false (by omega)) (AD rfl))))
end
end Go.Proofs.YteolcjbobmpdiaaGreatDoor
namespace Go.Proofs.YteolcjbobmpdiaaGreatDoor
open Go Go.Eng
set_option linter.unusedVariables false
section
variable {h:AH}
theorem Wy {n:Nat} {cs:List Value} (gk:KE (BN h)) (hr:FM Tryz.prog h n 25 cs):CallsH Tryz.prog 6 [.agg cs.toArray] h (Ar (RD h)):=by
 obtain ⟨s,d2,d3,d4,d5,d6,rfl,h2,h3,h4,h5,h6,G⟩:=PQ hr
 exact PH (GU (small_0:=s) gk h2 h3 h4 h5 h6 (St.start h) (Oj G))
end
end Go.Proofs.YteolcjbobmpdiaaGreatDoor
