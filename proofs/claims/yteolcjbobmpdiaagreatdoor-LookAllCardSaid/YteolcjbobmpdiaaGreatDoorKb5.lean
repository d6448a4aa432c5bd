/-
  SimL, LookS, LookE, LookR, LookI, LookJ, LookG, LookH, LookO, F3, F4, F5, F6, Build, DenR, DenW, SimR, M1, M2, put together.
  Conditions: none; each part tells its own.
-/
import Derived.Test.YteolcjbobmpdiaaGreatDoorKb2
import Derived.Test.YteolcjbobmpdiaaGreatDoorKb3
import Derived.Test.YteolcjbobmpdiaaGreatDoorKb4
import Derived.KernelRfl
import Derived.Test.YteolcjbobmpdiaaGreatDoorKb1
import Derived.Test.YteolcjbobmpdiaaGreatDoorProg
namespace Go.Proofs.YteolcjbobmpdiaaGreatDoor
open Go Go.Eng
set_option linter.unusedVariables false
set_option maxRecDepth 100000
theorem Qu:G5 Tryz.prog 54 54 73 2:=⟨Tryz.underlying54, .inl Tryz.underlying54,⟨Tryz.t73,by kernel_rfl,rfl,⟨_,rfl,rfl⟩,by decide,by decide⟩,by decide⟩
noncomputable def Cq (f_0:Va) (p_1:Ay) (seq_2:List Int):Option (List Int×Bool):=
 (Bo (((List.length p_1.1):Nat):Int)).bind fun t4=>
 (Cf (σ:=CY) (β:=(List Int×Bool)) (0:Int) (((List.length seq_2):Nat):Int) t4 fun i_z6 z6=>
  (((idx seq_2 i_z6).bind fun e56=>
  (BZ (p_1.1,p_1.2.1,p_1.2.2.1,p_1.2.2.2.1,p_1.2.2.2.2.1,p_1.2.2.2.2.2) e56).bind fun t16=>
  cond t16
  ((Aq z6 e56).bind fun t17=>
   (Nj t17.2).bind fun t18=>
   some (AU.done (t18,false)))
  ((cond (decide ((IntKind.wrap .i64 (e56 - (((List.length p_1.1):Nat):Int))) < (0:Int)))
   (some true)
   (some (decide ((IntKind.wrap .i64 (e56 - (((List.length p_1.1):Nat):Int))) ≥ (((List.length f_0.2.1):Nat):Int))))).bind fun z20=>
   cond z20
   (some (AU.next z6))
   ((idx f_0.2.1 (IntKind.wrap .i64 (e56 - (((List.length p_1.1):Nat):Int)))).bind fun e103=>
    (CZ (((List.length p_1.1):Nat):Int) e103).bind fun t26=>
    (OR z6 t26).bind fun t27=>
    (idx f_0.1 (IntKind.wrap .i64 (e56 - (((List.length p_1.1):Nat):Int)))).bind fun e121=>
    cond (!e121)
    ((Nj t27.2).bind fun t31=>
     some (AU.done (t31,false)))
    (some (AU.next t27.2))))):Option (AU CY (List Int×Bool))).bind fun e_z7=>match e_z7 with
  | .next z7=>
   some (AU.next z7)
  | .done q150=>some (AU.done q150)).bind fun e_z5=>match e_z5 with
 | .next z5=>
  (Nj z5).bind fun t32=>
  some (t32,true)
 | .done q179=>some q179
theorem J5 {φ:AC} {h:AH} {F:List Chk} {f_0:Slc×Slc×Slc×Int×Unit} {z:List Bool} {q:List (List Int)} {a0:List (List Int)} {p_1:Pl6} {s:List ByteArray} {a1:List ByteArray} {a2:List BC} {a3:List Int} {a4:List Int} {a5:List ByteArray} {seq_2:Slc} {t:List Int} (gk:Dg.Glob φ) (ap:Ro.SliceIs Ro.bool φ f_0.1 z) (a6:Ro.SliceIs (Ro.list (Ro.int .i64)) φ f_0.2.1 q) (cg:Ro.SliceIs (Ro.list (Ro.int .i64)) φ f_0.2.2.1 a0) (a7:Ro.SliceIs Ro.str φ p_1.1 s) (aq:Ro.SliceIs Ro.str φ p_1.2.1 a1) (ar:Ro.SliceIs CF φ p_1.2.2.1 a2) (au:Ro.SliceIs (Ro.int .i64) φ p_1.2.2.2.1 a3) (av:Ro.SliceIs (Ro.int .i64) φ p_1.2.2.2.2.1 a4) (aw:Ro.SliceIs Ro.str φ p_1.2.2.2.2.2.1 a5) (a8:Ro.SliceIs (Ro.int .i64) φ seq_2 t) (s0:St φ (F) h) {r:(List Int×Bool)} (hd:Cq (z,q,a0,f_0.2.2.2.1) (s,a1,a2,a3,a4,a5) t=some r):
 CallsH Tryz.prog 146 [(.agg #[(sv f_0.1),(sv f_0.2.1),(sv f_0.2.2.1),(.int .i64 f_0.2.2.2.1)]),(aG p_1),(sv seq_2)] h (Ar fun v h'=> ∃ψ:AC,∃y:Slc×Bool×Unit,∃a9:List Int,Sub φ ψ∧v=((.tuple [aS,aB]):Sh).val y∧(a9,y.2.1)=r∧Ro.SliceIs (Ro.int .i64) ψ y.1 a9∧St ψ (F) h'):=by
 refine AR mixed Tryz.func146 ?_
 rw [J0]
 unfold Gn
 unfold Cq at hd
 have ax:f_0.2.1.2.1=List.length q:=a6.length
 have j:p_1.1.2.1=List.length s:=a7.length
 have aa:seq_2.2.1=List.length t:=a8.length
 refine AY (vs:= [sv f_0.1,sv f_0.2.1,sv f_0.2.2.1, .int .i64 f_0.2.2.2.1]) s0 fun r1 ch ay=> ?_
 refine AY (vs:= [sv p_1.1,sv p_1.2.1,sv p_1.2.2.1,sv p_1.2.2.2.1,sv p_1.2.2.2.2.1,sv p_1.2.2.2.2.2.1]) ay fun r2 ci ab=> ?_
 refine AA (x:=p_1.1) ab rfl ?_
 obtain ⟨cj,ac,hd⟩:=bS hd
 rw [← j] at ac
 refine AI (DZ ab ac) ?_
 rintro _ ck ⟨u,t4,az,b,rfl,rfl,b0⟩
 refine ⟨t4,rfl,?_⟩
 obtain ⟨b1,b2,hd⟩:=bS hd
 refine AT (fun (y:Int×Bool×Slc×Unit) w_ g=> ∃ψ:AC,∃ad:CY,Sub u ψ∧AU.next ad=g∧St ψ (cO 239 DJ t4 ad::Wq2 r2 p_1::Wq7 r1 f_0::F) w_) (g:=b1) ?_ ?_
 ·refine Be b2 (fun b3 (y:Int×Bool×Slc×Unit) w_ g=> ∃ψ:AC,∃ae:CY,Sub u ψ∧y.1=b3∧ae=g∧St ψ (cO 239 DJ t4 ae::Wq2 r2 p_1::Wq7 r1 f_0::F) w_) ((0:Int),false,((none,0,0):Slc),()) rfl ⟨u,az,(Sub.refl _),rfl,rfl,b0.at2.at2.at2⟩ ?_ ?_
  ·rintro _ z6 cl _ _ ⟨b4,af,c,rfl,rfl,f⟩ e b5 ag ah ai
   try dsimp only at e b5 ag ah
   refine Ai (dT aa ag) ?_
   obtain ⟨b6,a,e⟩:=bS e
   refine AT (fun (y:Bool×Slc×Unit) w_ g=> ∃ψ:AC,∃aj:CY,Sub b4 ψ∧AU.next aj=g∧St ψ (cO 239 DJ t4 aj::Wq2 r2 p_1::Wq7 r1 f_0::F) w_) (g:=b6) ?_ ?_
   ·obtain ⟨b7,b8,a⟩:=bS a
    refine CV a8 b8 (Sub.trans (b.trans c) f.sub) ?_
    refine AA (x:=p_1.1) f.at1 rfl ?_
    refine AA (x:=p_1.2.1) f.at1 rfl ?_
    refine AA (x:=p_1.2.2.1) f.at1 rfl ?_
    refine AA (x:=p_1.2.2.2.1) f.at1 rfl ?_
    refine AA (x:=p_1.2.2.2.2.1) f.at1 rfl ?_
    refine AA (x:=p_1.2.2.2.2.2.1) f.at1 rfl ?_
    obtain ⟨cm,b9,a⟩:=bS a
    refine AI (EZ (p_0:=(p_1.1,p_1.2.1,p_1.2.2.1,p_1.2.2.2.1,p_1.2.2.2.2.1,p_1.2.2.2.2.2.1,())) (a7.mono (b.trans c)) (aq.mono (b.trans c)) (ar.mono (b.trans c)) (au.mono (b.trans c)) (av.mono (b.trans c)) (aw.mono (b.trans c)) f b9) ?_
    rintro _ cn ⟨w,t16,d,rfl,rfl,k⟩
    refine ⟨t16,rfl,?_⟩
    refine AL a rfl (fun _ a=> ?_) (fun _ a=> ?_)
    ·obtain ⟨co,ba,a⟩:=bS a
     refine AI (CD k ba) ?_
     rintro _ cp ⟨cq,t17,cr,ak,rfl,rfl,bb⟩
     refine ⟨t17,rfl,?_⟩
     try dsimp only at a
     obtain ⟨cs,bc,a⟩:=bS a
     refine AI (LY (gk.mono (((b.trans c).trans d).trans ak)) bb bc) ?_
     rintro _ ct ⟨bd,t18,be,bf,rfl,rfl,bg,bh⟩
     refine ⟨t18,rfl,?_⟩
     obtain rfl:=iS a
     try dsimp only at e
     obtain rfl:=iS e
     obtain rfl:=ai _ rfl
     try dsimp only at hd
     obtain rfl:=iS hd
     exact Ah (Af (Ah (AB ⟨bd,(t18,false,()),be,((((b.trans c).trans d).trans ak).trans bf),rfl,rfl,bg,bh.tail.tail.tail⟩)))
    refine AA (x:=p_1.1) k.at1 rfl ?_
    obtain ⟨bi,l,a⟩:=bS a
    refine Ao (fun (y:Bool×Unit) w_ g=> ∃ψ:AC,Sub w ψ∧y.1=g∧St ψ (cO 239 DJ t4 af::Wq2 r2 p_1::Wq7 r1 f_0::F) w_) (g:=bi) ?_ ?_
    ·refine AL l (by rw [j] <;>rfl) (fun _ l=> ?_) (fun _ l=> ?_)
     ·have bj:=k.at2
      obtain rfl:=iS l
      exact AS (true,()) rfl ⟨w,(Sub.refl _),rfl,bj.at2.at2⟩
     refine AA (x:=f_0.2.1) k.at2 rfl ?_
     have bk:=k.at2.at2.at2
     obtain rfl:=iS l
     exact AS ((decide ((IntKind.wrap .i64 (b7 - ((p_1.1.2.1:Nat):Int))) ≥ ((f_0.2.1.2.1:Nat):Int))),()) rfl ⟨w,(Sub.refl _),(by rw [j,ax]),bk⟩
    rintro z20 cu ⟨bl,i,rfl,m⟩
    try dsimp only at a
    refine AL a rfl (fun _ a=> ?_) (fun _ a=> ?_)
    ·have bm:=m.at2
     obtain rfl:=iS a
     exact AK (z6.2.1,(z6.2.2.1.1,z6.2.2.1.2.1,z6.2.2.1.2.2),()) rfl ⟨bl,af,(d.trans i),rfl,bm.at2.at2⟩
    refine AA (x:=p_1.1) m.at1 rfl ?_
    refine AA (x:=f_0.2.1) m.at2 rfl ?_
    obtain ⟨cv,al,a⟩:=bS a
    rw [← j] at al
    refine OG a6 al (Sub.trans (((b.trans c).trans d).trans i) m.sub) fun cw bn=> ?_
    obtain ⟨cx,am,a⟩:=bS a
    rw [← j] at am
    refine AI (D2 (bn.mono (((b.trans c).trans d).trans i)) m am) ?_
    rintro _ cy ⟨cz,t26,d0,n,rfl,rfl,bo⟩
    refine ⟨t26,rfl,?_⟩
    obtain ⟨d1,bp,a⟩:=bS a
    refine AI (Qb (gk.mono ((((b.trans c).trans d).trans i).trans n)) bo.at1 bp) ?_
    rintro _ d2 ⟨bq,t27,br,o,rfl,rfl,p⟩
    refine ⟨t27,rfl,?_⟩
    try dsimp only at a
    refine AA (x:=f_0.1) p.at3 rfl ?_
    obtain ⟨d3,an,a⟩:=bS a
    rw [← j] at an
    refine CV ap an (Sub.trans (((((b.trans c).trans d).trans i).trans n).trans o) p.sub) ?_
    refine AL a rfl (fun _ a=> ?_) (fun _ a=> ?_)
    ·obtain ⟨d4,bs,a⟩:=bS a
     refine AI (LY (gk.mono (((((b.trans c).trans d).trans i).trans n).trans o)) p bs) ?_
     rintro _ d5 ⟨bt,t31,bu,bv,rfl,rfl,bw,bx⟩
     refine ⟨t31,rfl,?_⟩
     obtain rfl:=iS a
     try dsimp only at e
     obtain rfl:=iS e
     obtain rfl:=ai _ rfl
     try dsimp only at hd
     obtain rfl:=iS hd
     exact Ah (Af (Ah (AB ⟨bt,(t31,false,()),bu,((((((b.trans c).trans d).trans i).trans n).trans o).trans bv),rfl,rfl,bw,bx.tail.tail.tail.tail⟩)))
    obtain rfl:=iS a
    exact LQ (z6.2.1,(z6.2.2.1.1,z6.2.2.1.2.1,z6.2.2.1.2.2),()) rfl ⟨bq,br,(((d.trans i).trans n).trans o),rfl,p.at1.tail.at2.at2.at2⟩
   rintro z7 d6 ⟨bz,c0,c1,rfl,c2⟩
   try dsimp only at e
   obtain rfl:=iS e
   exact Ag ((wN z6.1),z7.1,(z7.2.1.1,z7.2.1.2.1,z7.2.1.2.2),()) _ rfl rfl ⟨bz,c0,(c.trans c1),ah,rfl,c2.at2.at2.at2⟩
  ·rintro _ z6 d7 _ ⟨c3,c4,c5,rfl,rfl,c6⟩ c7 c8
   subst c8
   refine AX (dF aa c7) ?_
   exact AJ (AK (z6.1,z6.2.1,(z6.2.2.1.1,z6.2.2.1.2.1,z6.2.2.1.2.2),()) rfl ⟨c3,c4,c5,rfl,c6.at2.at2.at2⟩)
 rintro z5 d8 ⟨d9,da,ao,rfl,c9⟩
 try dsimp only at hd
 obtain ⟨db,ca,hd⟩:=bS hd
 refine AI (LY (gk.mono (b.trans ao)) c9 ca) ?_
 rintro _ dc ⟨cb,t32,cc,cd,rfl,rfl,ce,cf⟩
 refine ⟨t32,rfl,?_⟩
 obtain rfl:=iS hd
 exact AB ⟨cb,(t32,true,()),cc,((b.trans ao).trans cd),rfl,rfl,ce,cf.tail.tail.tail⟩
noncomputable def Ba (l_0:Lu) (state_1:Int) (rule_2:Int):Option Bool:=
 (cond (decide (rule_2< (0:Int)))
 (some true)
 (some (decide (rule_2≥ (((List.length l_0.2.2.1):Nat):Int))))).bind fun z1=>
 cond z1
 (some false)
 ((idx l_0.2.2.1 rule_2).bind fun e89=>
  (B1 l_0.2.2.2.2.2.2.1 state_1).bind fun t10=>
  (Ak t10 (rule_2,(((List.length e89.2.1):Nat):Int))).bind fun t11=>
  some t11)
theorem Dv {φ:AC} {h:AH} {F:List Chk} {l_0:Option Addr} {i:Lu} {state_1:Int} {rule_2:Int} (j:Pt Q6 φ l_0 i) (s0:St φ (F) h) {r:Bool} (hd:Ba i state_1 rule_2=some r):
 CallsH Tryz.prog 71 [(.pointer l_0),(.int .i64 state_1),(.int .i64 rule_2)] h (Ar fun v h'=> ∃ψ:AC,∃y:Bool,Sub φ ψ∧v=((.one aB):Sh).val y∧y=r∧St ψ (F) h'):=by
 refine AR mixed Tryz.func71 ?_
 rw [J2]
 unfold Gq
 unfold Ba at hd
 obtain ⟨p,b,hd⟩:=bS hd
 refine Ao (fun (y:Bool×Unit) w_ g=> ∃ψ:AC,Sub φ ψ∧y.1=g∧St ψ (F) w_) (g:=p) ?_ ?_
 ·refine AL b rfl (fun _ b=> ?_) (fun _ b=> ?_)
  ·obtain rfl:=iS b
   exact AS (true,()) rfl ⟨φ,(Sub.refl _),rfl,s0⟩
  obtain ⟨ai,aj,q,⟨_,_,rfl,⟨ak,rfl,al⟩,_,_,rfl,⟨am,rfl,an⟩,_,_,rfl,⟨k,rfl,s⟩,_,_,rfl,⟨ao,rfl,ap⟩,_,_,rfl,⟨aq,rfl,ar⟩,_,_,rfl,⟨au,rfl,av⟩,_,_,rfl,⟨aw,rfl,ax⟩,_,_,rfl,⟨ay,rfl,az⟩,_,_,rfl,⟨b0,rfl,b1⟩,_,_,rfl,⟨b2,rfl,b3⟩,_,_,rfl,rfl,_,_,rfl,⟨b4,rfl,b5⟩,_,_,rfl,rfl,rfl⟩,t⟩:=id j
  have u:=s.length
  refine AF _ q ?_
  refine AG (x:=k) (AE s0.sub (t.at 2 rfl)) rfl ?_
  obtain rfl:=iS b
  exact AS ((decide (rule_2≥ ((k.2.1:Nat):Int))),()) rfl ⟨φ,(Sub.refl _),(by rw [u]),s0⟩
 rintro z1 b6 ⟨w,a,rfl,c⟩
 try dsimp only at hd
 refine AL hd rfl (fun _ hd=> ?_) (fun _ hd=> ?_)
 ·obtain rfl:=iS hd
  exact AB ⟨w,false,a,rfl,rfl,c⟩
 obtain ⟨b7,b8,l,⟨_,_,rfl,⟨b9,rfl,ba⟩,_,_,rfl,⟨bb,rfl,bc⟩,_,_,rfl,⟨z,rfl,a0⟩,_,_,rfl,⟨bd,rfl,be⟩,_,_,rfl,⟨bf,rfl,bg⟩,_,_,rfl,⟨bh,rfl,bi⟩,_,_,rfl,⟨a1,rfl,a2⟩,_,_,rfl,⟨bj,rfl,bk⟩,_,_,rfl,⟨bl,rfl,bm⟩,_,_,rfl,⟨bn,rfl,bo⟩,_,_,rfl,rfl,_,_,rfl,⟨bp,rfl,bq⟩,_,_,rfl,rfl,rfl⟩,d⟩:=id j
 refine AF _ l ?_
 refine AG (x:=a1) (AE (Sub.trans a c.sub) (d.at 6 rfl)) rfl ?_
 refine AF _ l ?_
 refine AG (x:=z) (AE (Sub.trans a c.sub) (d.at 2 rfl)) rfl ?_
 obtain ⟨br,a3,hd⟩:=bS hd
 obtain ⟨bs,bt,a4,a5,a6,m⟩:=(a0.mono a).get a3
 refine AF _ a4 (Aa a5 ?_)
 obtain ⟨_,_,rfl,a7,a8⟩:=a6
 obtain rfl:=a7
 obtain ⟨_,_,rfl,a9,aa⟩:=a8
 obtain ⟨n,rfl,ab⟩:=a9
 have ac:=ab.length
 obtain rfl:=aa
 refine AG (x:=n) (by rw [Ae]; exact (AE c.sub (m 1 _ rfl))) rfl ?_
 obtain ⟨bu,ad,hd⟩:=bS hd
 refine AI (Er (a2.mono a) c ad) ?_
 rintro _ bv ⟨bw,t10,bx,e,rfl,rfl,ae,f⟩
 refine ⟨t10,rfl,?_⟩
 refine AO (by rw [Ae]; exact (AE (Sub.trans e f.sub) (m 1 _ rfl))) ?_
 refine AO (AE (Sub.trans (a.trans e) f.sub) (d.at 2 rfl)) ?_
 obtain ⟨bz,o,hd⟩:=bS hd
 rw [← ac] at o
 refine AI (DH (v_1:=(rule_2,((n.2.1:Nat):Int),())) ae f o) ?_
 rintro _ c0 ⟨af,t11,ag,rfl,rfl,ah⟩
 refine ⟨t11,rfl,?_⟩
 obtain rfl:=iS hd
 exact AB ⟨af,t11,((a.trans e).trans ag),rfl,rfl,ah⟩
noncomputable def Cr (l_0:Lu) (state_1:Int):Option (List Int):=
 (B1 l_0.2.2.2.2.2.2.1 state_1).bind fun t3=>
 (forS (σ:=List Int) (0:Int) (((List.length t3):Nat):Int) ([] :List Int) fun i_z5 z5=>
  (idx t3 i_z5).bind fun e73=>
  (idx l_0.2.2.1 e73.1).bind fun e90=>
  (cond (e73.2==(((List.length e90.2.1):Nat):Int))
  ((app z5 ([e73.1] :List Int)).bind fun t19=>
   some t19)
  (some z5)).bind fun z16=>
  some z16).bind fun z4=>
 some z4
theorem J6 {φ:AC} {h:AH} {F:List Chk} {l_0:Option Addr} {m:Lu} {state_1:Int} (a4:Pt Q6 φ l_0 m) (s0:St φ (F) h) {r:(List Int)} (hd:Cr m state_1=some r):
 CallsH Tryz.prog 22 [(.pointer l_0),(.int .i64 state_1)] h (Ar fun v h'=> ∃ψ:AC,∃y:Slc,∃n:List Int,Sub φ ψ∧v=((.one aS):Sh).val y∧n=r∧Ro.SliceIs (Ro.int .i64) ψ y n∧St ψ (F) h'):=by
 refine AR mixed Tryz.func22 ?_
 rw [J3]
 unfold Gs
 unfold Cr at hd
 obtain ⟨bm,bn,o,⟨_,_,rfl,⟨bo,rfl,bp⟩,_,_,rfl,⟨bq,rfl,br⟩,_,_,rfl,⟨a5,rfl,a6⟩,_,_,rfl,⟨bs,rfl,bt⟩,_,_,rfl,⟨bu,rfl,bv⟩,_,_,rfl,⟨bw,rfl,bx⟩,_,_,rfl,⟨a7,rfl,a8⟩,_,_,rfl,⟨bz,rfl,c0⟩,_,_,rfl,⟨c1,rfl,c2⟩,_,_,rfl,⟨c3,rfl,c4⟩,_,_,rfl,rfl,_,_,rfl,⟨c5,rfl,c6⟩,_,_,rfl,rfl,rfl⟩,p⟩:=id a4
 refine AF _ o ?_
 refine AG (x:=a7) (AE s0.sub (p.at 6 rfl)) rfl ?_
 obtain ⟨c7,a9,hd⟩:=bS hd
 refine AI (Er a8 s0 a9) ?_
 rintro _ c8 ⟨i,t3,c9,j,rfl,rfl,q,aa⟩
 refine ⟨t3,rfl,?_⟩
 have s:=q.length
 obtain ⟨ab,ac,hd⟩:=bS hd
 refine AT (fun (y:Int×Slc×Unit) w_ g=> ∃ψ:AC,∃u:List Int,Sub i ψ∧u=g∧St ψ (cR 3 (Ro.int .i64) y.2.1 u::F) w_) (g:=ab) ?_ ?_
 ·refine BJ ac (fun ad (y:Int×Slc×Unit) w_ g=> ∃ψ:AC,∃w:List Int,Sub i ψ∧y.1=ad∧w=g∧St ψ (cR 3 (Ro.int .i64) y.2.1 w::F) w_) ((0:Int),((none,0,0):Slc),()) rfl ⟨i,([] :List Int),(Sub.refl _),rfl,rfl,(aa.nil 3 (Ro.int .i64))⟩ ?_ ?_
  ·rintro _ z5 ca _ _ ⟨k,ae,f,rfl,rfl,l⟩ b af z a0
   try dsimp only at b af z a0
   refine Ai (dT s z) ?_
   obtain ⟨c,ag,b⟩:=bS b
   obtain ⟨cb,cc,ah,ai,aj,a1⟩:=(q.mono f).get ag
   refine AF _ ah (Aa ai ?_)
   obtain ⟨_,_,rfl,ak,al⟩:=aj
   obtain rfl:=ak
   obtain rfl:=al
   refine AG (x:=c.1) (AE l.sub (a1 0 _ rfl)) rfl ?_
   refine AG (x:=c.2) (by rw [Ae]; exact (AE l.sub (a1 1 _ rfl))) rfl ?_
   refine AY (vs:= [.int .i64 (0:Int), .int .i64 (0:Int)]) l fun r9 cd am=> ?_
   refine AQ am rfl rfl fun ce an=> ?_
   refine AQ an rfl rfl fun cf d=> ?_
   refine AA (x:=c.2) d rfl ?_
   refine AF _ o ?_
   refine AG (x:=a5) (AE (Sub.trans (j.trans f) d.sub) (p.at 2 rfl)) rfl ?_
   refine AA (x:=c.1) d rfl ?_
   obtain ⟨cg,ao,b⟩:=bS b
   obtain ⟨ch,ci,ap,aq,ar,au⟩:=(a6.mono (j.trans f)).get ao
   refine AF _ ap (Aa aq ?_)
   obtain ⟨_,_,rfl,av,aw⟩:=ar
   obtain rfl:=av
   obtain ⟨_,_,rfl,ax,ay⟩:=aw
   obtain ⟨az,rfl,b0⟩:=ax
   have b1:=b0.length
   obtain rfl:=ay
   refine AG (x:=az) (by rw [Ae]; exact (AE d.sub (au 1 _ rfl))) rfl ?_
   obtain ⟨b2,e,b⟩:=bS b
   refine Ao (fun (y:Slc×Unit) w_ g=> ∃ψ:AC,∃a2:List Int,Sub k ψ∧a2=g∧St ψ (cR 3 (Ro.int .i64) y.1 a2::cW 70 r9 [.int .i64 c.1, .int .i64 c.2] ::F) w_) (g:=b2) ?_ ?_
   ·refine AL e (by rw [b1] <;>rfl) (fun _ e=> ?_) (fun _ e=> ?_)
    ·refine AA (x:=c.1) d rfl ?_
     refine AY (vs:= [.int .i64 c.1]) d fun r18 cj a3=> ?_
     obtain ⟨b3,b4,e⟩:=bS e
     refine Aj (r:=(Ro.int .i64)) (ms:=([c.1] :List Int)) ED a3.tail.at1 rfl (St.cells a3) (.cons (a:= [_]) rfl .nil) rfl b4 ?_
     intro t19 ck b5
     obtain rfl:=iS e
     exact AS (t19,()) rfl ⟨k,b3,(Sub.refl _),rfl,b5.at1.at1⟩
    obtain rfl:=iS e
    exact AS (z5.2.1,()) rfl ⟨k,ae,(Sub.refl _),rfl,d.at1.at1.at1⟩
   rintro z16 cl ⟨b6,b7,b8,rfl,b9⟩
   try dsimp only at b
   obtain rfl:=iS b
   exact Ag ((wN z5.1),z16.1,()) _ rfl rfl ⟨b6,b7,(f.trans b8),a0,rfl,b9.at1.tail⟩
  ·rintro _ z5 cm ⟨ba,bb,bc,rfl,rfl,bd⟩ be
   refine AX (dF s be) ?_
   exact AJ (AK (z5.1,z5.2.1,()) rfl ⟨ba,bb,bc,rfl,bd⟩)
 rintro z4 cn ⟨co,bf,bg,rfl,bh⟩
 try dsimp only at hd
 obtain ⟨bi,bj,bk,bl⟩:=St.freezeRow (t:=z4.2.1) bh
 obtain rfl:=iS hd
 exact AB ⟨bi,z4.2.1,bf,((j.trans bg).trans bj),rfl,rfl,bk,bl⟩
noncomputable def Cs (l_0:Lu) (state_1:Int) (rule_2:Int):Option (List Ek):=
 (Ba l_0 state_1 rule_2).bind fun t1=>
 cond (!t1)
 (some ([] :List Ek))
 ((idx l_0.2.2.1 rule_2).bind fun e53=>
  (BF l_0.2.2.2.2.2.2.1).bind fun t11=>
  (forS (σ:=List Ek) (0:Int) t11 ([] :List Ek) fun i_z13 z13=>
   (BT l_0.2.2.2.2.2.2.1 i_z13 e53.1).bind fun t17=>
   (cond (decide (t17≥ (0:Int)))
   ((Bq l_0.2.2.2.2.2.2.1 i_z13 e53.2.1).bind fun t22=>
    some (t22==state_1))
   (some false)).bind fun z18=>
   (cond z18
   ((app z13 ([(e53.1,t17)] :List Ek)).bind fun t26=>
    some t26)
   (some z13)).bind fun z23=>
   some z23).bind fun z12=>
  some z12)
theorem J7 {φ:AC} {h:AH} {F:List Chk} {l_0:Option Addr} {a2:Lu} {state_1:Int} {rule_2:Int} (a3:Pt Q6 φ l_0 a2) (s0:St φ (F) h) {r:(List Ek)} (hd:Cs a2 state_1 rule_2=some r):
 CallsH Tryz.prog 27 [(.pointer l_0),(.int .i64 state_1),(.int .i64 rule_2)] h (Ar fun v h'=> ∃ψ:AC,∃y:Slc,∃a4:List Ek,Sub φ ψ∧v=((.one aS):Sh).val y∧a4=r∧Ro.SliceIs Fq ψ y a4∧St ψ (F) h'):=by
 refine AR mixed Tryz.func27 ?_
 rw [J4]
 unfold Gt
 unfold Cs at hd
 obtain ⟨bt,af,hd⟩:=bS hd
 refine AI (Dv a3 s0 af) ?_
 rintro _ bu ⟨a5,t1,c,rfl,rfl,i⟩
 refine ⟨t1,rfl,?_⟩
 refine AL hd rfl (fun _ hd=> ?_) (fun _ hd=> ?_)
 ·obtain rfl:=iS hd
  exact AB ⟨a5,((none,0,0):Slc),([] :List Ek),c,rfl,rfl,(Ro.SliceIs.nil Fq a5),i⟩
 obtain ⟨bv,bw,m,⟨_,_,rfl,⟨bx,rfl,bz⟩,_,_,rfl,⟨c0,rfl,c1⟩,_,_,rfl,⟨ag,rfl,ah⟩,_,_,rfl,⟨c2,rfl,c3⟩,_,_,rfl,⟨c4,rfl,c5⟩,_,_,rfl,⟨c6,rfl,c7⟩,_,_,rfl,⟨q,rfl,s⟩,_,_,rfl,⟨c8,rfl,c9⟩,_,_,rfl,⟨ca,rfl,cb⟩,_,_,rfl,⟨cc,rfl,cd⟩,_,_,rfl,rfl,_,_,rfl,⟨ce,rfl,cf⟩,_,_,rfl,rfl,rfl⟩,n⟩:=id a3
 refine AF _ m ?_
 refine AG (x:=ag) (AE (Sub.trans c i.sub) (n.at 2 rfl)) rfl ?_
 obtain ⟨b,ai,hd⟩:=bS hd
 obtain ⟨cg,ch,aj,ak,al,u⟩:=(ah.mono c).get ai
 refine AF _ aj (Aa ak ?_)
 obtain ⟨_,_,rfl,am,an⟩:=al
 obtain rfl:=am
 obtain ⟨_,_,rfl,ao,ap⟩:=an
 obtain ⟨j,rfl,aq⟩:=ao
 obtain rfl:=ap
 refine AG (x:=b.1) (AE i.sub (u 0 _ rfl)) rfl ?_
 refine AG (x:=j) (by rw [Ae]; exact (AE i.sub (u 1 _ rfl))) rfl ?_
 refine AG (x:=b.2.2) (by rw [Ae]; exact (AE i.sub (u 2 _ rfl))) rfl ?_
 refine AY (vs:= [.int .i64 (0:Int), .slice none 0 0, .int .i64 (0:Int)]) i fun r8 ci ar=> ?_
 refine AQ ar rfl rfl fun cj au=> ?_
 refine AQ au rfl rfl fun ck av=> ?_
 refine AQ av rfl rfl fun cl a6=> ?_
 refine AF _ m ?_
 refine AG (x:=q) (AE (Sub.trans c a6.sub) (n.at 6 rfl)) rfl ?_
 obtain ⟨cm,aw,hd⟩:=bS hd
 refine AI (Bj (s.mono c) a6 aw) ?_
 rintro _ cn ⟨w,t11,k,rfl,rfl,ax⟩
 refine ⟨t11,rfl,?_⟩
 obtain ⟨ay,az,hd⟩:=bS hd
 refine AT (fun (y:Int×Slc×Unit) w_ g=> ∃ψ:AC,∃a7:List Ek,Sub w ψ∧a7=g∧St ψ (cR 73 Fq y.2.1 a7::cW 65 r8 [.int .i64 b.1,sv j, .int .i64 b.2.2] ::F) w_) (g:=ay) ?_ ?_
 ·refine BJ az (fun b0 (y:Int×Slc×Unit) w_ g=> ∃ψ:AC,∃a8:List Ek,Sub w ψ∧y.1=b0∧a8=g∧St ψ (cR 73 Fq y.2.1 a8::cW 65 r8 [.int .i64 b.1,sv j, .int .i64 b.2.2] ::F) w_) ((0:Int),((none,0,0):Slc),()) rfl ⟨w,([] :List Ek),(Sub.refl _),rfl,rfl,(((ax.nil 73 Fq).at1).at1)⟩ ?_ ?_
  ·rintro _ z13 co _ _ ⟨cp,a9,l,rfl,rfl,z⟩ d b1 aa ab
   try dsimp only at d b1 aa ab
   refine Ai (by exact decide_eq_true aa) ?_
   refine AF _ m ?_
   refine AG (x:=q) (AE (Sub.trans ((c.trans k).trans l) z.sub) (n.at 6 rfl)) rfl ?_
   refine AA (x:=b.1) z.at1 rfl ?_
   obtain ⟨cq,b2,d⟩:=bS d
   refine AI (C9 (s.mono ((c.trans k).trans l)) z b2) ?_
   rintro _ cr ⟨ac,t17,o,rfl,rfl,p⟩
   refine ⟨t17,rfl,?_⟩
   obtain ⟨b3,e,d⟩:=bS d
   refine Ao (fun (y:Bool×Unit) w_ g=> ∃ψ:AC,Sub ac ψ∧y.1=g∧St ψ (cR 73 Fq z13.2.1 a9::cW 65 r8 [.int .i64 b.1,sv j, .int .i64 b.2.2] ::F) w_) (g:=b3) ?_ ?_
   ·refine AL e rfl (fun _ e=> ?_) (fun _ e=> ?_)
    ·refine AF _ m ?_
     refine AG (x:=q) (AE (Sub.trans (((c.trans k).trans l).trans o) p.sub) (n.at 6 rfl)) rfl ?_
     refine AA (x:=j) p.at1 rfl ?_
     obtain ⟨cs,b4,e⟩:=bS e
     refine AI (Db (s.mono (((c.trans k).trans l).trans o)) (aq.mono ((k.trans l).trans o)) p b4) ?_
     rintro _ ct ⟨b5,t22,b6,rfl,rfl,b7⟩
     refine ⟨t22,rfl,?_⟩
     obtain rfl:=iS e
     exact AS ((t22==state_1),()) rfl ⟨b5,b6,rfl,b7.at1.at1⟩
    obtain rfl:=iS e
    exact AS (false,()) rfl ⟨ac,(Sub.refl _),rfl,p.at1.at1⟩
   rintro z18 cu ⟨a0,b8,rfl,a1⟩
   try dsimp only at d
   obtain ⟨b9,f,d⟩:=bS d
   refine Ao (fun (y:Slc×Unit) w_ g=> ∃ψ:AC,∃ad:List Ek,Sub a0 ψ∧ad=g∧St ψ (cR 73 Fq y.1 ad::cW 65 r8 [.int .i64 b.1,sv j, .int .i64 b.2.2] ::F) w_) (g:=b9) ?_ ?_
   ·refine AL f rfl (fun _ f=> ?_) (fun _ f=> ?_)
    ·refine AA (x:=b.1) a1.at1 rfl ?_
     refine AY (vs:= [.int .i64 b.1, .int .i64 t17]) a1 fun r25 cv ae=> ?_
     obtain ⟨ba,bb,f⟩:=bS f
     refine Aj (r:=Fq) (ms:=([(b.1,t17)] :List Ek)) Qu ae.tail rfl (St.cells ae) (.cons (a:= [_,_]) ⟨[_],_,rfl,rfl,rfl⟩ .nil) rfl bb ?_
     intro t26 cw bc
     obtain rfl:=iS f
     exact AS (t26,()) rfl ⟨a0,ba,(Sub.refl _),rfl,bc.at1.at1⟩
    obtain rfl:=iS f
    exact AS (z13.2.1,()) rfl ⟨a0,a9,(Sub.refl _),rfl,a1.at1.at1⟩
   rintro z23 cx ⟨bd,be,bf,rfl,bg⟩
   try dsimp only at d
   obtain rfl:=iS d
   exact Ag ((wN z13.1),z23.1,()) _ rfl rfl ⟨bd,be,(((l.trans o).trans b8).trans bf),ab,rfl,bg.at1.at1⟩
  ·rintro _ z13 cy ⟨bh,bi,bj,rfl,rfl,bk⟩ bl
   refine AX (by exact decide_eq_false (Int.not_lt.2 bl)) ?_
   exact AJ (AK (z13.1,z13.2.1,()) rfl ⟨bh,bi,bj,rfl,bk.at1.at1⟩)
 rintro z12 cz ⟨d0,bm,bn,rfl,bo⟩
 try dsimp only at hd
 obtain ⟨bp,bq,br,bs⟩:=St.freezeRow (t:=z12.2.1) bo
 obtain rfl:=iS hd
 exact AB ⟨bp,z12.2.1,bm,(((c.trans k).trans bn).trans bq),rfl,rfl,br,bs.tail⟩
end Go.Proofs.YteolcjbobmpdiaaGreatDoor
namespace Go.Proofs.YteolcjbobmpdiaaGreatDoor
open Go Go.Eng Dg
set_option linter.unusedVariables false
set_option maxRecDepth 100000
abbrev Stp:Type:=Sr
noncomputable def NO {σ:Type} (p:dtP) (A:dtA) (f:σ→Stp→Int→Option σ) (s:σ):Option σ:=
 (BF A).bind fun n=>forS 0 n s fun i s=>
  (BK A i).bind fun es=>forS 0 ((es.length:Nat):Int) s fun j s=>
   (idx es j).bind fun e=>(BZ p e.1).bind fun t=>cond (!t) (f s (i,e.1) e.2) (some s)
abbrev EnS:Type:=List Stp×List (Stp×Int)
def JR (st:EnS) (s:Stp) (_:Int):Option EnS:=(app st.1 [s]).bind fun l=>some (l,Bt s ((st.1.length:Nat):Int) st.2)
noncomputable def VE (l_0:Option Addr) (g:Nat) (args:Int→Int→Int→List Value):T:=
 deref l_0 fun a1=>
 T.load .pointer (a1.add 6) fun (t2:Option Addr)=>
 T.call 20 [(.pointer t2)] (.one aI) fun (t3:Int)=>
 T.block 0 [aI]
 (T.loop [aI] [(.int .i64 (0:Int))] fun (z5:Int×Unit)=>
 cond (decide (z5.1<t3))
 (deref l_0 fun a6=>
 T.load .pointer (a6.add 6) fun (t7:Option Addr)=>
 T.call 34 [(.pointer t7),(.int .i64 z5.1)] (.one aS) fun (t8:Slc)=>
 T.block 2 [aI]
 (T.loop [aI] [(.int .i64 (0:Int))] fun (z10:Int×Unit)=>
 cond (decide (z10.1< ((t8.2.1:Nat):Int)))
 (deref t8.1 fun a11=>
 chk (0≤z10.1∧z10.1< (t8.2.1:Nat)) <|
 T.load (.int .i64) (a11.add (Int.toNat z10.1 * 2)) fun (t12:Int)=>
 T.load (.int .i64) ((a11.add (Int.toNat z10.1 * 2)).add 1) fun (t13:Int)=>
 T.new (.cells #[(.int .i64 (0:Int)),(.int .i64 (0:Int))] 73 (0,0)) fun r14=>
 T.store ⟨r14,0,none⟩ (.int .i64 t12) <|
 T.store ⟨r14,1,none⟩ (.int .i64 t13) <|
 deref l_0 fun a15=>
 T.load .slice a15 fun (t16:Slc)=>
 T.load .slice (a15.add 1) fun (t17:Slc)=>
 T.load .slice (a15.add 2) fun (t18:Slc)=>
 T.load .slice (a15.add 3) fun (t19:Slc)=>
 T.load .slice (a15.add 4) fun (t20:Slc)=>
 T.load .slice (a15.add 5) fun (t21:Slc)=>
 T.load (.int .i64) ⟨r14,0,none⟩ fun (t22:Int)=>
 T.call 86 [(.agg #[(sv t16),(sv t17),(sv t18),(sv t19),(sv t20),(sv t21)]),(.int .i64 t22)] (.one aB) fun (t23:Bool)=>
 T.join []
 (cond (!t23)
 (T.load (.int .i64) ⟨r14,0,none⟩ fun (t25:Int)=>
 T.load (.int .i64) ⟨r14,1,none⟩ fun (t26:Int)=>
 T.call g (args z5.1 t25 t26) (.tuple []) fun (_:Unit)=>
 T.out [])
 (T.out [])) fun (_:Unit)=>
 T.out [(.int .i64 (IntKind.wrap .i64 (z10.1+(1:Int))))])
 (T.brk 2 [(.int .i64 z10.1)])) fun (_:Int×Unit)=>
 T.out [(.int .i64 (IntKind.wrap .i64 (z5.1+(1:Int))))])
 (T.brk 0 [(.int .i64 z5.1)])) fun (_:Int×Unit)=>
 T.ret (.tuple #[])
section
variable {φ ψ:AC} {h:AH} {F:List Chk} {a:Addr} {t:Slc×Slc×Slc×Slc×Slc×Slc×Unit} {p:dtP} {ap:Option Addr} {A:dtA}
theorem Pi {K:Bool→T} {P:Bi→AH→Prop} {b:Nat} {v:Value} {s:Int} (cells: ∀j v,(plV t)[j]? =some v→BH h (a.add j)=some v) (hs:BH h ⟨b,0,none⟩=some (.int .i64 s)) (k:PlK φ t p) (st:St φ F h) {r:Bool} (hd:BZ p s=some r)
 (hk: ∀ψ h',Sub φ ψ→St ψ F h'→(K r).wp Tryz.prog P h'):
 (T.load .slice a fun (t6:Slc)=>T.load .slice (a.add 1) fun (t7:Slc)=>T.load .slice (a.add 2) fun (t8:Slc)=>T.load .slice (a.add 3) fun (t9:Slc)=>T.load .slice (a.add 4) fun (t10:Slc)=>T.load .slice (a.add 5) fun (t11:Slc)=>
  T.load (.int .i64) ⟨b,0,none⟩ fun (t22:Int)=>
  T.call 86 [(.agg #[(sv t6),(sv t7),(sv t8),(sv t9),(sv t10),(sv t11)]),(.int .i64 t22)] (.one aB) K).wp Tryz.prog P h:=by
 refine AG (x:=t.1) (by have:=cells 0 _ rfl; rwa [add_zero] at this) rfl ?_
 refine AG (x:=t.2.1) (cells 1 _ rfl) rfl ?_
 refine AG (x:=t.2.2.1) (cells 2 _ rfl) rfl ?_
 refine AG (x:=t.2.2.2.1) (cells 3 _ rfl) rfl ?_
 refine AG (x:=t.2.2.2.2.1) (cells 4 _ rfl) rfl ?_
 refine AG (x:=t.2.2.2.2.2.1) (cells 5 _ rfl) rfl ?_
 refine AG (x:=s) hs rfl ?_
 refine AI (EZ (p_0:=t) k.k0 k.k1 k.k2 k.k3 k.k4 k.k5 st hd) ?_
 rintro _ h1 ⟨ψ,y,le,rfl,rfl,s1⟩
 exact ⟨y,rfl,hk ψ h1 le s1⟩
set_option maxHeartbeats 2000000 in
theorem RT {X σ:Type} (Γ:X→List Chk) (al:X→σ) (f:σ→Stp→Int→Option σ) (g:Nat) (args:Int→Int→Int→List Value)
 (hcells: ∀ψ x w Δ,Sub φ ψ→St ψ (Γ x++Δ) w→ ∀j v,(plV t++ [.pointer ap])[j]? =some v→BH w (a.add j)=some v)
 (hcall: ∀ψ w x s' n s to Δ,Sub φ ψ→St ψ (Γ x++Δ) w→f (al x) (n,s) to=some s'→CallsH Tryz.prog g (args n s to) w (Ar fun v h'=>v= .tuple #[] ∧ ∃ψ' x',Sub ψ ψ'∧al x'=s'∧St ψ' (Γ x'++Δ) h'))
 (kA:Pt FC φ ap A) (kP:PlK φ t p) {x:X} {s':σ} (hd:NO p A f (al x)=some s') (s0:St φ (Γ x++F) h):
 (VE (some a) g args).wp Tryz.prog (MQ (Ar fun v h'=>v= .tuple #[] ∧ ∃ψ x',Sub φ ψ∧al x'=s'∧St ψ (Γ x'++F) h')) h:=by
 unfold VE
 unfold NO at hd
 obtain ⟨n,hn,hd⟩:=bS hd
 have pc: ∀ {ψ x w Δ},Sub φ ψ→St ψ (Γ x++Δ) w→ ∀j v,(plV t)[j]? =some v→BH w (a.add j)=some v:=fun {ψ x w Δ} le st j v hv=>hcells ψ x w Δ le st j v (by rw [List.getElem?_append_left (List.getElem?_eq_some_iff.1 hv).1]; exact hv)
 refine AF _ rfl ?_
 refine AG (x:=ap) (hcells _ _ _ _ (Sub.refl _) s0 6 _ rfl) rfl ?_
 refine AI (Bj kA s0 hn) ?_
 rintro _ h1 ⟨ψ1,y,le1,rfl,rfl,st1⟩
 refine ⟨y,rfl,?_⟩
 refine AT (fun (z:Int×Unit) w g=> ∃ψ x',Sub φ ψ∧al x'=g∧St ψ (Γ x'++F) w) (g:=s') ?_ ?_
 ·refine BJ hd (fun i (z:Int×Unit) w g=>z.1=i∧ ∃ψ x',Sub φ ψ∧al x'=g∧St ψ (Γ x'++F) w) ((0:Int),()) rfl ⟨rfl,ψ1,x,le1,rfl,st1⟩ ?_ ?_
  ·rintro i z w s e ⟨rfl,ψ,x1,le,rfl,st⟩ he h0 hlt hw
   refine Ai (decide_eq_true hlt) ?_
   obtain ⟨es,hes,he⟩:=bS he
   refine AF _ rfl ?_
   refine AG (x:=ap) (hcells _ _ _ _ le st 6 _ rfl) rfl ?_
   refine AI (CB (kA.mono le) st hes) ?_
   rintro _ h2 ⟨ψ2,t8,l2,le2,rfl,rfl,k8,st2⟩
   refine ⟨t8,rfl,?_⟩
   have n8:=k8.length
   refine AT (fun (z:Int×Unit) w g=> ∃ψ x',Sub φ ψ∧al x'=g∧St ψ (Γ x'++F) w) (g:=e) ?_ ?_
   ·refine BJ he (fun i (z:Int×Unit) w g=>z.1=i∧ ∃ψ' x',Sub ψ2 ψ'∧al x'=g∧St ψ' (Γ x'++F) w) ((0:Int),()) rfl ⟨rfl,ψ2,x1,Sub.refl _,rfl,st2⟩ ?_ ?_
    ·rintro i2 z2 w2 s2 e2 ⟨rfl,ψ3,x3,le3,rfl,st3⟩ he2 h02 hlt2 hw2
     have le03:=(le.trans le2).trans le3
     refine Ai (by rw [n8]; exact decide_eq_true hlt2) ?_
     obtain ⟨ed,hed,he2⟩:=bS he2
     obtain ⟨tm,htm,he2⟩:=bS he2
     obtain ⟨A1,cs1,ea1,hi1,q1,cl1⟩:=(k8.mono le3).get hed
     refine AF _ ea1 (Aa hi1 ?_)
     obtain ⟨_,_,rfl,q2,q3⟩:=q1
     obtain rfl:=q2
     obtain rfl:=q3
     refine AG (x:=ed.1) (AE st3.sub (cl1 0 _ rfl)) rfl ?_
     refine AG (x:=ed.2) (by rw [Ae]; exact AE st3.sub (cl1 1 _ rfl)) rfl ?_
     refine AY (vs:= [.int .i64 0, .int .i64 0]) st3 ?_
     intro r14 h3 st4
     refine CP (b:=r14) (j:=0) (v:= .int .i64 ed.1) st4 rfl (by simp) ?_
     intro h4 st5
     refine CP (b:=r14) (j:=1) (v:= .int .i64 ed.2) st5 rfl (by simp) ?_
     intro h5 st6
     have st7:St ψ3 (Γ x3++(⟨Rep.raw 73, [.pointer (some ⟨r14,0,none⟩)], [.int .i64 ed.1, .int .i64 ed.2]⟩::F)) h5:=st6.perm (List.perm_middle (l₁:=Γ x3)).symm
     refine AF _ rfl (Pi (v:= .nilFunc) (pc le03 st7) (st6.cell rfl) (kP.mono le03) st7 htm ?_)
     intro ψ4 h6 le4 st8
     refine Ao (fun (_:Unit) w g=> ∃ψ' x',Sub ψ2 ψ'∧al x'=g∧St ψ' (Γ x'++F) w) (g:=e2) ?_ ?_
     ·refine AL he2 rfl (fun _ he2=> ?_) (fun _ he2=> ?_)
      ·have st9:St ψ4 (⟨Rep.raw 73, [.pointer (some ⟨r14,0,none⟩)], [.int .i64 ed.1, .int .i64 ed.2]⟩::(Γ x3++F)) h6:=st8.perm (List.perm_middle (l₁:=Γ x3))
       refine AA (b:=r14) (j:=0) (x:=ed.1) st9 rfl ?_
       refine AA (b:=r14) (j:=1) (x:=ed.2) st9 rfl ?_
       refine AI (hcall ψ4 h6 x3 e2 z.1 ed.1 ed.2 _ (le03.trans le4) st8 he2) ?_
       rintro _ h7 ⟨rfl,ψ5,x5,le5,hx5,st10⟩
       refine ⟨(),rfl,?_⟩
       have st11:St ψ5 (⟨Rep.raw 73, [.pointer (some ⟨r14,0,none⟩)], [.int .i64 ed.1, .int .i64 ed.2]⟩::(Γ x5++F)) h7:=st10.perm (List.perm_middle (l₁:=Γ x5))
       exact AS () rfl ⟨ψ5,x5,(le3.trans le4).trans le5,hx5,st11.tail⟩
      ·obtain rfl:=iS he2
       have st9:St ψ4 (⟨Rep.raw 73, [.pointer (some ⟨r14,0,none⟩)], [.int .i64 ed.1, .int .i64 ed.2]⟩::(Γ x3++F)) h6:=st8.perm (List.perm_middle (l₁:=Γ x3))
       exact AS () rfl ⟨ψ4,x3,le3.trans le4,rfl,st9.tail⟩
     ·rintro _ h7 H
      exact Ag (IntKind.wrap .i64 (z2.1+(1:Int)),()) _ rfl rfl ⟨hw2,H⟩
    ·rintro i2 z2 w2 ⟨rfl,ψ3,x3,le3,H⟩ hge
     refine AX (by rw [n8]; exact decide_eq_false (Int.not_lt.2 hge)) ?_
     exact AJ (AK z2 rfl ⟨ψ3,x3,(le.trans le2).trans le3,H⟩)
   ·rintro _ h7 H
    exact Ag (IntKind.wrap .i64 (z.1+(1:Int)),()) _ rfl rfl ⟨hw,H⟩
  ·rintro i z w ⟨rfl,H⟩ hge
   refine AX (decide_eq_false (Int.not_lt.2 hge)) ?_
   exact AJ (AK z rfl H)
 ·rintro _ h7 H
  exact AB ⟨rfl,H⟩
end
theorem Oe:OD Tryz.prog 224:=⟨_,_,Tryz.underlying224,by kernel_rfl,by decide,by decide,rfl,rfl,Tryz.underlying3,Tryz.underlying3⟩
theorem Pj:OD Tryz.prog 141:=⟨_,_,Tryz.underlying141,by kernel_rfl,by decide,by decide,rfl,rfl,Tryz.underlying3,Tryz.underlying3⟩
theorem VF:G5 Tryz.prog 134 134 224 2:=⟨Tryz.underlying134, .inl Tryz.underlying134,⟨Tryz.t224,by kernel_rfl,rfl,⟨_,rfl,rfl⟩,by decide,by decide⟩,by decide⟩
abbrev lkV (t:Slc×Slc×Slc×Slc×Slc×Slc×Unit) (ap:Option Addr) (fz:Slc×Slc×Slc×Int×Unit) (sl:Slc) (nm lm:Nat):List Value:=
 plV t++ [.pointer ap,sv fz.1,sv fz.2.1,sv fz.2.2.1, .int .i64 fz.2.2.2.1,sv sl, .map (some nm), .map (some lm)]
abbrev lkB (b:Nat) (t:Slc×Slc×Slc×Slc×Slc×Slc×Unit) (ap:Option Addr) (fz:Slc×Slc×Slc×Int×Unit) (sl:Slc) (nm lm:Nat):Chk:=cW 138 b (lkV t ap fz sl nm lm)
structure EnX where
 sl:Slc
 steps:List Stp
 num:List (Stp×Int)
abbrev enC (b:Nat) (t:Slc×Slc×Slc×Slc×Slc×Slc×Unit) (ap:Option Addr) (fz:Slc×Slc×Slc×Int×Unit) (nm lm:Nat) (x:EnX):List Chk:=
 [lkB b t ap fz x.sl nm lm,cR 224 O7 x.sl x.steps,cM Cj (Ro.int .i64) nm x.num]
section
variable {φ ψ:AC} {h:AH} {F:List Chk} {t:Slc×Slc×Slc×Slc×Slc×Slc×Unit} {p:dtP} {ap:Option Addr} {A:dtA} {fz:Slc×Slc×Slc×Int×Unit} {nm lm b:Nat}
theorem SP {x:EnX} {n s to:Int} {r:EnS} (hd:JR (x.steps,x.num) (n,s) to=some r) (s0:St φ (enC b t ap fz nm lm x++F) h):
 CallsH Tryz.prog 108 [.pointer (some ⟨b,0,none⟩), .agg #[.int .i64 n, .int .i64 s], .int .i64 to] h (Ar fun v h'=>v= .tuple #[] ∧ ∃ψ x',Sub φ ψ∧(x'.steps,x'.num)=r∧St ψ (enC b t ap fz nm lm x'++F) h'):=by
 refine AR mixed Tryz.func108 ?_
 rw [show Ab Tryz.prog Tryz.f108 [.pointer (some ⟨b,0,none⟩), .agg #[.int .i64 n, .int .i64 s], .int .i64 to] =EH (some ⟨b,0,none⟩) (n,s,()) to from JO (some ⟨b,0,none⟩) (n,s,()) to]
 unfold EH
 unfold JR at hd
 obtain ⟨l,hl,hd⟩:=bS hd
 obtain rfl:=iS hd
 have hlen:=(s0.at1).rowLen
 refine AY (vs:= [.int .i64 n, .int .i64 s]) s0 ?_
 intro r1 h1 s1
 refine AF _ rfl ?_
 refine AA (b:=b) (j:=12) (x:=some nm) s1.at1 rfl ?_
 refine AA (b:=r1) (j:=0) (x:=n) s1 rfl ?_
 refine AA (b:=r1) (j:=1) (x:=s) s1 rfl ?_
 refine AF _ rfl ?_
 refine AA (b:=b) (j:=11) (x:=x.sl) s1.at1 rfl ?_
 refine Ip (kk:=Cj) (k:=(n,s)) (y:=((x.steps.length:Nat):Int)) Tryz.underlying135 Oe (s1.at3) (by rw [← hlen]; rfl) ?_
 intro h2 s2
 refine AF _ rfl ?_
 refine AA (b:=b) (j:=11) (x:=x.sl) (s2.at2) rfl ?_
 refine AA (b:=r1) (j:=0) (x:=n) (s2.at1) rfl ?_
 refine AA (b:=r1) (j:=1) (x:=s) (s2.at1) rfl ?_
 refine AY (vs:= [.int .i64 n, .int .i64 s]) s2 ?_
 intro r13 h3 s3
 refine AO (s3.at3.cell (b:=b) (j:=11) rfl) ?_
 have cw:=St.cells s3
 refine Aj (r:=O7) (ms:= [(n,s)]) VF (s3.at4) rfl cw (.cons (a:= [_,_]) ⟨[_],_,rfl,rfl,rfl⟩ .nil) rfl hl ?_
 intro t14 h4 s4
 refine AF _ rfl ?_
 refine CP (b:=b) (j:=11) (v:=sv t14) (s4.at4) rfl (by simp) ?_
 intro h5 s5
 refine AB ⟨rfl,φ,⟨t14,l,Bt (n,s) ((x.steps.length:Nat):Int) x.num⟩,Sub.refl _,rfl,s5.at2.tail.at3.tail⟩
theorem WR (l k:Option Addr):GO l k=VE l 108 fun n s to=> [.pointer k, .agg #[.int .i64 n, .int .i64 s], .int .i64 to] :=rfl
theorem T9 (kA:Pt FC φ ap A) (kP:PlK φ t p) {x:EnX} {s':EnS} (hd:NO p A JR (x.steps,x.num)=some s') (s0:St φ (enC b t ap fz nm lm x++F) h):
 CallsH Tryz.prog 107 [.pointer (some ⟨b,0,none⟩), .func (.func 108) #[.pointer (some ⟨b,0,none⟩)] #[]] h (Ar fun v h'=>v= .tuple #[] ∧ ∃ψ x',Sub φ ψ∧(x'.steps,x'.num)=s'∧St ψ (enC b t ap fz nm lm x'++F) h'):=by
 refine AR mixed Tryz.func107 ?_
 rw [JM,WR]
 refine RT (φ:=φ) (F:=F) (A:=A) (ap:=ap) (t:=t) (p:=p) (fun x:EnX=>enC b t ap fz nm lm x) (fun x=>(x.steps,x.num)) JR _ _ ?_ ?_ kA kP hd s0
 ·intro ψ x w Δ le st j v hv
  have hc:(lkV t ap fz x.sl nm lm)[j]? =some v:=by
   have e:lkV t ap fz x.sl nm lm=(plV t++ [.pointer ap]) ++ [sv fz.1,sv fz.2.1,sv fz.2.2.1, .int .i64 fz.2.2.2.1,sv x.sl, .map (some nm), .map (some lm)] :=rfl
   rw [e,List.getElem?_append_left (List.getElem?_eq_some_iff.1 hv).1]
   exact hv
  rw [Dp,Nat.zero_add]
  exact St.cell st hc
 ·intro ψ w x s' n s to Δ le st hf
  exact SP hf st
end
abbrev XA:Type:=Lu
abbrev lkT (p:dtP) (A:dtA) (fa:dtF) (steps:List Stp) (nm lm:Option Nat):XA:=(p.1,p.2.1,p.2.2.1,p.2.2.2.1,p.2.2.2.2.1,p.2.2.2.2.2,A,fa.1,fa.2.1,fa.2.2.1,fa.2.2.2,steps,nm,lm)
structure LkK (φ:AC) (a:Addr) (t:Slc×Slc×Slc×Slc×Slc×Slc×Unit) (ap:Option Addr) (fz:Slc×Slc×Slc×Int×Unit) (sl:Slc) (nm lm:Nat) (p:dtP) (A:dtA) (fa:dtF) (steps:List Stp):Prop where
 cells:Cy φ (some a) (lkV t ap fz sl nm lm)
 pl:PlK φ t p
 kA:Pt FC φ ap A
 f0:Ro.SliceIs Ro.bool φ fz.1 fa.1
 f1:Ro.SliceIs (Ro.list (Ro.int .i64)) φ fz.2.1 fa.2.1
 f2:Ro.SliceIs (Ro.list (Ro.int .i64)) φ fz.2.2.1 fa.2.2.1
 f3:fz.2.2.2.1=fa.2.2.2
 ks:Ro.SliceIs O7 φ sl steps
section
variable {φ ψ:AC} {h:AH} {F:List Chk} {a:Addr} {t:Slc×Slc×Slc×Slc×Slc×Slc×Unit} {p:dtP} {ap:Option Addr} {A:dtA} {fz:Slc×Slc×Slc×Int×Unit} {sl:Slc} {nm lm b:Nat} {fa:dtF} {steps:List Stp}
theorem LkK.mono (H:LkK φ a t ap fz sl nm lm p A fa steps) (hs:Sub φ ψ):LkK ψ a t ap fz sl nm lm p A fa steps:=
 ⟨H.cells.mono hs,H.pl.mono hs,H.kA.mono hs,H.f0.mono hs,H.f1.mono hs,H.f2.mono hs,H.f3,H.ks.mono hs⟩
theorem LkK.at (H:LkK φ a t ap fz sl nm lm p A fa steps) (st:St φ F h) {j:Nat} {v:Value} (hv:(lkV t ap fz sl nm lm)[j]? =some v):BH h (a.add j)=some v:=AE st.sub (H.cells.at j hv)
theorem LkK.pv (H:LkK φ a t ap fz sl nm lm p A fa steps) (st:St φ F h): ∀j v,(plV t)[j]? =some v→BH h (a.add j)=some v:=fun j v hv=>H.at st (by
 rw [List.getElem?_append_left (List.getElem?_eq_some_iff.1 hv).1]; exact hv)
theorem LkK.pt (H:LkK φ a t ap fz sl nm lm p A fa steps):Pt Q6 φ (some a) (lkT p A fa steps (some nm) (some lm)):=by
 refine ⟨a,_,rfl,?_,H.cells⟩
 exact ⟨[_],_,rfl,⟨t.1,rfl,H.pl.k0⟩, [_],_,rfl,⟨t.2.1,rfl,H.pl.k1⟩, [_],_,rfl,⟨t.2.2.1,rfl,H.pl.k2⟩, [_],_,rfl,⟨t.2.2.2.1,rfl,H.pl.k3⟩, [_],_,rfl,⟨t.2.2.2.2.1,rfl,H.pl.k4⟩, [_],_,rfl,⟨t.2.2.2.2.2.1,rfl,H.pl.k5⟩, [_],_,rfl,⟨ap,rfl,H.kA⟩,
  [_],_,rfl,⟨fz.1,rfl,H.f0⟩, [_],_,rfl,⟨fz.2.1,rfl,H.f1⟩, [_],_,rfl,⟨fz.2.2.1,rfl,H.f2⟩, [_],_,rfl,(show [Value.int .i64 fz.2.2.2.1] = [Value.int .i64 fa.2.2.2] by rw [H.f3]), [_],_,rfl,⟨sl,rfl,H.ks⟩, [_],_,rfl,rfl,rfl⟩
end
abbrev RdS:Type:=List AW×List (List Int)
noncomputable def M2 (p:dtP) (A:dtA) (fa:dtF) (steps:List Stp) (num:List (Stp×Int)) (st:RdS) (s:Stp) (to:Int):Option RdS:=
 (Bo (nT p)).bind fun s0=>
 (Ba (lkT p A fa steps none none) to 0).bind fun b=>
 (cond b ((Aq s0 0).bind fun u=>some u.2) (some s0)).bind fun s1=>
 (BK A to).bind fun es=>
 (forS (σ:=AW×List Int) 0 ((es.length:Nat):Int) (s1, []) fun j z=>(idx es j).bind fun e=>(BZ p e.1).bind fun t=>
  cond t ((Aq z.1 e.1).bind fun u=>some (u.2,z.2))
   ((idx fa.1 (IntKind.wrap .i64 (e.1 - nT p))).bind fun b=>cond b ((app z.2 [(BL (to,e.1) num).getD 0]).bind fun l=>some (z.1,l)) (some z))).bind fun z=>
 (app st.1 [z.1]).bind fun d'=>(app st.2 [z.2]).bind fun e'=>some (d',e')
structure RdX where
 dl:Slc
 el:Slc
 ps:List (Option Addr)
 ds:List AW
 es:List (List Int)
 eq:ps.length=ds.length
abbrev rdC (c3 c4 nm:Nat) (num:List (Stp×Int)) (x:RdX):List Chk:=
 cW 195 c3 [sv x.dl] ::cW 97 c4 [sv x.el] ::EO x.dl x.ps::Qa x.el x.es::cM Cj (Ro.int .i64) nm num::AP x.ps x.ds
theorem UA:G5 Tryz.prog 30 30 3 1:=S7
section
variable {φ ψ:AC} {h:AH} {F:List Chk} {a:Addr} {t:Slc×Slc×Slc×Slc×Slc×Slc×Unit} {p:dtP} {ap:Option Addr} {A:dtA} {fz:Slc×Slc×Slc×Int×Unit} {sl:Slc} {nm lm b:Nat} {fa:dtF} {steps:List Stp}
theorem Of {c3 c4:Nat} {num:List (Stp×Int)} {x:RdX} {q:Option Addr} {s:AW} {d e:Slc} {es:List (List Int)}
 (H:St φ (cW 97 c4 [sv e] ::cW 195 c3 [sv d] ::Qa e es::EO d (x.ps++ [q])::BR q s::cM Cj (Ro.int .i64) nm num::(AP x.ps x.ds++F)) h):
 St φ (rdC c3 c4 nm num ⟨d,e,x.ps++ [q],x.ds++ [s],es,by simp [x.eq]⟩ ++F) h:=by
 have e1:AP (x.ps++ [q]) (x.ds++ [s])=AP x.ps x.ds++ [BR q s] :=Jc x.eq q s
 show St φ (cW 195 c3 [sv d] ::cW 97 c4 [sv e] ::EO d (x.ps++ [q])::Qa e es::cM Cj (Ro.int .i64) nm num::(AP (x.ps++ [q]) (x.ds++ [s]) ++F)) h
 rw [e1,List.append_assoc]
 refine H.perm ?_
 refine (List.Perm.swap _ _ _).trans (List.Perm.cons _ (List.Perm.cons _ ((List.Perm.swap _ _ _).trans (List.Perm.cons _ (List.Perm.cons _ ((List.Perm.swap _ _ _).trans (List.Perm.cons _ ?_)))))))
 exact (List.perm_middle (l₁:=AP x.ps x.ds)).symm
set_option maxHeartbeats 4000000 in
theorem Qv {c2 c3 c4:Nat} (K:LkK φ a t ap fz sl nm lm p A fa steps) (hbox:DS φ ⟨c2,0,none⟩=some (.pointer (some a))) {num:List (Stp×Int)} {x:RdX} {n s to:Int} {r:RdS} (hd:M2 p A fa steps num (x.ds,x.es) (n,s) to=some r) (s0:St φ (rdC c3 c4 nm num x++F) h):
 CallsH Tryz.prog 137 [.agg #[.int .i64 n, .int .i64 s], .int .i64 to, .pointer (some ⟨c2,0,none⟩), .pointer (some ⟨c3,0,none⟩), .pointer (some ⟨c4,0,none⟩)] h (Ar fun v h'=>v= .tuple #[] ∧ ∃ψ x',Sub φ ψ∧(x'.ds,x'.es)=r∧St ψ (rdC c3 c4 nm num x'++F) h'):=by
 refine AR mixed Tryz.func137 ?_
 rw [show Ab Tryz.prog Tryz.f137 [.agg #[.int .i64 n, .int .i64 s], .int .i64 to, .pointer (some ⟨c2,0,none⟩), .pointer (some ⟨c3,0,none⟩), .pointer (some ⟨c4,0,none⟩)] =De (n,s,()) to c2 c3 c4 from Hv (n,s,()) to c2 c3 c4]
 unfold De
 unfold M2 at hd
 obtain ⟨s00,hs0,hd⟩:=bS hd
 obtain ⟨b,hb,hd⟩:=bS hd
 obtain ⟨s01,hs1,hd⟩:=bS hd
 obtain ⟨es,hes,hd⟩:=bS hd
 obtain ⟨zz,hzz,hd⟩:=bS hd
 obtain ⟨d',hd',hd⟩:=bS hd
 obtain ⟨e',he',hd⟩:=bS hd
 obtain rfl:=iS hd
 have bx: ∀ {ψ:AC} {Γ:List Chk} {w:AH},Sub φ ψ→St ψ Γ w→BH w ⟨c2,0,none⟩=some (.pointer (some a)):=fun le st=>AE st.sub (Am le hbox)
 have n0:t.1.2.1=p.1.length:=K.pl.k0.length
 refine AY (vs:= [.int .i64 n, .int .i64 s]) s0 ?_
 intro r1 h1 s1
 have s1:=s1.tail
 refine AG (x:=some a) (bx (Sub.refl _) s1) rfl ?_
 refine AF _ rfl ?_
 refine AG (x:=t.1) (by have:=K.at s1 (j:=0) rfl; rwa [add_zero] at this) rfl ?_
 rw [n0]
 refine AI (DZ s1 hs0) ?_
 rintro _ h2 ⟨ψ2,q,l2,le2,rfl,rfl,s2⟩
 refine ⟨q,rfl,?_⟩
 refine AG (x:=some a) (bx le2 s2) rfl ?_
 refine AI (Dv (K.mono le2).pt s2 (show Ba (lkT p A fa steps (some nm) (some lm)) to 0=some b from hb)) ?_
 rintro _ h3 ⟨ψ3,y3,le3,rfl,rfl,s3⟩
 refine ⟨y3,rfl,?_⟩
 have le03:=le2.trans le3
 refine Ao (fun (_:Unit) w g=> ∃ψ,Sub φ ψ∧St ψ (BR q g::(rdC c3 c4 nm num x++F)) w) (g:=s01) ?_ ?_
 ·refine AL hs1 rfl (fun _ hs1=> ?_) (fun _ hs1=> ?_)
  ·obtain ⟨u,hu,hs1⟩:=bS hs1
   obtain rfl:=iS hs1
   refine AI (CD s3 hu) ?_
   rintro _ h4 ⟨ψ4,y4,l4,le4,rfl,e4,s4⟩
   refine ⟨y4,rfl,?_⟩
   have:u.2=l4:=by rw [← e4]
   rw [this]
   exact AS () rfl ⟨ψ4,le03.trans le4,s4⟩
  ·obtain rfl:=iS hs1
   exact AS () rfl ⟨ψ3,le03,s3⟩
 ·rintro _ h4 ⟨ψ4,le4,s4⟩
  refine AG (x:=some a) (bx le4 s4) rfl ?_
  refine AF _ rfl ?_
  refine AG (x:=ap) ((K.mono le4).at s4 (j:=6) rfl) rfl ?_
  refine AI (CB (K.mono le4).kA s4 hes) ?_
  rintro _ h5 ⟨ψ5,t13,l5,le5,rfl,rfl,k13,s5⟩
  refine ⟨t13,rfl,?_⟩
  have n13:=k13.length
  have le05:=le4.trans le5
  refine AT (fun (z:Int×Slc×Unit) w g=> ∃ψ,Sub φ ψ∧St ψ (cR 3 (Ro.int .i64) z.2.1 g.2::BR q g.1::(rdC c3 c4 nm num x++F)) w) (g:=zz) ?_ ?_
  ·refine BJ hzz (fun i (z:Int×Slc×Unit) w g=>z.1=i∧ ∃ψ,Sub ψ5 ψ∧St ψ (cR 3 (Ro.int .i64) z.2.1 g.2::BR q g.1::(rdC c3 c4 nm num x++F)) w) ((0:Int),((none,0,0):Slc),()) rfl ⟨rfl,ψ5,Sub.refl _,St.nil _ _ s5⟩ ?_ ?_
   ·rintro i z w ⟨gs,gl⟩ e ⟨rfl,ψ6,le6,s6⟩ he h0 hlt hw
    dsimp only at s6 he
    have le06:=le05.trans le6
    refine Ai (by rw [n13]; exact decide_eq_true hlt) ?_
    obtain ⟨ed,hed,he⟩:=bS he
    obtain ⟨tm,htm,he⟩:=bS he
    obtain ⟨A1,cs1,ea1,hi1,q1,cl1⟩:=(k13.mono le6).get hed
    refine AF _ ea1 (Aa hi1 ?_)
    obtain ⟨_,_,rfl,q2,q3⟩:=q1
    obtain rfl:=q2
    obtain rfl:=q3
    refine AG (x:=ed.1) (AE s6.sub (cl1 0 _ rfl)) rfl ?_
    refine AG (x:=ed.2) (by rw [Ae]; exact AE s6.sub (cl1 1 _ rfl)) rfl ?_
    refine AY (vs:= [.int .i64 0, .int .i64 0]) s6 ?_
    intro r19 h7 s7
    refine CP (b:=r19) (j:=0) (v:= .int .i64 ed.1) s7 rfl (by simp) ?_
    intro h8 s8
    refine CP (b:=r19) (j:=1) (v:= .int .i64 ed.2) s8 rfl (by simp) ?_
    intro h9 s9
    refine AG (x:=some a) (bx le06 s9) rfl ?_
    refine AF _ rfl (Pi (v:= .nilFunc) ((K.mono le06).pv s9) (s9.cell rfl) (K.mono le06).pl s9 htm ?_)
    intro ψ10 h10 le10 s10
    have le010:=le06.trans le10
    refine Ao (fun (y:Slc×Unit) w g=> ∃ψ,Sub ψ5 ψ∧St ψ (cR 3 (Ro.int .i64) y.1 g.2::BR q g.1::(rdC c3 c4 nm num x++F)) w) (g:=e) ?_ ?_
    ·refine AL he rfl (fun _ he=> ?_) (fun _ he=> ?_)
     ·obtain ⟨u,hu,he⟩:=bS he
      obtain rfl:=iS he
      refine AA (b:=r19) (j:=0) (x:=ed.1) s10 rfl ?_
      refine AI (CD (s10.tail.at1) hu) ?_
      rintro _ h11 ⟨ψ11,y11,l11,le11,rfl,e11,s11⟩
      refine ⟨y11,rfl,?_⟩
      have:u.2=l11:=by rw [← e11]
      rw [this]
      exact AS (z.2.1,()) rfl ⟨ψ11,(le6.trans le10).trans le11,s11.at1⟩
     ·obtain ⟨bb,hbb,he⟩:=bS he
      refine AG (x:=some a) (bx le010 s10) rfl ?_
      refine AF _ rfl ?_
      refine AG (x:=fz.1) ((K.mono le010).at s10 (j:=7) rfl) rfl ?_
      refine AA (b:=r19) (j:=0) (x:=ed.1) s10 rfl ?_
      refine AG (x:=some a) (bx le010 s10) rfl ?_
      refine AF _ rfl ?_
      refine AG (x:=t.1) (by have:=(K.mono le010).at s10 (j:=0) rfl; rwa [add_zero] at this) rfl ?_
      rw [n0]
      obtain ⟨A2,cs2,ea2,hi2,q4,cl2⟩:=((K.mono le010).f0).get hbb
      refine AF _ ea2 (Aa hi2 ?_)
      obtain rfl:=q4
      refine AG (x:=bb) (AE s10.sub (cl2 0 _ rfl)) rfl ?_
      refine Ao (fun (y:Slc×Unit) w g=> ∃ψ,Sub ψ5 ψ∧St ψ (cR 3 (Ro.int .i64) y.1 g.2::BR q g.1::(rdC c3 c4 nm num x++F)) w) (g:=e) ?_ ?_
      ·refine AL he rfl (fun _ he=> ?_) (fun _ he=> ?_)
       ·obtain ⟨l',hl',he⟩:=bS he
        obtain rfl:=iS he
        refine AG (x:=some a) (bx le010 s10) rfl ?_
        refine AF _ rfl ?_
        refine AG (x:=some nm) ((K.mono le010).at s10 (j:=12) rfl) rfl ?_
        refine AA (b:=r19) (j:=0) (x:=ed.1) s10 rfl ?_
        refine Fy (kk:=Cj) (a:= .int .i64) (k:=(to,ed.1)) (m:=num) (0:Int) Tryz.underlying135 Oe (i:=Tryz.t3) (by kernel_rfl) rfl (s10.at7) ?_
        refine AY (vs:= [.int .i64 ((BL (to,ed.1) num).getD 0)]) s10 ?_
        intro r48 h11 s11
        have cw:=St.cells s11
        refine Aj (r:=Ro.int .i64) (ms:= [(BL (to,ed.1) num).getD 0]) UA (s11.at2) rfl cw (.cons (a:= [_]) rfl .nil) rfl hl' ?_
        intro t49 h12 s12
        exact AS (t49,()) rfl ⟨ψ10,le6.trans le10,s12.at1.tail.at1.tail⟩
       ·obtain rfl:=iS he
        exact AS (z.2.1,()) rfl ⟨ψ10,le6.trans le10,s10.tail⟩
      ·rintro y h11 H
       exact AS (y.1,()) rfl H
    ·rintro y h11 H
     exact Ag (IntKind.wrap .i64 (z.1+(1:Int)),y.1,()) _ rfl rfl ⟨hw,H⟩
   ·rintro i z w ⟨rfl,ψ6,le6,H⟩ hge
    refine AX (by rw [n13]; exact decide_eq_false (Int.not_lt.2 hge)) ?_
    exact AJ (AK z rfl ⟨ψ6,le05.trans le6,H⟩)
  ·rintro z14 h6 ⟨ψ6,le6,s6⟩
   obtain ⟨ψ7,le7,k14,s7⟩:=St.freezeRow (t:=z14.2.1) s6
   have le07:=le6.trans le7
   obtain ⟨hap,rfl⟩:=K9 hd' x.eq q
   refine AA (b:=c3) (j:=0) (x:=x.dl) s7.at1 rfl ?_
   refine AA (b:=c4) (j:=0) (x:=x.el) s7.at2 rfl ?_
   refine FZ ?_ ?_
   ·refine AY (vs:= [.pointer q]) s7 ?_
    intro r52 h8 s8
    refine AO (s8.at3.cell rfl) ?_
    refine AO (s8.at2.cell rfl) ?_
    have cw:=St.cells s8
    refine FZ ?_ ?_
    ·refine Aj (r:=Ro.pt) (ms:= [q]) Nh (s8.at4) rfl cw (.cons (a:= [_]) rfl .nil) rfl hap ?_
     intro t53 h9 s9
     refine AO (s9.at4.cell rfl) ?_
     refine AY (vs:= [sv z14.2.1]) s9 ?_
     intro r54 h10 s10
     refine AO (s10.at5.cell rfl) ?_
     have cw2:=St.cells s10
     refine Aj (r:=Ro.list (Ro.int .i64)) (ms:= [zz.2]) RE (s10.at6) rfl cw2 (.cons (a:= [_]) ⟨z14.2.1,rfl,k14⟩ .nil) rfl he' ?_
     intro t55 h11 s11
     refine CP (b:=c3) (j:=0) (v:=sv t53) (s11.at5) rfl (by simp) ?_
     intro h12 s12
     refine CP (b:=c4) (j:=0) (v:=sv t55) (s12.at6) rfl (by simp) ?_
     intro h13 s13
     exact AB ⟨rfl,ψ7,⟨t53,t55,x.ps++ [q],x.ds++ [zz.1],e',by simp [x.eq]⟩,le07,rfl,Of s13.at3.tail.at4.tail⟩
    ·refine AY (vs:= [sv z14.2.1]) s8 ?_
     intro r56 h9 s9
     refine AO (s9.at4.cell rfl) ?_
     refine AO (s9.at3.cell rfl) ?_
     have cw1:=St.cells s9.at1
     refine Aj (r:=Ro.pt) (ms:= [q]) Nh (s9.at5) rfl cw1 (.cons (a:= [_]) rfl .nil) rfl hap ?_
     intro t57 h10 s10
     refine AO (s10.at5.cell rfl) ?_
     have cw2:=St.cells s10.at1
     refine Aj (r:=Ro.list (Ro.int .i64)) (ms:= [zz.2]) RE (s10.at6) rfl cw2 (.cons (a:= [_]) ⟨z14.2.1,rfl,k14⟩ .nil) rfl he' ?_
     intro t58 h11 s11
     refine CP (b:=c3) (j:=0) (v:=sv t57) (s11.at5) rfl (by simp) ?_
     intro h12 s12
     refine CP (b:=c4) (j:=0) (v:=sv t58) (s12.at6) rfl (by simp) ?_
     intro h13 s13
     exact AB ⟨rfl,ψ7,⟨t57,t58,x.ps++ [q],x.ds++ [zz.1],e',by simp [x.eq]⟩,le07,rfl,Of s13.at4.tail.at4.tail⟩
   ·refine AY (vs:= [sv z14.2.1]) s7 ?_
    intro r59 h8 s8
    refine AO (s8.at3.cell rfl) ?_
    refine AO (s8.at2.cell rfl) ?_
    refine AY (vs:= [.pointer q]) s8 ?_
    intro r60 h9 s9
    refine AO (s9.at4.cell rfl) ?_
    refine AO (s9.at3.cell rfl) ?_
    have cw1:=St.cells s9
    refine Aj (r:=Ro.pt) (ms:= [q]) Nh (s9.at5) rfl cw1 (.cons (a:= [_]) rfl .nil) rfl hap ?_
    intro t61 h10 s10
    refine AO (s10.at5.cell rfl) ?_
    have cw2:=St.cells s10.at2
    refine Aj (r:=Ro.list (Ro.int .i64)) (ms:= [zz.2]) RE (s10.at6) rfl cw2 (.cons (a:= [_]) ⟨z14.2.1,rfl,k14⟩ .nil) rfl he' ?_
    intro t62 h11 s11
    refine CP (b:=c3) (j:=0) (v:=sv t61) (s11.at5) rfl (by simp) ?_
    intro h12 s12
    refine CP (b:=c4) (j:=0) (v:=sv t62) (s12.at6) rfl (by simp) ?_
    intro h13 s13
    exact AB ⟨rfl,ψ7,⟨t61,t62,x.ps++ [q],x.ds++ [zz.1],e',by simp [x.eq]⟩,le07,rfl,Of s13.at4.tail.at4.tail⟩
end
noncomputable def Li (p:dtP) (A:dtA) (fa:dtF) (steps:List Stp) (num:List (Stp×Int)):Option RdS:=NO p A (M2 p A fa steps num) ([], [])
noncomputable def UB (p:dtP) (A:dtA) (fa:dtF) (num:List (Stp×Int)) (n:Int) (right:List Int) (i:Int) (z:Int×List (List Int)):Option (Int×List (List Int)):=
 (idx right i).bind fun sym=>
 need (0≤i∧i< ((right.length:Nat):Int)) <|
 (Cq fa p (right.drop (i+1).toNat)).bind fun sq=>
 (cond sq.2 ((BZ p sym).bind fun t=>some (!t)) (some false)).bind fun b=>
 (cond b ((idx z.2 ((BL (z.1,sym) num).getD 0)).bind fun row=>(app row [n]).bind fun row'=>Dq z.2 ((BL (z.1,sym) num).getD 0) row') (some z.2)).bind fun E'=>
 (BT A z.1 sym).bind fun st=>some (st,E')
noncomputable def F0 (p:dtP) (A:dtA) (fa:dtF) (steps:List Stp) (num:List (Stp×Int)):Option (List (List Int)):=
 (FB ((steps.length:Nat):Int) ([] :List Int)).bind fun e0=>
 forS (σ:=List (List Int)) 0 ((steps.length:Nat):Int) e0 fun n E=>(idx steps n).bind fun s=>
  forS (σ:=List (List Int)) 0 ((p.2.2.1.length:Nat):Int) E fun k E=>(idx p.2.2.1 k).bind fun r=>
   cond (r.1 !=s.2) (some E)
    ((forS (σ:=Int×List (List Int)) 0 ((r.2.1.length:Nat):Int) (s.1,E) (UB p A fa num n r.2.1)).bind fun z=>some z.2)
section
variable {φ ψ:AC} {h:AH} {F:List Chk} {a:Addr} {t:Slc×Slc×Slc×Slc×Slc×Slc×Unit} {p:dtP} {ap:Option Addr} {A:dtA} {fz:Slc×Slc×Slc×Int×Unit} {sl:Slc} {nm lm b:Nat} {fa:dtF} {steps:List Stp}
theorem WS (l:Option Addr) (c2 c3 c4:Nat):GP l c2 c3 c4=VE l 137 fun n s to=> [.agg #[.int .i64 n, .int .i64 s], .int .i64 to, .pointer (some ⟨c2,0,none⟩), .pointer (some ⟨c3,0,none⟩), .pointer (some ⟨c4,0,none⟩)] :=rfl
theorem UC {c2 c3 c4:Nat} (K:LkK φ a t ap fz sl nm lm p A fa steps) (hbox:DS φ ⟨c2,0,none⟩=some (.pointer (some a))) {num:List (Stp×Int)} {x:RdX} {r:RdS} (hd:NO p A (M2 p A fa steps num) (x.ds,x.es)=some r) (s0:St φ (rdC c3 c4 nm num x++F) h):
 CallsH Tryz.prog 107 [.pointer (some a), .func (.func 137) #[] #[.pointer (some ⟨c2,0,none⟩), .pointer (some ⟨c3,0,none⟩), .pointer (some ⟨c4,0,none⟩)]] h (Ar fun v h'=>v= .tuple #[] ∧ ∃ψ x',Sub φ ψ∧(x'.ds,x'.es)=r∧St ψ (rdC c3 c4 nm num x'++F) h'):=by
 refine AR mixed Tryz.func107 ?_
 rw [JN,WS]
 refine RT (φ:=φ) (F:=F) (A:=A) (ap:=ap) (t:=t) (p:=p) (fun x:RdX=>rdC c3 c4 nm num x) (fun x=>(x.ds,x.es)) (M2 p A fa steps num) _ _ ?_ ?_ K.kA K.pl hd s0
 ·intro ψ x w Δ le st j v hv
  refine (K.mono le).at st ?_
  have e:lkV t ap fz sl nm lm=(plV t++ [.pointer ap]) ++ [sv fz.1,sv fz.2.1,sv fz.2.2.1, .int .i64 fz.2.2.2.1,sv sl, .map (some nm), .map (some lm)] :=rfl
  rw [e,List.getElem?_append_left (List.getElem?_eq_some_iff.1 hv).1]
  exact hv
 ·intro ψ w x s' n s to Δ le st hf
  exact Qv (K.mono le) (Am le hbox) hf st
theorem SQ (K:LkK φ a t ap fz sl nm lm p A fa steps) {num:List (Stp×Int)} {r:RdS} (hd:Li p A fa steps num=some r) (s0:St φ (cM Cj (Ro.int .i64) nm num::F) h):
 CallsH Tryz.prog 109 [.pointer (some a)] h (Ar fun v h'=> ∃(ψ:AC) (y1 y2:Slc) (ps:List (Option Addr)),Sub φ ψ∧v=((.tuple [aS,aS]):Sh).val (y1,y2,())∧ps.length=r.1.length∧Ro.SliceIs Ro.pt ψ y1 ps∧Ro.SliceIs (Ro.list (Ro.int .i64)) ψ y2 r.2∧St ψ (AP ps r.1++(cM Cj (Ro.int .i64) nm num::F)) h'):=by
 refine AR mixed Tryz.func109 ?_
 rw [JP]
 unfold GQ
 unfold Li at hd
 refine AY (vs:= [.pointer (some a)]) s0 ?_
 intro r1 h1 s1
 obtain ⟨φ1,le1,c1,s1⟩:=Dg.St.box s1
 refine AY (vs:= [.slice none 0 0]) s1 ?_
 intro r2 h2 s2
 refine AY (vs:= [.slice none 0 0]) s2 ?_
 intro r3 h3 s3
 refine AG (x:=some a) (AE s3.sub c1) rfl ?_
 have s4:St φ1 (rdC r2 r3 nm num ⟨(none,0,0),(none,0,0), [], [], [],rfl⟩ ++F) h3:=(St.nil 139 Ro.pt (St.nil 30 (Ro.list (Ro.int .i64)) s3.at1)).at3.at3
 refine AI (UC (K.mono le1) c1 (x:=⟨(none,0,0),(none,0,0), [], [], [],rfl⟩) hd s4) ?_
 rintro _ h4 ⟨rfl,ψ2,x',le2,hx,s5⟩
 refine ⟨(),rfl,?_⟩
 obtain ⟨dl,el,ps,ds,es,eq⟩:=x'
 obtain rfl:=hx
 refine AA (b:=r2) (j:=0) (x:=dl) s5 rfl ?_
 refine AA (b:=r3) (j:=0) (x:=el) s5.at1 rfl ?_
 obtain ⟨ψ3,le3,k1,s6⟩:=St.freezeRow (t:=dl) s5.at2
 obtain ⟨ψ4,le4,k2,s7⟩:=St.freezeRow (t:=el) s6.at2
 exact AB ⟨ψ4,dl,el,ps,((le1.trans le2).trans le3).trans le4,rfl,eq,k1.mono le4,k2,s7.tail.tail.perm (List.perm_middle (l₁:=AP ps ds)).symm⟩
end
theorem Wv:NY Tryz.prog 97 30 (.slice none 0 0):=⟨Tryz.underlying97,⟨Tryz.t30,by kernel_rfl,rfl,⟨_,rfl,rfl⟩,by decide⟩⟩
theorem UD {α:Type} {e:TypeId} {r:Ro α} {φ:AC} {h:AH} {F:List Chk} (st:St φ F h): ∀n:Nat,St φ (NZ e r (List.replicate n ((none,0,0):Slc)) (List.replicate n []) ++F) h:=by
 intro n
 induction n with
 | zero=>exact st
 | succ n ih=>exact St.nil e r ih
theorem UE {α:Type} {r:Ro α} {φ:AC} : ∀ {ts:List Slc} {E:List (List α)} {vs:List Value},ts.length=E.length→(∀(i:Nat) t l,ts[i]? =some t→E[i]? =some l→Ro.SliceIs r φ t l)→Ro.slc.All φ vs ts→(Ro.list r).All φ vs E:=by
 intro ts
 induction ts with
 | nil=>
  intro E vs hl hk H
  cases E with
  | nil=>cases H; exact .nil
  | cons _ _=>cases hl
 | cons t ts ih=>
  intro E vs hl hk H
  cases E with
  | nil=>cases hl
  | cons l E=>
   cases H with
   | @cons x v _ _ hx hr=>
    obtain rfl:x= [sv t] :=hx
    exact Ro.All.cons (a:= [_]) ⟨t,rfl,hk 0 t l rfl rfl⟩ (ih (by simpa using hl) (fun i t' l' h1 h2=>hk (i+1) t' l' (by simpa using h1) (by simpa using h2)) hr)
theorem Qw {α:Type} {r:Ro α} {φ:AC} {o:Slc} {ts:List Slc} {E:List (List α)} (hl:ts.length=E.length) (hk: ∀(i:Nat) t l,ts[i]? =some t→E[i]? =some l→Ro.SliceIs r φ t l) (H:Ro.SliceIs Ro.slc φ o ts):Ro.SliceIs (Ro.list r) φ o E:=by
 obtain ⟨g1,g2,g3,g4,vs,g5,g6⟩:=H
 exact ⟨hl.symm.trans g1,g2,g3,fun hp=>List.eq_nil_of_length_eq_zero (by rw [← hl,g4 hp]; rfl),vs,UE hl hk g5,g6⟩
abbrev ME (o:Slc) (ts:List Slc) (E:List (List Int)) (Δ:List Chk):List Chk:=cR 30 Ro.slc o ts::(NZ 3 (Ro.int .i64) ts E++Δ)
section
variable {φ ψ:AC} {h:AH} {F:List Chk} {a:Addr} {t:Slc×Slc×Slc×Slc×Slc×Slc×Unit} {p:dtP} {ap:Option Addr} {A:dtA} {fz:Slc×Slc×Slc×Int×Unit} {sl:Slc} {nm lm b:Nat} {fa:dtF} {steps:List Stp}
theorem VG {o:Slc} {ts:List Slc} {E E':List (List Int)} {Δ:List Chk} {k n:Int} {row row':List Int} {K:T} {P:Bi→AH→Prop} (hl:ts.length=E.length) (h1:idx E k=some row) (h2:app row [n] =some row') (h3:Dq E k row'=some E') (st:St φ (ME o ts E Δ) h)
 (hk: ∀ts' h',ts'.length=E'.length→St φ (ME o ts' E' Δ) h'→K.wp Tryz.prog P h'):
 (deref o.1 fun a57=>chk (0≤k∧k< (o.2.1:Nat)) <| T.load .slice (a57.add (Int.toNat k * 1)) fun (t58:Slc)=>T.new (.cells #[(.int .i64 n)] 3 (0,0)) fun r59=>
  T.sem (Builtin.append_ #[30,30] 30 #[(sv t58),(.slice (some ⟨r59,0,none⟩) 1 1)]) (.one aS) fun (t60:Slc)=>
  deref o.1 fun a61=>chk (0≤k∧k< (o.2.1:Nat)) <| T.store (a61.add (Int.toNat k * 1)) (sv t60) <| K).wp Tryz.prog P h:=by
 obtain ⟨k0,k1,k2⟩:=Cz h1
 have hlt:k.toNat<ts.length:=by omega
 have hu:=List.getElem?_eq_getElem hlt
 obtain ⟨u,hu'⟩: ∃u,ts[k.toNat] =u:=⟨_,rfl⟩
 rw [hu'] at hu
 have hi:idx ts k=some u:=by rw [JZ k0 hlt,hu']
 obtain ⟨A1,cs1,ea1,hi1,r1,cl1⟩:=St.get st hi
 refine AF _ ea1 (Aa hi1 ?_)
 obtain rfl:=r1
 refine AG (x:=u) (cl1 0 _ rfl) rfl ?_
 refine AY (vs:= [.int .i64 n]) st ?_
 intro r59 h4 s4
 have cw:=St.cells s4
 obtain ⟨rest,p1,p2⟩:=Ry (f:=cR 3 (Ro.int .i64)) hu k2
 have s5:St φ (cR 3 (Ro.int .i64) u row::cW 3 r59 [.int .i64 n] ::cR 30 Ro.slc o ts::(rest++Δ)) h4:=
  s4.perm ((List.Perm.cons _ (List.Perm.cons _ (List.Perm.append_right Δ p1))).trans (Az 2 (cW 3 r59 [.int .i64 n] ::cR 30 Ro.slc o ts::cR 3 (Ro.int .i64) u row::(rest++Δ))))
 refine Aj (r:=Ro.int .i64) (ms:= [n]) UA s5 rfl cw (.cons (a:= [_]) rfl .nil) rfl h2 ?_
 intro t60 h6 s6
 obtain ⟨e0,e1,rfl⟩:=Dh h3
 have hset:Dq ts k t60=some (ts.set k.toNat t60):=by unfold Dq; rw [if_pos ⟨k0,by omega⟩]
 have s7:=s6.at2
 obtain ⟨A2,ea2,q2⟩:=s7.there hset
 refine AF _ ea2 (Aa q2 (ID s7 hset rfl ea2 ?_))
 intro h8 s8
 refine hk (ts.set k.toNat t60) h8 (by simp [hl]) ?_
 have s9:=s8.at2.tail
 exact s9.perm (List.Perm.cons _ (List.Perm.append_right Δ (p2 t60 row').symm))
theorem VH {K:Slc→Slc→Slc→Slc→Slc→Slc→T} {P:Bi→AH→Prop} (hc: ∀j v,(plV t)[j]? =some v→BH h (a.add j)=some v) (H:(K t.1 t.2.1 t.2.2.1 t.2.2.2.1 t.2.2.2.2.1 t.2.2.2.2.2.1).wp Tryz.prog P h):
 (T.load .slice a fun (t3:Slc)=>T.load .slice (a.add 1) fun (t4:Slc)=>T.load .slice (a.add 2) fun (t5:Slc)=>T.load .slice (a.add 3) fun (t6:Slc)=>T.load .slice (a.add 4) fun (t7:Slc)=>T.load .slice (a.add 5) fun (t8:Slc)=>K t3 t4 t5 t6 t7 t8).wp Tryz.prog P h:=by
 refine AG (x:=t.1) (by have:=hc 0 _ rfl; rwa [add_zero] at this) rfl ?_
 refine AG (x:=t.2.1) (hc 1 _ rfl) rfl ?_
 refine AG (x:=t.2.2.1) (hc 2 _ rfl) rfl ?_
 refine AG (x:=t.2.2.2.1) (hc 3 _ rfl) rfl ?_
 refine AG (x:=t.2.2.2.2.1) (hc 4 _ rfl) rfl ?_
 exact AG (x:=t.2.2.2.2.2.1) (hc 5 _ rfl) rfl H
theorem Bx {b:Nat} {vs:List Value} (c:Cy φ (some ⟨b,0,none⟩) vs) (st:St φ F h) {j:Nat} {v:Value} (hv:vs[j]? =some v):BH h ⟨b,j,none⟩=some v:=by
 have:=AE st.sub (c.at j hv)
 rwa [Dp,Nat.zero_add] at this
set_option maxHeartbeats 4000000 in
theorem Og (gk:Dg.Glob φ) (K:LkK φ a t ap fz sl nm lm p A fa steps) {num:List (Stp×Int)} {r:List (List Int)} (hd:F0 p A fa steps num=some r) (s0:St φ (cM Cj (Ro.int .i64) nm num::F) h):
 CallsH Tryz.prog 112 [.pointer (some a)] h (Ar fun v h'=> ∃(ψ:AC) (y:Slc),Sub φ ψ∧v=((.one aS):Sh).val y∧Ro.SliceIs (Ro.list (Ro.int .i64)) ψ y r∧St ψ (cM Cj (Ro.int .i64) nm num::F) h'):=by
 refine AR mixed Tryz.func112 ?_
 rw [HT]
 unfold Et
 unfold F0 at hd
 obtain ⟨e0,he0,hd⟩:=bS hd
 obtain ⟨m0,m1,rfl⟩:=MT he0
 have nS:sl.2.1=steps.length:=K.ks.length
 have nR:t.2.2.1.2.1=p.2.2.1.length:=K.pl.k2.length
 obtain ⟨D0,hD0⟩: ∃D0:List Chk,D0=cM Cj (Ro.int .i64) nm num::F:=⟨_,rfl⟩
 refine AF _ rfl ?_
 refine AG (x:=sl) (K.at s0 (j:=11) rfl) rfl ?_
 refine Ir (r:=Ro.slc) (x:=((none,0,0):Slc)) (l:=List.replicate ((steps.length:Nat):Int).toNat ((none,0,0):Slc)) Wv s0 rfl rfl (by rw [nS]; unfold FB; rw [if_pos ⟨m0,m1⟩]) ?_
 intro o h1 s1
 have s2:St φ (ME o (List.replicate ((steps.length:Nat):Int).toNat ((none,0,0):Slc)) (List.replicate ((steps.length:Nat):Int).toNat []) D0) h1:=by
  rw [hD0]
  exact (UD (e:=3) (r:=Ro.int .i64) s1 _).perm (List.perm_middle (l₁:=NZ 3 (Ro.int .i64) _ _))
 refine AF _ rfl ?_
 refine AG (x:=sl) (K.at s2 (j:=11) rfl) rfl ?_
 refine AT (fun (y:Int×Unit) w E=> ∃ψ ts,Sub φ ψ∧ts.length=E.length∧St ψ (ME o ts E D0) w) (g:=r) ?_ ?_
 ·refine BJ hd (fun i (y:Int×Unit) w E=>y.1=i∧ ∃ψ ts,Sub φ ψ∧ts.length=E.length∧St ψ (ME o ts E D0) w) ((0:Int),()) rfl ⟨rfl,φ,_,Sub.refl _,by simp,s2⟩ ?_ ?_
  ·rintro i z w E e ⟨rfl,ψ,ts,le,hl,st⟩ he h0 hlt hw
   refine Ai (by rw [nS]; exact decide_eq_true hlt) ?_
   obtain ⟨s,hs,he⟩:=bS he
   obtain ⟨A1,cs1,ea1,hi1,q1,cl1⟩:=(K.ks.mono le).get hs
   refine AF _ ea1 (Aa hi1 ?_)
   obtain ⟨_,_,rfl,q2,q3⟩:=q1
   obtain rfl:=q2
   obtain rfl:=q3
   refine AG (x:=s.1) (AE st.sub (cl1 0 _ rfl)) rfl ?_
   refine AG (x:=s.2) (by rw [Ae]; exact AE st.sub (cl1 1 _ rfl)) rfl ?_
   refine AY (vs:= [.int .i64 0, .int .i64 0]) st ?_
   intro r11 h3 s3
   refine CP (b:=r11) (j:=0) (v:= .int .i64 s.1) s3 rfl (by simp) ?_
   intro h4 s4
   refine CP (b:=r11) (j:=1) (v:= .int .i64 s.2) s4 rfl (by simp) ?_
   intro h5 s5
   obtain ⟨ψ1,le1,cB,s6⟩:=St.blk s5
   have le01:=le.trans le1
   refine AF _ rfl ?_
   refine AG (x:=t.2.2.1) ((K.mono le01).at s6 (j:=2) rfl) rfl ?_
   refine AT (fun (y:Int×Unit) w E=> ∃ψ ts,Sub φ ψ∧ts.length=E.length∧St ψ (ME o ts E D0) w) (g:=e) ?_ ?_
   ·refine BJ he (fun i (y:Int×Unit) w E=>y.1=i∧ ∃ψ ts,Sub ψ1 ψ∧ts.length=E.length∧St ψ (ME o ts E D0) w) ((0:Int),()) rfl ⟨rfl,ψ1,ts,Sub.refl _,hl,s6⟩ ?_ ?_
    ·rintro i2 z2 w2 E2 e2 ⟨rfl,ψ2,ts2,le2,hl2,st2⟩ he2 h02 hlt2 hw2
     have le02:=le01.trans le2
     refine Ai (by rw [nR]; exact decide_eq_true hlt2) ?_
     obtain ⟨ru,hr1,he2⟩:=bS he2
     refine AT (fun (_:Unit) w (_:Unit)=> ∃ψ ts,Sub ψ1 ψ∧ts.length=e2.length∧St ψ (ME o ts e2 D0) w) (g:=()) ?_ ?_
     ·refine MH (K.pl.k2.mono le02) hr1 st2 ?_
      intro r21 u h7 ku s7
      obtain ⟨ψ3,le3,cR1,s8⟩:=St.blk s7
      have ku:=ku.mono le3
      have le03:=le02.trans le3
      have cB3:=cB.mono (le2.trans le3)
      refine AG (x:=ru.1) (Bx cR1 s8 (j:=0) rfl) rfl ?_
      refine AG (x:=s.2) (Bx cB3 s8 (j:=1) rfl) rfl ?_
      refine AL he2 rfl (fun _ he2=> ?_) (fun _ he2=> ?_)
      ·obtain rfl:=iS he2
       exact QF () rfl ⟨ψ3,ts2,le2.trans le3,hl2,s8⟩
      ·obtain ⟨zz,hzz,he2⟩:=bS he2
       obtain rfl:=iS he2
       refine AG (x:=s.1) (Bx cB3 s8 (j:=0) rfl) rfl ?_
       refine AG (x:=u) (Bx cR1 s8 (j:=1) rfl) rfl ?_
       have nu:=ku.length
       refine AT (fun (y:Int×Int×Unit) w (g:Int×List (List Int))=> ∃ψ ts,Sub ψ1 ψ∧ts.length=g.2.length∧St ψ (ME o ts g.2 D0) w) (g:=zz) ?_ ?_
       ·refine BJ hzz (fun i (y:Int×Int×Unit) w (g:Int×List (List Int))=>y.1=i∧y.2.1=g.1∧ ∃ψ ts,Sub ψ3 ψ∧ts.length=g.2.length∧St ψ (ME o ts g.2 D0) w) ((0:Int),s.1,()) rfl ⟨rfl,rfl,ψ3,ts2,Sub.refl _,hl2,s8⟩ ?_ ?_
        ·rintro i4 z4 w4 ⟨g1,E4⟩ e4 ⟨rfl,hg,ψ4,ts4,le4,hl4,st4⟩ he4 h04 hlt4 hw4
         dsimp only at hg hl4 st4 he4
         subst hg
         have le04:=le03.trans le4
         unfold UB at he4
         refine Ai (by rw [nu]; exact decide_eq_true hlt4) ?_
         obtain ⟨sym,hsy,he4⟩:=bS he4
         obtain ⟨_,he4⟩:=B0 he4
         obtain ⟨sq,hsq,he4⟩:=bS he4
         obtain ⟨bb,hbb,he4⟩:=bS he4
         obtain ⟨E',hE',he4⟩:=bS he4
         obtain ⟨so,hso,he4⟩:=bS he4
         obtain rfl:=iS he4
         obtain ⟨A4,cs4,ea4,hi4,q4,cl4⟩:=(ku.mono le4).get hsy
         refine AF _ ea4 (Aa hi4 ?_)
         obtain rfl:=q4
         refine AG (x:=sym) (AE st4.sub (cl4 0 _ rfl)) rfl ?_
         refine AF _ rfl ?_
         have K4:=K.mono le04
         refine AG (x:=fz.1) (K4.at st4 (j:=7) rfl) rfl ?_
         refine AG (x:=fz.2.1) (by rw [Ae]; exact K4.at st4 (j:=8) rfl) rfl ?_
         refine AG (x:=fz.2.2.1) (by rw [Ae]; exact K4.at st4 (j:=9) rfl) rfl ?_
         refine AG (x:=fz.2.2.2.1) (by rw [Ae]; exact K4.at st4 (j:=10) rfl) rfl ?_
         refine AF _ rfl (VH (K4.pv st4) ?_)
         refine AG (x:=u) (Bx (cR1.mono le4) st4 (j:=1) rfl) rfl ?_
         obtain ⟨q5,kt⟩:=(ku.mono le4).cut (QK (ku.mono le4) (lo:=IntKind.wrap .i64 (z4.1+1)) (by rw [hw4]; omega) (by rw [hw4]; omega)) (sz:=1) rfl
         refine Aa q5 ?_
         rw [← hw4] at hsq
         refine AI (J5 (f_0:=fz) (p_1:=t) (gk.mono le04) K4.f0 K4.f1 K4.f2 K4.pl.k0 K4.pl.k1 K4.pl.k2 K4.pl.k3 K4.pl.k4 K4.pl.k5 kt st4 (r:=sq) (by rw [K4.f3]; exact hsq)) ?_
         rintro _ h9 ⟨ψ5,y5,l5,le5,rfl,e5,k5,st5⟩
         refine ⟨y5,rfl,?_⟩
         have e5':sq.2=y5.2.1:=by rw [← e5]
         rw [e5'] at hbb
         have le05:=le04.trans le5
         refine Ao (fun (y:Bool×Unit) w g=>y.1=g∧ ∃ψ,Sub ψ5 ψ∧St ψ (ME o ts4 E4 D0) w) (g:=bb) ?_ ?_
         ·refine AL hbb rfl (fun _ hbb=> ?_) (fun _ hbb=> ?_)
          ·obtain ⟨tm,htm,hbb⟩:=bS hbb
           obtain rfl:=iS hbb
           refine AF _ rfl (Oc ((K.mono le05).pv st5) (K.mono le05).pl st5 htm ?_)
           intro ψ6 h6 le6 s6
           exact AS (!tm,()) rfl ⟨rfl,ψ6,le6,s6⟩
          ·obtain rfl:=iS hbb
           exact AS (false,()) rfl ⟨rfl,ψ5,Sub.refl _,st5⟩
         ·rintro y h10 ⟨hy,ψ6,le6,s6⟩
          obtain rfl:=hy
          have le06:=le05.trans le6
          refine Ao (fun (_:Unit) w g=> ∃ts,ts.length=g.length∧St ψ6 (ME o ts g D0) w) (g:=E') ?_ ?_
          ·refine AL hE' rfl (fun _ hE'=> ?_) (fun _ hE'=> ?_)
           ·obtain ⟨row,hrow,hE'⟩:=bS hE'
            obtain ⟨row',hrow',hE'⟩:=bS hE'
            refine AF _ rfl ?_
            refine AG (x:=some nm) ((K.mono le06).at s6 (j:=12) rfl) rfl ?_
            have sM:St ψ6 (cM Cj (Ro.int .i64) nm num::(cR 30 Ro.slc o ts4::(NZ 3 (Ro.int .i64) ts4 E4++F))) h10:=by
             rw [hD0] at s6
             exact s6.perm ((List.Perm.cons _ (List.perm_middle (l₁:=NZ 3 (Ro.int .i64) ts4 E4))).trans (List.Perm.swap _ _ _))
            refine Fy (kk:=Cj) (a:= .int .i64) (k:=(z4.2.1,sym)) (m:=num) (0:Int) Tryz.underlying135 Oe (i:=Tryz.t3) (by kernel_rfl) rfl sM ?_
            refine VG hl4 hrow hrow' hE' s6 ?_
            intro ts' h11 hl' s11
            exact AS () rfl ⟨ts',hl',s11⟩
           ·obtain rfl:=iS hE'
            exact AS () rfl ⟨ts4,hl4,s6⟩
          ·rintro _ h11 ⟨ts5,hl5,s11⟩
           refine AF _ rfl ?_
           refine AG (x:=ap) ((K.mono le06).at s11 (j:=6) rfl) rfl ?_
           refine AI (C9 (K.mono le06).kA s11 hso) ?_
           rintro _ h12 ⟨ψ7,y7,le7,rfl,rfl,s12⟩
           refine ⟨y7,rfl,?_⟩
           exact Ag (IntKind.wrap .i64 (z4.1+(1:Int)),y7,()) _ rfl rfl ⟨hw4,rfl,ψ7,ts5,((le4.trans le5).trans le6).trans le7,hl5,s12⟩
        ·rintro i4 z4 w4 ⟨rfl,hg,ψ4,ts4,le4,H⟩ hge
         refine AX (by rw [nu]; exact decide_eq_false (Int.not_lt.2 hge)) ?_
         exact AJ (AK z4 rfl ⟨ψ4,ts4,(le2.trans le3).trans le4,H⟩)
       ·rintro _ h9 H
        exact LQ () rfl H
     ·rintro _ h9 H
      exact Ag (IntKind.wrap .i64 (z2.1+(1:Int)),()) _ rfl rfl ⟨hw2,H⟩
    ·rintro i2 z2 w2 ⟨rfl,ψ2,ts2,le2,H⟩ hge
     refine AX (by rw [nR]; exact decide_eq_false (Int.not_lt.2 hge)) ?_
     exact AJ (AK z2 rfl ⟨ψ2,ts2,le01.trans le2,H⟩)
   ·rintro _ h9 H
    exact Ag (IntKind.wrap .i64 (z.1+(1:Int)),()) _ rfl rfl ⟨hw,H⟩
  ·rintro i z w ⟨rfl,H⟩ hge
   refine AX (by rw [nS]; exact decide_eq_false (Int.not_lt.2 hge)) ?_
   exact AJ (AK z rfl H)
 ·rintro _ h9 ⟨ψ,ts,le,hl,st⟩
  obtain ⟨ψ1,le1,k1,st1⟩:=St.freezeRow (t:=o) st
  obtain ⟨ψ2,le2,k2,st2⟩:=St.freezeRows hl st1
  rw [hD0] at st2
  exact AB ⟨ψ2,o,(le.trans le1).trans le2,rfl,Qw hl k2 (k1.mono le2),st2⟩
end
abbrev At:Type:=Wg
def mz (ps:List (Option Addr)) (L:List (At×AW)):List (At×Option Addr):=List.zipWith (fun p e=>(e.1,p)) ps L
theorem RU {k:At} : ∀ {ps:List (Option Addr)} {L:List (At×AW)},BL k L=none→BL k (mz ps L)=none:=by
 intro ps
 induction ps with
 | nil=>intro L _; rfl
 | cons p ps ih=>
  intro L h
  cases L with
  | nil=>rfl
  | cons e L=>
   simp only [BL] at h
   split at h
   ·cases h
   ·rename_i hk
    show BL k ((e.1,p)::mz ps L)=none
    simp only [BL]
    rw [if_neg hk]
    exact ih h
theorem Pm {k:At} {s:AW} {p:Option Addr} : ∀ {ps:List (Option Addr)} {L:List (At×AW)},ps.length=L.length→BL k L=none→Bt k s L=L++ [(k,s)] ∧Bt k p (mz ps L)=mz (ps++ [p]) (L++ [(k,s)]):=by
 intro ps
 induction ps with
 | nil=>
  intro L hl _
  cases L with
  | nil=>exact ⟨rfl,rfl⟩
  | cons _ _=>cases hl
 | cons q ps ih=>
  intro L hl h
  cases L with
  | nil=>cases hl
  | cons e L=>
   simp only [BL] at h
   split at h
   ·cases h
   ·rename_i hk
    obtain ⟨h1,h2⟩:=ih (L:=L) (by simpa using hl) h
    refine ⟨?_,?_⟩
    ·simp only [Bt,if_neg hk,h1]; rfl
    ·show Bt k p ((e.1,q)::mz ps L)=(e.1,q)::mz (ps++ [p]) (L++ [(k,s)])
     simp only [Bt,if_neg hk,h2]
theorem MI {k:At} {s:AW} : ∀ {ps:List (Option Addr)} {L:List (At×AW)},ps.length=L.length→BL k L=some s→
 ∃(i:Nat) (p:Option Addr),ps[i]? =some p∧(L.map (·.2))[i]? =some s∧BL k (mz ps L)=some p∧(∀s',(Bt k s' L).map (·.2)=(L.map (·.2)).set i s'∧mz ps (Bt k s' L)=mz ps L∧(Bt k s' L).length=L.length)∧ ∀s' p',Bt k p' (mz ps L)=mz (ps.set i p') (Bt k s' L):=by
 intro ps
 induction ps with
 | nil=>
  intro L hl h
  cases L with
  | nil=>cases h
  | cons _ _=>cases hl
 | cons q ps ih=>
  intro L hl h
  cases L with
  | nil=>cases hl
  | cons e L=>
   simp only [BL] at h
   split at h
   ·rename_i hk
    cases h
    refine ⟨0,q,rfl,rfl,?_,fun s'=> ?_,fun s' p'=> ?_⟩
    ·show BL k ((e.1,q)::mz ps L)=some q
     simp only [BL,if_pos hk]
    ·simp only [Bt,if_pos hk]
     exact ⟨rfl,rfl,rfl⟩
    ·show Bt k p' ((e.1,q)::mz ps L)=mz (p'::ps) (Bt k s' (e::L))
     simp only [Bt,if_pos hk]
     rfl
   ·rename_i hk
    obtain ⟨i,p,h1,h2,h3,h4,h5⟩:=ih (L:=L) (by simpa using hl) h
    refine ⟨i+1,p,by simpa using h1,by simpa using h2,?_,fun s'=> ?_,fun s' p'=> ?_⟩
    ·show BL k ((e.1,q)::mz ps L)=some p
     simp only [BL,if_neg hk]
     exact h3
    ·obtain ⟨g1,g2,g3⟩:=h4 s'
     simp only [Bt,if_neg hk,List.map_cons,List.set_cons_succ,List.length_cons]
     refine ⟨by rw [g1],?_,by rw [g3]⟩
     show (e.1,q)::mz ps (Bt k s' L)=(e.1,q)::mz ps L
     rw [g2]
    ·show Bt k p' ((e.1,q)::mz ps L)=mz (q::ps.set i p') (Bt k s' (e::L))
     simp only [Bt,if_neg hk]
     show (e.1,q)::Bt k p' (mz ps L)=(e.1,q)::mz (ps.set i p') (Bt k s' L)
     rw [h5 s']
abbrev LkL:Type:=List (At×AW)
noncomputable def Pn (p:dtP) (A:dtA) (fo:List AW) (n:Int) (s:Stp) (k:Int) (L:LkL):Option LkL:=
 (idx p.2.2.1 k).bind fun r=>
 cond (r.1 !=s.2) (some L)
  ((Bq A s.1 r.2.1).bind fun w=>
  (cond (BL (w,k) L).isNone ((Bo (nT p)).bind fun s0=>some (Bt (w,k) s0 L)) (some L)).bind fun L'=>
  (idx fo n).bind fun o=>(BL (w,k) L').bind fun s'=>need (OkS s'∧OkS o) <| some (Bt (w,k) (BB s' o) L'))
noncomputable def Nu (p:dtP) (A:dtA) (fa:dtF) (steps:List Stp) (fo:List AW):Option LkL:=
 (forS (σ:=LkL) 0 ((steps.length:Nat):Int) [] fun n L=>(idx steps n).bind fun s=>forS (σ:=LkL) 0 ((p.2.2.1.length:Nat):Int) L fun k L=>Pn p A fo n s k L).bind fun L=>
 (BF A).bind fun m=>forS (σ:=LkL) 0 m L fun n L=>
  (Ba (lkT p A fa steps none none) n 0).bind fun b=>cond b ((CZ (nT p) [0]).bind fun s=>some (Bt (n,0) s L)) (some L)
abbrev giC (lm:Nat) (ps:List (Option Addr)) (L:LkL) (Δ:List Chk):List Chk:=cM Cj Ro.pt lm (mz ps L)::(AP ps (L.map (·.2)) ++Δ)
section
variable {φ ψ:AC} {h:AH} {F:List Chk} {a:Addr} {t:Slc×Slc×Slc×Slc×Slc×Slc×Unit} {p:dtP} {ap:Option Addr} {A:dtA} {fz:Slc×Slc×Slc×Int×Unit} {sl:Slc} {nm lm b:Nat} {fa:dtF} {steps:List Stp}
theorem Nv {φ:AC} {h:AH} {F:List Chk} {p:Option Addr} {s:AW} (H:St φ (BR p s::F) h):p.isNone=false:=by
 obtain ⟨b,e⟩:=St.ptr H
 rw [e]; rfl
theorem UF {ps:List (Option Addr)} {L:LkL} {Δ:List Chk} {k:At} {q:Option Addr} {s:AW} (hl:ps.length=L.length) (st:St φ (cM Cj Ro.pt lm (Bt k q (mz ps L))::BR q s::(AP ps (L.map (·.2)) ++Δ)) h):
 ∃ps',ps'.length=(Bt k s L).length∧St φ (giC lm ps' (Bt k s L) Δ) h:=by
 cases hg:BL k L with
 | none=>
  obtain ⟨h1,h2⟩:=Pm (s:=s) (p:=q) hl hg
  refine ⟨ps++ [q],by rw [h1]; simp [hl],?_⟩
  rw [h2] at st
  have e:AP (ps++ [q]) ((Bt k s L).map (·.2))=AP ps (L.map (·.2)) ++ [BR q s] :=by
   rw [h1,List.map_append]
   exact Jc (by simpa using hl) q s
  show St φ (cM Cj Ro.pt lm (mz (ps++ [q]) (Bt k s L))::(AP (ps++ [q]) ((Bt k s L).map (·.2)) ++Δ)) h
  rw [e,List.append_assoc,h1]
  exact st.perm (List.Perm.cons _ (List.perm_middle (l₁:=AP ps (L.map (·.2)))).symm)
 | some s0=>
  obtain ⟨i,p0,h1,h2,h3,h4,h5⟩:=MI hl hg
  obtain ⟨g1,g2,g3⟩:=h4 s
  refine ⟨ps.set i q,by simp [g3,hl],?_⟩
  rw [h5 s q] at st
  obtain ⟨rest,r1,r2⟩:=Ho h1 h2
  show St φ (cM Cj Ro.pt lm (mz (ps.set i q) (Bt k s L))::(AP (ps.set i q) ((Bt k s L).map (·.2)) ++Δ)) h
  rw [g1]
  have st2:=st.perm (List.Perm.cons _ (List.Perm.cons _ (List.Perm.append_right Δ r1)))
  have st3:=st2.at2.tail
  exact st3.perm (List.Perm.cons _ (List.Perm.append_right Δ (r2 q s).symm))
noncomputable def UG (l_0 f_p:Option Addr) (f_n:Nat) (n:Int) (r26:Nat):T:=
 deref l_0 fun a27=>
 T.load .map (a27.add 13) fun (t28:Option Nat)=>
 T.load (.int .i64) ⟨r26,0,none⟩ fun (t29:Int)=>
 T.load (.int .i64) ⟨r26,1,none⟩ fun (t30:Int)=>
 T.sem (Instr.lookup 136 (.map t28) (.agg #[(.int .i64 t29),(.int .i64 t30)]) false) (.one aP) fun (t31:Option Addr)=>
 T.join []
 (cond (Option.isNone t31)
 (deref l_0 fun a33=>
 T.load .map (a33.add 13) fun (t34:Option Nat)=>
 T.load (.int .i64) ⟨r26,0,none⟩ fun (t35:Int)=>
 T.load (.int .i64) ⟨r26,1,none⟩ fun (t36:Int)=>
 deref l_0 fun a37=>
 T.load .slice a37 fun (t38:Slc)=>
 T.call 138 [(.int .i64 ((t38.2.1:Nat):Int))] (.one aP) fun (t39:Option Addr)=>
 T.still ⟨r26,0,none⟩ (.int .i64 t35) <|
 T.still ⟨r26,1,none⟩ (.int .i64 t36) <|
 T.still (a33.add 13) (.map t34) <|
 T.sem (Sem.bind (Instr.mapUpdate 136 (.map t34) (.agg #[(.int .i64 t35),(.int .i64 t36)]) (.pointer t39)) fun _=> .pure undef) (.tuple []) fun (_:Unit)=>
 T.out [])
 (T.out [])) fun (_:Unit)=>
 deref l_0 fun a41=>
 T.load .map (a41.add 13) fun (t42:Option Nat)=>
 T.load (.int .i64) ⟨r26,0,none⟩ fun (t43:Int)=>
 T.load (.int .i64) ⟨r26,1,none⟩ fun (t44:Int)=>
 deref f_p fun a45=>
 chk (0≤n∧n< (f_n:Nat)) <|
 T.load .pointer (a45.add (Int.toNat n * 1)) fun (t46:Option Addr)=>
 T.sem (Instr.lookup 136 (.map t42) (.agg #[(.int .i64 t43),(.int .i64 t44)]) false) (.one aP) fun (t47:Option Addr)=>
 T.still (a45.add (Int.toNat n * 1)) (.pointer t46) <|
 T.call 139 [(.pointer t47),(.pointer t46)] (.one aB) fun (_:Bool)=>
 T.out []
set_option maxHeartbeats 2000000 in
theorem UH (gk:Dg.Glob φ) (K:LkK φ a t ap fz sl nm lm p A fa steps) {fs:Slc} {qs:List (Option Addr)} {fo:List AW} (kf:Ro.SliceIs Ro.pt φ fs qs) (hq:qs.length=fo.length) {n w k:Int} {r26:Nat} (cB:Cy φ (some ⟨r26,0,none⟩) [.int .i64 w, .int .i64 k]) {L L':LkL} {o s':AW} {ps:List (Option Addr)} {Δ:List Chk} {P:Bi→AH→Prop}
 (hL:cond (BL (w,k) L).isNone ((Bo (nT p)).bind fun s0=>some (Bt (w,k) s0 L)) (some L)=some L') (ho:idx fo n=some o) (hs:BL (w,k) L'=some s') (ok:OkS s'∧OkS o) (hl:ps.length=L.length) (st:St φ (giC lm ps L (AP qs fo++Δ)) h)
 (hk: ∀ψ ps' h',Sub φ ψ→ps'.length=(Bt (w,k) (BB s' o) L').length→St ψ (giC lm ps' (Bt (w,k) (BB s' o) L') (AP qs fo++Δ)) h'→P (.out []) h'):(UG (some a) fs.1 fs.2.1 n r26).wp Tryz.prog P h:=by
 unfold UG
 have n0:t.1.2.1=p.1.length:=K.pl.k0.length
 refine AF _ rfl ?_
 refine AG (x:=some lm) (K.at st (j:=13) rfl) rfl ?_
 refine AG (x:=w) (Bx cB st (j:=0) rfl) rfl ?_
 refine AG (x:=k) (Bx cB st (j:=1) rfl) rfl ?_
 refine Fy (kk:=Cj) (a:= .pointer) (k:=(w,k)) (m:=mz ps L) (none:Option Addr) Tryz.underlying136 Pj (i:=Tryz.t139) (by kernel_rfl) rfl st ?_
 refine Ao (fun (_:Unit) wd g=> ∃ψ ps',Sub φ ψ∧ps'.length=g.length∧St ψ (giC lm ps' g (AP qs fo++Δ)) wd) (g:=L') ?_ ?_
 ·cases hg:BL (w,k) L with
  | none=>
   rw [hg] at hL
   obtain ⟨s0,h0,hL⟩:=bS (show ((Bo (nT p)).bind fun s0=>some (Bt (w,k) s0 L))=some L' from hL)
   obtain rfl:=iS hL
   rw [RU hg]
   refine Ai rfl ?_
   refine AF _ rfl ?_
   refine AG (x:=some lm) (K.at st (j:=13) rfl) rfl ?_
   refine AG (x:=w) (Bx cB st (j:=0) rfl) rfl ?_
   refine AG (x:=k) (Bx cB st (j:=1) rfl) rfl ?_
   refine AF _ rfl ?_
   refine AG (x:=t.1) (by have:=K.at st (j:=0) rfl; rwa [add_zero] at this) rfl ?_
   rw [n0]
   refine AI (DZ st h0) ?_
   rintro _ h2 ⟨ψ2,q,l2,le2,rfl,rfl,s2⟩
   refine ⟨q,rfl,?_⟩
   refine AO (Bx (cB.mono le2) s2 (j:=0) rfl) ?_
   refine AO (Bx (cB.mono le2) s2 (j:=1) rfl) ?_
   refine AO ((K.mono le2).at s2 (j:=13) rfl) ?_
   refine Ip (kk:=Cj) (k:=(w,k)) (y:=q) Tryz.underlying136 Pj s2.at1 rfl ?_
   intro h3 s3
   obtain ⟨ps',g1,g2⟩:=UF hl s3
   exact AS () rfl ⟨ψ2,ps',le2,g1,g2⟩
  | some s0=>
   rw [hg] at hL
   obtain rfl:=iS (show some L=some L' from hL)
   obtain ⟨i,p0,h1,h2,h3,h4,h5⟩:=MI hl hg
   obtain ⟨rest,r1,_⟩:=Ho h1 h2
   have hp:p0.isNone=false:=Nv (st.tail.perm (List.Perm.append_right (AP qs fo++Δ) r1))
   rw [h3]
   refine AX hp ?_
   exact AS () rfl ⟨φ,ps,Sub.refl _,hl,st⟩
 ·rintro _ h4 ⟨ψ4,ps',le4,hl',s4⟩
  obtain ⟨i0,i1,i2⟩:=Cz ho
  have hlt:n.toNat<qs.length:=by omega
  have hqn:=List.getElem?_eq_getElem hlt
  obtain ⟨i,p0,h1,h2,h3,h5,h6⟩:=MI hl' hs
  refine AF _ rfl ?_
  refine AG (x:=some lm) ((K.mono le4).at s4 (j:=13) rfl) rfl ?_
  refine AG (x:=w) (Bx (cB.mono le4) s4 (j:=0) rfl) rfl ?_
  refine AG (x:=k) (Bx (cB.mono le4) s4 (j:=1) rfl) rfl ?_
  obtain ⟨A1,cs1,ea1,hi1,r1,cl1⟩:=(kf.mono le4).get (JZ i0 hlt)
  refine AF _ ea1 (Aa hi1 ?_)
  obtain rfl:=r1
  refine AG (x:=qs[n.toNat]) (AE s4.sub (cl1 0 _ rfl)) rfl ?_
  refine Fy (kk:=Cj) (a:= .pointer) (k:=(w,k)) (m:=mz ps' L') (none:Option Addr) Tryz.underlying136 Pj (i:=Tryz.t139) (by kernel_rfl) rfl s4 ?_
  rw [h3]
  refine AO (AE s4.sub (cl1 0 _ rfl)) ?_
  obtain ⟨rq,b1,_⟩:=D3 hqn i2
  obtain ⟨M,hM⟩: ∃M:Chk,M=cM Cj Ro.pt lm (mz ps' L'):=⟨_,rfl⟩
  have s5:St ψ4 (BR qs[n.toNat] o::(AP ps' (L'.map (·.2)) ++(M::(rq++Δ)))) h4:=by
   have s4':St ψ4 (M::(AP ps' (L'.map (·.2)) ++(AP qs fo++Δ))) h4:=by rw [hM]; exact s4
   refine s4'.perm ?_
   refine (List.Perm.cons M (List.Perm.append_left _ (List.Perm.append_right Δ b1))).trans ?_
   exact (List.Perm.cons M (List.perm_middle (l₁:=AP ps' (L'.map (·.2))))).trans ((List.Perm.swap _ _ _).trans (List.Perm.cons _ (List.perm_middle (l₁:=AP ps' (L'.map (·.2)))).symm))
  refine AI (PP (gk.mono le4) h2 h1 ok s5) ?_
  rintro _ h7 ⟨ψ7,le7,rfl,s7⟩
  refine ⟨_,rfl,?_⟩
  obtain ⟨g1,g2,g3⟩:=h5 (BB s' o)
  refine hk ψ7 ps' h7 (le4.trans le7) (by rw [g3]; exact hl') ?_
  show St ψ7 (cM Cj Ro.pt lm (mz ps' (Bt (w,k) (BB s' o) L'))::(AP ps' ((Bt (w,k) (BB s' o) L').map (·.2)) ++(AP qs fo++Δ))) h7
  rw [g1,g2,← hM]
  refine s7.perm ?_
  refine ((List.Perm.cons _ (List.perm_middle (l₁:=AP ps' ((L'.map (·.2)).set i (BB s' o))))).trans (List.Perm.swap _ _ _)).trans (List.Perm.cons M ?_)
  exact (List.perm_middle (l₁:=AP ps' ((L'.map (·.2)).set i (BB s' o)))).symm.trans (List.Perm.append_left _ (List.Perm.append_right Δ b1.symm))
end
section
variable {φ ψ:AC} {h:AH} {F:List Chk} {a:Addr} {t:Slc×Slc×Slc×Slc×Slc×Slc×Unit} {p:dtP} {ap:Option Addr} {A:dtA} {fz:Slc×Slc×Slc×Int×Unit} {sl:Slc} {nm lm b:Nat} {fa:dtF} {steps:List Stp}
theorem Oh (lm:Nat) (ps:List (Option Addr)) (L:LkL) (Δ M:List Chk):giC lm ps L Δ++M=giC lm ps L (Δ++M):=by
 unfold giC
 rw [List.cons_append,List.append_assoc]
set_option maxHeartbeats 4000000 in
theorem UI (gk:Dg.Glob φ) (K:LkK φ a t ap fz sl nm lm p A fa steps) {fs:Slc} {qs:List (Option Addr)} {fo:List AW} (kf:Ro.SliceIs Ro.pt φ fs qs) (hq:qs.length=fo.length) {r:LkL} (hd:Nu p A fa steps fo=some r) (s0:St φ (giC lm [] [] (AP qs fo++F)) h):
 CallsH Tryz.prog 110 [.pointer (some a),sv fs] h (Ar fun v h'=>v= .tuple #[] ∧ ∃(ψ:AC) (ps:List (Option Addr)),Sub φ ψ∧ps.length=r.length∧St ψ (giC lm ps r (AP qs fo++F)) h'):=by
 refine AR mixed Tryz.func110 ?_
 rw [J1]
 unfold Gp
 unfold Nu at hd
 obtain ⟨L1,hL1,hd⟩:=bS hd
 obtain ⟨mm,hmm,hd⟩:=bS hd
 have nS:sl.2.1=steps.length:=K.ks.length
 have nR:t.2.2.1.2.1=p.2.2.1.length:=K.pl.k2.length
 have n0:t.1.2.1=p.1.length:=K.pl.k0.length
 refine AF _ rfl ?_
 refine AG (x:=sl) (K.at s0 (j:=11) rfl) rfl ?_
 refine AT (fun (y:Int×Unit) w L=> ∃ψ ps,Sub φ ψ∧ps.length=List.length L∧St ψ (giC lm ps L (AP qs fo++F)) w) (g:=L1) ?_ ?_
 ·refine BJ hL1 (fun i (y:Int×Unit) w L=>y.1=i∧ ∃ψ ps,Sub φ ψ∧ps.length=List.length L∧St ψ (giC lm ps L (AP qs fo++F)) w) ((0:Int),()) rfl ⟨rfl,φ, [],Sub.refl _,rfl,s0⟩ ?_ ?_
  ·rintro i z w L e ⟨rfl,ψ,ps,le,hl,st⟩ he h0 hlt hw
   refine Ai (by rw [nS]; exact decide_eq_true hlt) ?_
   obtain ⟨s,hs,he⟩:=bS he
   obtain ⟨A1,cs1,ea1,hi1,q1,cl1⟩:=(K.ks.mono le).get hs
   refine AF _ ea1 (Aa hi1 ?_)
   obtain ⟨_,_,rfl,q2,q3⟩:=q1
   obtain rfl:=q2
   obtain rfl:=q3
   refine AG (x:=s.1) (AE st.sub (cl1 0 _ rfl)) rfl ?_
   refine AG (x:=s.2) (by rw [Ae]; exact AE st.sub (cl1 1 _ rfl)) rfl ?_
   refine AY (vs:= [.int .i64 0, .int .i64 0]) st ?_
   intro r8 h3 s3
   refine CP (b:=r8) (j:=0) (v:= .int .i64 s.1) s3 rfl (by simp) ?_
   intro h4 s4
   refine CP (b:=r8) (j:=1) (v:= .int .i64 s.2) s4 rfl (by simp) ?_
   intro h5 s5
   obtain ⟨ψ1,le1,cB,s6⟩:=St.blk s5
   have le01:=le.trans le1
   refine AF _ rfl ?_
   refine AG (x:=t.2.2.1) ((K.mono le01).at s6 (j:=2) rfl) rfl ?_
   refine AT (fun (y:Int×Unit) w L=> ∃ψ ps,Sub φ ψ∧ps.length=List.length L∧St ψ (giC lm ps L (AP qs fo++F)) w) (g:=e) ?_ ?_
   ·refine BJ he (fun i (y:Int×Unit) w L=>y.1=i∧ ∃ψ ps,Sub ψ1 ψ∧ps.length=List.length L∧St ψ (giC lm ps L (AP qs fo++F)) w) ((0:Int),()) rfl ⟨rfl,ψ1,ps,Sub.refl _,hl,s6⟩ ?_ ?_
    ·rintro i2 z2 w2 L2 e2 ⟨rfl,ψ2,ps2,le2,hl2,st2⟩ he2 h02 hlt2 hw2
     have le02:=le01.trans le2
     unfold Pn at he2
     refine Ai (by rw [nR]; exact decide_eq_true hlt2) ?_
     obtain ⟨ru,hr1,he2⟩:=bS he2
     refine AT (fun (_:Unit) w (_:Unit)=> ∃ψ ps,Sub ψ1 ψ∧ps.length=List.length e2∧St ψ (giC lm ps e2 (AP qs fo++F)) w) (g:=()) ?_ ?_
     ·refine MH (K.pl.k2.mono le02) hr1 st2 ?_
      intro r18 u h7 ku s7
      obtain ⟨ψ3,le3,cR1,s8⟩:=St.blk s7
      have ku:=ku.mono le3
      have le03:=le02.trans le3
      have le13:=le2.trans le3
      have cB3:=cB.mono le13
      have K3:=K.mono le03
      refine AG (x:=ru.1) (Bx cR1 s8 (j:=0) rfl) rfl ?_
      refine AG (x:=s.2) (Bx cB3 s8 (j:=1) rfl) rfl ?_
      refine AL he2 rfl (fun _ he2=> ?_) (fun _ he2=> ?_)
      ·obtain rfl:=iS he2
       exact QF () rfl ⟨ψ3,ps2,le13,hl2,s8⟩
      ·obtain ⟨wk,hwk,he2⟩:=bS he2
       obtain ⟨L',hL',he2⟩:=bS he2
       obtain ⟨o,ho,he2⟩:=bS he2
       obtain ⟨s',hs',he2⟩:=bS he2
       obtain ⟨ok,he2⟩:=B0 he2
       obtain rfl:=iS he2
       refine AF _ rfl ?_
       refine AG (x:=ap) (K3.at s8 (j:=6) rfl) rfl ?_
       refine AG (x:=s.1) (Bx cB3 s8 (j:=0) rfl) rfl ?_
       refine AG (x:=u) (Bx cR1 s8 (j:=1) rfl) rfl ?_
       have fin: ∀ {ψ5:AC} {h9:AH} {r26:Nat},Sub ψ3 ψ5→Cy ψ5 (some ⟨r26,0,none⟩) [.int .i64 wk, .int .i64 z2.1] →St ψ5 (giC lm ps2 L2 (AP qs fo++F)) h9→ ∀ {P:Bi→AH→Prop},
        (∀(ψ:AC) (ps':List (Option Addr)) (h':AH),Sub ψ1 ψ→ps'.length=List.length (Bt (wk,z2.1) (BB s' o) L')→St ψ (giC lm ps' (Bt (wk,z2.1) (BB s' o) L') (AP qs fo++F)) h'→P (.out []) h')→
        (UG (some a) fs.1 fs.2.1 z.1 r26).wp Tryz.prog P h9:=by
        intro ψ5 h9 r26 le5 cX st9 P hP
        refine UH (gk.mono (le03.trans le5)) (K3.mono le5) (kf.mono (le03.trans le5)) hq cX hL' ho hs' ok hl2 st9 ?_
        intro ψ6 ps' h10 le6 hl6 st10
        exact hP ψ6 ps' h10 ((le13.trans le5).trans le6) hl6 st10
       refine FZ ?_ ?_
       ·refine AI (Db K3.kA ku s8 hwk) ?_
        rintro _ h9 ⟨ψ4,y4,le4,rfl,rfl,s9⟩
        refine ⟨y4,rfl,?_⟩
        refine AY (vs:= [.int .i64 0, .int .i64 0]) s9 ?_
        intro r26 h10 s10
        refine CP (b:=r26) (j:=0) (v:= .int .i64 y4) s10 rfl (by simp) ?_
        intro h11 s11
        refine CP (b:=r26) (j:=1) (v:= .int .i64 z2.1) s11 rfl (by simp) ?_
        intro h12 s12
        obtain ⟨ψ5,le5,cX,s13⟩:=St.blk s12
        refine fin (le4.trans le5) cX s13 ?_
        intro ψ6 ps' h13 le6 hl6 s14
        exact ⟨(),rfl,ψ6,ps',le6,hl6,s14⟩
       ·refine AY (vs:= [.int .i64 0, .int .i64 0]) s8 ?_
        intro r49 h9 s9
        refine AO (Bx cR1 s9 (j:=1) rfl) ?_
        refine AO (Bx cB3 s9 (j:=0) rfl) ?_
        refine AO (K3.at s9 (j:=6) rfl) ?_
        refine AI (Db K3.kA ku s9 hwk) ?_
        rintro _ h10 ⟨ψ4,y4,le4,rfl,rfl,s10⟩
        refine ⟨y4,rfl,?_⟩
        refine CP (b:=r49) (j:=0) (v:= .int .i64 y4) s10 rfl (by simp) ?_
        intro h11 s11
        refine CP (b:=r49) (j:=1) (v:= .int .i64 z2.1) s11 rfl (by simp) ?_
        intro h12 s12
        obtain ⟨ψ5,le5,cX,s13⟩:=St.blk s12
        refine fin (le4.trans le5) cX s13 ?_
        intro ψ6 ps' h13 le6 hl6 s14
        exact ⟨(),rfl,ψ6,ps',le6,hl6,s14⟩
     ·rintro _ h9 H
      exact Ag (IntKind.wrap .i64 (z2.1+(1:Int)),()) _ rfl rfl ⟨hw2,H⟩
    ·rintro i2 z2 w2 ⟨rfl,ψ2,ps2,le2,H⟩ hge
     refine AX (by rw [nR]; exact decide_eq_false (Int.not_lt.2 hge)) ?_
     exact AJ (AK z2 rfl ⟨ψ2,ps2,le01.trans le2,H⟩)
   ·rintro _ h9 H
    exact Ag (IntKind.wrap .i64 (z.1+(1:Int)),()) _ rfl rfl ⟨hw,H⟩
  ·rintro i z w ⟨rfl,H⟩ hge
   refine AX (by rw [nS]; exact decide_eq_false (Int.not_lt.2 hge)) ?_
   exact AJ (AK z rfl H)
 ·rintro _ h1 ⟨ψ1,ps1,le1,hl1,st1⟩
  have K1:=K.mono le1
  refine AF _ rfl ?_
  refine AG (x:=ap) (K1.at st1 (j:=6) rfl) rfl ?_
  refine AI (Bj K1.kA st1 hmm) ?_
  rintro _ h2 ⟨ψ2,y2,le2,rfl,rfl,st2⟩
  refine ⟨y2,rfl,?_⟩
  have le02:=le1.trans le2
  refine AT (fun (y:Int×Unit) w L=> ∃ψ ps,Sub φ ψ∧ps.length=List.length L∧St ψ (giC lm ps L (AP qs fo++F)) w) (g:=r) ?_ ?_
  ·refine BJ hd (fun i (y:Int×Unit) w L=>y.1=i∧ ∃ψ ps,Sub φ ψ∧ps.length=List.length L∧St ψ (giC lm ps L (AP qs fo++F)) w) ((0:Int),()) rfl ⟨rfl,ψ2,ps1,le02,hl1,st2⟩ ?_ ?_
   ·rintro i z w L e ⟨rfl,ψ,ps,le,hl,st⟩ he h0 hlt hw
    refine Ai (decide_eq_true hlt) ?_
    obtain ⟨bd,hbd,he⟩:=bS he
    have K3:=K.mono le
    refine AI (Dv K3.pt st (show Ba (lkT p A fa steps (some nm) (some lm)) z.1 0=some bd from hbd)) ?_
    rintro _ h3 ⟨ψ3,y3,le3,rfl,rfl,st3⟩
    refine ⟨y3,rfl,?_⟩
    have le03:=le.trans le3
    refine Ao (fun (_:Unit) w L=> ∃ψ ps,Sub φ ψ∧ps.length=List.length L∧St ψ (giC lm ps L (AP qs fo++F)) w) (g:=e) ?_ ?_
    ·refine AL he rfl (fun _ he=> ?_) (fun _ he=> ?_)
     ·obtain ⟨sn,hsn,he⟩:=bS he
      obtain rfl:=iS he
      refine AF _ rfl ?_
      refine AG (x:=some lm) ((K.mono le03).at st3 (j:=13) rfl) rfl ?_
      refine AF _ rfl ?_
      refine AG (x:=t.1) (by have:=(K.mono le03).at st3 (j:=0) rfl; rwa [add_zero] at this) rfl ?_
      refine AY (vs:= [.int .i64 0]) st3 ?_
      intro r84 h4 st4
      refine AO (by have:=(K.mono le03).at st4 (j:=0) rfl; rwa [add_zero] at this) ?_
      refine AO ((K.mono le03).at st4 (j:=13) rfl) ?_
      have st5:=St.lit (r:=Ro.int .i64) (l:= [(0:Int)]) (n:=1) st4 (.cons (a:= [_]) rfl .nil) rfl (by decide)
      obtain ⟨ψ5,le5,k5,st6⟩:=St.freezeRow (t:=(some ⟨r84,0,none⟩,1,1)) st5
      rw [n0]
      refine AI (D2 k5 st6 hsn) ?_
      rintro _ h6 ⟨ψ6,q,l6,le6,rfl,rfl,st7⟩
      refine ⟨q,rfl,?_⟩
      have le06:=(le03.trans le5).trans le6
      refine AO ((K.mono le06).at st7 (j:=13) rfl) ?_
      refine Ip (kk:=Cj) (k:=(z.1,(0:Int))) (y:=q) Tryz.underlying136 Pj st7.at1 rfl ?_
      intro h8 st8
      obtain ⟨ps',g1,g2⟩:=UF hl st8
      exact AS () rfl ⟨ψ6,ps',le06,g1,g2⟩
     ·obtain rfl:=iS he
      exact AS () rfl ⟨ψ3,ps,le03,hl,st3⟩
    ·rintro _ h9 H
     exact Ag (IntKind.wrap .i64 (z.1+(1:Int)),()) _ rfl rfl ⟨hw,H⟩
   ·rintro i z w ⟨rfl,H⟩ hge
    refine AX (decide_eq_false (Int.not_lt.2 hge)) ?_
    exact AJ (AK z rfl H)
  ·rintro _ h9 ⟨ψ9,ps9,le9,hl9,st9⟩
   exact AB ⟨rfl,ψ9,ps9,le9,hl9,st9⟩
end
structure LkD where
 p:dtP
 A:dtA
 fa:dtF
 steps:List Stp
 L:LkL
def LkL.at (φ:AC) (cs:List Value) (d:LkD) (Γ:List Chk):Prop:=
 ∃(a:Addr) (t:Slc×Slc×Slc×Slc×Slc×Slc×Unit) (ap:Option Addr) (fz:Slc×Slc×Slc×Int×Unit) (sl:Slc) (nm lm:Nat) (ps:List (Option Addr)),
  cs= [.pointer (some a)] ∧LkK φ a t ap fz sl nm lm d.p d.A d.fa d.steps∧ps.length=d.L.length∧Γ=giC lm ps d.L []
def SR:Pk (Option LkD) where
 sz:=1
 L φ cs x Γ:=match x with
  | none=>cs= [.pointer none] ∧Γ= []
  | some d=>LkL.at φ cs d Γ
 len {φ cs x Γ} h:=by
  cases x with
  | none=>rw [h.1]; rfl
  | some d=>obtain ⟨a,t,ap,fz,sl,nm,lm,ps,h1,_⟩:=h; rw [h1]; rfl
 mono {φ ψ cs x Γ} hs h:=by
  cases x with
  | none=>exact h
  | some d=>obtain ⟨a,t,ap,fz,sl,nm,lm,ps,h1,h2,h3,h4⟩:=h; exact ⟨a,t,ap,fz,sl,nm,lm,ps,h1,h2.mono hs,h3,h4⟩
 plain {φ cs x Γ} h v hv:=by
  cases x with
  | none=>rw [h.1] at hv; simp at hv; subst hv; rfl
  | some d=>obtain ⟨a,t,ap,fz,sl,nm,lm,ps,h1,_⟩:=h; rw [h1] at hv; simp at hv; subst hv; rfl
abbrev BO:Rep (Option LkD):=Rep.pack SR
noncomputable def RV (p:dtP) (A:dtA):Option (Option LkD):=
 (My p).bind fun fa=>(NO p A JR ([], [])).bind fun st=>(Li p A fa st.1 st.2).bind fun rd=>(F0 p A fa st.1 st.2).bind fun inc=>
 (G1 rd.2 rd.1).bind fun f1=>(G1 inc f1).bind fun f2=>(Nu p A fa st.1 f2).bind fun L=>some (some ⟨p,A,fa,st.1,L⟩)
noncomputable def Gu (d:Option LkD) (s:Int):Option (List Int):=d.bind fun d=>Cr (lkT d.p d.A d.fa d.steps none none) s
noncomputable def Hw (d:Option LkD) (s r:Int):Option (List Ek):=d.bind fun d=>Cs (lkT d.p d.A d.fa d.steps none none) s r
noncomputable def L9 (d:Option LkD) (s r:Int):Option (List Int):=d.bind fun d=>match BL (s,r) d.L with
 | none=>some []
 | some x=>IG x
section
variable {φ ψ:AC} {h:AH} {F:List Chk} {a:Addr} {t:Slc×Slc×Slc×Slc×Slc×Slc×Unit} {p:dtP} {ap:Option Addr} {A:dtA} {fz:Slc×Slc×Slc×Int×Unit} {sl:Slc} {nm lm b:Nat} {fa:dtF} {steps:List Stp}
theorem RW (H:St φ F h):St φ (⟨BO, [.pointer none],none⟩::F) h:=St.pack (p:=SR) (Γ:= []) ⟨rfl,rfl⟩ H
theorem WT {q:Option Addr} {d:Option LkD} (H:St φ (⟨BO, [.pointer q],d⟩::F) h):Option.isNone q=Option.isNone d:=by
 obtain ⟨Γ,h1,_⟩:=St.unpack H
 cases d with
 | none=>cases h1.1; rfl
 | some d=>obtain ⟨a,t,ap,fz,sl,nm,lm,ps,h1,_⟩:=h1; cases h1; rfl
theorem GR {q:Option Addr} {d:Option LkD} {s:Int} (s0:St φ (⟨BO, [.pointer q],d⟩::F) h) {r:List Int} (hd:Gu d s=some r):
 CallsH Tryz.prog 22 [.pointer q, .int .i64 s] h (Ar fun v h'=> ∃ψ:AC,∃y:Slc,∃l:List Int,Sub φ ψ∧v=((.one aS):Sh).val y∧l=r∧Ro.SliceIs (Ro.int .i64) ψ y l∧St ψ (⟨BO, [.pointer q],d⟩::F) h'):=by
 obtain ⟨d,rfl,hd1⟩:=Option.bind_eq_some_iff.1 hd
 obtain ⟨Γ,⟨a,t,ap,fz,sl,nm,lm,ps,h1,h2,h3,h4⟩,s1⟩:=St.unpack s0
 cases h1
 refine (J6 h2.pt s1 (show Cr (lkT d.p d.A d.fa d.steps (some nm) (some lm)) s=some r from hd1)).mono ?_
 rintro e h' ⟨v,rfl,ψ,y,l,le,rfl,rfl,k,s2⟩
 exact ⟨_,rfl,ψ,y,l,le,rfl,rfl,k,St.pack (p:=SR) ⟨a,t,ap,fz,sl,nm,lm,ps,rfl,h2.mono le,h3,h4⟩ s2⟩
theorem Hx {q:Option Addr} {d:Option LkD} {s k:Int} (s0:St φ (⟨BO, [.pointer q],d⟩::F) h) {r:List Ek} (hd:Hw d s k=some r):
 CallsH Tryz.prog 27 [.pointer q, .int .i64 s, .int .i64 k] h (Ar fun v h'=> ∃ψ:AC,∃y:Slc,∃l:List Ek,Sub φ ψ∧v=((.one aS):Sh).val y∧l=r∧Ro.SliceIs Fq ψ y l∧St ψ (⟨BO, [.pointer q],d⟩::F) h'):=by
 obtain ⟨d,rfl,hd1⟩:=Option.bind_eq_some_iff.1 hd
 obtain ⟨Γ,⟨a,t,ap,fz,sl,nm,lm,ps,h1,h2,h3,h4⟩,s1⟩:=St.unpack s0
 cases h1
 refine (J7 h2.pt s1 (show Cs (lkT d.p d.A d.fa d.steps (some nm) (some lm)) s k=some r from hd1)).mono ?_
 rintro e h' ⟨v,rfl,ψ,y,l,le,rfl,rfl,kk,s2⟩
 exact ⟨_,rfl,ψ,y,l,le,rfl,rfl,kk,St.pack (p:=SR) ⟨a,t,ap,fz,sl,nm,lm,ps,rfl,h2.mono le,h3,h4⟩ s2⟩
theorem JS {q:Option Addr} {d:Option LkD} {s k:Int} (gk:Dg.Glob φ) (s0:St φ (⟨BO, [.pointer q],d⟩::F) h) {r:List Int} (hd:L9 d s k=some r):
 CallsH Tryz.prog 24 [.pointer q, .int .i64 s, .int .i64 k] h (Ar fun v h'=> ∃ψ:AC,∃y:Slc,∃l:List Int,Sub φ ψ∧v=((.one aS):Sh).val y∧l=r∧Ro.SliceIs (Ro.int .i64) ψ y l∧St ψ (⟨BO, [.pointer q],d⟩::F) h'):=by
 obtain ⟨d,rfl,hd1⟩:=Option.bind_eq_some_iff.1 hd
 obtain ⟨Γ,⟨a,t,ap,fz,sl,nm,lm,ps,h1,h2,h3,h4⟩,s1⟩:=St.unpack s0
 cases h1
 subst h4
 rw [Oh,List.nil_append] at s1
 refine AR mixed Tryz.func24 ?_
 rw [LJ]
 unfold II
 refine AF _ rfl ?_
 refine AG (x:=some lm) (h2.at s1 (j:=13) rfl) rfl ?_
 refine Fy (kk:=Cj) (a:= .pointer) (k:=(s,k)) (m:=mz ps d.L) (none:Option Addr) Tryz.underlying136 Pj (i:=Tryz.t139) (by kernel_rfl) rfl s1 ?_
 have back: ∀ {ψ:AC} {h':AH},Sub φ ψ→St ψ (giC lm ps d.L F) h'→St ψ (⟨BO, [.pointer (some a)],some d⟩::F) h':=fun le st=>
  St.pack (p:=SR) (Γ:=giC lm ps d.L []) ⟨a,t,ap,fz,sl,nm,lm,ps,rfl,h2.mono le,h3,rfl⟩ (by rw [Oh,List.nil_append]; exact st)
 cases hg:BL (s,k) d.L with
 | none=>
  rw [hg] at hd1
  obtain rfl:=iS hd1
  rw [RU hg]
  refine Ai rfl ?_
  exact AB ⟨φ,(none,0,0), [],Sub.refl _,rfl,rfl,Ro.SliceIs.nil _ _,back (Sub.refl _) s1⟩
 | some x=>
  rw [hg] at hd1
  obtain ⟨i,p0,g1,g2,g3,g4,g5⟩:=MI h3 hg
  rw [g3]
  obtain ⟨rest,r1,_⟩:=D3 g1 g2
  have s2:St φ (BR p0 x::(rest++(cM Cj Ro.pt lm (mz ps d.L)::F))) h:=s1.perm ((List.Perm.cons _ (List.Perm.append_right F r1)).trans ((List.Perm.swap _ _ _).trans (List.Perm.cons _ (List.perm_middle (l₁:=rest)).symm)))
  refine AX (Nv s2) ?_
  refine AI (LA gk s2 hd1) ?_
  rintro _ h5 ⟨ψ5,y5,le5,rfl,k5,s5⟩
  refine ⟨y5,rfl,?_⟩
  refine AB ⟨ψ5,y5,r,le5,rfl,rfl,k5,back le5 ?_⟩
  exact s5.perm (((List.Perm.cons _ (List.perm_middle (l₁:=rest))).trans (List.Perm.swap _ _ _)).trans (List.Perm.cons _ (List.Perm.append_right F r1).symm))
noncomputable def UJ (t2 t3 t4 t5 t6 t7:Slc) (ap:Option Addr) (fz:Slc×Slc×Slc×Int×Unit) (nm lm:Nat):T:=
 T.new (.cells #[(sv t2),(sv t3),(sv t4),(sv t5),(sv t6),(sv t7),(.pointer ap),(sv fz.1),(sv fz.2.1),(sv fz.2.2.1),(.int .i64 fz.2.2.2.1),(.slice none 0 0),(.map (some nm)),(.map (some lm))] 138 (0,0)) fun r17=>
 T.call 107 [(.pointer (some ⟨r17,0,none⟩)),(.func (.func 108) #[(.pointer (some ⟨r17,0,none⟩))] #[])] (.tuple []) fun (t18:Unit)=>
 T.call 109 [(.pointer (some ⟨r17,0,none⟩))] (.tuple [aS,aS]) fun (t19:Slc×Slc×Unit)=>
 T.call 112 [(.pointer (some ⟨r17,0,none⟩))] (.one aS) fun (t20:Slc)=>
 T.call 111 [(sv t19.2.1),(sv t19.1)] (.one aS) fun (t21:Slc)=>
 T.call 111 [(sv t20),(sv t21)] (.one aS) fun (t22:Slc)=>
 T.call 110 [(.pointer (some ⟨r17,0,none⟩)),(sv t22)] (.tuple []) fun (t23:Unit)=>
 T.ret (.pointer (some ⟨r17,0,none⟩))
noncomputable def Qx (p:dtP) (A:dtA) (fa:dtF):Option (Option LkD):=
 (NO p A JR ([], [])).bind fun st=>(Li p A fa st.1 st.2).bind fun rd=>(F0 p A fa st.1 st.2).bind fun inc=>
 (G1 rd.2 rd.1).bind fun f1=>(G1 inc f1).bind fun f2=>(Nu p A fa st.1 f2).bind fun L=>some (some ⟨p,A,fa,st.1,L⟩)
def OfS (φ:AC) (F:List Chk) (r:Option LkD) (v:Value) (h':AH):Prop:= ∃ψ:AC,∃y:Option Addr,∃l:Option LkD,Sub φ ψ∧v=((.one aP):Sh).val y∧l=r∧St ψ (⟨BO, [.pointer y],l⟩::F) h'
set_option maxHeartbeats 2000000 in
theorem F3 {φ0:AC} (le0:Sub φ0 φ) (gk:Dg.Glob φ) (kP:PlK φ t p) (kA:Pt FC φ ap A) (f0:Ro.SliceIs Ro.bool φ fz.1 fa.1) (f1:Ro.SliceIs (Ro.list (Ro.int .i64)) φ fz.2.1 fa.2.1) (f2:Ro.SliceIs (Ro.list (Ro.int .i64)) φ fz.2.2.1 fa.2.2.1) (f3:fz.2.2.2.1=fa.2.2.2)
 {r:Option LkD} (hd:Qx p A fa=some r) (s0:St φ (cM Cj (Ro.int .i64) nm [] ::cM Cj Ro.pt lm [] ::F) h):
 (UJ t.1 t.2.1 t.2.2.1 t.2.2.2.1 t.2.2.2.2.1 t.2.2.2.2.2.1 ap fz nm lm).wp Tryz.prog (MQ (Ar (OfS φ0 F r))) h:=by
 unfold UJ
 unfold Qx at hd
 obtain ⟨en,hen,hd⟩:=bS hd
 obtain ⟨rd,hrd,hd⟩:=bS hd
 obtain ⟨inc,hinc,hd⟩:=bS hd
 obtain ⟨g1,hg1,hd⟩:=bS hd
 obtain ⟨g2,hg2,hd⟩:=bS hd
 obtain ⟨L,hL,hd⟩:=bS hd
 obtain rfl:=iS hd
 refine AY (vs:=lkV t ap fz ((none,0,0):Slc) nm lm) s0 ?_
 intro r17 h1 s1
 have s2:St φ (enC r17 t ap fz nm lm ⟨((none,0,0):Slc), [], []⟩ ++(cM Cj Ro.pt lm [] ::F)) h1:=(St.nil 224 O7 s1).at1
 refine AI (T9 kA kP (x:=⟨((none,0,0):Slc), [], []⟩) hen s2) ?_
 rintro _ h2 ⟨rfl,ψ2,x,le2,hx,s3⟩
 refine ⟨(),rfl,?_⟩
 obtain ⟨sl,steps,num⟩:=x
 obtain rfl:=hx
 obtain ⟨ψ3,le3,cB,s4⟩:=St.blk s3
 obtain ⟨ψ4,le4,ks,s5⟩:=St.freezeRow (t:=sl) s4
 have le04:=(le2.trans le3).trans le4
 have K:LkK ψ4 ⟨r17,0,none⟩ t ap fz sl nm lm p A fa steps:=⟨cB.mono le4,kP.mono le04,kA.mono le04,f0.mono le04,f1.mono le04,f2.mono le04,f3,ks⟩
 refine AI (SQ K hrd s5) ?_
 rintro _ h5 ⟨ψ5,y1,y2,ps,le5,rfl,hps,k1,k2,s6⟩
 refine ⟨_,rfl,?_⟩
 have le05:=le04.trans le5
 have s7:St ψ5 (cM Cj (Ro.int .i64) nm num::(AP ps rd.1++(cM Cj Ro.pt lm [] ::F))) h5:=s6.perm (List.perm_middle (l₁:=AP ps rd.1))
 refine AI (Og (gk.mono le05) (K.mono le5) hinc s7) ?_
 rintro _ h6 ⟨ψ6,y3,le6,rfl,k3,s8⟩
 refine ⟨_,rfl,?_⟩
 have le06:=le05.trans le6
 refine AI (Ni (gk.mono le06) (k2.mono le6) (k1.mono le6) hps s8.tail hg1) ?_
 rintro _ h7 ⟨ψ7,y4,qs,le7,rfl,hqs,s9⟩
 refine ⟨_,rfl,?_⟩
 have le07:=le06.trans le7
 obtain ⟨ψ8,le8,k4,s10⟩:=St.freezeRow (t:=y4) s9
 have le08:=le07.trans le8
 refine AI (Ni (gk.mono le08) (k3.mono (le7.trans le8)) k4 hqs s10 hg2) ?_
 rintro _ h8 ⟨ψ9,y5,us,le9,rfl,hus,s11⟩
 refine ⟨_,rfl,?_⟩
 obtain ⟨ψ10,le10,k5,s12⟩:=St.freezeRow (t:=y5) s11
 have le010:=(le08.trans le9).trans le10
 have le410:=(((((le5.trans le6).trans le7).trans le8).trans le9).trans le10)
 have s13:St ψ10 (giC lm [] [] (AP us g2++(AP qs g1++(AP ps rd.1++F)))) h8:=by
  refine s12.perm ?_
  show (AP us g2++(AP qs g1++(AP ps rd.1++(cM Cj Ro.pt lm [] ::F)))).Perm (cM Cj Ro.pt lm [] ::(AP us g2++(AP qs g1++(AP ps rd.1++F))))
  rw [← List.append_assoc,← List.append_assoc,← List.append_assoc (AP us g2),← List.append_assoc (AP us g2++AP qs g1)]
  exact List.perm_middle
 refine AI (UI (gk.mono le010) (K.mono le410) k5 hus hL s13) ?_
 rintro _ h9 ⟨rfl,ψ11,vs,le11,hvs,s14⟩
 refine ⟨(),rfl,?_⟩
 refine AB ⟨ψ11,some ⟨r17,0,none⟩,_,(le0.trans le010).trans le11,rfl,rfl,?_⟩
 refine St.pack (p:=SR) (Γ:=giC lm vs L []) ⟨⟨r17,0,none⟩,t,ap,fz,sl,nm,lm,vs,rfl,K.mono (le410.trans le11),hvs,rfl⟩ ?_
 rw [Oh,List.nil_append]
 have s15:St ψ11 ((AP us g2++(AP qs g1++AP ps rd.1)) ++(giC lm vs L F)) h9:=by
  refine s14.perm ?_
  show (cM Cj Ro.pt lm (mz vs L)::(AP vs (L.map (·.2)) ++(AP us g2++(AP qs g1++(AP ps rd.1++F))))).Perm ((AP us g2++(AP qs g1++AP ps rd.1)) ++(cM Cj Ro.pt lm (mz vs L)::(AP vs (L.map (·.2)) ++F)))
  rw [show AP us g2++(AP qs g1++(AP ps rd.1++F))=(AP us g2++(AP qs g1++AP ps rd.1)) ++F by simp [List.append_assoc]]
  generalize AP us g2++(AP qs g1++AP ps rd.1)=X
  refine (List.Perm.cons _ ?_).trans (List.perm_middle (l₁:=X)).symm
  rw [← List.append_assoc,← List.append_assoc]
  exact List.Perm.append_right F List.perm_append_comm
 exact St.drop _ s15
set_option maxHeartbeats 4000000 in
theorem UK {p_0:Slc×Slc×Slc×Slc×Slc×Slc×Unit} {d0 d1:List ByteArray} {d2:List BC} {d3 d4:List Int} {d5:List ByteArray} {d6:dtA} {a_1:Option Addr} (gk:Dg.Glob φ)
 (k0:Ro.SliceIs Ro.str φ p_0.1 d0) (k1:Ro.SliceIs Ro.str φ p_0.2.1 d1) (k2:Ro.SliceIs CF φ p_0.2.2.1 d2) (k3:Ro.SliceIs (Ro.int .i64) φ p_0.2.2.2.1 d3) (k4:Ro.SliceIs (Ro.int .i64) φ p_0.2.2.2.2.1 d4) (k5:Ro.SliceIs Ro.str φ p_0.2.2.2.2.2.1 d5) (kA:Pt FC φ a_1 d6) (s0:St φ F h) {r:Option LkD} (hd:RV (d0,d1,d2,d3,d4,d5) d6=some r):
 CallsH Tryz.prog 69 [.agg #[sv p_0.1,sv p_0.2.1,sv p_0.2.2.1,sv p_0.2.2.2.1,sv p_0.2.2.2.2.1,sv p_0.2.2.2.2.2.1], .pointer a_1] h (Ar (OfS φ F r)):=by
 refine AR mixed Tryz.func69 ?_
 rw [Ph]
 unfold Ns
 obtain ⟨fa,hfa,hd⟩:=bS hd
 have hd:Qx (d0,d1,d2,d3,d4,d5) d6 fa=some r:=hd
 have kP:PlK φ p_0 (d0,d1,d2,d3,d4,d5):=⟨k0,k1,k2,k3,k4,k5⟩
 refine AY (vs:=plV p_0) s0 ?_
 intro r1 h1 s1
 obtain ⟨φ1,le1,cB,s1⟩:=St.blk s1
 have hc: ∀ {ψ:AC} {Γ:List Chk} {h':AH},Sub φ1 ψ→St ψ Γ h'→ ∀j v,(plV p_0)[j]? =some v→BH h' ⟨r1,j,none⟩=some v:=fun {ψ Γ h'} le st j v hv=>by
  have:=AE st.sub ((cB.mono le).at j hv)
  rw [Dp,Nat.zero_add] at this
  exact this
 have hc1:=hc (Sub.refl _) s1
 refine JQ hc1 ?_
 refine JQ hc1 ?_
 have gk1:=gk.mono le1
 have kP1:=kP.mono le1
 have kA1:=kA.mono le1
 have call: ∀ {Γ:List Chk} {w:AH} {K:(Slc×Slc×Slc×Int×Unit)→T} {Q:Bi→AH→Prop},St φ1 Γ w→
  (∀(ψ:AC) (fz:Slc×Slc×Slc×Int×Unit) (w':AH),Sub φ1 ψ→Ro.SliceIs Ro.bool ψ fz.1 fa.1→Ro.SliceIs (Ro.list (Ro.int .i64)) ψ fz.2.1 fa.2.1→Ro.SliceIs (Ro.list (Ro.int .i64)) ψ fz.2.2.1 fa.2.2.1→fz.2.2.2.1=fa.2.2.2→St ψ Γ w'→(K fz).wp Tryz.prog Q w')→
  (T.call 106 [(.agg #[(sv p_0.1),(sv p_0.2.1),(sv p_0.2.2.1),(sv p_0.2.2.2.1),(sv p_0.2.2.2.2.1),(sv p_0.2.2.2.2.2.1)])] (.one (.agg [.slice, .slice, .slice,(.int .i64)])) K).wp Tryz.prog Q w:=by
  intro Γ w K Q st hk
  refine AI (Od gk1 kP1 st hfa) ?_
  rintro _ w' ⟨ψ,y,le,rfl,g0,g1,g2,g3,st'⟩
  exact ⟨y,rfl,hk ψ y w' le g0 g1 g2 g3 st'⟩
 refine FZ ?_ (FZ ?_ ?_)
 ·refine call s1 ?_
  intro ψ fz w le g0 g1 g2 g3 st
  have hcc:=fun {Γ:List Chk} {h':AH} (st:St ψ Γ h')=>hc le st
  repeat refine AO (hcc st _ _ rfl) ?_
  refine FZ ?_ ?_
  ·refine DA Cj (Ro.int .i64) st ?_
   intro r15 w2 st2
   repeat refine AO (hcc st2 _ _ rfl) ?_
   refine DA Cj Ro.pt st2 ?_
   intro r16 w3 st3
   repeat refine AO (hcc st3 _ _ rfl) ?_
   exact F3 (le1.trans le) (gk1.mono le) (kP1.mono le) (kA1.mono le) g0 g1 g2 g3 hd st3.at1
  ·refine DA Cj Ro.pt st ?_
   intro r15 w2 st2
   repeat refine AO (hcc st2 _ _ rfl) ?_
   refine DA Cj (Ro.int .i64) st2 ?_
   intro r16 w3 st3
   repeat refine AO (hcc st3 _ _ rfl) ?_
   exact F3 (le1.trans le) (gk1.mono le) (kP1.mono le) (kA1.mono le) g0 g1 g2 g3 hd st3
 ·refine DA Cj (Ro.int .i64) s1 ?_
  intro r33 w2 st2
  have hc2:=hc (Sub.refl _) st2
  repeat refine AO (hc2 _ _ rfl) ?_
  refine FZ ?_ ?_
  ·refine call st2 ?_
   intro ψ fz w le g0 g1 g2 g3 st
   have hcc:=fun {Γ:List Chk} {h':AH} (st:St ψ Γ h')=>hc le st
   repeat refine AO (hcc st _ _ rfl) ?_
   refine DA Cj Ro.pt st ?_
   intro r35 w3 st3
   repeat refine AO (hcc st3 _ _ rfl) ?_
   exact F3 (le1.trans le) (gk1.mono le) (kP1.mono le) (kA1.mono le) g0 g1 g2 g3 hd st3.at1
  ·refine DA Cj Ro.pt st2 ?_
   intro r35 w3 st3
   have hc3:=hc (Sub.refl _) st3
   repeat refine AO (hc3 _ _ rfl) ?_
   refine call st3 ?_
   intro ψ fz w le g0 g1 g2 g3 st
   have hcc:=fun {Γ:List Chk} {h':AH} (st:St ψ Γ h')=>hc le st
   repeat refine AO (hcc st _ _ rfl) ?_
   exact F3 (le1.trans le) (gk1.mono le) (kP1.mono le) (kA1.mono le) g0 g1 g2 g3 hd st.at1
 ·refine DA Cj Ro.pt s1 ?_
  intro r33 w2 st2
  have hc2:=hc (Sub.refl _) st2
  repeat refine AO (hc2 _ _ rfl) ?_
  refine FZ ?_ ?_
  ·refine call st2 ?_
   intro ψ fz w le g0 g1 g2 g3 st
   have hcc:=fun {Γ:List Chk} {h':AH} (st:St ψ Γ h')=>hc le st
   repeat refine AO (hcc st _ _ rfl) ?_
   refine DA Cj (Ro.int .i64) st ?_
   intro r35 w3 st3
   repeat refine AO (hcc st3 _ _ rfl) ?_
   exact F3 (le1.trans le) (gk1.mono le) (kP1.mono le) (kA1.mono le) g0 g1 g2 g3 hd st3
  ·refine DA Cj (Ro.int .i64) st2 ?_
   intro r35 w3 st3
   have hc3:=hc (Sub.refl _) st3
   repeat refine AO (hc3 _ _ rfl) ?_
   refine call st3 ?_
   intro ψ fz w le g0 g1 g2 g3 st
   have hcc:=fun {Γ:List Chk} {h':AH} (st:St ψ Γ h')=>hc le st
   repeat refine AO (hcc st _ _ rfl) ?_
   exact F3 (le1.trans le) (gk1.mono le) (kP1.mono le) (kA1.mono le) g0 g1 g2 g3 hd st
end
def trE (p:dtP) (n:Nat) (es:List Edge):List (Stp×Int):=(es.filter fun e=> !(decide (0≤e.1) && decide (e.1<nT p))).map fun e=>(((n:Int),e.1),e.2)
def trs (p:dtP) (E:List (List Edge)) (n:Nat):List (Stp×Int):=(List.range n).flatMap fun k=>trE p k (E[k]?.getD [])
theorem M3 (p:dtP) (E:List (List Edge)) (n:Nat):trs p E (n+1)=trs p E n++trE p n (E[n]?.getD []):=by
 unfold trs
 rw [List.range_succ,List.flatMap_append]
 simp
theorem UL (p:dtP) (E:List (List Edge)) {n m:Nat} (h:n≤m):trs p E n<+:trs p E m:=by
 induction h with
 | refl=>exact List.prefix_refl _
 | step _ ih=>rw [M3]; exact ih.trans (List.prefix_append _ _)
theorem Pp {p:dtP} {n:Nat} {es:List Edge} {j:Nat} {e:Edge} (h:es[j]? =some e):trE p n (es.take (j+1))=trE p n (es.take j) ++trE p n [e] :=by
 unfold trE
 rw [List.take_add_one,h,List.filter_append,List.map_append]
 rfl
theorem VI (p:dtP) (n:Nat) (es:List Edge) (j:Nat):trE p n (es.take j) <+:trE p n es:=by
 unfold trE
 obtain ⟨r,hr⟩:=List.take_prefix j es
 refine ⟨(r.filter fun e=> !(decide (0≤e.1) && decide (e.1<nT p))).map fun e=>(((n:Int),e.1),e.2),?_⟩
 rw [← List.map_append,← List.filter_append,hr]
section
variable {p:dtP} {B:List dtK} {E:List (List Edge)} {tt:Int}
theorem RX (V:VPp p) (H:Fin p B E) (hB:B.length≤1000000) {σ:Type} {f:σ→Stp→Int→Option σ} {s:σ} (I:List (Stp×Int)→σ→Prop) (h0:I [] s)
 (hs: ∀pre x s,pre++ [x] <+:trs p E B.length→I pre s→Ok (f s x.1 x.2) (I (pre++ [x]))):Ok (NO p (C4 p B E tt) f s) (I (trs p E B.length)):=by
 unfold NO
 refine AN (Ht H) ?_
 refine CA (n:=B.length) (fun k s=>I (trs p E k) s) (by omega) h0 fun k s hk hI=> ?_
 have hb:=List.getElem?_eq_getElem hk
 obtain ⟨es,he⟩:=H.edge hb
 refine AN (JI V H hb he) ?_
 have hl:=H.edges_len V hb he
 have hsucc:trs p E (k+1)=trs p E k++trE p k es:=by rw [M3,he]; rfl
 have hpre:=UL p E (show k+1≤B.length from hk)
 rw [hsucc] at hpre
 obtain ⟨s',e1,e2⟩:=CA (f:=fun j s=>(idx es j).bind fun e=>(BZ p e.1).bind fun t=>cond (!t) (f s ((k:Int),e.1) e.2) (some s)) (n:=es.length) (fun j s=>I (trs p E k++trE p k (es.take j)) s) (by omega) (s:=s) (by
  rw [List.take_zero]
  show I (trs p E k++ []) s
  rw [List.append_nil]; exact hI) fun j s hj hI=>by
   have hx:=List.getElem?_eq_getElem hj
   refine AV hx (AN (Hr p _) ?_)
   rw [Pp hx]
   cases hc:(decide (0≤es[j].1) && decide (es[j].1<nT p)) with
   | true=>
    have e:trE p k [es[j]] = [] :=by unfold trE; rw [List.filter_cons,hc]; rfl
    rw [e,List.append_nil]
    refine An ?_ (AD hI)
    show (!(decide (0≤es[j].1) && decide (es[j].1<nT p)))=false
    rw [hc]; rfl
   | false=>
    have e:trE p k [es[j]] = [(((k:Int),es[j].1),es[j].2)] :=by unfold trE; rw [List.filter_cons,hc]; rfl
    rw [e]
    refine Cp ?_ ?_
    ·show (!(decide (0≤es[j].1) && decide (es[j].1<nT p)))=true
     rw [hc]; rfl
    ·rw [← List.append_assoc]
     refine hs _ (((k:Int),es[j].1),es[j].2) s ?_ hI
     rw [List.append_assoc,← e,← Pp hx]
     exact ((List.prefix_append_right_inj _).2 (VI p k es (j+1))).trans hpre
 refine ⟨s',e1,?_⟩
 rw [List.take_of_length_le (Nat.le_refl _)] at e2
 show I (trs p E (k+1)) s'
 rw [hsucc]
 exact e2
theorem UM (H:Fin p B E) {n:Nat} {b:dtK} {e:List Edge} (hb:B[n]? =some b) (he:E[n]? =some e) {s t:Int} :(s,t) ∈ e ↔ IU p.2.2.1 B b e s t∧t ≠ -1:=by
 have hd:=H.done n b e hb he
 constructor
 ·intro h
  obtain ⟨q,bt,h1,h2,h3,h4⟩:=hd.2 _ h
  dsimp only at h1 h4
  exact ⟨.inl ⟨by rw [← hd.1]; exact List.mem_map.2 ⟨_,h,rfl⟩,q,bt,h1,h2,h3,h4,h⟩,by omega⟩
 ·rintro ⟨⟨_,q,bt,_,_,_,_,h⟩ | ⟨_,h⟩,h2⟩
  ·exact h
  ·exact absurd h h2
theorem Eg (H:Fin p B E) {n:Nat} {e:List Edge} (hn:n<B.length) (he:E[n]? =some e) {s t:Int} :(s,t) ∈ e ↔ ∃m:Nat,t=(m:Int)∧TrB p B E n s m:=by
 have hb:=List.getElem?_eq_getElem hn
 rw [UM H hb he]
 constructor
 ·rintro ⟨hg,h2⟩
  have hg':=hg
  rcases hg with ⟨_,q,bt,h3,_⟩ | ⟨_,h⟩
  ·subst h3; exact ⟨q,rfl,_,e,hb,he,hg'⟩
  ·exact absurd h h2
 ·rintro ⟨m,rfl,b',e',hb',he',hg⟩
  rw [hb] at hb'; cases hb'
  rw [he] at he'; cases he'
  exact ⟨hg,by omega⟩
theorem Jj (V:VPp p) (H:Fin p B E) {x:Stp×Int} :x ∈ trs p E B.length ↔ ∃(n:Nat) (s:Int) (m:Nat),x=(((n:Int),s),(m:Int))∧nT p≤s∧TrB p B E n s m:=by
 unfold trs trE
 rw [List.mem_flatMap]
 constructor
 ·rintro ⟨n,hn,hx⟩
  have hn:=List.mem_range.1 hn
  obtain ⟨e,he⟩:=H.edge (List.getElem?_eq_getElem hn)
  rw [he] at hx
  obtain ⟨y,hy,rfl⟩:=List.mem_map.1 hx
  obtain ⟨h1,h2⟩:=List.mem_filter.1 hy
  obtain ⟨m,hm,ht⟩:=(Eg H hn he (s:=y.1) (t:=y.2)).1 h1
  have h0:=((LF V H).st ht).2.2.2
  refine ⟨n,y.1,m,by rw [hm],?_,ht⟩
  rw [decide_eq_true h0,Bool.true_and,Bool.not_eq_true',decide_eq_false_iff_not] at h2
  omega
 ·rintro ⟨n,s,m,rfl,hs,ht⟩
  have hn:n<B.length:=((LF V H).st ht).1
  obtain ⟨e,he⟩:=H.edge (List.getElem?_eq_getElem hn)
  have h0:=((LF V H).st ht).2.2.2
  refine ⟨n,List.mem_range.2 hn,?_⟩
  rw [he]
  refine List.mem_map.2 ⟨(s,(m:Int)),List.mem_filter.2 ⟨(Eg H hn he).2 ⟨m,rfl,ht⟩,?_⟩,rfl⟩
  rw [decide_eq_false (show ¬s<nT p by omega),Bool.and_false]
  rfl
theorem Nw (V:VPp p) (H:Fin p B E):((trs p E B.length).map (·.1)).Nodup:=by
 have key: ∀n,n≤B.length→((trs p E n).map (·.1)).Nodup∧ ∀x ∈ (trs p E n).map (·.1),x.1< (n:Int):=by
  intro n
  induction n with
  | zero=>intro _; exact ⟨by simp [trs],by simp [trs]⟩
  | succ n ih=>
   intro hn
   obtain ⟨h1,h2⟩:=ih (by omega)
   have hb:=List.getElem?_eq_getElem (show n<B.length from hn)
   obtain ⟨e,he⟩:=H.edge hb
   have hd:=(H.done n _ e hb he).1
   have hu:=Vh p.2.2.1 B[n].2.1
   rw [← hd] at hu
   have h3: ∀x ∈ (trE p n e).map (·.1),x.1=(n:Int):=by
    intro x hx
    obtain ⟨y,hy,rfl⟩:=List.mem_map.1 hx
    obtain ⟨z,_,rfl⟩:=List.mem_map.1 hy
    rfl
   have h4:((trE p n e).map (·.1)).Nodup:=by
    unfold trE
    rw [List.map_map]
    have hsub:((e.filter fun e=> !(decide (0≤e.1) && decide (e.1<nT p))).map (·.1)).Pairwise (· < ·):=hu.sublist (List.Sublist.map _ List.filter_sublist)
    rw [List.nodup_iff_pairwise_ne,List.pairwise_map]
    rw [List.pairwise_map] at hsub
    exact hsub.imp fun {a b} h g=>by
     have:=(Prod.mk.inj g).2
     omega
   rw [M3,he]
   show ((trs p E n++trE p n e).map (·.1)).Nodup∧ ∀x ∈ (trs p E n++trE p n e).map (·.1),x.1< ((n+1:Nat):Int)
   rw [List.map_append]
   refine ⟨List.nodup_append.2 ⟨h1,h4,fun a ha b hb g=> ?_⟩,fun x hx=> ?_⟩
   ·have:=h2 a ha
    have:=h3 b hb
    subst g
    omega
   ·rcases List.mem_append.1 hx with h | h
    ·have:=h2 x h; omega
    ·have:=h3 x h; omega
 exact (key _ (Nat.le_refl _)).1
theorem VJ (V:VPp p) (H:Fin p B E) (hV: ∀n s m,TrB p B E n s m→s<nT p+((p.2.1.length:Nat):Int)):(trs p E B.length).length≤B.length * p.2.1.length:=by
 have h:=List.Nodup.length_le_of_subset (l₂:=(List.range B.length).flatMap fun a=>(List.range p.2.1.length).map fun b=>(((a:Nat):Int),nT p+((b:Nat):Int))) (Nw V H) fun x hx=>by
  obtain ⟨y,hy,rfl⟩:=List.mem_map.1 hx
  obtain ⟨n,s,m,rfl,hs,ht⟩:=(Jj V H).1 hy
  have h1:=hV n s m ht
  have hn:n<B.length:=((LF V H).st ht).1
  refine List.mem_flatMap.2 ⟨n,List.mem_range.2 hn,List.mem_map.2 ⟨(s - nT p).toNat,List.mem_range.2 (by omega),Prod.ext rfl ?_⟩⟩
  dsimp only
  omega
 rw [List.length_map,List.length_flatMap] at h
 simp only [List.length_map,List.length_range,List.map_const',List.sum_replicate_nat] at h
 exact h
structure Num (st:List Stp) (nm:List (Stp×Int)):Prop where
 at_: ∀(i:Nat) k,st[i]? =some k→BL k nm=some (i:Int)
 none: ∀k,k ∉ st→BL k nm=none
theorem UN (V:VPp p) (H:Fin p B E) (hB:B.length≤1000000) (hl:(trs p E B.length).length≤100000):Ok (NO p (C4 p B E tt) JR ([], [])) fun st=>st.1=(trs p E B.length).map (·.1)∧Num st.1 st.2:=by
 have hnd:=Nw V H
 refine RX V H hB (fun pre (st:EnS)=>st.1=pre.map (·.1)∧Num st.1 st.2) ⟨rfl,fun i k h=>by simp at h,fun _ _=>rfl⟩ fun pre x st hpre hI=> ?_
 obtain ⟨st1,nm⟩:=st
 obtain ⟨rfl,hN⟩:=hI
 dsimp only at hN ⊢
 have hlen:pre.length+1≤(trs p E B.length).length:=by
  have:=hpre.length_le
  simpa using this
 have hnew:x.1 ∉ pre.map (·.1):=by
  obtain ⟨r,hr⟩:=hpre
  rw [← hr,List.map_append,List.map_append] at hnd
  have:=(List.nodup_append.1 (List.nodup_append.1 hnd).1).2.2
  intro hm
  exact this _ hm x.1 (by simp) rfl
 unfold JR
 dsimp only
 refine Bm (by simp; omega) (AD ⟨by simp,fun i k h=> ?_,fun k hk=> ?_⟩)
 ·dsimp only at h ⊢
  rw [Cg]
  rcases Nat.lt_or_ge i pre.length with g | g
  ·rw [List.getElem?_append_left (by simpa using g)] at h
   rw [if_neg (fun e=>hnew (by rw [← e]; exact List.mem_of_getElem? h))]
   exact hN.at_ i k h
  ·rw [List.getElem?_append_right (by simpa using g),List.length_map] at h
   have:i - pre.length=0:=by
    have:=(List.getElem?_eq_some_iff.1 h).1
    simp at this
    omega
   rw [this] at h
   simp at h
   rw [if_pos h.symm]
   congr 1
   simp
   omega
 ·dsimp only at hk ⊢
  rw [List.mem_append] at hk
  rw [Cg,if_neg fun e=>hk (.inr (by simp [e])),hN.none k fun h=>hk (.inl h)]
end
structure DP (p:dtP) (B:List dtK) (E:List (List Edge)) (fa:dtF):Prop where
 vp:VPp p
 sy:Sy p
 fin:Fin p B E
 gr:Gr (nT p) p.2.2.1
 few:B.length≤300
 vars:p.2.1.length≤24
 fa:T6 p fa
 zero: ∃st,p.2.2.1[0]? =some (nT p+((p.2.1.length:Nat):Int), [st],0)
section
variable {p:dtP} {B:List dtK} {E:List (List Edge)} {fa:dtF} {tt:Int} {steps:List Stp} {o1 o2:Option Nat}
theorem DP.aut (H:DP p B E fa):Aut p.2.2.1 (SB B) (KB B) (TrB p B E):=LF H.vp H.fin
theorem DP.sym (H:DP p B E fa) {n m:Nat} {s:Int} (h:TrB p B E n s m):0≤s∧s<nT p+((p.2.1.length:Nat):Int):=by
 have A:=H.aut
 obtain ⟨y,h1,h2⟩:=A.some_ h
 obtain ⟨k,d,rfl,_,_⟩:=A.form (A.st h).1 h1
 obtain ⟨r,h3,h4⟩:=OX H.gr h2 (A.st h).2.2.2
 exact H.sy.right r (List.mem_of_getElem? h3) s (List.mem_of_getElem? h4)
theorem DP.lens (H:DP p B E fa):(trs p E B.length).length≤7200:=by
 have h:=VJ H.vp H.fin fun n s m ht=>(H.sym ht).2
 have h1:=H.few
 have h2:=H.vars
 have h3:B.length * p.2.1.length≤300 * 24:=Nat.mul_le_mul h1 h2
 omega
theorem Oi (H:DP p B E fa) {n:Nat} (hn:n<B.length) {k:Nat} {r:BC} (hr:p.2.2.1[k]? =some r):
 Ok (Ba (lkT p (C4 p B E tt) fa steps o1 o2) (n:Int) (k:Int)) fun b=>b=true ↔ It p.2.2.1 (KB B) n k r.2.1.length:=by
 have hk:=BM hr
 have hb:=List.getElem?_eq_getElem hn
 have hg:=(H.fin.good H.vp hb).2.2.2.2
 unfold Ba
 refine AM (Q:=fun c=>c=false) (An (decide_eq_false (by omega)) (AD (decide_eq_false (by dsimp only; omega)))) fun c hc=> ?_
 subst hc
 refine An rfl (AV hr (AN (PZ H.vp H.fin hb) (AN (JH (by omega)) (AD ?_))))
 rw [decide_eq_true_eq]
 exact E5 H.vp H.fin hb _
def Dir (p:dtP) (B:List dtK) (E:List (List Edge)) (m:Nat) (j:Int):Prop:=(j<nT p∧ ∃q,TrB p B E m j q)∨(j=0∧It p.2.2.1 (KB B) m 0 1)
structure RdI (p:dtP) (B:List dtK) (E:List (List Edge)) (num:List (Stp×Int)) (x:Stp×Int) (d:AW) (l:List Int):Prop where
 ok:OkS d∧d.1=nT p
 mem: ∀m:Nat,x.2=(m:Int)→ ∀j,Dg.mem d j=true ↔ Dir p B E m j
 few:l.length≤20000
 next: ∀m:Nat,x.2=(m:Int)→ ∀k,k ∈ l ↔ ∃c q,TrB p B E m c q∧nT p≤c∧Nul p.2.2.1 c∧(BL ((m:Int),c) num).getD 0=k
theorem Ap {α:Type} {l:List α} {k:Nat} {x:α} (h:l[k]? =some x) {y:α} :y ∈ l.take (k+1) ↔ y ∈ l.take k∨y=x:=by
 rw [List.take_add_one,h,List.mem_append]
 simp
theorem UO (H:DP p B E fa) {num:List (Stp×Int)} {x:Stp×Int} {st:RdS} (hx:x ∈ trs p E B.length) (h1:st.1.length≤100000) (h2:st.2.length≤100000):
 Ok (M2 p (C4 p B E tt) fa steps num st x.1 x.2) fun st'=> ∃d l,st'=(st.1++ [d],st.2++ [l])∧RdI p B E num x d l:=by
 obtain ⟨n,s,m,rfl,hs,ht⟩:=(Jj H.vp H.fin).1 hx
 have A:=H.aut
 have hm:m<B.length:=(A.st ht).2.1
 have hT:=H.sy.t1
 have hV:=H.vars
 have hnT:nT p=(p.1.length:Int):=rfl
 have hb:=List.getElem?_eq_getElem hm
 obtain ⟨es,he⟩:=H.fin.edge hb
 have hel:=H.fin.edges_len H.vp hb he
 have cl:=LH H.sy
 obtain ⟨z,hz⟩:=H.zero
 unfold M2
 dsimp only
 obtain ⟨s0,e0,k1,k2,k3⟩:=Dg.new_ok (nT p)
 refine AN e0 (AM (Oi H hm (k:=0) hz) fun b hbd=> ?_)
 have hbd:b=true ↔ It p.2.2.1 (KB B) m 0 1:=hbd
 refine AM (Q:=fun (u:AW)=>OkS u∧u.1=nT p∧ ∀j,mem u j=true ↔ (j=0∧It p.2.2.1 (KB B) m 0 1)) (Ac (fun hc=> ?_) fun hc=>AD ⟨k1,k2.trans cl,fun j=> ?_⟩) fun u hu=> ?_
 ·obtain ⟨u,a1,a2,a3,a4⟩:=Dg.add_ok k1 0
  refine AN a1 (AD ⟨a2,a3.trans (k2.trans cl),fun j=> ?_⟩)
  dsimp only
  rw [a4,k3,Bool.false_or,decide_eq_true_eq]
  exact ⟨fun h=>⟨h.1,hbd.1 hc⟩,fun h=>⟨h.1,by omega,by rw [k2,cl]; omega⟩⟩
 ·rw [k3]
  constructor
  ·intro h; cases h
  ·intro h; have:=hbd.2 h.2; rw [hc] at this; cases this
 obtain ⟨u1,u2,u3⟩:=hu
 refine AN (JI H.vp H.fin hb he) ?_
 refine B5 (fun j (z:AW×List Int)=>OkS z.1∧z.1.1=nT p∧(∀i,mem z.1 i=true ↔ (mem u i=true∨ ∃e ∈ es.take j,e.1=i∧e.1<nT p))∧z.2.length≤j∧ ∀k,k ∈ z.2 ↔ ∃e ∈ es.take j,nT p≤e.1∧Nul p.2.2.1 e.1∧(BL ((m:Int),e.1) num).getD 0=k) (by omega)
  ⟨u1,u2,fun i=>by simp,by simp,fun k=>by simp⟩ (fun j z hj hz=> ?_) fun z hz=> ?_
 ·obtain ⟨zs,zl⟩:=z
  obtain ⟨z1,z2,z3,z4,z5⟩:=hz
  dsimp only at z1 z2 z3 z4 z5 ⊢
  have hx:=List.getElem?_eq_getElem hj
  obtain ⟨e,hee⟩: ∃e,es[j] =e:=⟨_,rfl⟩
  rw [hee] at hx
  obtain ⟨q,hq,htq⟩:=(Eg H.fin hm he (s:=e.1) (t:=e.2)).1 (List.mem_of_getElem? hx)
  obtain ⟨g0,g1⟩:=H.sym htq
  refine AV hx (AN (Hr p _) (Ac (fun hc=> ?_) fun hc=> ?_))
  ·rw [Bool.and_eq_true,decide_eq_true_eq,decide_eq_true_eq] at hc
   obtain ⟨v,a1,a2,a3,a4⟩:=Dg.add_ok z1 e.1
   refine AN a1 (AD ⟨a2,a3.trans z2,fun i=> ?_,by dsimp only; omega,fun k=> ?_⟩)
   ·dsimp only
    rw [a4,Bool.or_eq_true,z3,decide_eq_true_eq,z2]
    constructor
    ·rintro ((h | ⟨e',h1,h2⟩) | h)
     ·exact .inl h
     ·exact .inr ⟨e',(Ap hx).2 (.inl h1),h2⟩
     ·exact .inr ⟨e,(Ap hx).2 (.inr rfl),h.1.symm,by omega⟩
    ·rintro (h | ⟨e',h1,h2,h3⟩)
     ·exact .inl (.inl h)
     ·rcases (Ap hx).1 h1 with h1 | rfl
      ·exact .inl (.inr ⟨e',h1,h2,h3⟩)
      ·exact .inr ⟨h2.symm,g0,h3⟩
   ·dsimp only
    rw [z5]
    constructor
    ·rintro ⟨e',h1,h2⟩; exact ⟨e',(Ap hx).2 (.inl h1),h2⟩
    ·rintro ⟨e',h1,h2⟩
     rcases (Ap hx).1 h1 with h1 | rfl
     ·exact ⟨e',h1,h2⟩
     ·omega
  ·rw [Bool.and_eq_false_iff,decide_eq_false_iff_not,decide_eq_false_iff_not] at hc
   have hge:nT p≤e.1:=by omega
   have ee:IntKind.wrap .i64 (e.1 - nT p)=(((e.1 - nT p).toNat:Nat):Int):=by rw [w64 (by omega) (by omega)]; omega
   have hn:=H.fa.len
   have hlt:(e.1 - nT p).toNat<fa.1.length:=by omega
   have hbb:=List.getElem?_eq_getElem hlt
   have hnul:=H.fa.nul e.1 hge
   rw [hbb] at hnul
   rw [ee]
   refine AV hbb ?_
   have sets: ∀i,mem zs i=true ↔ (mem u i=true∨ ∃e ∈ es.take (j+1),e.1=i∧e.1<nT p):=fun i=>by
    rw [z3]
    constructor
    ·rintro (h | ⟨e',h1,h2⟩)
     ·exact .inl h
     ·exact .inr ⟨e',(Ap hx).2 (.inl h1),h2⟩
    ·rintro (h | ⟨e',h1,h2,h3⟩)
     ·exact .inl h
     ·rcases (Ap hx).1 h1 with h1 | rfl
      ·exact .inr ⟨e',h1,h2,h3⟩
      ·omega
   refine Ac (fun hc2=>Bm (by simp; omega) (AD ⟨z1,z2,sets,by simp; omega,fun k=> ?_⟩)) fun hc2=>AD ⟨z1,z2,sets,by dsimp only; omega,fun k=> ?_⟩
   ·dsimp only
    rw [List.mem_append,z5,List.mem_singleton]
    constructor
    ·rintro (⟨e',h1,h2⟩ | h)
     ·exact ⟨e',(Ap hx).2 (.inl h1),h2⟩
     ·exact ⟨e,(Ap hx).2 (.inr rfl),hge,hnul.1 (by rw [hc2]),h.symm⟩
    ·rintro ⟨e',h1,h2,h3,h4⟩
     rcases (Ap hx).1 h1 with h1 | rfl
     ·exact .inl ⟨e',h1,h2,h3,h4⟩
     ·exact .inr h4.symm
   ·dsimp only
    rw [z5]
    constructor
    ·rintro ⟨e',h1,h2⟩; exact ⟨e',(Ap hx).2 (.inl h1),h2⟩
    ·rintro ⟨e',h1,h2,h3,h4⟩
     rcases (Ap hx).1 h1 with h1 | rfl
     ·exact ⟨e',h1,h2,h3,h4⟩
     ·have:=hnul.2 h3
      rw [hc2] at this
      cases this
 ·obtain ⟨zs,zl⟩:=z
  obtain ⟨z1,z2,z3,z4,z5⟩:=hz
  dsimp only at z1 z2 z3 z4 z5 ⊢
  rw [List.take_of_length_le (Nat.le_refl _)] at z3 z5
  refine Bm (by simp; omega) (Bm (by simp; omega) (AD ⟨zs,zl,rfl,⟨⟨z1,z2⟩,fun m' hm' j=> ?_,by omega,fun m' hm' k=> ?_⟩⟩))
  ·have:m'=m:=by dsimp only at hm'; omega
   subst this
   rw [z3,u3]
   unfold Dir
   constructor
   ·rintro (h | ⟨e,h1,rfl,h3⟩)
    ·exact .inr h
    ·obtain ⟨q,_,hq⟩:=(Eg H.fin hm he (s:=e.1) (t:=e.2)).1 h1
     exact .inl ⟨h3,q,hq⟩
   ·rintro (⟨h1,q,hq⟩ | h)
    ·exact .inr ⟨(j,(q:Int)),(Eg H.fin hm he).2 ⟨q,rfl,hq⟩,rfl,h1⟩
    ·exact .inl h
  ·have:m'=m:=by dsimp only at hm'; omega
   subst this
   rw [z5]
   constructor
   ·rintro ⟨e,h1,h2,h3,h4⟩
    obtain ⟨q,_,hq⟩:=(Eg H.fin hm he (s:=e.1) (t:=e.2)).1 h1
    exact ⟨e.1,q,hq,h2,h3,h4⟩
   ·rintro ⟨c,q,hq,h2,h3,h4⟩
    exact ⟨(c,(q:Int)),(Eg H.fin hm he).2 ⟨q,rfl,hq⟩,h2,h3,h4⟩
theorem VK {α:Type} {l:List α} {i:Nat} {x y:α} (h:(l++ [x])[i]? =some y):(i<l.length∧l[i]? =some y)∨(i=l.length∧y=x):=by
 rcases Nat.lt_or_ge i l.length with g | g
 ·rw [List.getElem?_append_left g] at h; exact .inl ⟨g,h⟩
 ·rw [List.getElem?_append_right g] at h
  have:i - l.length=0:=by
   have:=(List.getElem?_eq_some_iff.1 h).1
   simp at this
   omega
  rw [this] at h
  simp at h
  exact .inr ⟨by omega,h.symm⟩
theorem Ny {α:Type} (l:List α) (x:α):(l++ [x])[l.length]? =some x:=by simp
theorem UP (H:DP p B E fa) {num:List (Stp×Int)} :
 Ok (Li p (C4 p B E tt) fa steps num) fun r=>r.1.length=(trs p E B.length).length∧r.2.length=(trs p E B.length).length∧ ∀(i:Nat) x,(trs p E B.length)[i]? =some x→ ∃d l,r.1[i]? =some d∧r.2[i]? =some l∧RdI p B E num x d l:=by
 have hl:=H.lens
 unfold Li
 refine RX H.vp H.fin (by have:=H.few; omega) (fun pre (r:RdS)=>r.1.length=pre.length∧r.2.length=pre.length∧ ∀(i:Nat) x,pre[i]? =some x→ ∃d l,r.1[i]? =some d∧r.2[i]? =some l∧RdI p B E num x d l) ⟨rfl,rfl,fun i x h=>by simp at h⟩ fun pre x st hpre hI=> ?_
 obtain ⟨h1,h2,h3⟩:=hI
 have hlen:=hpre.length_le
 rw [List.length_append,List.length_singleton] at hlen
 refine (UO H (hpre.mem (by simp)) (by omega) (by omega)).mono ?_
 rintro _ ⟨d,l,rfl,hR⟩
 refine ⟨by simp [h1],by simp [h2],fun i y hy=> ?_⟩
 rcases VK hy with ⟨g,hy⟩ | ⟨rfl,rfl⟩
 ·obtain ⟨d',l',a1,a2,a3⟩:=h3 i y hy
  exact ⟨d',l',Dk a1,Dk a2,a3⟩
 ·exact ⟨d,l,by rw [← h1]; exact Ny _ _,by rw [← h2]; exact Ny _ _,hR⟩
theorem LL {ll:List (List Int)} {n x y:Int} :y ∈ Ce ll x n ↔ x< (ll.length:Int)∧y ∈ ll[x.toNat]?.getD [] ∧0≤y∧y<n:=by
 unfold Ce JA
 split
 ·constructor
  ·intro h; cases h
  ·intro h; omega
 ·rw [List.mem_filter]
  constructor
  ·rintro ⟨h1,h2⟩
   rw [Bool.not_eq_true',Bool.or_eq_false_iff,decide_eq_false_iff_not,decide_eq_false_iff_not] at h2
   exact ⟨by omega,h1,by omega,by omega⟩
  ·rintro ⟨h1,h2,h3,h4⟩
   refine ⟨h2,?_⟩
   rw [Bool.not_eq_true',Bool.or_eq_false_iff,decide_eq_false_iff_not,decide_eq_false_iff_not]
   omega
theorem M4 (H:DP p B E fa) {num:List (Stp×Int)} (hN:Num ((trs p E B.length).map (·.1)) num) {n m:Nat} {s:Int} (hs:nT p≤s) (ht:TrB p B E n s m): ∃i:Nat,(trs p E B.length)[i]? =some (((n:Int),s),(m:Int))∧BL ((n:Int),s) num=some (i:Int):=by
 obtain ⟨i,hi⟩:=List.getElem?_of_mem ((Jj H.vp H.fin).2 ⟨n,s,m,rfl,hs,ht⟩)
 exact ⟨i,hi,hN.at_ i _ (by rw [List.getElem?_map,hi]; rfl)⟩
theorem M5 {a:List AW} {i:Nat} {d:AW} (h:a[i]? =some d) (j:Int):mem (gv a (i:Int)) j=mem d j:=by rw [RQ h]
theorem WU (H:DP p B E fa) {num:List (Stp×Int)} (hN:Num ((trs p E B.length).map (·.1)) num) {ds:List AW} {es:List (List Int)} (h1:ds.length=(trs p E B.length).length) (h2:es.length=(trs p E B.length).length)
 (h3: ∀(i:Nat) x,(trs p E B.length)[i]? =some x→ ∃d l,ds[i]? =some d∧es[i]? =some l∧RdI p B E num x d l):
 Ok (G1 es ds) fun r=>r.length=(trs p E B.length).length∧ ∀(i:Nat) (n:Int) (s:Int) (m:Nat),(trs p E B.length)[i]? =some ((n,s),(m:Int))→ ∃d,r[i]? =some d∧(OkS d∧d.1=nT p)∧ ∀j,mem d j=true ↔ Rdd (nT p) p.2.2.1 (KB B) (TrB p B E) m j:=by
 have hT:=H.sy.t1
 have hl:=H.lens
 have hnT:nT p=(p.1.length:Int):=rfl
 have A:=H.aut
 obtain ⟨r,e1,e2,e3⟩:=Pd (ll:=es) (B:=ds) (wide:=nT p) (by omega) (by omega) (by omega) (fun l hl=>by
  obtain ⟨i,hi⟩:=List.getElem?_of_mem hl
  have hlt:=BM hi
  obtain ⟨d,l',_,g2,g3⟩:=h3 i _ (List.getElem?_eq_getElem (by omega))
  rw [hi] at g2
  cases g2
  have:=g3.few
  omega) (fun k s hk=>by
  have hlt:=BM hk
  obtain ⟨d,l',g1,_,g3⟩:=h3 k _ (List.getElem?_eq_getElem (by omega))
  rw [hk] at g1
  cases g1
  exact g3.ok)
 refine ⟨r,e1,e2.trans h1,fun i n s m hi=> ?_⟩
 have hlt:=BM hi
 have hr:=List.getElem?_eq_getElem (l:=r) (i:=i) (by omega)
 obtain ⟨k1,k2,k3⟩:=e3 i _ hr
 refine ⟨_,hr,⟨k1,k2⟩,fun j=> ?_⟩
 rw [k3]
 constructor
 ·rintro ⟨z,hz,hj⟩
  have key: ∀(v z:Int),Dg.Reach es (ds.length:Int) v z→mem (gv ds z) j=true→ ∀(i:Nat) (n s:Int) (m:Nat),v=(i:Int)→(trs p E B.length)[i]? =some ((n,s),(m:Int))→Rdd (nT p) p.2.2.1 (KB B) (TrB p B E) m j:=by
   intro v z hv
   induction hv with
   | refl v=>
    intro hj i n s m hv hi
    obtain ⟨d,l,g1,_,g3⟩:=h3 i _ hi
    subst hv
    rw [M5 g1] at hj
    rcases (g3.mem m rfl j).1 hj with ⟨a1,q,a2⟩ | ⟨rfl,a2⟩
    ·exact .term a2 a1
    ·exact .fin a2
   | @step x y z hy _ ih=>
    intro hj i n s m hv hi
    subst hv
    obtain ⟨d,l,g1,g2,g3⟩:=h3 i _ hi
    obtain ⟨f1,f2,f3,f4⟩:=LL.1 hy
    rw [Int.toNat_natCast,g2] at f2
    obtain ⟨c,q,a1,a2,a3,a4⟩:=(g3.next m rfl y).1 f2
    obtain ⟨i',b1,b2⟩:=M4 H hN a2 a1
    rw [b2] at a4
    exact .next a1 a2 a3 (ih hj i' _ _ q a4.symm b1)
  exact key _ _ hz hj i n s m rfl hi
 ·intro h
  have key: ∀ {m:Nat} {j:Int},Rdd (nT p) p.2.2.1 (KB B) (TrB p B E) m j→ ∀(i:Nat) (n s:Int),(trs p E B.length)[i]? =some ((n,s),(m:Int))→KN es (ds.length:Int) ds (i:Int) j:=by
   intro m j h
   induction h with
   | term a1 a2=>
    intro i n s hi
    obtain ⟨d,l,g1,_,g3⟩:=h3 i _ hi
    exact ⟨_, .refl _,by rw [M5 g1]; exact (g3.mem _ rfl _).2 (.inl ⟨a2,_,a1⟩)⟩
   | fin a1=>
    intro i n s hi
    obtain ⟨d,l,g1,_,g3⟩:=h3 i _ hi
    exact ⟨_, .refl _,by rw [M5 g1]; exact (g3.mem _ rfl _).2 (.inr ⟨rfl,a1⟩)⟩
   | @next m q c t a1 a2 a3 _ ih=>
    intro i n s hi
    obtain ⟨d,l,g1,g2,g3⟩:=h3 i _ hi
    obtain ⟨i',b1,b2⟩:=M4 H hN a2 a1
    refine KN.back (.step (LL.2 ⟨by have:=BM hi; omega,?_,by omega,by have:=BM b1; omega⟩) (.refl _)) (ih i' _ _ b1)
    rw [Int.toNat_natCast,g2]
    exact (g3.next m rfl _).2 ⟨c,q,a1,a2,a3,by rw [b2]; rfl⟩
  exact key h i n s hi
end
section
variable {p:dtP} {B:List dtK} {E:List (List Edge)} {fa:dtF} {tt:Int} {steps:List Stp} {o1 o2:Option Nat}
theorem VL (H:DP p B E fa) {s:Int} (h:s<nT p): ¬Nul p.2.2.1 s:=fun g=>by have:=g.var H.gr; omega
theorem SS {s o:AW} (H:OkS s) (K:OkS o):Ok (OR s o) fun r=>OkS r.2:=by
 unfold OR
 exact Bg ⟨H,K⟩ (AD (K6 H K).1)
theorem M7 {s:AW} (H:OkS s):Ok (Nj s) fun _=>True:=by
 unfold Nj
 rw [JC H]
 exact AD trivial
theorem WV (H:DP p B E fa) {seq:List Int} (hs: ∀s ∈ seq,0≤s∧s<nT p+((p.2.1.length:Nat):Int)) (hq:seq.length≤1000):Ok (Cq fa p seq) fun r=>r.2=true ↔ ∀s ∈ seq,Nul p.2.2.1 s:=by
 have hT:=H.sy.t1
 have hV:=H.vars
 have hnT:nT p=(p.1.length:Int):=rfl
 have hF:=H.fa
 have cl:=LH H.sy
 unfold Cq
 obtain ⟨s0,e0,k1,k2,_⟩:=Dg.new_ok (nT p)
 refine AN e0 ?_
 refine HJ (fun k (z:AW)=>OkS z∧ ∀s ∈ seq.take k,Nul p.2.2.1 s) (fun b=>b.2=false∧ ¬ ∀s ∈ seq,Nul p.2.2.1 s) (by omega) ⟨k1,by simp⟩ (fun k z hk hz=> ?_) (fun z hz=> ?_) fun b hb=>AD ⟨fun h=>(by rw [hb.1] at h; cases h),fun h=>absurd h hb.2⟩
 ·obtain ⟨z1,z2⟩:=hz
  have hsk:=List.getElem?_eq_getElem hk
  have hmem:=List.getElem_mem hk
  obtain ⟨b0,b1⟩:=hs _ hmem
  refine AM (Q:=fun (e:AU AW (List Int×Bool))=>(∃s',e= .next s'∧OkS s'∧ ∀s ∈ seq.take (k+1),Nul p.2.2.1 s)∨ ∃b,e= .done b∧b.2=false∧ ¬ ∀s ∈ seq,Nul p.2.2.1 s) ?_ fun e he=> ?_
  ·refine AV hsk (AN (Hr p seq[k]) (Ac (fun hc=> ?_) fun hc=> ?_))
   ·rw [Bool.and_eq_true,decide_eq_true_eq,decide_eq_true_eq] at hc
    obtain ⟨v,a1,a2,_⟩:=Dg.add_ok z1 seq[k]
    refine AN a1 (AM (M7 a2) fun l _=>AD (.inr ⟨_,rfl,rfl,fun h=>VL H (by omega) (h _ hmem)⟩))
   ·rw [Bool.and_eq_false_iff,decide_eq_false_iff_not,decide_eq_false_iff_not] at hc
    have ee:IntKind.wrap .i64 (seq[k] - (((List.length p.1):Nat):Int))=(((seq[k] - nT p).toNat:Nat):Int):=by rw [w64 (by omega) (by omega)]; omega
    rw [ee]
    have hn:=hF.len
    have hfl:=hF.flen
    refine AM (Q:=fun c=>c=false) (An (decide_eq_false (by omega)) (AD (decide_eq_false (by omega)))) fun c hc2=> ?_
    subst hc2
    refine An rfl ?_
    have hf:=List.getElem?_eq_getElem (l:=fa.2.1) (i:=(seq[k] - nT p).toNat) (by omega)
    have hfew:=hF.few _ (List.mem_of_getElem? hf)
    obtain ⟨o,e1,o1,_⟩:=Dg.of_ok (nT p) fa.2.1[(seq[k] - nT p).toNat] (by omega)
    have hb:=List.getElem?_eq_getElem (l:=fa.1) (i:=(seq[k] - nT p).toNat) (by omega)
    have hnul:=hF.nul seq[k] (by omega)
    rw [hb] at hnul
    refine AV hf (AN e1 (AM (SS z1 o1) fun u hu=>AV hb (Ac (fun hc2=>AM (M7 hu) fun l _=>AD (.inr ⟨_,rfl,rfl,fun h=> ?_⟩)) fun hc2=>AD (.inl ⟨_,rfl,hu,fun s hs'=> ?_⟩))))
    ·have:=hnul.2 (h _ hmem)
     rw [Bool.not_eq_true'] at hc2
     rw [hc2] at this
     cases this
    ·rcases (Ap hsk).1 hs' with h | rfl
     ·exact z2 s h
     ·refine hnul.1 ?_
      rw [Bool.not_eq_false'] at hc2
      rw [hc2]
  ·rcases he with ⟨s',rfl,h1,h2⟩ | ⟨b,rfl,h1,h2⟩
   ·exact CQ ⟨h1,h2⟩
   ·exact Bs ⟨h1,h2⟩
 ·obtain ⟨z1,z2⟩:=hz
  rw [List.take_of_length_le (Nat.le_refl _)] at z2
  exact AM (M7 z1) fun l _=>AD ⟨fun _=>z2,fun _=>rfl⟩
def Hit (p:dtP) (B:List dtK) (E:List (List Edge)) (num:List (Stp×Int)) (n k i:Nat) (kk:Nat):Prop:=
 ∃(q m':Nat) (r:BC) (c:Int),((trs p E B.length).map (·.1))[n]? =some ((q:Int),r.1)∧p.2.2.1[k]? =some r∧r.2.1[i]? =some c∧(∀s ∈ r.2.1.drop (i+1),Nul p.2.2.1 s)∧nT p≤c∧Pth (TrB p B E) q (r.2.1.take i) m'∧BL ((m':Int),c) num=some (kk:Int)
def Bef (n k i n' k' i':Nat):Prop:=n'<n∨(n'=n∧(k'<k∨(k'=k∧i'<i)))
structure M8 (p:dtP) (B:List dtK) (E:List (List Edge)) (num:List (Stp×Int)) (n k i:Nat) (X:List (List Int)):Prop where
 len:X.length=(trs p E B.length).length
 few: ∀l ∈ X,l.length≤(n * 100+k) * 100+i
 mem: ∀(kk:Nat) l,X[kk]? =some l→ ∀z,z ∈ l ↔ ∃n' k' i',z=((n':Nat):Int)∧Bef n k i n' k' i'∧Hit p B E num n' k' i' kk
theorem M8.same {num:List (Stp×Int)} {n k i n2 k2 i2:Nat} {X:List (List Int)} (h:M8 p B E num n k i X) (hc:(n * 100+k) * 100+i≤(n2 * 100+k2) * 100+i2) (hb: ∀n' k' i' kk,Hit p B E num n' k' i' kk→(Bef n k i n' k' i' ↔ Bef n2 k2 i2 n' k' i')):M8 p B E num n2 k2 i2 X:=
 ⟨h.len,fun l hl=>Nat.le_trans (h.few l hl) hc,fun kk l hl z=>by
  rw [h.mem kk l hl z]
  constructor
  ·rintro ⟨n',k',i',h1,h2,h3⟩; exact ⟨n',k',i',h1,(hb _ _ _ _ h3).1 h2,h3⟩
  ·rintro ⟨n',k',i',h1,h2,h3⟩; exact ⟨n',k',i',h1,(hb _ _ _ _ h3).2 h2,h3⟩⟩
theorem Jk (H:DP p B E fa) {n:Nat} (hn:n< (trs p E B.length).length): ∃(q m:Nat) (s:Int),(trs p E B.length)[n]? =some (((q:Int),s),(m:Int))∧((trs p E B.length).map (·.1))[n]? =some ((q:Int),s)∧nT p≤s∧TrB p B E q s m:=by
 obtain ⟨q,s,m,h1,h2,h3⟩:=(Jj H.vp H.fin).1 (List.getElem_mem hn)
 exact ⟨q,m,s,by rw [List.getElem?_eq_getElem hn,h1],by rw [List.getElem?_map,List.getElem?_eq_getElem hn,h1]; rfl,h2,h3⟩
theorem Ww (H:DP p B E fa) {n m:Nat} {s:Int} (h:TrB p B E n s m):BT (C4 p B E tt) (n:Int) s=some (m:Int):=by
 obtain ⟨b,e,hb,he,hg⟩:=h
 obtain ⟨x,h1,h2⟩:=Tv (t:=tt) H.vp H.fin hb he s
 rw [h1,IU.unique H.fin h2 hg]
theorem HV {n k i n' k' i':Nat} :Bef n k (i+1) n' k' i' ↔ Bef n k i n' k' i'∨(n'=n∧k'=k∧i'=i):=by
 unfold Bef
 omega
set_option maxHeartbeats 1000000 in
theorem VM (H:DP p B E fa) {num:List (Stp×Int)} (hN:Num ((trs p E B.length).map (·.1)) num) {n k:Nat} {q:Nat} {r:BC} {m:Nat} (hs:((trs p E B.length).map (·.1))[n]? =some ((q:Int),r.1)) (hr:p.2.2.1[k]? =some r) (ht:TrB p B E q r.1 m)
 {i:Nat} {c:Int} (hc:r.2.1[i]? =some c) {m':Nat} (hp:Pth (TrB p B E) q (r.2.1.take i) m') {X:List (List Int)} (hX:M8 p B E num n k i X) (hn:n≤7200):
 Ok (UB p (C4 p B E tt) fa num (n:Int) r.2.1 (i:Int) ((m':Int),X)) fun z=> ∃m2:Nat,z.1=(m2:Int)∧Pth (TrB p B E) q (r.2.1.take (i+1)) m2∧M8 p B E num n k (i+1) z.2:=by
 have A:=H.aut
 have hi:=BM hc
 have hmem:=List.mem_of_getElem? hr
 have hk:=BM hr
 have hkf:=H.vp.few
 have hsh:=H.vp.short r hmem
 obtain ⟨hk0,hit⟩:=A.starts H.gr hr ht
 have hq:SB B q:=(A.st ht).1
 have hm':=A.part H.gr hq hr hit (l:=r.2.1.take i) (l':=r.2.1.drop i) (List.take_append_drop _ _).symm hp
 rw [List.length_take,Nat.min_eq_left (by omega)] at hm'
 obtain ⟨m2,g1,g2⟩:=A.step H.gr (A.at0 hq hp) hm' hr hc
 unfold UB
 have e1:((i:Int) +1).toNat=i+1:=by omega
 rw [e1]
 refine AV hc (Bg ⟨by omega,by omega⟩ (AM (WV H (seq:=r.2.1.drop (i+1)) (fun s hs=>H.sy.right r hmem s (List.mem_of_mem_drop hs)) (by simp; omega)) fun sq hsq=> ?_))
 refine AM (Q:=fun b=>b=true ↔ (∀s ∈ r.2.1.drop (i+1),Nul p.2.2.1 s)∧nT p≤c) (Ac (fun h=>AN (Hr p c) (AD ?_)) fun h=>AD ?_) fun b hb=> ?_
 ·have h0:=(H.sy.right r hmem c (List.mem_of_getElem? hc)).1
  rw [decide_eq_true h0,Bool.true_and,Bool.not_eq_true',decide_eq_false_iff_not]
  exact ⟨fun g=>⟨hsq.1 h,Int.not_lt.1 g⟩,fun g=>Int.not_lt.2 g.2⟩
 ·constructor
  ·intro g; cases g
  ·intro g; rw [hsq.2 g.1] at h; cases h
 have next:Pth (TrB p B E) q (r.2.1.take (i+1)) m2:=by
  rw [List.take_add_one,hc]
  exact Pth.app.2 ⟨m',hp,m2,g1,rfl⟩
 refine AM (Q:=fun X'=>M8 p B E num n k (i+1) X') (Ac (fun h=> ?_) fun h=>AD ?_) fun X' hX'=> ?_
 ·obtain ⟨ha,hc0⟩:=hb.1 h
  obtain ⟨kk,b1,b2⟩:=M4 H hN hc0 g1
  rw [b2]
  have hkk:kk<X.length:=by rw [hX.len]; exact BM b1
  have hrow:=List.getElem?_eq_getElem hkk
  have hrf:=hX.few _ (List.getElem_mem hkk)
  refine AV (i:=kk) hrow (Bm (by simp; omega) ?_)
  show Ok (Dq X ((kk:Nat):Int) (X[kk] ++ [(n:Int)])) _
  rw [Gi (by omega) (by omega),Int.toNat_natCast]
  refine AD ⟨by simp [hX.len],fun l hl=> ?_,fun k3 l hl z=> ?_⟩
  ·rcases List.mem_or_eq_of_mem_set hl with h | rfl
   ·have:=hX.few l h; omega
   ·rw [List.length_append,List.length_singleton]; omega
  ·have hit1:Hit p B E num n k i kk:=⟨q,m',r,c,hs,hr,hc,ha,hc0,hp,b2⟩
   rw [List.getElem?_set] at hl
   split at hl
   ·rename_i e
    subst e
    try rw [if_pos hkk] at hl
    cases hl
    rw [List.mem_append,hX.mem kk _ hrow,List.mem_singleton]
    constructor
    ·rintro (⟨n',k',i',h1,h2,h3⟩ | rfl)
     ·exact ⟨n',k',i',h1,HV.2 (.inl h2),h3⟩
     ·exact ⟨n,k,i,rfl,HV.2 (.inr ⟨rfl,rfl,rfl⟩),hit1⟩
    ·rintro ⟨n',k',i',h1,h2,h3⟩
     rcases HV.1 h2 with h2 | ⟨rfl,rfl,rfl⟩
     ·exact .inl ⟨n',k',i',h1,h2,h3⟩
     ·exact .inr h1
   ·rename_i e
    rw [hX.mem k3 l hl]
    constructor
    ·rintro ⟨n',k',i',h1,h2,h3⟩; exact ⟨n',k',i',h1,HV.2 (.inl h2),h3⟩
    ·rintro ⟨n',k',i',h1,h2,h3⟩
     rcases HV.1 h2 with h2 | ⟨rfl,rfl,rfl⟩
     ·exact ⟨n',k',i',h1,h2,h3⟩
     ·exfalso
      obtain ⟨q2,m3,r2,c2,j1,j2,j3,_,_,j6,j7⟩:=h3
      rw [hr] at j2
      cases j2
      rw [hc] at j3
      cases j3
      rw [hs] at j1
      have hqq:q=q2:=by have:=(Prod.mk.inj (Option.some.inj j1)).1; omega
      subst hqq
      have:=Pth.fn A hp j6
      subst this
      rw [b2] at j7
      have:=Option.some.inj j7
      omega
 ·refine hX.same (by omega) fun n' k' i' kk hh=> ?_
  rw [HV]
  constructor
  ·exact fun g=> .inl g
  ·rintro (g | ⟨rfl,rfl,rfl⟩)
   ·exact g
   ·exfalso
    obtain ⟨q2,m3,r2,c2,j1,j2,j3,j4,j5,_,_⟩:=hh
    rw [hr] at j2
    cases j2
    rw [hc] at j3
    cases j3
    have:=hb.2 ⟨j4,j5⟩
    rw [h] at this
    cases this
 ·refine AN (Ww H g1) (AD ⟨m2,rfl,next,hX'⟩)
set_option maxHeartbeats 1000000 in
theorem Pq (H:DP p B E fa) {num:List (Stp×Int)} (hN:Num ((trs p E B.length).map (·.1)) num):
 Ok (F0 p (C4 p B E tt) fa ((trs p E B.length).map (·.1)) num) fun X=>M8 p B E num (trs p E B.length).length 0 0 X:=by
 have hl:=H.lens
 have A:=H.aut
 have hkf:=H.vp.few
 unfold F0
 rw [List.length_map]
 refine AN (x:=List.replicate (trs p E B.length).length []) (by unfold FB; rw [if_pos ⟨by omega,by omega⟩,Int.toNat_natCast]) ?_
 refine CA (n:=(trs p E B.length).length) (fun n X=>M8 p B E num n 0 0 X) (by omega) ⟨by simp,fun l hl=>by rw [(List.mem_replicate.1 hl).2]; simp,fun kk l hl z=> ?_⟩ fun n X hn hX=> ?_
 ·rw [List.getElem?_replicate] at hl
  split at hl
  ·cases hl
   constructor
   ·intro h; cases h
   ·rintro ⟨n',k',i',_,h2,_⟩; unfold Bef at h2; omega
  ·cases hl
 obtain ⟨q,m,s,h1,h2,h3,h4⟩:=Jk H hn
 refine AV h2 ?_
 obtain ⟨X',e1,e2⟩:=CA (f:=fun k X=>(idx p.2.2.1 k).bind fun r=>cond (r.1 !=s) (some X) ((forS (σ:=Int×List (List Int)) 0 ((r.2.1.length:Nat):Int) ((q:Int),X) (UB p (C4 p B E tt) fa num (n:Int) r.2.1)).bind fun z=>some z.2)) (n:=p.2.2.1.length) (fun k X=>M8 p B E num n k 0 X) (by omega) (s:=X) hX fun k X hk hX=>by
  have hr:=List.getElem?_eq_getElem hk
  obtain ⟨r,hre⟩: ∃r,p.2.2.1[k] =r:=⟨_,rfl⟩
  rw [hre] at hr
  have hsh:=H.vp.short r (List.mem_of_getElem? hr)
  refine AV hr (Ac (fun hc=>AD ?_) fun hc=> ?_)
  ·refine hX.same (by omega) fun n' k' i' kk hh=> ?_
   constructor
   ·unfold Bef; omega
   ·intro g
    by_cases e:n'=n∧k'=k
    ·obtain ⟨rfl,rfl⟩:=e
     exfalso
     obtain ⟨q2,m3,r2,c2,j1,j2,_⟩:=hh
     rw [hr] at j2
     cases j2
     rw [h2] at j1
     have:=(Prod.mk.inj (Option.some.inj j1)).2
     rw [this] at hc
     simp at hc
    ·unfold Bef at g ⊢; omega
  ·have hsr:r.1=s:=by simpa using hc
   subst hsr
   refine B5 (fun i (z:Int×List (List Int))=> ∃m':Nat,z.1=(m':Int)∧Pth (TrB p B E) q (r.2.1.take i) m'∧M8 p B E num n k i z.2) (by omega) ⟨q,rfl,by rw [List.take_zero]; rfl,hX⟩ (fun i z hi hz=> ?_) fun z hz=> ?_
   ·obtain ⟨z1,z2⟩:=z
    obtain ⟨m',rfl,g1,g2⟩:=hz
    exact VM H hN h2 hr h4 (List.getElem?_eq_getElem hi) g1 g2 (by omega)
   ·obtain ⟨m',_,_,g2⟩:=hz
    refine AD (g2.same (by omega) fun n' k' i' kk hh=> ?_)
    constructor
    ·unfold Bef; omega
    ·intro g
     by_cases e:n'=n∧k'=k
     ·obtain ⟨rfl,rfl⟩:=e
      obtain ⟨q2,m3,r2,c2,_,j2,j3,_⟩:=hh
      rw [hr] at j2
      cases j2
      have:=BM j3
      unfold Bef; omega
     ·unfold Bef at g ⊢; omega
 refine ⟨X',e1,e2.same (by omega) fun n' k' i' kk hh=> ?_⟩
 obtain ⟨q2,m3,r2,c2,_,j2,_⟩:=hh
 have:=BM j2
 unfold Bef
 omega
theorem WW (H:DP p B E fa) {num:List (Stp×Int)} (hN:Num ((trs p E B.length).map (·.1)) num) {inc:List (List Int)} (hI:M8 p B E num (trs p E B.length).length 0 0 inc) {f1:List AW} (h1:f1.length=(trs p E B.length).length)
 (h3: ∀(i:Nat) (n:Int) (s:Int) (m:Nat),(trs p E B.length)[i]? =some ((n,s),(m:Int))→ ∃d,f1[i]? =some d∧(OkS d∧d.1=nT p)∧ ∀j,mem d j=true ↔ Rdd (nT p) p.2.2.1 (KB B) (TrB p B E) m j):
 Ok (G1 inc f1) fun r=>r.length=(trs p E B.length).length∧ ∀(i:Nat) (n:Nat) (s:Int) (m:Nat),(trs p E B.length)[i]? =some (((n:Int),s),(m:Int))→ ∃d,r[i]? =some d∧(OkS d∧d.1=nT p)∧ ∀j,mem d j=true ↔ Fol (nT p) p.2.2.1 (KB B) (TrB p B E) n s j:=by
 have hT:=H.sy.t1
 have hl:=H.lens
 have hnT:nT p=(p.1.length:Int):=rfl
 have A:=H.aut
 obtain ⟨r,e1,e2,e3⟩:=Pd (ll:=inc) (B:=f1) (wide:=nT p) (by omega) (by omega) (by omega) (fun l hl=>by have:=hI.few l hl; omega) (fun k s hk=>by
  obtain ⟨q,m,s',g1,_⟩:=Jk H (n:=k) (by have:=BM hk; omega)
  obtain ⟨d,g2,g3,_⟩:=h3 k _ _ _ g1
  rw [hk] at g2
  cases g2
  exact g3)
 refine ⟨r,e1,e2.trans h1,fun i n s m hi=> ?_⟩
 have hlt:=BM hi
 have hr:=List.getElem?_eq_getElem (l:=r) (i:=i) (by omega)
 obtain ⟨k1,k2,k3⟩:=e3 i _ hr
 refine ⟨_,hr,⟨k1,k2⟩,fun j=> ?_⟩
 rw [k3]
 have tr: ∀ {i n m:Nat} {s:Int},(trs p E B.length)[i]? =some (((n:Int),s),(m:Int))→nT p≤s∧TrB p B E n s m:=fun {i n m s} h=>by
  obtain ⟨n',s',m',g1,g2,g3⟩:=(Jj H.vp H.fin).1 (List.mem_of_getElem? h)
  have a1:=(Prod.mk.inj (Prod.mk.inj g1).1).1
  have a2:=(Prod.mk.inj (Prod.mk.inj g1).1).2
  have a3:=(Prod.mk.inj g1).2
  have:n=n':=by omega
  subst this
  have:m=m':=by omega
  subst this
  subst a2
  exact ⟨g2,g3⟩
 constructor
 ·rintro ⟨z,hz,hj⟩
  have key: ∀(v z:Int),Dg.Reach inc (f1.length:Int) v z→mem (gv f1 z) j=true→ ∀(i n:Nat) (s:Int) (m:Nat),v=(i:Int)→(trs p E B.length)[i]? =some (((n:Int),s),(m:Int))→Fol (nT p) p.2.2.1 (KB B) (TrB p B E) n s j:=by
   intro v z hv
   induction hv with
   | refl v=>
    intro hj i n s m hv hi
    subst hv
    obtain ⟨d,g1,_,g3⟩:=h3 i _ _ _ hi
    rw [M5 g1] at hj
    exact .read (tr hi).2 ((g3 j).1 hj)
   | @step x y z hy _ ih=>
    intro hj i n s m hv hi
    subst hv
    obtain ⟨w1,w2,w3,w4⟩:=LL.1 hy
    have hil:i<inc.length:=by omega
    have hrow:=List.getElem?_eq_getElem hil
    rw [Int.toNat_natCast,hrow] at w2
    obtain ⟨n',k',i',rfl,_,q,m',r,c,j1,j2,j3,j4,j5,j6,j7⟩:=(hI.mem i _ hrow y).1 w2
    have hn':n'< (trs p E B.length).length:=by have:=BM j1; rwa [List.length_map] at this
    obtain ⟨q2,m2,s2,a1,a2,a3,a4⟩:=Jk H hn'
    rw [j1] at a2
    have b1:=(Prod.mk.inj (Option.some.inj a2)).1
    have b2:=(Prod.mk.inj (Option.some.inj a2)).2
    have:q=q2:=by omega
    subst this
    subst b2
    obtain ⟨hk0,hit⟩:=A.starts H.gr j2 a4
    have hq:SB B q:=(A.st a4).1
    have hpt:=A.part H.gr hq j2 hit (l:=r.2.1.take i') (l':=r.2.1.drop i') (List.take_append_drop _ _).symm j6
    rw [List.length_take,Nat.min_eq_left (by have:=BM j3; omega)] at hpt
    obtain ⟨mm,c1,c2⟩:=A.step H.gr (A.at0 hq j6) hpt j2 j3
    obtain ⟨kk,d1,d2⟩:=M4 H hN j5 c1
    rw [j7] at d2
    have:kk=i:=by have:=Option.some.inj d2; omega
    subst this
    rw [hi] at d1
    have d1:=Option.some.inj d1
    have e1:=(Prod.mk.inj (Prod.mk.inj d1).1).1
    have e2:=(Prod.mk.inj (Prod.mk.inj d1).1).2
    have e1:n=m':=by omega
    subst e1
    subst e2
    exact .incl (tr hi).2 j2 (HQ j3) j4 hit j6 (ih hj n' q r.1 m2 rfl a1)
  exact key _ _ hz hj i n s m rfl hi
 ·intro h
  have key: ∀ {n:Nat} {s j:Int},Fol (nT p) p.2.2.1 (KB B) (TrB p B E) n s j→ ∀(i m:Nat),(trs p E B.length)[i]? =some (((n:Int),s),(m:Int))→KN inc (f1.length:Int) f1 (i:Int) j:=by
   intro n s j h
   induction h with
   | read a1 a2=>
    intro i m hi
    have:=A.fn a1 (tr hi).2
    subst this
    obtain ⟨d,g1,_,g3⟩:=h3 i _ _ _ hi
    exact ⟨_, .refl _,by rw [M5 g1]; exact (g3 _).2 a2⟩
   | @incl n m0 q k a t r b g a1 a2 a3 a4 a5 a6 a7 ih=>
    intro i m hi
    obtain ⟨m2,a8⟩:=a7.tr
    have hL:nT p≤r.1:=(H.sy.left r (List.mem_of_getElem? a2)).1
    obtain ⟨i',b1,b2⟩:=M4 H hN hL a8
    refine KN.back (.step (LL.2 ⟨by have:=BM hi; have:=hI.len; omega,?_,by omega,by have:=BM b1; omega⟩) (.refl _)) (ih i' m2 b1)
    have hil:i<inc.length:=by have:=BM hi; have:=hI.len; omega
    have hrow:=List.getElem?_eq_getElem hil
    rw [Int.toNat_natCast,hrow]
    refine (hI.mem i _ hrow _).2 ⟨i',k,b.length,rfl, .inl (BM b1),q,n,r,a,by rw [List.getElem?_map,b1]; rfl,a2,by rw [a3]; simp,fun s hs=>a4 s ?_,(tr hi).1,by rw [a3]; simpa using a6,?_⟩
    ·rw [a3] at hs
     have e:(b++a::g).drop (b.length+1)=g:=by simp
     rwa [e] at hs
    ·exact hN.at_ i _ (by rw [List.getElem?_map,hi]; rfl)
  exact key h i m hi
end
section
variable {p:dtP} {B:List dtK} {E:List (List Edge)} {fa:dtF} {tt:Int} {steps:List Stp} {o1 o2:Option Nat}
theorem Ps (H:Fin p B E) {l:List Int} {n m:Nat} (hn:n<B.length) (h:Pth (TrB p B E) n l m):Walk p.2.2.1 B E (n:Int) l (m:Int):=(Pb H hn).2 h
theorem VN (H:DP p B E fa) {n m:Nat} {l:List Int} (hn:n<B.length) (hl:l.length≤1000000) (h:Pth (TrB p B E) n l m):Bq (C4 p B E tt) (n:Int) l=some (m:Int):=by
 obtain ⟨x,h1,h2,_⟩:=RP (t:=tt) H.vp H.fin hn hl
 rw [h1,Walk.unique H.fin h2 (Ps H.fin hn h)]
def NN (p:dtP) (B:List dtK) (E:List (List Edge)) (n k:Nat) (key:At) (q:Nat) (r:BC):Prop:=
 ((trs p E B.length).map (·.1))[n]? =some ((q:Int),r.1)∧p.2.2.1[k]? =some r∧ ∃w:Nat,Pth (TrB p B E) q r.2.1 w∧key=((w:Int),(k:Int))
structure GiI (p:dtP) (B:List dtK) (E:List (List Edge)) (n k:Nat) (L:LkL):Prop where
 some_: ∀key d,BL key L=some d→(OkS d∧d.1=nT p)∧(∃n' k' q r,Bef n k 0 n' k' 0∧NN p B E n' k' key q r)∧ ∀j,mem d j=true ↔ ∃n' k' q r,Bef n k 0 n' k' 0∧NN p B E n' k' key q r∧Fol (nT p) p.2.2.1 (KB B) (TrB p B E) q r.1 j
 none_: ∀key,BL key L=none→ ∀n' k' q r,Bef n k 0 n' k' 0→ ¬NN p B E n' k' key q r
theorem Eh {n k n' k':Nat} :Bef n (k+1) 0 n' k' 0 ↔ Bef n k 0 n' k' 0∨(n'=n∧k'=k):=by
 unfold Bef
 omega
theorem GiI.same {n k n2 k2:Nat} {L:LkL} (h:GiI p B E n k L) (hb: ∀n' k' key q r,NN p B E n' k' key q r→(Bef n k 0 n' k' 0 ↔ Bef n2 k2 0 n' k' 0)):GiI p B E n2 k2 L:=by
 refine ⟨fun key d hk=> ?_,fun key hk n' k' q r hb' hg=>h.none_ key hk n' k' q r ((hb _ _ _ _ _ hg).2 hb') hg⟩
 obtain ⟨h1,⟨n',k',q,r,h2,h3⟩,h4⟩:=h.some_ key d hk
 refine ⟨h1,⟨n',k',q,r,(hb _ _ _ _ _ h3).1 h2,h3⟩,fun j=> ?_⟩
 rw [h4]
 constructor
 ·rintro ⟨n',k',q,r,a,b,c⟩; exact ⟨n',k',q,r,(hb _ _ _ _ _ b).1 a,b,c⟩
 ·rintro ⟨n',k',q,r,a,b,c⟩; exact ⟨n',k',q,r,(hb _ _ _ _ _ b).2 a,b,c⟩
theorem UQ (H:DP p B E fa) {fo:List AW} (hf: ∀(i:Nat) (n:Nat) (s:Int) (m:Nat),(trs p E B.length)[i]? =some (((n:Int),s),(m:Int))→ ∃d,fo[i]? =some d∧(OkS d∧d.1=nT p)∧ ∀j,mem d j=true ↔ Fol (nT p) p.2.2.1 (KB B) (TrB p B E) n s j)
 {n k q m:Nat} {s:Int} (hn:(trs p E B.length)[n]? =some (((q:Int),s),(m:Int))) (ht:TrB p B E q s m) (hk:k<p.2.2.1.length) {L:LkL} (hL:GiI p B E n k L):
 Ok (Pn p (C4 p B E tt) fo (n:Int) ((q:Int),s) (k:Int) L) (GiI p B E n (k+1)):=by
 have A:=H.aut
 have hT:=H.sy.t1
 have hnT:nT p=(p.1.length:Int):=rfl
 have cl:=LH H.sy
 have hr:=List.getElem?_eq_getElem hk
 obtain ⟨r,hre⟩: ∃r,p.2.2.1[k] =r:=⟨_,rfl⟩
 rw [hre] at hr
 have hst:((trs p E B.length).map (·.1))[n]? =some ((q:Int),s):=by rw [List.getElem?_map,hn]; rfl
 unfold Pn
 refine AV hr (Ac (fun hc=>AD ?_) fun hc=> ?_)
 ·refine hL.same fun n' k' key q' r' hg=> ?_
  rw [Eh]
  constructor
  ·exact fun g=> .inl g
  ·rintro (g | ⟨rfl,rfl⟩)
   ·exact g
   ·exfalso
    obtain ⟨j1,j2,_⟩:=hg
    rw [hr] at j2
    cases j2
    rw [hst] at j1
    have:=(Prod.mk.inj (Option.some.inj j1)).2
    dsimp only at hc
    rw [this] at hc
    simp at hc
 ·have hsr:r.1=s:=by simpa using hc
  subst hsr
  obtain ⟨hk0,hit⟩:=A.starts H.gr hr ht
  have hq:SB B q:=(A.st ht).1
  obtain ⟨w,hw,_⟩:=A.along H.gr hr hq hit (l:=r.2.1) rfl
  have hsh:=H.sy.short r (List.mem_of_getElem? hr)
  refine AN (VN H hq (by omega) hw) ?_
  obtain ⟨o,ho,⟨o1,o2⟩,o3⟩:=hf n q r.1 m hn
  have hget:NN p B E n k ((w:Int),(k:Int)) q r:=⟨hst,hr,w,hw,rfl⟩
  have uniq: ∀key q' r',NN p B E n k key q' r'→key=((w:Int),(k:Int))∧q'=q∧r'=r:=fun key q' r' hg=>by
   obtain ⟨j1,j2,w',j3,j4⟩:=hg
   rw [hr] at j2
   cases j2
   rw [hst] at j1
   have hqq:q=q':=by have:=(Prod.mk.inj (Option.some.inj j1)).1; omega
   subst hqq
   have:=Pth.fn A hw j3
   subst this
   exact ⟨j4,rfl,rfl⟩
  refine AM (Q:=fun L'=> ∃d,BL ((w:Int),(k:Int)) L'=some d∧(OkS d∧d.1=nT p)∧(∀j,mem d j=true ↔ ∃n' k' q' r',Bef n k 0 n' k' 0∧NN p B E n' k' ((w:Int),(k:Int)) q' r'∧Fol (nT p) p.2.2.1 (KB B) (TrB p B E) q' r'.1 j)∧ ∀key,key ≠ ((w:Int),(k:Int))→BL key L'=BL key L) ?_ fun L' hL'=> ?_
  ·cases hg:BL ((w:Int),(k:Int)) L with
   | none=>
    obtain ⟨s0,e0,k1,k2,k3⟩:=Dg.new_ok (nT p)
    refine Cp rfl (AN e0 (AD ⟨s0,by rw [Cg,if_pos rfl],⟨k1,k2.trans cl⟩,fun j=> ?_,fun key hne=>by rw [Cg,if_neg hne]⟩))
    rw [k3]
    constructor
    ·intro h; cases h
    ·rintro ⟨n',k',q',r',a,b,_⟩; exact absurd b (hL.none_ _ hg n' k' q' r' a)
   | some d=>
    obtain ⟨a1,a2,a3⟩:=hL.some_ _ d hg
    exact An rfl (AD ⟨d,hg,a1,a3,fun _ _=>rfl⟩)
  ·obtain ⟨d,b1,⟨b2,b3⟩,b4,b5⟩:=hL'
   refine AV ho (AN b1 (Bg ⟨b2,o1⟩ (AD ?_)))
   obtain ⟨u1,u2,u3⟩:=K6 b2 o1
   refine ⟨fun key dd hkey=> ?_,fun key hkey n' k' q' r' hb hg=> ?_⟩
   ·rw [Cg] at hkey
    by_cases he:key=((w:Int),(k:Int))
    ·subst he
     rw [if_pos rfl] at hkey
     cases hkey
     refine ⟨⟨u1,u2.trans b3⟩,⟨n,k,q,r,Eh.2 (.inr ⟨rfl,rfl⟩),hget⟩,fun j=> ?_⟩
     rw [u3,Bool.or_eq_true,Bool.and_eq_true,b4,o3,b3]
     constructor
     ·rintro (⟨n',k',q',r',a,b,c⟩ | ⟨h,_⟩)
      ·exact ⟨n',k',q',r',Eh.2 (.inl a),b,c⟩
      ·exact ⟨n,k,q,r,Eh.2 (.inr ⟨rfl,rfl⟩),hget,h⟩
     ·rintro ⟨n',k',q',r',a,b,c⟩
      rcases Eh.1 a with a | ⟨rfl,rfl⟩
      ·exact .inl ⟨n',k',q',r',a,b,c⟩
      ·obtain ⟨_,e2,e3⟩:=uniq _ _ _ b
       subst e2 e3
       refine .inr ⟨c,decide_eq_true ?_⟩
       have:=LV o1 ((o3 j).2 c)
       omega
    ·rw [if_neg he,b5 key he] at hkey
     obtain ⟨a1,⟨n',k',q',r',a2,a3⟩,a4⟩:=hL.some_ key dd hkey
     refine ⟨a1,⟨n',k',q',r',Eh.2 (.inl a2),a3⟩,fun j=> ?_⟩
     rw [a4]
     constructor
     ·rintro ⟨n',k',q',r',a,b,c⟩; exact ⟨n',k',q',r',Eh.2 (.inl a),b,c⟩
     ·rintro ⟨n',k',q',r',a,b,c⟩
      rcases Eh.1 a with a | ⟨rfl,rfl⟩
      ·exact ⟨n',k',q',r',a,b,c⟩
      ·exact absurd (uniq _ _ _ b).1 he
   ·rw [Cg] at hkey
    by_cases he:key=((w:Int),(k:Int))
    ·rw [if_pos he] at hkey; cases hkey
    ·rw [if_neg he,b5 key he] at hkey
     rcases Eh.1 hb with hb | ⟨rfl,rfl⟩
     ·exact hL.none_ key hkey n' k' q' r' hb hg
     ·exact he (uniq _ _ _ hg).1
structure WX (p:dtP) (B:List dtK) (E:List (List Edge)) (L:LkL):Prop where
 some_: ∀key d,BL key L=some d→OkS d∧d.1=nT p∧ ∃s k:Nat,key=((s:Int),(k:Int))∧s<B.length∧k<p.2.2.1.length∧ ∀j,mem d j=true ↔ Lk (nT p) p.2.2.1 (KB B) (TrB p B E) s k j
 none_: ∀(s k:Nat) j,BL ((s:Int),(k:Int)) L=none→k<p.2.2.1.length→ ¬Lk (nT p) p.2.2.1 (KB B) (TrB p B E) s k j
theorem VO (H:DP p B E fa) {fo:List AW} (hf: ∀(i:Nat) (n:Nat) (s:Int) (m:Nat),(trs p E B.length)[i]? =some (((n:Int),s),(m:Int))→ ∃d,fo[i]? =some d∧(OkS d∧d.1=nT p)∧ ∀j,mem d j=true ↔ Fol (nT p) p.2.2.1 (KB B) (TrB p B E) n s j):
 Ok (Nu p (C4 p B E tt) fa ((trs p E B.length).map (·.1)) fo) (WX p B E):=by
 have hl:=H.lens
 have A:=H.aut
 have hkf:=H.sy.few
 have hBf:=H.few
 have hT:=H.sy.t1
 have hnT:nT p=(p.1.length:Int):=rfl
 have cl:=LH H.sy
 obtain ⟨z0,hz0⟩:=H.zero
 unfold Nu
 rw [List.length_map]
 refine B5 (fun n L=>GiI p B E n 0 L) (by omega) ⟨(fun key d h=>by cases h),fun key _ n' k' q r hb=>(by unfold Bef at hb; omega)⟩ (fun n L hn hL=> ?_) fun L hL=> ?_
 ·obtain ⟨q,m,s,h1,h2,h3,h4⟩:=Jk H hn
  refine AV h2 ?_
  obtain ⟨L',e1,e2⟩:=CA (f:=fun k L=>Pn p (C4 p B E tt) fo (n:Int) ((q:Int),s) k L) (n:=p.2.2.1.length) (fun k L=>GiI p B E n k L) (by omega) (s:=L) hL fun k L hk hL=>UQ H hf h1 h4 hk hL
  refine ⟨L',e1,e2.same fun n' k' key q r hg=> ?_⟩
  have:=BM hg.2.1
  unfold Bef
  omega
 ·refine AN (Ht H.fin) ?_
  have conv: ∀(w k:Nat) j,0<k→((∃n' k' q r,Bef (trs p E B.length).length 0 0 n' k' 0∧NN p B E n' k' ((w:Int),(k:Int)) q r∧Fol (nT p) p.2.2.1 (KB B) (TrB p B E) q r.1 j) ↔ Lk (nT p) p.2.2.1 (KB B) (TrB p B E) w k j):=fun w k j hk=>by
   constructor
   ·rintro ⟨n',k',q,r,_,⟨j1,j2,w',j3,j4⟩,h⟩
    have e1:w=w':=by have:=(Prod.mk.inj j4).1; omega
    have e2:k=k':=by have:=(Prod.mk.inj j4).2; omega
    subst e1 e2
    obtain ⟨m,hm⟩:=h.tr
    exact .inr ⟨hk,q,m,r,j2,hm,j3,h⟩
   ·rintro (⟨e,_⟩ | ⟨_,q,m,r,j1,j2,j3,j4⟩)
    ·omega
    ·have hL:nT p≤r.1:=(H.sy.left r (List.mem_of_getElem? j1)).1
     obtain ⟨i,hi⟩:=List.getElem?_of_mem ((Jj H.vp H.fin).2 ⟨q,r.1,m,rfl,hL,j2⟩)
     exact ⟨i,k,q,r, .inl (BM hi),⟨by rw [List.getElem?_map,hi]; rfl,j1,w,j3,rfl⟩,j4⟩
  have pos: ∀ {n' k':Nat} {key:At} {q:Nat} {r:BC},NN p B E n' k' key q r→0<k':=fun {n' k' key q r} hg=>by
   obtain ⟨j1,j2,_⟩:=hg
   have hn':n'< (trs p E B.length).length:=by have:=BM j1; rwa [List.length_map] at this
   obtain ⟨q2,m2,s2,a1,a2,a3,a4⟩:=Jk H hn'
   rw [j1] at a2
   have b1:=(Prod.mk.inj (Option.some.inj a2)).1
   have b2:=(Prod.mk.inj (Option.some.inj a2)).2
   have:q=q2:=by omega
   subst this
   subst b2
   exact (A.starts H.gr j2 a4).1
  refine CA (n:=B.length) (fun i (L':LkL)=>(∀(w k:Nat),0<k→BL ((w:Int),(k:Int)) L'=BL ((w:Int),(k:Int)) L)∧(∀key d,BL key L'=some d→OkS d∧d.1=nT p∧ ∃s k:Nat,key=((s:Int),(k:Int))∧s<B.length∧k<p.2.2.1.length)∧
   (∀w:Nat,(∀d,BL ((w:Int),(0:Int)) L'=some d→(w<i∧It p.2.2.1 (KB B) w 0 1)∧ ∀j,mem d j=true ↔ j=0)∧(BL ((w:Int),(0:Int)) L'=none→w<i→ ¬It p.2.2.1 (KB B) w 0 1))) (by omega) (s:=L) ⟨fun _ _ _=>rfl,fun key d hk=> ?_,fun w=>⟨fun d hd=> ?_,fun _ h=>by omega⟩⟩ (fun i L' hi hL'=> ?_) |>.elim fun L' hL'=>⟨L',hL'.1,?_⟩
  ·obtain ⟨⟨a1,a2⟩,⟨n',k',q,r,_,hg⟩,_⟩:=hL.some_ key d hk
   obtain ⟨j1,j2,w,j3,j4⟩:=hg
   have hn':n'< (trs p E B.length).length:=by have:=BM j1; rwa [List.length_map] at this
   obtain ⟨q2,m2,s2,b1,b2,b3,b4⟩:=Jk H hn'
   rw [j1] at b2
   have c1:=(Prod.mk.inj (Option.some.inj b2)).1
   have:q=q2:=by omega
   subst this
   exact ⟨a1,a2,w,k',j4,A.at0 (A.st b4).1 j3,BM j2⟩
  ·obtain ⟨_,⟨n',k',q,r,_,hg⟩,_⟩:=hL.some_ _ d hd
   have h0:=pos hg
   obtain ⟨_,_,w',_,j4⟩:=hg
   have:=(Prod.mk.inj j4).2
   omega
  ·obtain ⟨i1,i2,i3⟩:=hL'
   refine AM (Oi (tt:=tt) (steps:=(trs p E B.length).map (·.1)) (o1:=none) (o2:=none) H hi (k:=0) hz0) fun b hb=> ?_
   have hb:b=true ↔ It p.2.2.1 (KB B) i 0 1:=hb
   refine Ac (fun hc=> ?_) fun hc=>AD ⟨i1,i2,fun w=>⟨fun d hd=>⟨⟨by have:=((i3 w).1 d hd).1.1; omega,((i3 w).1 d hd).1.2⟩,((i3 w).1 d hd).2⟩,fun hn hw hit=> ?_⟩⟩
   ·obtain ⟨o,e,a1,a2,a3⟩:=Dg.of_ok (nT p) [0] (by simp)
    refine AN e (AD ⟨fun w k hk=> ?_,fun key d hd=> ?_,fun w=>⟨fun d hd=> ?_,fun hn hw=> ?_⟩⟩)
    ·rw [Cg,if_neg (fun e=>by have:=(Prod.mk.inj e).2; omega)]
     exact i1 w k hk
    ·rw [Cg] at hd
     split at hd
     ·rename_i he
      cases hd
      exact ⟨a1,a2.trans cl,i,0,he,hi,BM hz0⟩
     ·exact i2 key d hd
    ·rw [Cg] at hd
     split at hd
     ·rename_i he
      cases hd
      have:w=i:=by have:=(Prod.mk.inj he).1; omega
      subst this
      refine ⟨⟨by omega,hb.1 hc⟩,fun j=> ?_⟩
      rw [a3,cl,Bool.and_eq_true,decide_eq_true_eq]
      constructor
      ·rintro ⟨_,h⟩; simpa using h
      ·rintro rfl; exact ⟨by omega,by simp⟩
     ·obtain ⟨⟨g1,g2⟩,g3⟩:=(i3 w).1 d hd
      exact ⟨⟨by omega,g2⟩,g3⟩
    ·rw [Cg] at hn
     split at hn
     ·cases hn
     ·rename_i he
      have:w ≠ i:=fun e=>he (by rw [e])
      exact (i3 w).2 hn (by omega)
   ·by_cases e:w=i
    ·subst e
     have:=hb.2 hit
     rw [hc] at this
     cases this
    ·exact (i3 w).2 hn (by omega) hit
  ·obtain ⟨_,i1,i2,i3⟩:=hL'
   refine ⟨fun key d hd=> ?_,fun s k j hn hk=> ?_⟩
   ·obtain ⟨a1,a2,s,k,rfl,a3,a4⟩:=i2 key d hd
    refine ⟨a1,a2,s,k,rfl,a3,a4,fun j=> ?_⟩
    rcases Nat.eq_zero_or_pos k with rfl | hk
    ·obtain ⟨⟨_,g2⟩,g3⟩:=(i3 s).1 d hd
     rw [g3]
     constructor
     ·rintro rfl; exact .inl ⟨rfl,rfl,g2⟩
     ·exact U2
    ·rw [i1 s k hk] at hd
     rw [((hL.some_ _ d hd).2.2 j),conv s k j hk]
   ·rcases Nat.eq_zero_or_pos k with rfl | hk0
    ·rintro (⟨_,_,h⟩ | ⟨h,_⟩)
     ·have hs:s<B.length:=by
       rcases Nat.lt_or_ge s B.length with g | g
       ·exact g
       ·exfalso
        have:KB B s= [] :=by unfold KB; rw [List.getElem?_eq_none g]
        unfold It at h
        rw [this] at h
        have key: ∀x,Cl p.2.2.1 [] x→False:=fun x hx=>by
         induction hx with
         | base h=>cases h
         | step _ _ _ ih=>exact ih
        exact key _ h
      exact (i3 s).2 hn hs h
     ·omega
    ·rw [i1 s k hk0] at hn
     intro h
     obtain ⟨n',k',q,r,b1,b2,_⟩:=(conv s k j hk0).2 h
     exact hL.none_ _ hn n' k' q r b1 b2
theorem VQ {p:dtP} {B:List dtK} {E:List (List Edge)} {tt:Int} (H: ∀fa,T6 p fa→DP p B E fa) (S:Sy p):Ok (RV p (C4 p B E tt)) fun r=> ∃d,r=some d∧d.p=p∧d.A=C4 p B E tt∧T6 p d.fa∧WX p B E d.L:=by
 unfold RV
 refine AM (T7 S) fun fa hfa=> ?_
 have H:=H fa hfa
 have hl:=H.lens
 have hBf:=H.few
 refine AM (UN (tt:=tt) H.vp H.fin (by omega) (by omega)) fun st hst=> ?_
 obtain ⟨st1,num⟩:=st
 obtain ⟨rfl,hN⟩:=hst
 dsimp only at hN ⊢
 refine AM (UP (tt:=tt) H) fun rd hrd=> ?_
 obtain ⟨r1,r2,r3⟩:=hrd
 refine AM (Pq (tt:=tt) H hN) fun inc hinc=> ?_
 refine AM (WU H hN r1 r2 r3) fun f1 hf1=> ?_
 refine AM (WW H hN hinc hf1.1 hf1.2) fun f2 hf2=> ?_
 refine AM (VO (tt:=tt) H hf2.2) fun L hL=>AD ⟨_,rfl,rfl,rfl,hfa,hL⟩
end
end Go.Proofs.YteolcjbobmpdiaaGreatDoor
namespace Go.Proofs.YteolcjbobmpdiaaGreatDoor
open Go Go.Eng
set_option linter.unusedVariables false
set_option maxRecDepth 100000
theorem RY {φ:AC} {S S':List Slc} {E:List (List Edge)} {B B':List dtK} {c i:Nat} (hS:S.length=B.length) (hE:E.length=B.length) (H:DO φ S E c) (hf:HP S E i) (h:(B'=B∧S'=S)∨ ∃x,B'=B++ [x] ∧S'=S++ [FP]):
 S'.length=B'.length∧(FQ E B.length B'.length).length=B'.length∧DO φ S' (FQ E B.length B'.length) c∧HP S' (FQ E B.length B'.length) i∧(∀(j:Nat) s,S[j]? =some s→S'[j]? =some s)∧(∀(j:Nat) e,E[j]? =some e→(FQ E B.length B'.length)[j]? =some e)∧ ∀(j:Nat) b,B[j]? =some b→B'[j]? =some b:=by
 rcases h with ⟨rfl,rfl⟩ | ⟨x,rfl,rfl⟩
 ·unfold FQ
  rw [if_pos rfl]
  exact ⟨hS,hE,H,hf,fun _ _ h=>h,fun _ _ h=>h,fun _ _ h=>h⟩
 ·unfold FQ
  rw [if_neg (by simp)]
  have ap: ∀ {α:Type} {l:List α} {x y:α} {j:Nat},l[j]? =some y→(l++ [x])[j]? =some y:=fun {α l x y j} h=>by
   rw [List.getElem?_append_left (List.getElem?_eq_some_iff.1 h).1]; exact h
  exact ⟨by simp [hS],by simp [hE],H.snoc (by omega),hf.snoc,fun _ _ h=>ap h,fun _ _ h=>ap h,fun _ _ h=>ap h⟩
theorem UR {S:List Slc} {E:List (List Edge)} {i:Nat} (H:HP S E i) (h1:i<S.length) (h2:i<E.length):S[i]? =some FP∧E[i]? =some [] :=by
 have a:=List.getElem?_eq_getElem h1
 have b:=List.getElem?_eq_getElem h2
 exact ⟨by rw [a,(H i (Nat.le_refl _)).1 _ a],by rw [b,(H i (Nat.le_refl _)).2 _ b]⟩
theorem HP.mono {S:List Slc} {E:List (List Edge)} {i i':Nat} (H:HP S E i) (h:i≤i'):HP S E i':=fun j hj=>H j (Nat.le_trans h hj)
theorem WY {φ:AC} {S:List Slc} {E:List (List Edge)} {i:Nat} {s:Slc} {e:List Edge} (H:DO φ S E i) (hf:HP S E (i+1)):DO φ (S.set i s) (E.set i e) i∧HP (S.set i s) (E.set i e) (i+1):=by
 refine ⟨fun j s' e' hj h1 h2=> ?_,fun j hj=>⟨fun s' h=> ?_,fun e' h=> ?_⟩⟩
 ·rw [List.getElem?_set_ne (by omega)] at h1 h2
  exact H j s' e' hj h1 h2
 ·rw [List.getElem?_set_ne (by omega)] at h
  exact (hf j hj).1 s' h
 ·rw [List.getElem?_set_ne (by omega)] at h
  exact (hf j hj).2 e' h
theorem WZ {φ:AC} {S:List Slc} {E:List (List Edge)} {i:Nat} {s:Slc} {e:List Edge} (H:DO φ S E i) (hs:S[i]? =some s) (he:E[i]? =some e) (k:Ro.SliceIs Fq φ s e):DO φ S E (i+1):=by
 intro j s' e' hj h1 h2
 by_cases hji:j=i
 ·subst hji
  rw [hs] at h1; rw [he] at h2
  cases h1; cases h2
  exact k
 ·exact H j s' e' hji h1 h2
theorem St.to9' {φ:AC} {h:AH} {F:List Chk} {e a0 a1 a2 a3 a4 a5 a6 a7 a8:Chk} (H:St φ (e::a4::a0::a1::a2::a3::a5::a6::a7::a8::F) h):St φ (a0::a1::a2::a3::a4::a5::a6::a7::a8::e::F) h:=
 H.at9.at9.at9.at9.at5.at9.at9.at9.at9
def Vi (φ:AC) (c3 c4 c5 c6 m a r1 r2:Nat) (p:Ay) (G:List Chk) (i:Nat) (y:BSt) (w:AH):Prop:= ∃(ψ:AC) (ls:Slc) (S:List Slc),Sub φ ψ∧S.length=y.2.1.length∧y.2.2.1.length=y.2.1.length∧DO ψ S y.2.2.1 i∧HP S y.2.2.1 i∧St ψ (bC c3 c4 c5 c6 m a r1 r2 y.1 p ls 0 (EG y.2.1 S) y.2.2.2.1 y.2.2.2.2 G) w
def Wx (φ:AC) (c3 c4 c5 c6 m a r1 r2:Nat) (p:Ay) (G:List Chk) (i:Nat) (b:dtK) (y:BSt) (w:AH):Prop:= ∃(ψ:AC) (ls:Slc) (S:List Slc) (s:Slc) (e:List Edge),Sub φ ψ∧S.length=y.2.1.length∧y.2.2.1.length=y.2.1.length∧DO ψ S y.2.2.1 i∧HP S y.2.2.1 (i+1)∧S[i]? =some s∧y.2.2.1[i]? =some e∧y.2.1[i]? =some b∧St ψ (bC c3 c4 c5 c6 m a r1 r2 y.1 p ls 0 (EG y.2.1 S) y.2.2.2.1 y.2.2.2.2 (cR 73 Fq s e::G)) w
set_option maxHeartbeats 4000000 in
theorem ST {φ:AC} {h:AH} {F:List Chk} {p_0:Slc×Slc×Slc×Slc×Slc×Slc×Unit} {d0:List ByteArray} {d1:List ByteArray} {d2:List BC} {d3:List Int} {d4:List Int} {d5:List ByteArray} {st it:Int}
 (gk:Glob φ) (k0:Ro.SliceIs Ro.str φ p_0.1 d0) (k1:Ro.SliceIs Ro.str φ p_0.2.1 d1) (k2:Ro.SliceIs CF φ p_0.2.2.1 d2) (k3:Ro.SliceIs (Ro.int .i64) φ p_0.2.2.2.1 d3) (k4:Ro.SliceIs (Ro.int .i64) φ p_0.2.2.2.2.1 d4) (k5:Ro.SliceIs Ro.str φ p_0.2.2.2.2.2.1 d5) (s0:St φ F h) {r:Option C1×Int} (hd:Mq (d0,d1,d2,d3,d4,d5) st it=some r):
 CallsH Tryz.prog 68 [(.agg #[.slice p_0.1.1 p_0.1.2.1 p_0.1.2.2, .slice p_0.2.1.1 p_0.2.1.2.1 p_0.2.1.2.2, .slice p_0.2.2.1.1 p_0.2.2.1.2.1 p_0.2.2.1.2.2, .slice p_0.2.2.2.1.1 p_0.2.2.2.1.2.1 p_0.2.2.2.1.2.2, .slice p_0.2.2.2.2.1.1 p_0.2.2.2.2.1.2.1 p_0.2.2.2.2.1.2.2, .slice p_0.2.2.2.2.2.1.1 p_0.2.2.2.2.2.1.2.1 p_0.2.2.2.2.2.1.2.2]), .int .i64 st, .int .i64 it] h (Ar fun v h'=> ∃ψ:AC,∃y:Option Addr×Int×Unit,∃l1:Option C1,Sub φ ψ∧v=((.tuple [.atom .pointer, .atom (.int .i64)]):Sh).val y∧(l1,y.2.1)=r∧Np FC ψ y.1 l1∧St ψ F h'):=by
 refine AR mixed Tryz.func68 ?_
 rw [LR]
 unfold Iu
 unfold Mq at hd
 obtain ⟨rm,hrm,hd1⟩:=bS hd
 clear hd
 obtain ⟨cl,hcl,hd2⟩:=bS hd1
 clear hd1
 obtain ⟨ra,hra,hd⟩:=bS hd2
 clear hd2
 refine AY (vs:= [sv p_0.1,sv p_0.2.1,sv p_0.2.2.1,sv p_0.2.2.2.1,sv p_0.2.2.2.2.1,sv p_0.2.2.2.2.2.1]) s0 fun b1 h1 s1=> ?_
 refine AA (x:=p_0.1) s1 rfl ?_
 refine AA (x:=p_0.2.1) s1 rfl ?_
 refine AA (x:=p_0.2.2.1) s1 rfl ?_
 refine AA (x:=p_0.2.2.2.1) s1 rfl ?_
 refine AA (x:=p_0.2.2.2.2.1) s1 rfl ?_
 refine AA (x:=p_0.2.2.2.2.2.1) s1 rfl ?_
 refine AY (vs:= [sv p_0.1,sv p_0.2.1,sv p_0.2.2.1,sv p_0.2.2.2.1,sv p_0.2.2.2.2.1,sv p_0.2.2.2.2.2.1, .slice none 0 0, .int .i64 (0:Int)]) s1 fun a h2 s2=> ?_
 refine AY (vs:= [.pointer none]) s2 fun c4 h3 s3=> ?_
 refine AQ s3 rfl rfl fun h4 s4=> ?_
 refine AI (KC s4 hrm) ?_
 rintro _ h5 ⟨ψ1,y10,_,le1,rfl,rfl,s5⟩
 refine ⟨y10,rfl,?_⟩
 refine AI (KC s5 hcl) ?_
 rintro _ h6 ⟨ψ2,y11,_,le2,rfl,rfl,s6⟩
 refine ⟨y11,rfl,?_⟩
 obtain ⟨r2,vs2,rfl,q2,s6⟩:=St.openR s6
 have s6:=(St.shutR s6 q2).at1
 obtain ⟨r1,vs1,rfl,q1,s6⟩:=St.openR s6
 have s6:=(St.shutR s6 q1).at1
 refine AY (vs:= [.pointer none]) s6 fun c5 h7 s7=> ?_
 refine AY (vs:= [.pointer none]) s7 fun c6 h8 s8=> ?_
 refine AQ s8.at1 rfl rfl fun h9 s9=> ?_
 refine AQ s9.at1 rfl rfl fun h10 s10=> ?_
 refine DA kyS (Ro.int .i64) s10 fun m h11 s11=> ?_
 refine AY (vs:= [.map none]) s11 fun c3 h12 s12=> ?_
 refine AQ s12 rfl rfl fun h13 s13=> ?_
 refine AY (vs:= [.int .i64 (0:Int), .int .i64 (0:Int)]) s13 fun k16 h14 s14=> ?_
 have s15:=St.lit (r:=Ca) (l:= [((0:Int),(0:Int))]) (n:=1) s14 (.cons (a:= [_,_]) ⟨[_],_,rfl,rfl,rfl⟩ .nil) rfl (by decide)
 obtain ⟨ψ3,le3,kk,s16⟩:=St.freezeRow (t:=(some ⟨k16,0,none⟩,1,1)) s15
 have le13:=(le1.trans le2).trans le3
 have s17:=St.shutR (r:=B2) (x:=qA (d0,d1,d2,d3,d4,d5) FP 0) s16.at7 ⟨[_],_,rfl,⟨_,rfl,k0.mono le13⟩, [_],_,rfl,⟨_,rfl,k1.mono le13⟩, [_],_,rfl,⟨_,rfl,k2.mono le13⟩, [_],_,rfl,⟨_,rfl,k3.mono le13⟩, [_],_,rfl,⟨_,rfl,k4.mono le13⟩, [_],_,rfl,⟨_,rfl,k5.mono le13⟩, [_],_,rfl,rfl,rfl⟩
 have s18:=(s17.nil 150 roB).at6.at5.at7.at7.at4.at5.at8.at8.at8
 refine AI (RG (B:= []) (S:= []) (ls:=FP) (gk.mono le13) kk rfl s18 hra) ?_
 rintro _ h15 ⟨ψ4,y17,ls0,S0,le4,rfl,e1,e2,hG0,s19⟩
 refine ⟨y17,rfl,?_⟩
 have le14:=le13.trans le4
 refine AL hd (by rw [e2]) (fun _ hd=> ?_) (fun _ hd=> ?_)
 ·obtain rfl:=iS hd
  exact AB ⟨ψ4,(none,y17.2.1,()),none,le14,rfl,by rw [e2],rfl,(St.tail9 s19).tail⟩
 obtain ⟨g,hg,hd⟩:=bS hd
 refine AT (fun (z:Int×Int×Option Addr×Unit) w (g:AU BSt Int)=> ∃y i,g=AU.next y∧y.2.1.length≤i∧Vi φ c3 c4 c5 c6 m a r1 r2 (d0,d1,d2,d3,d4,d5) (cW 32 b1 [sv p_0.1,sv p_0.2.1,sv p_0.2.2.1,sv p_0.2.2.2.1,sv p_0.2.2.2.2.1,sv p_0.2.2.2.2.2.1] ::F) i y w) (g:=g) ?_ ?_
 ·unfold MG at hg
  refine Dr hg (fun (z:Int×Int×Option Addr×Unit) w (x:Int×BSt)=>z.1=x.1∧0≤x.1∧Vi φ c3 c4 c5 c6 m a r1 r2 (d0,d1,d2,d3,d4,d5) (cW 32 b1 [sv p_0.1,sv p_0.2.1,sv p_0.2.2.1,sv p_0.2.2.2.1,sv p_0.2.2.2.2.1,sv p_0.2.2.2.2.2.1] ::F) x.1.toNat x.2 w) ((0:Int),(0:Int),none,()) rfl ⟨rfl,Int.le_refl _,?_⟩ ?_
  ·obtain ⟨g1,g2,g3,g4,_⟩:=RY (E:= []) (c:=0) (i:=0) (φ:=ψ4) (S:= []) (B:= []) rfl rfl (fun j s e _ h _=>by simp at h) (fun j _=>⟨fun s h=>by simp at h,fun e h=>by simp at h⟩) hG0
   exact ⟨ψ4,ls0,S0,le14,g1,g2,g3,g4,s19⟩
  rintro ⟨i,z2,z3,_⟩ w ⟨_,fd,B,E,rm',cl'⟩ eo ⟨rfl,hi0,ψ,ls,S,le,hS,hE,hok,hfr,s⟩ hd' hbo
  dsimp only at hi0 hS hE hok hfr s hd' ⊢
  have nL:=St.rowLen s.at4
  have nM:=St.rowMax s.at4
  rw [D4 hS] at nL nM
  refine AA (x:=some ⟨a,0,none⟩) s.at2 rfl ?_
  refine AF _ rfl ?_
  refine LP ls (Qe s) ?_
  refine AL hd' (by rw [nL]) (fun hlt hd'=> ?_) (fun hge hd'=> ?_)
  ·have hlt:=of_decide_eq_true hlt
   obtain ⟨b,hb,hd1⟩:=bS hd'
   clear hd'
   obtain ⟨es,hes,hd'⟩:=bS hd1
   clear hd1
   refine AA (x:=some ⟨a,0,none⟩) s.at2 rfl ?_
   refine AF _ rfl ?_
   refine LP ls (Qe s) ?_
   obtain ⟨f1,f2⟩:=UR hfr (by omega) (by omega)
   obtain ⟨a26,cs26,ea26,hi26,q26,cl26⟩:=St.get s.at4 (Mr hb f1)
   refine AF _ ea26 (Aa hi26 ?_)
   obtain ⟨_,_,rfl,⟨t0,rfl,q0⟩,_,_,rfl,⟨t1,rfl,q1⟩,_,_,rfl,rfl,_,_,rfl,rfl,rfl⟩:=q26
   refine AG (x:=t1) (by rw [Ae]; exact cl26 1 _ rfl) rfl ?_
   refine AA (x:=some ⟨a,0,none⟩) s.at2 rfl ?_
   unfold OS at hes
   obtain ⟨syms,hsy,hes1⟩:=bS hes
   clear hes
   have hes:=hes1
   clear hes1
   refine AI (HN q1 s.at3 (by rw [PT]; exact hsy)) ?_
   rintro _ w2 ⟨ψ5,y29,_,le5,rfl,rfl,k29,s20⟩
   refine ⟨y29,rfl,?_⟩
   have n29:=k29.length
   have s20:=(St.back3 s20)
   have s21:=St.to9 (s20.nil 73 Fq)
   refine AT (fun (z:Int×Int×Option Addr×Unit) w (g:AU BSt Int)=> ∃y,g=AU.next y∧Wx ψ5 c3 c4 c5 c6 m a r1 r2 (d0,d1,d2,d3,d4,d5) (cW 32 b1 [sv p_0.1,sv p_0.2.1,sv p_0.2.2.1,sv p_0.2.2.2.1,sv p_0.2.2.2.2.1,sv p_0.2.2.2.2.2.1] ::F) i.toNat b y w) (g:=es) ?_ ?_
   ·refine Be hes (fun j (z:Int×Int×Option Addr×Unit) w (y:BSt)=>z.1=j∧Wx ψ5 c3 c4 c5 c6 m a r1 r2 (d0,d1,d2,d3,d4,d5) (cW 32 b1 [sv p_0.1,sv p_0.2.1,sv p_0.2.2.1,sv p_0.2.2.2.1,sv p_0.2.2.2.2.1,sv p_0.2.2.2.2.2.1] ::F) i.toNat b y w) ((0:Int),z2,z3,()) rfl ⟨rfl,ψ5,ls,S,FP, [],Sub.refl _,hS,hE,hok.mono le5,hfr.mono (by omega),f1,f2,(Cz hb).2.2,s21⟩ ?_ ?_
    ·rintro _ ⟨j,u2,u3,_⟩ w3 ⟨fd3,B3,E3,rm3,cl3⟩ e3 ⟨rfl,ψ6,ls3,S3,s_,e_,le6,hS3,hE3,hok3,hfr3,hs3,he3,hb3,s22⟩ hd3 hj1 hj2 hw hbi
     dsimp only at hS3 hE3 hok3 hfr3 he3 hb3 s22 hd3 hj1 hj2 hw ⊢
     refine Ai (by rw [n29]; exact decide_eq_true hj2) ?_
     obtain ⟨sym,hsym,hd31⟩:=bS hd3
     clear hd3
     unfold RH at hd31
     obtain ⟨kn,hkn,hd32⟩:=bS hd31
     clear hd31
     obtain ⟨r3,hr3,hd3⟩:=bS hd32
     clear hd32
     dsimp only at hd3 hr3
     obtain ⟨a32,cs32,ea32,hi32,q32,cl32⟩:=(k29.mono le6).get hsym
     refine AF _ ea32 (Aa hi32 ?_)
     obtain rfl:=q32
     refine AG (x:=sym) (AE s22.sub (cl32 0 _ rfl)) rfl ?_
     refine AA (x:=some ⟨a,0,none⟩) s22.at2 rfl ?_
     refine AI (JE (q1.mono (le5.trans le6)) s22.at3 (by rw [Td]; exact hkn)) ?_
     rintro _ w4 ⟨ψ7,y35,_,le7,rfl,rfl,k35,s23⟩
     refine ⟨y35,rfl,?_⟩
     refine AI (RG (gk.mono (((le.trans le5).trans le6).trans le7)) k35 hS3 (St.back3 s23) hr3) ?_
     rintro _ w5 ⟨ψ8,y36,ls4,S4,le8,rfl,e31,e32,hG,s24⟩
     refine ⟨y36,rfl,?_⟩
     refine AL hd3 (by rw [e32]) (fun _ hd3=> ?_) (fun _ hd3=> ?_)
     ·obtain rfl:=iS hd3
      obtain rfl:=hbi _ rfl
      obtain rfl:=iS hd'
      obtain rfl:=hbo _ rfl
      obtain rfl:=iS hd
      exact Af (Ah (Af (Ah (AB ⟨ψ8,(none,y36.2.1,()),none,((((le.trans le5).trans le6).trans le7).trans le8),rfl,by rw [e32],rfl,(St.tail9 s24).tail.tail⟩))))
     obtain ⟨el,hel,hd34⟩:=bS hd3
     clear hd3
     obtain ⟨el',hel',hd35⟩:=bS hd34
     clear hd34
     obtain ⟨E',hE',hd3⟩:=bS hd35
     clear hd35
     obtain rfl:=iS hd3
     obtain ⟨g1,g2,g3,g4,g5,g6,g7⟩:=RY hS3 hE3 ((hok3.mono le7).mono le8) hfr3 hG
     have hs4:=g5 _ _ hs3
     have he4:=g6 _ _ he3
     have hb4:=g7 _ _ hb3
     obtain ⟨_,hlE,helx⟩:=Cz hel
     rw [he4] at helx
     obtain rfl:=Option.some.inj helx
     rw [← e31] at hel'
     have hbi4:idx r3.2.2.2.1 i=some b:=by unfold idx; rw [if_pos hi0]; exact hb4
     refine AA (x:=some ⟨a,0,none⟩) s24.at2 rfl ?_
     refine AF _ rfl ?_
     refine LP ls4 (Qe s24) ?_
     refine AA (x:=some ⟨a,0,none⟩) s24.at2 rfl ?_
     refine AF _ rfl ?_
     refine LP ls4 (Qe s24) ?_
     obtain ⟨a43,cs43,ea43,hi43,q43,cl43⟩:=St.get s24.at4 (Mr hbi4 hs4)
     refine AF _ ea43 (Aa hi43 ?_)
     obtain ⟨_,_,rfl,⟨v0,rfl,p0⟩,_,_,rfl,⟨v1,rfl,p1⟩,_,_,rfl,rfl,_,_,rfl,rfl,rfl⟩:=q43
     refine AG (x:=s_) (by rw [Ae]; exact cl43 2 _ rfl) rfl ?_
     refine KP (vs:= [.int .i64 sym, .int .i64 y36.1]) s24 fun r45 w6 keep s25=> ?_
     refine AO (keep _ _ (by rw [Ae]; exact cl43 2 _ rfl)) ?_
     refine AO (Qe s25.tail) ?_
     refine AO (St.cell s25.tail.at2 rfl) ?_
     refine AO (Qe s25.tail) ?_
     refine AO (St.cell s25.tail.at2 rfl) ?_
     refine Aj (r:=Fq) (ms:= [(sym,y36.1)]) Wo s25.tail.at9 rfl (St.cells s25) (.cons (a:= [_,_]) ⟨[_],_,rfl,rfl,rfl⟩ .nil) rfl hel' fun s46 w7 s26=> ?_
     refine AO (Qe s26.tail) ?_
     refine AO (St.cell s26.tail.at2 rfl) ?_
     refine AF _ ea43 (Aa hi43 ?_)
     have hset:Dq (EG r3.2.2.2.1 S4) i (LE b s46)=some (EG r3.2.2.2.1 (S4.set i.toNat s46)):=by
      unfold Dq
      rw [if_pos ⟨hi0,by rw [D4 g1]; omega⟩,Te _ hb4]
     refine OF (j:=2) s26.at5 (Mr hbi4 hs4) hset (fun cs hq=> ?_) rfl rfl ea43 (Ae _ _ _) fun w8 s27=> ?_
     ·obtain ⟨_,_,rfl,⟨x0,rfl,o0⟩,_,_,rfl,⟨x1,rfl,o1⟩,_,_,rfl,rfl,_,_,rfl,rfl,rfl⟩:=hq
      exact ⟨[_],_,rfl,⟨x0,rfl,o0⟩, [_],_,rfl,⟨x1,rfl,o1⟩, [_],_,rfl,rfl, [_],_,rfl,rfl,rfl⟩
     obtain ⟨_,_,rfl⟩:=Dh hE'
     obtain ⟨w1,w2⟩:=WY (s:=s46) (e:=el') g3 g4
     have s28:=St.to9' s27.at1
     exact Ag ((IntKind.wrap .i64 (j+(1:Int))),u2,u3,()) _ rfl rfl ⟨hw,ψ8,ls4,S4.set i.toNat s46,s46,el',(le6.trans le7).trans le8,by rw [List.length_set]; exact g1,by rw [List.length_set]; exact g2,w1,w2,by rw [List.getElem?_set_self (by omega)],by rw [List.getElem?_set_self (by omega)],hb4,s28⟩
    ·rintro _ ⟨j,u2,u3,_⟩ w3 y3 ⟨rfl,hI⟩ hge hr3
     refine AX (by rw [n29]; exact decide_eq_false (Int.not_lt.2 hge)) ?_
     exact AJ (AK (j,u2,u3,()) rfl ⟨y3,hr3,hI⟩)
   rintro ⟨z1,u2,u3,_⟩ w3 ⟨⟨fd3,B3,E3,rm3,cl3⟩,rfl,ψ6,ls3,S3,s_,e_,le6,hS3,hE3,hok3,hfr3,hs3,he3,hb3,s22⟩
   dsimp only at hS3 hE3 hok3 hfr3 he3 hb3 s22
   obtain rfl:=iS hd'
   obtain ⟨ψ7,le7,kE,s23⟩:=St.freezeRow s22.at9
   have hw:IntKind.wrap .i64 (i+1)=i+1:=w64 (by omega) (by unfold maxLen at nM; omega)
   have hi1:(i+1).toNat=i.toNat+1:=by omega
   refine Ag ((IntKind.wrap .i64 (i+(1:Int))),u2,u3,()) _ rfl rfl ⟨rfl,by rw [hw]; omega,ψ7,ls3,S3,((le.trans le5).trans le6).trans le7,hS3,hE3,?_,?_,s23⟩
   ·rw [hw,hi1]; exact WZ (hok3.mono le7) hs3 he3 kE
   ·rw [hw,hi1]; exact hfr3
  ·have hge:=of_decide_eq_false hge
   obtain rfl:=iS hd'
   obtain rfl:=hbo _ rfl
   exact AJ (AK (i,z2,z3,()) rfl ⟨_,i.toNat,rfl,by dsimp only; omega,ψ,ls,S,le,hS,hE,hok,hfr,s⟩)
 rintro ⟨z1,z2,z3,_⟩ w ⟨⟨fd,B,E,rm',cl'⟩,i,rfl,hi,ψ,ls,S,le,hS,hE,hok,hfr,s⟩
 dsimp only at hd hi hS hE hok hfr s
 obtain ⟨tot,ht,hd⟩:=bS hd
 obtain rfl:=iS hd
 refine AA (x:=some ⟨a,0,none⟩) s.at2 rfl ?_
 refine AA (x:=some ⟨r2,0,none⟩) s.at7 rfl ?_
 refine AI (I6 s.at8 ht) ?_
 rintro _ w1 ⟨ψ5,y50,le5,rfl,rfl,s20⟩
 refine ⟨y50,rfl,?_⟩
 refine AO (St.cell s20.at3 rfl) ?_
 refine AF _ rfl ?_
 obtain ⟨b,vs,e,⟨_,_,rfl,⟨u0,rfl,kk0⟩,_,_,rfl,⟨u1,rfl,kk1⟩,_,_,rfl,⟨u2,rfl,kk2⟩,_,_,rfl,⟨u3,rfl,kk3⟩,_,_,rfl,⟨u4,rfl,kk4⟩,_,_,rfl,⟨u5,rfl,kk5⟩,_,_,rfl,rfl,rfl⟩,s21⟩:=St.openR s20.at4
 obtain rfl:a=b:=by simpa using e
 refine AQ s21 rfl rfl fun w2 s22=> ?_
 refine AA (x:=some ⟨a,0,none⟩) s22.at4 rfl ?_
 obtain ⟨ψ6,le6,kR,s23⟩:=St.freezeRow s22.at5
 have kS:=SF hS hE (fun j s e h1 h2=>(hok j s e (by have:=(List.getElem?_eq_some_iff.1 h1).1; omega) h1 h2).mono (le5.trans le6)) kR
 have s24:=St.shutR (r:=FC) (x:=(d0,d1,d2,d3,d4,d5,EG B E,y50)) s23 ⟨[_],_,rfl,⟨u0,rfl,kk0.mono le6⟩, [_],_,rfl,⟨u1,rfl,kk1.mono le6⟩, [_],_,rfl,⟨u2,rfl,kk2.mono le6⟩, [_],_,rfl,⟨u3,rfl,kk3.mono le6⟩, [_],_,rfl,⟨u4,rfl,kk4.mono le6⟩, [_],_,rfl,⟨u5,rfl,kk5.mono le6⟩, [_],_,rfl,⟨ls,rfl,kS⟩,rfl⟩
 obtain ⟨ψ7,le7,kP,s25⟩:=St.freezeR (Vw _) s24
 exact AB ⟨ψ7,(some ⟨a,0,none⟩,(0:Int),()),some _,(((le.trans le5).trans le6).trans le7),rfl,rfl,kP,s25.tail.tail.tail.tail.tail.tail.tail.tail⟩
noncomputable def Fi (a_0_p:Option Addr) (a_0_n a_0_c:Nat) (b_1_p:Option Addr) (b_1_n b_1_c:Nat):T:=
 cond (((a_0_n:Nat):Int) !=((b_1_n:Nat):Int))
 (T.ret (.bool false))
 (T.block 0 [aI,aB]
 (T.loop [aI,aB] [(.int .i64 (0:Int)),(.bool false)] fun (z2:Int×Bool×Unit)=>
 cond (decide (z2.1< ((a_0_n:Nat):Int)))
 (deref a_0_p fun a3=>
 chk (0≤z2.1∧z2.1< (a_0_n:Nat)) <|
 T.load (.int .i64) (a3.add (Int.toNat z2.1 * 1)) fun (t4:Int)=>
 deref b_1_p fun a5=>
 chk (0≤z2.1∧z2.1< (b_1_n:Nat)) <|
 T.load (.int .i64) (a5.add (Int.toNat z2.1 * 1)) fun (t6:Int)=>
 cond (t4 !=t6)
 (T.ret (.bool false))
 (T.out [(.int .i64 (wN z2.1)),(.bool z2.2.1)]))
 (T.brk 0 [(.int .i64 z2.1),(.bool z2.2.1)])) fun (z1:Int×Bool×Unit)=>
 T.ret (.bool true))
theorem IW (a_0_p:Option Addr) (a_0_n a_0_c:Nat) (b_1_p:Option Addr) (b_1_n b_1_c:Nat):Ab Tryz.prog Tryz.f21 [(.slice a_0_p a_0_n a_0_c),(.slice b_1_p b_1_n b_1_c)] =Fi a_0_p a_0_n a_0_c b_1_p b_1_n b_1_c:=by kernel_rfl
noncomputable def FS (p_0:Pl6):T:=
 T.new (.cells #[(sv p_0.1),(sv p_0.2.1),(sv p_0.2.2.1),(sv p_0.2.2.2.1),(sv p_0.2.2.2.2.1),(sv p_0.2.2.2.2.2.1)] 32 (0,0)) fun r1=>
 L6 r1 fun t2 t3 t4 t5 t6 t7=>
 T.call 57 [(aH t2 t3 t4 t5 t6 t7)] (.one aS) fun (t8:Slc)=>
 L6 r1 fun t9 t10 t11 t12 t13 t14=>
 T.call 58 [(aH t9 t10 t11 t12 t13 t14)] (.one aS) fun (t15:Slc)=>
 T.load .slice ⟨r1,0,none⟩ fun (t16:Slc)=>
 T.block 0 [aI,aI,aI]
 (T.loop [aI,aI,aI] [(.int .i64 ((t16.2.1:Nat):Int)),(.int .i64 (0:Int)),(.int .i64 (0:Int))] fun (z18:Int×Int×Int×Unit)=>
 L6 r1 fun t19 t20 t21 t22 t23 t24=>
 T.call 59 [(aH t19 t20 t21 t22 t23 t24)] (.one aI) fun (t25:Int)=>
 cond (decide (z18.1< (IntKind.wrap .i64 (t25 - (1:Int)))))
 (deref t8.1 fun a26=>
 chk (0≤z18.1∧z18.1< (t8.2.1:Nat)) <|
 T.load .bool (a26.add (Int.toNat z18.1 * 1)) fun (t27:Bool)=>
 cond (!t27)
 (T.ret (.tuple #[(.int .i64 z18.1),(.int .i64 (18:Int))]))
 (T.out [(.int .i64 (wN z18.1)),(.int .i64 z18.2.1),(.int .i64 z18.2.2.1)]))
 (T.brk 0 [(.int .i64 z18.1),(.int .i64 z18.2.1),(.int .i64 z18.2.2.1)])) fun (z17:Int×Int×Int×Unit)=>
 T.load .slice ⟨r1,0,none⟩ fun (t28:Slc)=>
 T.block 2 [aI,aI,aI]
 (T.loop [aI,aI,aI] [(.int .i64 ((t28.2.1:Nat):Int)),(.int .i64 z17.2.1),(.int .i64 z17.2.2.1)] fun (z30:Int×Int×Int×Unit)=>
 L6 r1 fun t31 t32 t33 t34 t35 t36=>
 T.call 59 [(aH t31 t32 t33 t34 t35 t36)] (.one aI) fun (t37:Int)=>
 cond (decide (z30.1< (IntKind.wrap .i64 (t37 - (1:Int)))))
 (deref t15.1 fun a38=>
 chk (0≤z30.1∧z30.1< (t15.2.1:Nat)) <|
 T.load .bool (a38.add (Int.toNat z30.1 * 1)) fun (t39:Bool)=>
 cond (!t39)
 (T.ret (.tuple #[(.int .i64 z30.1),(.int .i64 (17:Int))]))
 (T.out [(.int .i64 (wN z30.1)),(.int .i64 z30.2.1),(.int .i64 z30.2.2.1)]))
 (T.brk 2 [(.int .i64 z30.1),(.int .i64 z30.2.1),(.int .i64 z30.2.2.1)])) fun (z29:Int×Int×Int×Unit)=>
 T.ret (.tuple #[(.int .i64 (0:Int)),(.int .i64 (0:Int))])
theorem Hy (p_0:Pl6):Ab Tryz.prog Tryz.f16 [(aG p_0)] =FS p_0:=by kernel_rfl
noncomputable def FT (p_0:Pl6):T:=
 T.new (.cells #[(sv p_0.1),(sv p_0.2.1),(sv p_0.2.2.1),(sv p_0.2.2.2.1),(sv p_0.2.2.2.2.1),(sv p_0.2.2.2.2.2.1)] 32 (0,0)) fun r1=>
 L6 r1 fun t2 t3 t4 t5 t6 t7=>
 T.call 59 [(aH t2 t3 t4 t5 t6 t7)] (.one aI) fun (t8:Int)=>
 T.sem (Instr.makeSlice 60 (.int .i64 t8) (.int .i64 t8)) (.one aS) fun (t9:Slc)=>
 T.block 0 [aI]
 (T.loop [aI] [(.int .i64 (0:Int))] fun (z11:Int×Unit)=>
 T.load .slice ⟨r1,0,none⟩ fun (t12:Slc)=>
 cond (decide (z11.1< ((t12.2.1:Nat):Int)))
 (deref t9.1 fun a13=>
 chk (0≤z11.1∧z11.1< (t9.2.1:Nat)) <|
 T.store (a13.add (Int.toNat z11.1 * 1)) (.bool true) <|
 T.out [(.int .i64 (wN z11.1))])
 (T.brk 0 [(.int .i64 z11.1)])) fun (z10:Int×Unit)=>
 T.block 2 [aB]
 (T.loop [aB] [(.bool true)] fun (z15:Bool×Unit)=>
 cond z15.1
 (T.block 4 [aI,aB]
 (T.loop [aI,aB] [(.int .i64 (0:Int)),(.bool false)] fun (z17:Int×Bool×Unit)=>
 T.load .slice ⟨r1,2,none⟩ fun (t18:Slc)=>
 cond (decide (z17.1< ((t18.2.1:Nat):Int)))
 (T.block 6 [aI,aB]
 (T.loop [aI,aB] [(.int .i64 (0:Int)),(.bool true)] fun (z20:Int×Bool×Unit)=>
 T.load .slice ⟨r1,2,none⟩ fun (t21:Slc)=>
 deref t21.1 fun a22=>
 chk (0≤z17.1∧z17.1< (t21.2.1:Nat)) <|
 T.load .slice ((a22.add (Int.toNat z17.1 * 3)).add 1) fun (t23:Slc)=>
 cond (decide (z20.1< ((t23.2.1:Nat):Int)))
 (T.join [aB]
 (cond z20.2.1
 (T.load .slice ⟨r1,2,none⟩ fun (t25:Slc)=>
 deref t25.1 fun a26=>
 chk (0≤z17.1∧z17.1< (t25.2.1:Nat)) <|
 T.load .slice ((a26.add (Int.toNat z17.1 * 3)).add 1) fun (t27:Slc)=>
 deref t27.1 fun a28=>
 chk (0≤z20.1∧z20.1< (t27.2.1:Nat)) <|
 T.load (.int .i64) (a28.add (Int.toNat z20.1 * 1)) fun (t29:Int)=>
 deref t9.1 fun a30=>
 chk (0≤t29∧t29< (t9.2.1:Nat)) <|
 T.load .bool (a30.add (Int.toNat t29 * 1)) fun (t31:Bool)=>
 T.out [(.bool t31)])
 (T.out [(.bool false)])) fun (z24:Bool×Unit)=>
 T.out [(.int .i64 (wN z20.1)),(.bool z24.1)])
 (T.brk 6 [(.int .i64 z20.1),(.bool z20.2.1)])) fun (z19:Int×Bool×Unit)=>
 T.join [aB]
 (cond z19.2.1
 (T.load .slice ⟨r1,2,none⟩ fun (t33:Slc)=>
 deref t33.1 fun a34=>
 chk (0≤z17.1∧z17.1< (t33.2.1:Nat)) <|
 T.load (.int .i64) (a34.add (Int.toNat z17.1 * 3)) fun (t35:Int)=>
 deref t9.1 fun a36=>
 chk (0≤t35∧t35< (t9.2.1:Nat)) <|
 T.load .bool (a36.add (Int.toNat t35 * 1)) fun (t37:Bool)=>
 T.out [(.bool (!t37))])
 (T.out [(.bool false)])) fun (z32:Bool×Unit)=>
 T.join [aB]
 (cond z32.1
 (T.load .slice ⟨r1,2,none⟩ fun (t39:Slc)=>
 deref t39.1 fun a40=>
 chk (0≤z17.1∧z17.1< (t39.2.1:Nat)) <|
 T.load (.int .i64) (a40.add (Int.toNat z17.1 * 3)) fun (t41:Int)=>
 deref t9.1 fun a42=>
 chk (0≤t41∧t41< (t9.2.1:Nat)) <|
 T.store (a42.add (Int.toNat t41 * 1)) (.bool true) <|
 T.out [(.bool true)])
 (T.out [(.bool z17.2.1)])) fun (z38:Bool×Unit)=>
 T.out [(.int .i64 (wN z17.1)),(.bool z38.1)])
 (T.brk 4 [(.int .i64 z17.1),(.bool z17.2.1)])) fun (z16:Int×Bool×Unit)=>
 T.out [(.bool z16.2.1)])
 (T.brk 2 [(.bool z15.1)])) fun (z14:Bool×Unit)=>
 T.ret (sv t9)
theorem Hz (p_0:Pl6):Ab Tryz.prog Tryz.f57 [(aG p_0)] =FT p_0:=by kernel_rfl
noncomputable def Fj (p_0:Pl6):T:=
 T.new (.cells #[(sv p_0.1),(sv p_0.2.1),(sv p_0.2.2.1),(sv p_0.2.2.2.1),(sv p_0.2.2.2.2.1),(sv p_0.2.2.2.2.2.1)] 32 (0,0)) fun r1=>
 L6 r1 fun t2 t3 t4 t5 t6 t7=>
 T.call 59 [(aH t2 t3 t4 t5 t6 t7)] (.one aI) fun (t8:Int)=>
 T.sem (Instr.makeSlice 60 (.int .i64 t8) (.int .i64 t8)) (.one aS) fun (t9:Slc)=>
 L6 r1 fun t10 t11 t12 t13 t14 t15=>
 T.call 59 [(aH t10 t11 t12 t13 t14 t15)] (.one aI) fun (t16:Int)=>
 deref t9.1 fun a17=>
 chk (0≤(IntKind.wrap .i64 (t16 - (1:Int)))∧(IntKind.wrap .i64 (t16 - (1:Int))) < (t9.2.1:Nat)) <|
 T.store (a17.add (Int.toNat (IntKind.wrap .i64 (t16 - (1:Int))) * 1)) (.bool true) <|
 T.block 0 [aB]
 (T.loop [aB] [(.bool true)] fun (z19:Bool×Unit)=>
 cond z19.1
 (T.block 2 [aI,aB]
 (T.loop [aI,aB] [(.int .i64 (0:Int)),(.bool false)] fun (z21:Int×Bool×Unit)=>
 T.load .slice ⟨r1,2,none⟩ fun (t22:Slc)=>
 cond (decide (z21.1< ((t22.2.1:Nat):Int)))
 (T.block 4 [aI,aB]
 (T.loop [aI,aB] [(.int .i64 (0:Int)),(.bool z21.2.1)] fun (z24:Int×Bool×Unit)=>
 T.load .slice ⟨r1,2,none⟩ fun (t25:Slc)=>
 deref t25.1 fun a26=>
 chk (0≤z21.1∧z21.1< (t25.2.1:Nat)) <|
 T.load .slice ((a26.add (Int.toNat z21.1 * 3)).add 1) fun (t27:Slc)=>
 cond (decide (z24.1< ((t27.2.1:Nat):Int)))
 (T.join [aB]
 (T.load .slice ⟨r1,2,none⟩ fun (t29:Slc)=>
 deref t29.1 fun a30=>
 chk (0≤z21.1∧z21.1< (t29.2.1:Nat)) <|
 T.load (.int .i64) (a30.add (Int.toNat z21.1 * 3)) fun (t31:Int)=>
 deref t9.1 fun a32=>
 chk (0≤t31∧t31< (t9.2.1:Nat)) <|
 T.load .bool (a32.add (Int.toNat t31 * 1)) fun (t33:Bool)=>
 cond t33
 (T.load .slice ⟨r1,2,none⟩ fun (t34:Slc)=>
 deref t34.1 fun a35=>
 chk (0≤z21.1∧z21.1< (t34.2.1:Nat)) <|
 T.load .slice ((a35.add (Int.toNat z21.1 * 3)).add 1) fun (t36:Slc)=>
 deref t36.1 fun a37=>
 chk (0≤z24.1∧z24.1< (t36.2.1:Nat)) <|
 T.load (.int .i64) (a37.add (Int.toNat z24.1 * 1)) fun (t38:Int)=>
 deref t9.1 fun a39=>
 chk (0≤t38∧t38< (t9.2.1:Nat)) <|
 T.load .bool (a39.add (Int.toNat t38 * 1)) fun (t40:Bool)=>
 T.out [(.bool (!t40))])
 (T.out [(.bool false)])) fun (z28:Bool×Unit)=>
 T.join [aB]
 (cond z28.1
 (T.load .slice ⟨r1,2,none⟩ fun (t42:Slc)=>
 deref t42.1 fun a43=>
 chk (0≤z21.1∧z21.1< (t42.2.1:Nat)) <|
 T.load .slice ((a43.add (Int.toNat z21.1 * 3)).add 1) fun (t44:Slc)=>
 deref t44.1 fun a45=>
 chk (0≤z24.1∧z24.1< (t44.2.1:Nat)) <|
 T.load (.int .i64) (a45.add (Int.toNat z24.1 * 1)) fun (t46:Int)=>
 deref t9.1 fun a47=>
 chk (0≤t46∧t46< (t9.2.1:Nat)) <|
 T.store (a47.add (Int.toNat t46 * 1)) (.bool true) <|
 T.out [(.bool true)])
 (T.out [(.bool z24.2.1)])) fun (z41:Bool×Unit)=>
 T.out [(.int .i64 (wN z24.1)),(.bool z41.1)])
 (T.brk 4 [(.int .i64 z24.1),(.bool z24.2.1)])) fun (z23:Int×Bool×Unit)=>
 T.out [(.int .i64 (wN z21.1)),(.bool z23.2.1)])
 (T.brk 2 [(.int .i64 z21.1),(.bool z21.2.1)])) fun (z20:Int×Bool×Unit)=>
 T.out [(.bool z20.2.1)])
 (T.brk 0 [(.bool z19.1)])) fun (z18:Bool×Unit)=>
 T.ret (sv t9)
theorem IX (p_0:Pl6):Ab Tryz.prog Tryz.f58 [(aG p_0)] =Fj p_0:=by kernel_rfl
noncomputable def FU (p_0:Pl6):T:=
 T.new (.cells #[(sv p_0.1),(sv p_0.2.1),(sv p_0.2.2.1),(sv p_0.2.2.2.1),(sv p_0.2.2.2.2.1),(sv p_0.2.2.2.2.2.1)] 32 (0,0)) fun r1=>
 T.load .slice ⟨r1,0,none⟩ fun (t2:Slc)=>
 T.load .slice ⟨r1,1,none⟩ fun (t3:Slc)=>
 T.ret (.int .i64 (IntKind.wrap .i64 ((IntKind.wrap .i64 (((t2.2.1:Nat):Int) +((t3.2.1:Nat):Int))) +(1:Int))))
theorem H0 (p_0:Pl6):Ab Tryz.prog Tryz.f59 [(aG p_0)] =FU p_0:=by kernel_rfl
noncomputable def EM (small_0:Int×Int×Slc×Slc×Slc×Slc×Slc×Unit):T:=
 T.new (.cells #[(.int .u8 small_0.1),(.int .u8 small_0.2.1),(sv small_0.2.2.1),(sv small_0.2.2.2.1),(sv small_0.2.2.2.2.1),(sv small_0.2.2.2.2.2.1),(sv small_0.2.2.2.2.2.2.1)] 25 (0,0)) fun r1=>
 T.call 13 [] (.one aB) fun (t2:Bool)=>
 T.load (.int .u8) ⟨r1,0,none⟩ fun (t3:Int)=>
 T.load (.int .u8) ⟨r1,1,none⟩ fun (t4:Int)=>
 T.load .slice ⟨r1,2,none⟩ fun (t5:Slc)=>
 T.load .slice ⟨r1,3,none⟩ fun (t6:Slc)=>
 T.load .slice ⟨r1,4,none⟩ fun (t7:Slc)=>
 T.load .slice ⟨r1,5,none⟩ fun (t8:Slc)=>
 T.load .slice ⟨r1,6,none⟩ fun (t9:Slc)=>
 T.call 14 [(.agg #[(.int .u8 t3),(.int .u8 t4),(sv t5),(sv t6),(sv t7),(sv t8),(sv t9)]),(.int .i64 (12:Int)),(.int .i64 (5:Int))] (.one aB) fun (t10:Bool)=>
 cond (!t10)
 (T.ret (.bool t2))
 (T.load (.int .u8) ⟨r1,0,none⟩ fun (t11:Int)=>
 T.load (.int .u8) ⟨r1,1,none⟩ fun (t12:Int)=>
 T.load .slice ⟨r1,2,none⟩ fun (t13:Slc)=>
 T.load .slice ⟨r1,3,none⟩ fun (t14:Slc)=>
 T.load .slice ⟨r1,4,none⟩ fun (t15:Slc)=>
 T.load .slice ⟨r1,5,none⟩ fun (t16:Slc)=>
 T.load .slice ⟨r1,6,none⟩ fun (t17:Slc)=>
 T.call 19 [(.agg #[(.int .u8 t11),(.int .u8 t12),(sv t13),(sv t14),(sv t15),(sv t16),(sv t17)])] (.tuple [(.agg [.slice, .slice, .slice, .slice, .slice, .slice]),aP,aP,aB]) fun (t18:(Pl6)×(Option Addr)×(Option Addr)×Bool×Unit)=>
 T.new (.cells #[(.slice none 0 0),(.slice none 0 0),(.slice none 0 0),(.slice none 0 0),(.slice none 0 0),(.slice none 0 0)] 32 (0,0)) fun r19=>
 T.store ⟨r19,0,none⟩ (sv t18.1.1) <|
 T.store ⟨r19,1,none⟩ (sv t18.1.2.1) <|
 T.store ⟨r19,2,none⟩ (sv t18.1.2.2.1) <|
 T.store ⟨r19,3,none⟩ (sv t18.1.2.2.2.1) <|
 T.store ⟨r19,4,none⟩ (sv t18.1.2.2.2.2.1) <|
 T.store ⟨r19,5,none⟩ (sv t18.1.2.2.2.2.2.1) <|
 cond (!t18.2.2.2.1)
 (T.ret (.bool t2))
 (T.block 0 [aI,aB]
 (T.loop [aI,aB] [(.int .i64 (0:Int)),(.bool false)] fun (z21:Int×Bool×Unit)=>
 T.call 20 [(.pointer t18.2.1)] (.one aI) fun (t22:Int)=>
 cond (decide (z21.1<t22))
 (T.call 22 [(.pointer t18.2.2.1),(.int .i64 z21.1)] (.one aS) fun (t23:Slc)=>
 T.block 2 [aI,aB]
 (T.loop [aI,aB] [(.int .i64 (0:Int)),(.bool z21.2.1)] fun (z25:Int×Bool×Unit)=>
 cond (decide (z25.1< ((t23.2.1:Nat):Int)))
 (T.block 3 [aB]
 (deref t23.1 fun a27=>
 chk (0≤z25.1∧z25.1< (t23.2.1:Nat)) <|
 T.load (.int .i64) (a27.add (Int.toNat z25.1 * 1)) fun (t28:Int)=>
 cond (t28==(0:Int))
 (T.brk 3 [(.bool z25.2.1)])
 (deref t23.1 fun a29=>
 chk (0≤z25.1∧z25.1< (t23.2.1:Nat)) <|
 T.load (.int .i64) (a29.add (Int.toNat z25.1 * 1)) fun (t30:Int)=>
 T.call 24 [(.pointer t18.2.2.1),(.int .i64 z21.1),(.int .i64 t30)] (.one aS) fun (t31:Slc)=>
 deref t23.1 fun a32=>
 chk (0≤z25.1∧z25.1< (t23.2.1:Nat)) <|
 T.load (.int .i64) (a32.add (Int.toNat z25.1 * 1)) fun (t33:Int)=>
 T.call 27 [(.pointer t18.2.2.1),(.int .i64 z21.1),(.int .i64 t33)] (.one aS) fun (t34:Slc)=>
 T.block 4 [aI,aB]
 (T.loop [aI,aB] [(.int .i64 (0:Int)),(.bool z25.2.1)] fun (z36:Int×Bool×Unit)=>
 cond (decide (z36.1< ((t31.2.1:Nat):Int)))
 (T.block 6 [aI,aB]
 (T.loop [aI,aB] [(.int .i64 (0:Int)),(.bool false)] fun (z38:Int×Bool×Unit)=>
 cond (decide (z38.1< ((t34.2.1:Nat):Int)))
 (T.join [aB]
 (cond z38.2.1
 (T.out [(.bool true)])
 (T.load .slice ⟨r19,0,none⟩ fun (t40:Slc)=>
 deref t34.1 fun a41=>
 chk (0≤z38.1∧z38.1< (t34.2.1:Nat)) <|
 T.load (.int .i64) ((a41.add (Int.toNat z38.1 * 2)).add 1) fun (t42:Int)=>
 deref t31.1 fun a43=>
 chk (0≤z36.1∧z36.1< (t31.2.1:Nat)) <|
 T.load (.int .i64) (a43.add (Int.toNat z36.1 * 1)) fun (t44:Int)=>
 T.call 33 [(.pointer t18.2.1),(.pointer t18.2.2.1),(.int .i64 ((t40.2.1:Nat):Int)),(.int .i64 t42)] (.one aS) fun (t45:Slc)=>
 T.still (a43.add (Int.toNat z36.1 * 1)) (.int .i64 t44) <|
 T.call 31 [(sv t45),(.int .i64 t44)] (.one aB) fun (t46:Bool)=>
 T.out [(.bool t46)])) fun (z39:Bool×Unit)=>
 T.out [(.int .i64 (wN z38.1)),(.bool z39.1)])
 (T.brk 6 [(.int .i64 z38.1),(.bool z38.2.1)])) fun (z37:Int×Bool×Unit)=>
 cond (!z37.2.1)
 (T.ret (.bool false))
 (T.out [(.int .i64 (wN z36.1)),(.bool z36.2.1)]))
 (T.brk 4 [(.int .i64 z36.1),(.bool z36.2.1)])) fun (z35:Int×Bool×Unit)=>
 T.out [(.bool z35.2.1)])) fun (z26:Bool×Unit)=>
 T.out [(.int .i64 (wN z25.1)),(.bool z26.1)])
 (T.brk 2 [(.int .i64 z25.1),(.bool z25.2.1)])) fun (z24:Int×Bool×Unit)=>
 T.out [(.int .i64 (wN z21.1)),(.bool z24.2.1)])
 (T.brk 0 [(.int .i64 z21.1),(.bool z21.2.1)])) fun (z20:Int×Bool×Unit)=>
 T.ret (.bool t2)))
theorem GT (small_0:Int×Int×Slc×Slc×Slc×Slc×Slc×Unit):Ab Tryz.prog Tryz.f6 [(.agg #[(.int .u8 small_0.1),(.int .u8 small_0.2.1),(sv small_0.2.2.1),(sv small_0.2.2.2.1),(sv small_0.2.2.2.2.1),(sv small_0.2.2.2.2.2.1),(sv small_0.2.2.2.2.2.2.1)])] =EM small_0:=by kernel_rfl
noncomputable def Ei (small_0:Int×Int×Slc×Slc×Slc×Slc×Slc×Unit):T:=
 T.new (.cells #[(.int .u8 small_0.1),(.int .u8 small_0.2.1),(sv small_0.2.2.1),(sv small_0.2.2.2.1),(sv small_0.2.2.2.2.1),(sv small_0.2.2.2.2.2.1),(sv small_0.2.2.2.2.2.2.1)] 25 (0,0)) fun r1=>
 T.call 13 [] (.one aB) fun (t2:Bool)=>
 T.load (.int .u8) ⟨r1,0,none⟩ fun (t3:Int)=>
 T.load (.int .u8) ⟨r1,1,none⟩ fun (t4:Int)=>
 T.load .slice ⟨r1,2,none⟩ fun (t5:Slc)=>
 T.load .slice ⟨r1,3,none⟩ fun (t6:Slc)=>
 T.load .slice ⟨r1,4,none⟩ fun (t7:Slc)=>
 T.load .slice ⟨r1,5,none⟩ fun (t8:Slc)=>
 T.load .slice ⟨r1,6,none⟩ fun (t9:Slc)=>
 T.call 14 [(.agg #[(.int .u8 t3),(.int .u8 t4),(sv t5),(sv t6),(sv t7),(sv t8),(sv t9)]),(.int .i64 (12:Int)),(.int .i64 (5:Int))] (.one aB) fun (t10:Bool)=>
 cond (!t10)
 (T.ret (.bool t2))
 (T.load (.int .u8) ⟨r1,0,none⟩ fun (t11:Int)=>
 T.load (.int .u8) ⟨r1,1,none⟩ fun (t12:Int)=>
 T.load .slice ⟨r1,2,none⟩ fun (t13:Slc)=>
 T.load .slice ⟨r1,3,none⟩ fun (t14:Slc)=>
 T.load .slice ⟨r1,4,none⟩ fun (t15:Slc)=>
 T.load .slice ⟨r1,5,none⟩ fun (t16:Slc)=>
 T.load .slice ⟨r1,6,none⟩ fun (t17:Slc)=>
 T.call 19 [(.agg #[(.int .u8 t11),(.int .u8 t12),(sv t13),(sv t14),(sv t15),(sv t16),(sv t17)])] (.tuple [(.agg [.slice, .slice, .slice, .slice, .slice, .slice]),aP,aP,aB]) fun (t18:(Pl6)×(Option Addr)×(Option Addr)×Bool×Unit)=>
 T.new (.cells #[(.slice none 0 0),(.slice none 0 0),(.slice none 0 0),(.slice none 0 0),(.slice none 0 0),(.slice none 0 0)] 32 (0,0)) fun r19=>
 T.store ⟨r19,0,none⟩ (sv t18.1.1) <|
 T.store ⟨r19,1,none⟩ (sv t18.1.2.1) <|
 T.store ⟨r19,2,none⟩ (sv t18.1.2.2.1) <|
 T.store ⟨r19,3,none⟩ (sv t18.1.2.2.2.1) <|
 T.store ⟨r19,4,none⟩ (sv t18.1.2.2.2.2.1) <|
 T.store ⟨r19,5,none⟩ (sv t18.1.2.2.2.2.2.1) <|
 cond (!t18.2.2.2.1)
 (T.ret (.bool t2))
 (T.block 0 [aI,aB]
 (T.loop [aI,aB] [(.int .i64 (0:Int)),(.bool false)] fun (z21:Int×Bool×Unit)=>
 T.call 20 [(.pointer t18.2.1)] (.one aI) fun (t22:Int)=>
 cond (decide (z21.1<t22))
 (T.call 22 [(.pointer t18.2.2.1),(.int .i64 z21.1)] (.one aS) fun (t23:Slc)=>
 T.block 2 [aI,aB]
 (T.loop [aI,aB] [(.int .i64 (0:Int)),(.bool z21.2.1)] fun (z25:Int×Bool×Unit)=>
 cond (decide (z25.1< ((t23.2.1:Nat):Int)))
 (deref t23.1 fun a26=>
 chk (0≤z25.1∧z25.1< (t23.2.1:Nat)) <|
 T.load (.int .i64) (a26.add (Int.toNat z25.1 * 1)) fun (t27:Int)=>
 T.call 24 [(.pointer t18.2.2.1),(.int .i64 z21.1),(.int .i64 t27)] (.one aS) fun (t28:Slc)=>
 deref t23.1 fun a29=>
 chk (0≤z25.1∧z25.1< (t23.2.1:Nat)) <|
 T.load (.int .i64) (a29.add (Int.toNat z25.1 * 1)) fun (t30:Int)=>
 T.call 27 [(.pointer t18.2.2.1),(.int .i64 z21.1),(.int .i64 t30)] (.one aS) fun (t31:Slc)=>
 T.block 4 [aI,aB]
 (T.loop [aI,aB] [(.int .i64 (0:Int)),(.bool z25.2.1)] fun (z33:Int×Bool×Unit)=>
 cond (decide (z33.1< ((t31.2.1:Nat):Int)))
 (deref t31.1 fun a34=>
 chk (0≤z33.1∧z33.1< (t31.2.1:Nat)) <|
 T.load (.int .i64) ((a34.add (Int.toNat z33.1 * 2)).add 1) fun (t35:Int)=>
 T.call 34 [(.pointer t18.2.1),(.int .i64 t35)] (.one aS) fun (t36:Slc)=>
 T.block 6 [aI,aB]
 (T.loop [aI,aB] [(.int .i64 (0:Int)),(.bool z33.2.1)] fun (z38:Int×Bool×Unit)=>
 cond (decide (z38.1< ((t36.2.1:Nat):Int)))
 (T.join [aB]
 (deref t36.1 fun a40=>
 chk (0≤z38.1∧z38.1< (t36.2.1:Nat)) <|
 T.load (.int .i64) (a40.add (Int.toNat z38.1 * 2)) fun (t41:Int)=>
 T.load .slice ⟨r19,0,none⟩ fun (t42:Slc)=>
 cond (decide (t41< ((t42.2.1:Nat):Int)))
 (deref t36.1 fun a43=>
 chk (0≤z38.1∧z38.1< (t36.2.1:Nat)) <|
 T.load (.int .i64) (a43.add (Int.toNat z38.1 * 2)) fun (t44:Int)=>
 T.call 31 [(sv t28),(.int .i64 t44)] (.one aB) fun (t45:Bool)=>
 T.out [(.bool (!t45))])
 (T.out [(.bool false)])) fun (z39:Bool×Unit)=>
 cond z39.1
 (T.ret (.bool false))
 (T.out [(.int .i64 (wN z38.1)),(.bool z38.2.1)]))
 (T.brk 6 [(.int .i64 z38.1),(.bool z38.2.1)])) fun (z37:Int×Bool×Unit)=>
 deref t31.1 fun a46=>
 chk (0≤z33.1∧z33.1< (t31.2.1:Nat)) <|
 T.load (.int .i64) ((a46.add (Int.toNat z33.1 * 2)).add 1) fun (t47:Int)=>
 T.call 22 [(.pointer t18.2.2.1),(.int .i64 t47)] (.one aS) fun (t48:Slc)=>
 T.block 8 [aI,aB]
 (T.loop [aI,aB] [(.int .i64 (0:Int)),(.bool z37.2.1)] fun (z50:Int×Bool×Unit)=>
 cond (decide (z50.1< ((t48.2.1:Nat):Int)))
 (T.block 9 [aB]
 (T.load .slice ⟨r19,2,none⟩ fun (t52:Slc)=>
 deref t48.1 fun a53=>
 chk (0≤z50.1∧z50.1< (t48.2.1:Nat)) <|
 T.load (.int .i64) (a53.add (Int.toNat z50.1 * 1)) fun (t54:Int)=>
 deref t52.1 fun a55=>
 chk (0≤t54∧t54< (t52.2.1:Nat)) <|
 T.load .slice ((a55.add (Int.toNat t54 * 3)).add 1) fun (t56:Slc)=>
 cond (decide (((t56.2.1:Nat):Int) >(0:Int)))
 (T.brk 9 [(.bool z50.2.1)])
 (deref t31.1 fun a57=>
 chk (0≤z33.1∧z33.1< (t31.2.1:Nat)) <|
 T.load (.int .i64) ((a57.add (Int.toNat z33.1 * 2)).add 1) fun (t58:Int)=>
 deref t48.1 fun a59=>
 chk (0≤z50.1∧z50.1< (t48.2.1:Nat)) <|
 T.load (.int .i64) (a59.add (Int.toNat z50.1 * 1)) fun (t60:Int)=>
 T.call 24 [(.pointer t18.2.2.1),(.int .i64 t58),(.int .i64 t60)] (.one aS) fun (t61:Slc)=>
 T.block 10 [aI,aB]
 (T.loop [aI,aB] [(.int .i64 (0:Int)),(.bool z50.2.1)] fun (z63:Int×Bool×Unit)=>
 cond (decide (z63.1< ((t61.2.1:Nat):Int)))
 (T.join [aB]
 (deref t31.1 fun a65=>
 chk (0≤z33.1∧z33.1< (t31.2.1:Nat)) <|
 T.load (.int .i64) ((a65.add (Int.toNat z33.1 * 2)).add 1) fun (t66:Int)=>
 cond (decide (t66>(0:Int)))
 (deref t61.1 fun a67=>
 chk (0≤z63.1∧z63.1< (t61.2.1:Nat)) <|
 T.load (.int .i64) (a67.add (Int.toNat z63.1 * 1)) fun (t68:Int)=>
 T.call 31 [(sv t28),(.int .i64 t68)] (.one aB) fun (t69:Bool)=>
 cond (!t69)
 (cond (((t31.2.1:Nat):Int)==(1:Int))
 (deref t31.1 fun a70=>
 chk (0≤z33.1∧z33.1< (t31.2.1:Nat)) <|
 T.load (.int .i64) ((a70.add (Int.toNat z33.1 * 2)).add 1) fun (t71:Int)=>
 deref t48.1 fun a72=>
 chk (0≤z50.1∧z50.1< (t48.2.1:Nat)) <|
 T.load (.int .i64) (a72.add (Int.toNat z50.1 * 1)) fun (t73:Int)=>
 T.call 35 [(.pointer t18.2.1),(.pointer t18.2.2.1),(.int .i64 t71),(.int .i64 t73)] (.one aB) fun (t74:Bool)=>
 T.out [(.bool t74)])
 (T.out [(.bool false)]))
 (T.out [(.bool false)]))
 (T.out [(.bool false)])) fun (z64:Bool×Unit)=>
 cond z64.1
 (T.ret (.bool false))
 (T.out [(.int .i64 (wN z63.1)),(.bool z63.2.1)]))
 (T.brk 10 [(.int .i64 z63.1),(.bool z63.2.1)])) fun (z62:Int×Bool×Unit)=>
 T.out [(.bool z62.2.1)])) fun (z51:Bool×Unit)=>
 T.out [(.int .i64 (wN z50.1)),(.bool z51.1)])
 (T.brk 8 [(.int .i64 z50.1),(.bool z50.2.1)])) fun (z49:Int×Bool×Unit)=>
 T.out [(.int .i64 (wN z33.1)),(.bool z49.2.1)])
 (T.brk 4 [(.int .i64 z33.1),(.bool z33.2.1)])) fun (z32:Int×Bool×Unit)=>
 T.out [(.int .i64 (wN z25.1)),(.bool z32.2.1)])
 (T.brk 2 [(.int .i64 z25.1),(.bool z25.2.1)])) fun (z24:Int×Bool×Unit)=>
 T.out [(.int .i64 (wN z21.1)),(.bool z24.2.1)])
 (T.brk 0 [(.int .i64 z21.1),(.bool z21.2.1)])) fun (z20:Int×Bool×Unit)=>
 T.ret (.bool t2)))
theorem G2 (small_0:Int×Int×Slc×Slc×Slc×Slc×Slc×Unit):Ab Tryz.prog Tryz.f7 [(.agg #[(.int .u8 small_0.1),(.int .u8 small_0.2.1),(sv small_0.2.2.1),(sv small_0.2.2.2.1),(sv small_0.2.2.2.2.1),(sv small_0.2.2.2.2.2.1),(sv small_0.2.2.2.2.2.2.1)])] =Ei small_0:=by kernel_rfl
noncomputable def FV:T:=
 T.call 54 [] (.one (.agg [(.int .u8),(.int .u8), .slice, .slice, .slice, .slice, .slice])) fun (t1:Int×Int×Slc×Slc×Slc×Slc×Slc×Unit)=>
 T.call 19 [(.agg #[(.int .u8 t1.1),(.int .u8 t1.2.1),(sv t1.2.2.1),(sv t1.2.2.2.1),(sv t1.2.2.2.2.1),(sv t1.2.2.2.2.2.1),(sv t1.2.2.2.2.2.2.1)])] (.tuple [(.agg [.slice, .slice, .slice, .slice, .slice, .slice]),aP,aP,aB]) fun (t2:(Pl6)×(Option Addr)×(Option Addr)×Bool×Unit)=>
 T.new (.cells #[(.slice none 0 0),(.slice none 0 0),(.slice none 0 0),(.slice none 0 0),(.slice none 0 0),(.slice none 0 0)] 32 (0,0)) fun r3=>
 T.store ⟨r3,0,none⟩ (sv t2.1.1) <|
 T.store ⟨r3,1,none⟩ (sv t2.1.2.1) <|
 T.store ⟨r3,2,none⟩ (sv t2.1.2.2.1) <|
 T.store ⟨r3,3,none⟩ (sv t2.1.2.2.2.1) <|
 T.store ⟨r3,4,none⟩ (sv t2.1.2.2.2.2.1) <|
 T.store ⟨r3,5,none⟩ (sv t2.1.2.2.2.2.2.1) <|
 T.join [aB]
 (cond (!t2.2.2.2.1)
 (T.out [(.bool true)])
 (T.load .slice ⟨r3,2,none⟩ fun (t5:Slc)=>
 T.out [(.bool (((t5.2.1:Nat):Int) !=(6:Int)))])) fun (z4:Bool×Unit)=>
 cond z4.1
 (T.ret (.bool false))
 (T.call 41 [(.pointer t2.2.1),(.int .i64 (0:Int)),(.int .i64 (5:Int))] (.one aI) fun (t6:Int)=>
 T.join [aB]
 (cond (decide (t6>(0:Int)))
 (T.call 22 [(.pointer t2.2.2.1),(.int .i64 t6)] (.one aS) fun (t8:Slc)=>
 T.new (.cells #[(.int .i64 (5:Int))] 3 (0,0)) fun r9=>
 T.call 21 [(sv t8),(.slice (some ⟨r9,0,none⟩) 1 1)] (.one aB) fun (t10:Bool)=>
 cond t10
 (T.call 24 [(.pointer t2.2.2.1),(.int .i64 t6),(.int .i64 (5:Int))] (.one aS) fun (t11:Slc)=>
 T.new (.cells #[(.int .i64 (0:Int))] 3 (0,0)) fun r12=>
 T.call 21 [(sv t11),(.slice (some ⟨r12,0,none⟩) 1 1)] (.one aB) fun (t13:Bool)=>
 cond t13
 (T.call 27 [(.pointer t2.2.2.1),(.int .i64 t6),(.int .i64 (5:Int))] (.one aS) fun (t14:Slc)=>
 T.out [(.bool (((t14.2.1:Nat):Int)==(1:Int)))])
 (T.out [(.bool false)]))
 (T.out [(.bool false)]))
 (T.out [(.bool false)])) fun (z7:Bool×Unit)=>
 T.ret (.bool z7.1))
theorem H4:Ab Tryz.prog Tryz.f13 [] =FV:=by kernel_rfl
noncomputable def Fk (small_0:Int×Int×Slc×Slc×Slc×Slc×Slc×Unit):T:=
 T.new (.cells #[(.int .u8 small_0.1),(.int .u8 small_0.2.1),(sv small_0.2.2.1),(sv small_0.2.2.2.1),(sv small_0.2.2.2.2.1),(sv small_0.2.2.2.2.2.1),(sv small_0.2.2.2.2.2.2.1)] 25 (0,0)) fun r1=>
 T.new (.cells #[(.slice none 0 0),(.slice none 0 0),(.slice none 0 0),(.slice none 0 0),(.slice none 0 0),(.slice none 0 0)] 32 (0,0)) fun r2=>
 T.load (.int .u8) ⟨r1,0,none⟩ fun (t3:Int)=>
 T.load (.int .u8) ⟨r1,1,none⟩ fun (t4:Int)=>
 T.load .slice ⟨r1,2,none⟩ fun (t5:Slc)=>
 T.load .slice ⟨r1,3,none⟩ fun (t6:Slc)=>
 T.load .slice ⟨r1,4,none⟩ fun (t7:Slc)=>
 T.load .slice ⟨r1,5,none⟩ fun (t8:Slc)=>
 T.load .slice ⟨r1,6,none⟩ fun (t9:Slc)=>
 T.call 15 [(.agg #[(.int .u8 t3),(.int .u8 t4),(sv t5),(sv t6),(sv t7),(sv t8),(sv t9)])] (.one (.agg [.slice, .slice, .slice, .slice, .slice, .slice])) fun (t10:Pl6)=>
 T.new (.cells #[(.slice none 0 0),(.slice none 0 0),(.slice none 0 0),(.slice none 0 0),(.slice none 0 0),(.slice none 0 0)] 32 (0,0)) fun r11=>
 T.store ⟨r11,0,none⟩ (sv t10.1) <|
 T.store ⟨r11,1,none⟩ (sv t10.2.1) <|
 T.store ⟨r11,2,none⟩ (sv t10.2.2.1) <|
 T.store ⟨r11,3,none⟩ (sv t10.2.2.2.1) <|
 T.store ⟨r11,4,none⟩ (sv t10.2.2.2.2.1) <|
 T.store ⟨r11,5,none⟩ (sv t10.2.2.2.2.2.1) <|
 L6 r11 fun t12 t13 t14 t15 t16 t17=>
 T.call 16 [(aH t12 t13 t14 t15 t16 t17)] (.tuple [aI,aI]) fun (t18:Int×Int×Unit)=>
 cond (t18.2.1 !=(0:Int))
 (L6 r11 fun t19 t20 t21 t22 t23 t24=>
 T.store ⟨r2,0,none⟩ (sv t19) <|
 T.store ⟨r2,1,none⟩ (sv t20) <|
 T.store ⟨r2,2,none⟩ (sv t21) <|
 T.store ⟨r2,3,none⟩ (sv t22) <|
 T.store ⟨r2,4,none⟩ (sv t23) <|
 T.store ⟨r2,5,none⟩ (sv t24) <|
 L6 r2 fun res25 res26 res27 res28 res29 res30=>
 T.ret (.tuple #[(aH res25 res26 res27 res28 res29 res30),(.pointer none),(.pointer none),(.bool false)]))
 (L6 r11 fun t31 t32 t33 t34 t35 t36=>
 T.call 68 [(aH t31 t32 t33 t34 t35 t36),(.int .i64 (300:Int)),(.int .i64 (9000:Int))] (.tuple [aP,aI]) fun (t37:(Option Addr)×Int×Unit)=>
 T.join [aB]
 (cond (Option.isNone t37.1)
 (T.out [(.bool true)])
 (T.call 20 [(.pointer t37.1)] (.one aI) fun (t39:Int)=>
 T.out [(.bool (t39==(0:Int)))])) fun (z38:Bool×Unit)=>
 cond z38.1
 (L6 r11 fun t40 t41 t42 t43 t44 t45=>
 T.store ⟨r2,0,none⟩ (sv t40) <|
 T.store ⟨r2,1,none⟩ (sv t41) <|
 T.store ⟨r2,2,none⟩ (sv t42) <|
 T.store ⟨r2,3,none⟩ (sv t43) <|
 T.store ⟨r2,4,none⟩ (sv t44) <|
 T.store ⟨r2,5,none⟩ (sv t45) <|
 L6 r2 fun res46 res47 res48 res49 res50 res51=>
 T.ret (.tuple #[(aH res46 res47 res48 res49 res50 res51),(.pointer none),(.pointer none),(.bool false)]))
 (L6 r11 fun t52 t53 t54 t55 t56 t57=>
 T.call 69 [(aH t52 t53 t54 t55 t56 t57),(.pointer t37.1)] (.one aP) fun (t58:Option Addr)=>
 L6 r11 fun t59 t60 t61 t62 t63 t64=>
 T.store ⟨r2,0,none⟩ (sv t59) <|
 T.store ⟨r2,1,none⟩ (sv t60) <|
 T.store ⟨r2,2,none⟩ (sv t61) <|
 T.store ⟨r2,3,none⟩ (sv t62) <|
 T.store ⟨r2,4,none⟩ (sv t63) <|
 T.store ⟨r2,5,none⟩ (sv t64) <|
 L6 r2 fun res65 res66 res67 res68 res69 res70=>
 T.ret (.tuple #[(aH res65 res66 res67 res68 res69 res70),(.pointer t37.1),(.pointer t58),(.bool (!(Option.isNone t58)))])))
theorem IY (small_0:Int×Int×Slc×Slc×Slc×Slc×Slc×Unit):Ab Tryz.prog Tryz.f19 [(.agg #[(.int .u8 small_0.1),(.int .u8 small_0.2.1),(sv small_0.2.2.1),(sv small_0.2.2.2.1),(sv small_0.2.2.2.2.1),(sv small_0.2.2.2.2.2.1),(sv small_0.2.2.2.2.2.2.1)])] =Fk small_0:=by kernel_rfl
noncomputable def FW:T:=
 T.new (.cells #[(.int .u8 (0:Int)),(.int .u8 (0:Int)),(.slice none 0 0),(.slice none 0 0),(.slice none 0 0),(.slice none 0 0),(.slice none 0 0)] 25 (0,0)) fun r1=>
 T.new (.cells #[(.int .u8 (0:Int)),(.int .u8 (0:Int)),(.int .u8 (1:Int)),(.int .u8 (1:Int)),(.int .u8 (2:Int))] 5 (0,0)) fun r2=>
 T.new (.cells #[(.int .u8 (4:Int)),(.int .u8 (0:Int)),(.int .u8 (5:Int))] 5 (0,0)) fun r3=>
 T.new (.cells #[(.int .u8 (5:Int))] 5 (0,0)) fun r4=>
 T.new (.cells #[(.int .u8 (1:Int)),(.int .u8 (5:Int))] 5 (0,0)) fun r5=>
 T.new (.cells #[(.int .u8 (2:Int))] 5 (0,0)) fun r6=>
 T.new (.cells #[(.int .u8 (4:Int))] 5 (0,0)) fun r7=>
 T.new (.cells #[(.slice (some ⟨r3,0,none⟩) 3 3),(.slice (some ⟨r4,0,none⟩) 1 1),(.slice (some ⟨r5,0,none⟩) 2 2),(.slice (some ⟨r6,0,none⟩) 1 1),(.slice (some ⟨r7,0,none⟩) 1 1)] 22 (0,0)) fun r8=>
 T.store ⟨r1,0,none⟩ (.int .u8 (2:Int)) <|
 T.store ⟨r1,1,none⟩ (.int .u8 (2:Int)) <|
 T.store ⟨r1,2,none⟩ (.slice (some ⟨r2,0,none⟩) 5 5) <|
 T.store ⟨r1,3,none⟩ (.slice (some ⟨r8,0,none⟩) 5 5) <|
 T.store ⟨r1,4,none⟩ (.slice none 0 0) <|
 T.store ⟨r1,5,none⟩ (.slice none 0 0) <|
 T.store ⟨r1,6,none⟩ (.slice none 0 0) <|
 T.load (.int .u8) ⟨r1,0,none⟩ fun (res9:Int)=>
 T.load (.int .u8) ⟨r1,1,none⟩ fun (res10:Int)=>
 T.load .slice ⟨r1,2,none⟩ fun (res11:Slc)=>
 T.load .slice ⟨r1,3,none⟩ fun (res12:Slc)=>
 T.load .slice ⟨r1,4,none⟩ fun (res13:Slc)=>
 T.load .slice ⟨r1,5,none⟩ fun (res14:Slc)=>
 T.load .slice ⟨r1,6,none⟩ fun (res15:Slc)=>
 T.ret (.agg #[(.int .u8 res9),(.int .u8 res10),(sv res11),(sv res12),(sv res13),(sv res14),(sv res15)])
theorem H5:Ab Tryz.prog Tryz.f54 [] =FW:=by kernel_rfl
noncomputable def Fl (a_0:Option Addr) (l_1:Option Addr) (terms_2:Int) (state_3:Int):T:=
 T.call 34 [(.pointer a_0),(.int .i64 state_3)] (.one aS) fun (t1:Slc)=>
 T.block 0 [aI,aS]
 (T.loop [aI,aS] [(.int .i64 (0:Int)),(.slice none 0 0)] fun (z3:Int×Slc×Unit)=>
 cond (decide (z3.1< ((t1.2.1:Nat):Int)))
 (deref t1.1 fun a4=>
 chk (0≤z3.1∧z3.1< (t1.2.1:Nat)) <|
 T.load (.int .i64) (a4.add (Int.toNat z3.1 * 2)) fun (t5:Int)=>
 T.join [aS]
 (cond (decide (t5<terms_2))
 (deref t1.1 fun a7=>
 chk (0≤z3.1∧z3.1< (t1.2.1:Nat)) <|
 T.load (.int .i64) (a7.add (Int.toNat z3.1 * 2)) fun (t8:Int)=>
 T.new (.cells #[(.int .i64 t8)] 3 (0,0)) fun r9=>
 T.sem (Builtin.append_ #[30,30] 30 #[(sv z3.2.1),(.slice (some ⟨r9,0,none⟩) 1 1)]) (.one aS) fun (t10:Slc)=>
 T.out [(sv t10)])
 (T.out [(sv z3.2.1)])) fun (z6:Slc×Unit)=>
 T.out [(.int .i64 (wN z3.1)),(sv z6.1)])
 (T.brk 0 [(.int .i64 z3.1),(sv z3.2.1)])) fun (z2:Int×Slc×Unit)=>
 T.call 22 [(.pointer l_1),(.int .i64 state_3)] (.one aS) fun (t11:Slc)=>
 T.block 2 [aI,aS]
 (T.loop [aI,aS] [(.int .i64 (0:Int)),(sv z2.2.1)] fun (z13:Int×Slc×Unit)=>
 cond (decide (z13.1< ((t11.2.1:Nat):Int)))
 (deref t11.1 fun a14=>
 chk (0≤z13.1∧z13.1< (t11.2.1:Nat)) <|
 T.load (.int .i64) (a14.add (Int.toNat z13.1 * 1)) fun (t15:Int)=>
 T.call 24 [(.pointer l_1),(.int .i64 state_3),(.int .i64 t15)] (.one aS) fun (t16:Slc)=>
 T.sem (Builtin.append_ #[30,30] 30 #[(sv z13.2.1),(sv t16)]) (.one aS) fun (t17:Slc)=>
 T.out [(.int .i64 (wN z13.1)),(sv t17)])
 (T.brk 2 [(.int .i64 z13.1),(sv z13.2.1)])) fun (z12:Int×Slc×Unit)=>
 T.ret (sv z12.2.1)
theorem IZ (a_0:Option Addr) (l_1:Option Addr) (terms_2:Int) (state_3:Int):Ab Tryz.prog Tryz.f33 [(.pointer a_0),(.pointer l_1),(.int .i64 terms_2),(.int .i64 state_3)] =Fl a_0 l_1 terms_2 state_3:=by kernel_rfl
noncomputable def FX (a_0:Option Addr) (l_1:Option Addr) (state_2:Int) (rule_3:Int):T:=
 T.block 0 [aI,aI]
 (T.loop [aI,aI] [(.int .i64 (0:Int)),(.int .i64 (0:Int))] fun (z2:Int×Int×Unit)=>
 T.call 20 [(.pointer a_0)] (.one aI) fun (t3:Int)=>
 cond (decide (z2.1<t3))
 (T.call 34 [(.pointer a_0),(.int .i64 z2.1)] (.one aS) fun (t4:Slc)=>
 T.block 2 [aI,aI]
 (T.loop [aI,aI] [(.int .i64 (0:Int)),(.int .i64 z2.2.1)] fun (z6:Int×Int×Unit)=>
 cond (decide (z6.1< ((t4.2.1:Nat):Int)))
 (deref t4.1 fun a7=>
 chk (0≤z6.1∧z6.1< (t4.2.1:Nat)) <|
 T.load (.int .i64) ((a7.add (Int.toNat z6.1 * 2)).add 1) fun (t8:Int)=>
 T.join [aI]
 (cond (t8==state_2)
 (T.out [(.int .i64 (wN z6.2.1))])
 (T.out [(.int .i64 z6.2.1)])) fun (z9:Int×Unit)=>
 T.out [(.int .i64 (wN z6.1)),(.int .i64 z9.1)])
 (T.brk 2 [(.int .i64 z6.1),(.int .i64 z6.2.1)])) fun (z5:Int×Int×Unit)=>
 T.out [(.int .i64 (wN z2.1)),(.int .i64 z5.2.1)])
 (T.brk 0 [(.int .i64 z2.1),(.int .i64 z2.2.1)])) fun (z1:Int×Int×Unit)=>
 T.join [aB]
 (cond (z1.2.1==(1:Int))
 (T.call 27 [(.pointer l_1),(.int .i64 state_2),(.int .i64 rule_3)] (.one aS) fun (t11:Slc)=>
 T.out [(.bool (((t11.2.1:Nat):Int)==(1:Int)))])
 (T.out [(.bool false)])) fun (z10:Bool×Unit)=>
 T.ret (.bool z10.1)
theorem H6 (a_0:Option Addr) (l_1:Option Addr) (state_2:Int) (rule_3:Int):Ab Tryz.prog Tryz.f35 [(.pointer a_0),(.pointer l_1),(.int .i64 state_2),(.int .i64 rule_3)] =FX a_0 l_1 state_2 rule_3:=by kernel_rfl
theorem Pu:NY Tryz.prog 60 4 (.bool false):=⟨Tryz.underlying60,⟨Tryz.t4,by kernel_rfl,rfl,⟨_,rfl,rfl⟩,by decide⟩⟩
noncomputable def BG (p_0:Ay):Option Int:=
 some (IntKind.wrap .i64 ((IntKind.wrap .i64 ((((List.length p_0.1):Nat):Int) +(((List.length p_0.2.1):Nat):Int))) +(1:Int)))
theorem By {φ:AC} {h:AH} {F:List Chk} {p_0:Pl6} {a:List ByteArray} {b:List ByteArray} {d:List BC} {e:List Int} {f:List Int} {g:List ByteArray} (i:Ro.SliceIs Ro.str φ p_0.1 a) (j:Ro.SliceIs Ro.str φ p_0.2.1 b) (n:Ro.SliceIs CF φ p_0.2.2.1 d) (o:Ro.SliceIs (Ro.int .i64) φ p_0.2.2.2.1 e) (p:Ro.SliceIs (Ro.int .i64) φ p_0.2.2.2.2.1 f) (q:Ro.SliceIs Ro.str φ p_0.2.2.2.2.2.1 g) (s0:St φ (F) h) {r:Int} (hd:BG (a,b,d,e,f,g)=some r):
 CallsH Tryz.prog 59 [(aG p_0)] h (Ar fun v h'=> ∃ψ:AC,∃y:Int,Sub φ ψ∧v=((.one aI):Sh).val y∧y=r∧St ψ (F) h'):=by
 refine AR mixed Tryz.func59 ?_
 rw [H0]
 unfold FU
 unfold BG at hd
 have k:p_0.1.2.1=List.length a:=i.length
 have l:p_0.2.1.2.1=List.length b:=j.length
 refine AY (vs:= [sv p_0.1,sv p_0.2.1,sv p_0.2.2.1,sv p_0.2.2.2.1,sv p_0.2.2.2.2.1,sv p_0.2.2.2.2.2.1]) s0 fun r1 s c=> ?_
 refine AA (x:=p_0.1) c rfl ?_
 refine AA (x:=p_0.2.1) c rfl ?_
 obtain rfl:=iS hd
 have m:=c.tail
 exact AB ⟨φ,(IntKind.wrap .i64 ((IntKind.wrap .i64 (((p_0.1.2.1:Nat):Int) +((p_0.2.1.2.1:Nat):Int))) +(1:Int))),(Sub.refl _),rfl,(by rw [k,l]),m⟩
noncomputable def CH (p_0:Ay):Option (List Bool):=
 (BG (p_0.1,p_0.2.1,p_0.2.2.1,p_0.2.2.2.1,p_0.2.2.2.2.1,p_0.2.2.2.2.2)).bind fun t8=>
 (FB t8 false).bind fun t9=>
 (forS (σ:=List Bool) (0:Int) (((List.length p_0.1):Nat):Int) t9 fun i_z11 z11=>
  (Dq z11 i_z11 true).bind fun m57=>
  some m57).bind fun z10=>
 (loop (σ:=(Bool×List Bool)) (β:=List Bool) (true,z10) fun z15=>
  cond z15.1
  ((forS (σ:=(Bool×List Bool)) (0:Int) (((List.length p_0.2.2.1):Nat):Int) (false,z15.2) fun i_z17 z17=>
   (loop (σ:=(Int×Bool)) (β:=Bool) ((0:Int),true) fun z20=>
    (idx p_0.2.2.1 i_z17).bind fun e128=>
    cond (decide (z20.1< (((List.length e128.2.1):Nat):Int)))
    ((cond z20.2
     ((idx p_0.2.2.1 i_z17).bind fun e146=>
      (idx e146.2.1 z20.1).bind fun e156=>
      (idx z17.2 e156).bind fun e159=>
      some e159)
     (some false)).bind fun z24=>
     some (AU.next ((IntKind.wrap .i64 (z20.1+(1:Int))),z24)))
    (some (AU.done z20.2))).bind fun z19=>
   (cond z19
   ((idx p_0.2.2.1 i_z17).bind fun e189=>
    (idx z17.2 e189.1).bind fun e199=>
    some (!e199))
   (some false)).bind fun z32=>
   (cond z32
   ((idx p_0.2.2.1 i_z17).bind fun e220=>
    (Dq z17.2 e220.1 true).bind fun m240=>
    some (true,m240))
   (some (z17.1,z17.2))).bind fun z38=>
   some (z38.1,z38.2)).bind fun z16=>
   some (AU.next (z16.1,z16.2)))
  (some (AU.done z15.2))).bind fun z14=>
 some z14
theorem H7 {φ:AC} {h:AH} {F:List Chk} {p_0:Pl6} {a1:List ByteArray} {aa:List ByteArray} {a2:List BC} {ab:List Int} {ac:List Int} {ad:List ByteArray} (ae:Ro.SliceIs Ro.str φ p_0.1 a1) (b5:Ro.SliceIs Ro.str φ p_0.2.1 aa) (k:Ro.SliceIs CF φ p_0.2.2.1 a2) (b6:Ro.SliceIs (Ro.int .i64) φ p_0.2.2.2.1 ab) (b7:Ro.SliceIs (Ro.int .i64) φ p_0.2.2.2.2.1 ac) (b8:Ro.SliceIs Ro.str φ p_0.2.2.2.2.2.1 ad) (s0:St φ (F) h) {r:(List Bool)} (hd:CH (a1,aa,a2,ab,ac,ad)=some r):
 CallsH Tryz.prog 57 [(aG p_0)] h (Ar fun v h'=> ∃ψ:AC,∃y:Slc,∃af:List Bool,Sub φ ψ∧v=((.one aS):Sh).val y∧af=r∧Ro.SliceIs Ro.bool ψ y af∧St ψ (F) h'):=by
 refine AR mixed Tryz.func57 ?_
 rw [Hz]
 unfold FT
 unfold CH at hd
 have ag:p_0.1.2.1=List.length a1:=ae.length
 have ah:p_0.2.2.1.2.1=List.length a2:=k.length
 refine AY (vs:= [sv p_0.1,sv p_0.2.1,sv p_0.2.2.1,sv p_0.2.2.2.1,sv p_0.2.2.2.2.1,sv p_0.2.2.2.2.2.1]) s0 fun r1 ea j=> ?_
 refine AA (x:=p_0.1) j rfl ?_
 refine AA (x:=p_0.2.1) j rfl ?_
 refine AA (x:=p_0.2.2.1) j rfl ?_
 refine AA (x:=p_0.2.2.2.1) j rfl ?_
 refine AA (x:=p_0.2.2.2.2.1) j rfl ?_
 refine AA (x:=p_0.2.2.2.2.2.1) j rfl ?_
 obtain ⟨eb,b9,hd⟩:=bS hd
 refine AI (By (p_0:=(p_0.1,p_0.2.1,p_0.2.2.1,p_0.2.2.2.1,p_0.2.2.2.2.1,p_0.2.2.2.2.2.1,())) ae b5 k b6 b7 b8 j b9) ?_
 rintro _ ec ⟨a3,t8,m,rfl,rfl,ba⟩
 refine ⟨t8,rfl,?_⟩
 obtain ⟨bb,bc,hd⟩:=bS hd
 refine Ir (r:=Ro.bool) (x:=false) Pu ba rfl rfl bc ?_
 intro t9 ed bd
 obtain ⟨be,bf,hd⟩:=bS hd
 refine AT (fun (y:Int×Unit) w_ g=> ∃ψ:AC,∃ai:List Bool,Sub a3 ψ∧ai=g∧St ψ (cR 4 Ro.bool t9 ai::Wq2 r1 p_0::F) w_) (g:=be) ?_ ?_
 ·refine BJ bf (fun bg (y:Int×Unit) w_ g=> ∃ψ:AC,∃aj:List Bool,Sub a3 ψ∧y.1=bg∧aj=g∧St ψ (cR 4 Ro.bool t9 aj::Wq2 r1 p_0::F) w_) ((0:Int),()) rfl ⟨a3,bb,(Sub.refl _),rfl,rfl,bd.at1.at1⟩ ?_ ?_
  ·rintro _ z11 ee _ _ ⟨bh,ef,bi,rfl,rfl,a4⟩ u bj ak al
   try dsimp only at u bj ak al
   refine AA (x:=p_0.1) a4.at1 rfl ?_
   refine Ai (dT ag ak) ?_
   obtain ⟨bk,am,u⟩:=bS u
   obtain ⟨eg,an,bl⟩:=a4.there am
   refine AF _ an (Aa bl (ID a4 am rfl an ?_))
   intro eh bm
   obtain rfl:=iS u
   exact Ag ((wN z11.1),()) _ rfl rfl ⟨bh,bk,bi,al,rfl,bm.at1.at1⟩
  ·rintro _ z11 ei ⟨bn,bo,bp,rfl,rfl,ao⟩ bq
   refine AA (x:=p_0.1) ao.at1 rfl ?_
   refine AX (dF ag bq) ?_
   exact AJ (AK (z11.1,()) rfl ⟨bn,bo,bp,rfl,ao.at1.at1⟩)
 rintro z10 ej ⟨a5,br,n,rfl,bs⟩
 try dsimp only at hd
 obtain ⟨bt,bu,hd⟩:=bS hd
 refine AT (fun (y:Bool×Unit) w_ g=> ∃ψ:AC,∃ap:List Bool,Sub a5 ψ∧ap=g∧St ψ (cR 4 Ro.bool t9 ap::Wq2 r1 p_0::F) w_) (g:=bt) ?_ ?_
 ·refine Dr bu (fun (y:Bool×Unit) w_ g=> ∃ψ:AC,∃aq:List Bool,Sub a5 ψ∧(y.1,aq)=g∧St ψ (cR 4 Ro.bool t9 aq::Wq2 r1 p_0::F) w_) (true,()) rfl ⟨a5,br,(Sub.refl _),rfl,bs.at1.at1⟩ ?_
  ·rintro z15 ek _ _ ⟨w,ar,l,rfl,au⟩ d bv
   try dsimp only at d
   refine AL d rfl (fun _ d=> ?_) (fun _ d=> ?_)
   ·have bw:=au.at1
    obtain ⟨bx,bz,d⟩:=bS d
    refine AT (fun (y:Int×Bool×Unit) w_ g=> ∃ψ:AC,∃av:List Bool,Sub w ψ∧(y.2.1,av)=g∧St ψ (cR 4 Ro.bool t9 av::Wq2 r1 p_0::F) w_) (g:=bx) ?_ ?_
    ·refine BJ bz (fun c0 (y:Int×Bool×Unit) w_ g=> ∃ψ:AC,∃aw:List Bool,Sub w ψ∧y.1=c0∧(y.2.1,aw)=g∧St ψ (cR 4 Ro.bool t9 aw::Wq2 r1 p_0::F) w_) ((0:Int),false,()) rfl ⟨w,ar,(Sub.refl _),rfl,rfl,bw.at1⟩ ?_ ?_
     ·rintro _ z17 el _ _ ⟨a6,o,p,rfl,rfl,ax⟩ a c1 ay az
      try dsimp only at a c1 ay az
      refine AA (x:=p_0.2.2.1) ax.at1 rfl ?_
      refine Ai (dT ah ay) ?_
      obtain ⟨c2,c3,a⟩:=bS a
      refine AT (fun (y:Int×Bool×Unit) w_ g=> ∃ψ:AC,Sub a6 ψ∧y.2.1=g∧St ψ (cR 4 Ro.bool t9 o::Wq2 r1 p_0::F) w_) (g:=c2) ?_ ?_
      ·refine Dr c3 (fun (y:Int×Bool×Unit) w_ g=> ∃ψ:AC,Sub a6 ψ∧(y.1,y.2.1)=g∧St ψ (cR 4 Ro.bool t9 o::Wq2 r1 p_0::F) w_) ((0:Int),true,()) rfl ⟨a6,(Sub.refl _),rfl,ax.at1.at1⟩ ?_
       ·rintro z20 em _ _ ⟨z,a0,rfl,e⟩ b c4
        try dsimp only at b
        refine AA (x:=p_0.2.2.1) e.at1 rfl ?_
        obtain ⟨en,c5,b⟩:=bS b
        obtain ⟨eo,ep,c6,c7,c8,c9⟩:=(k.mono ((((m.trans n).trans l).trans p).trans a0)).get c5
        refine AF _ c6 (Aa c7 ?_)
        obtain ⟨_,_,rfl,ca,cb⟩:=c8
        obtain rfl:=ca
        obtain ⟨_,_,rfl,cc,cd⟩:=cb
        obtain ⟨ce,rfl,cf⟩:=cc
        have cg:=cf.length
        obtain rfl:=cd
        refine AG (x:=ce) (by rw [Ae]; exact (AE e.sub (c9 1 _ rfl))) rfl ?_
        refine AL b (by rw [cg] <;>rfl) (fun _ b=> ?_) (fun _ b=> ?_)
        ·obtain ⟨ch,c,b⟩:=bS b
         refine Ao (fun (y:Bool×Unit) w_ g=> ∃ψ:AC,Sub z ψ∧y.1=g∧St ψ (cR 4 Ro.bool t9 o::Wq2 r1 p_0::F) w_) (g:=ch) ?_ ?_
         ·refine AL c rfl (fun _ c=> ?_) (fun _ c=> ?_)
          ·refine AA (x:=p_0.2.2.1) e.at1 rfl ?_
           obtain ⟨er,ci,c⟩:=bS c
           obtain ⟨es,eu,cj,ck,cl,cm⟩:=(k.mono ((((m.trans n).trans l).trans p).trans a0)).get ci
           refine AF _ cj (Aa ck ?_)
           obtain ⟨_,_,rfl,cn,co⟩:=cl
           obtain rfl:=cn
           obtain ⟨_,_,rfl,cp,cq⟩:=co
           obtain ⟨cr,rfl,cs⟩:=cp
           obtain rfl:=cq
           refine AG (x:=cr) (by rw [Ae]; exact (AE e.sub (cm 1 _ rfl))) rfl ?_
           obtain ⟨ev,ct,c⟩:=bS c
           refine CV cs ct e.sub ?_
           obtain ⟨cu,cv,c⟩:=bS c
           refine Is e cv ?_
           obtain rfl:=iS c
           exact AS (cu,()) rfl ⟨z,(Sub.refl _),rfl,e.at1.at1⟩
          obtain rfl:=iS c
          exact AS (false,()) rfl ⟨z,(Sub.refl _),rfl,e.at1.at1⟩
         rintro z24 ew ⟨cw,cx,rfl,cy⟩
         try dsimp only at b
         obtain rfl:=iS b
         exact Ag ((wN z20.1),z24.1,()) _ rfl rfl ⟨cw,(a0.trans cx),rfl,cy.at1.at1⟩
        obtain rfl:=iS b
        obtain rfl:=c4 _ rfl
        exact AJ (AK (z20.1,z20.2.1,()) rfl ⟨z,a0,rfl,e.at1.at1⟩)
      rintro z19 ex ⟨a7,a8,rfl,q⟩
      try dsimp only at a
      obtain ⟨cz,f,a⟩:=bS a
      refine Ao (fun (y:Bool×Unit) w_ g=> ∃ψ:AC,Sub a7 ψ∧y.1=g∧St ψ (cR 4 Ro.bool t9 o::Wq2 r1 p_0::F) w_) (g:=cz) ?_ ?_
      ·refine AL f rfl (fun _ f=> ?_) (fun _ f=> ?_)
       ·refine AA (x:=p_0.2.2.1) q.at1 rfl ?_
        obtain ⟨d0,d1,f⟩:=bS f
        obtain ⟨ey,ez,d2,d3,d4,d5⟩:=(k.mono ((((m.trans n).trans l).trans p).trans a8)).get d1
        refine AF _ d2 (Aa d3 ?_)
        obtain ⟨_,_,rfl,d6,d7⟩:=d4
        obtain rfl:=d6
        obtain ⟨_,_,rfl,d8,d9⟩:=d7
        obtain ⟨f0,rfl,f1⟩:=d8
        obtain rfl:=d9
        refine AG (x:=d0.1) (AE q.sub (d5 0 _ rfl)) rfl ?_
        obtain ⟨da,db,f⟩:=bS f
        refine Is q db ?_
        obtain rfl:=iS f
        exact AS ((!da),()) rfl ⟨a7,(Sub.refl _),rfl,q.at1.at1⟩
       obtain rfl:=iS f
       exact AS (false,()) rfl ⟨a7,(Sub.refl _),rfl,q.at1.at1⟩
      rintro z32 f2 ⟨a9,b0,rfl,s⟩
      try dsimp only at a
      obtain ⟨dc,i,a⟩:=bS a
      refine Ao (fun (y:Bool×Unit) w_ g=> ∃ψ:AC,∃b1:List Bool,Sub a9 ψ∧(y.1,b1)=g∧St ψ (cR 4 Ro.bool t9 b1::Wq2 r1 p_0::F) w_) (g:=dc) ?_ ?_
      ·refine AL i rfl (fun _ i=> ?_) (fun _ i=> ?_)
       ·refine AA (x:=p_0.2.2.1) s.at1 rfl ?_
        obtain ⟨dd,de,i⟩:=bS i
        obtain ⟨f3,f4,df,dg,dh,di⟩:=(k.mono (((((m.trans n).trans l).trans p).trans a8).trans b0)).get de
        refine AF _ df (Aa dg ?_)
        obtain ⟨_,_,rfl,dj,dk⟩:=dh
        obtain rfl:=dj
        obtain ⟨_,_,rfl,dl,dm⟩:=dk
        obtain ⟨f5,rfl,f6⟩:=dl
        obtain rfl:=dm
        refine AG (x:=dd.1) (AE s.sub (di 0 _ rfl)) rfl ?_
        obtain ⟨dn,b2,i⟩:=bS i
        obtain ⟨f7,b3,dp⟩:=s.there b2
        refine AF _ b3 (Aa dp (ID s b2 rfl b3 ?_))
        intro f8 dq
        obtain rfl:=iS i
        exact AS (true,()) rfl ⟨a9,dn,(Sub.refl _),rfl,dq.at1.at1⟩
       obtain rfl:=iS i
       exact AS (z17.2.1,()) rfl ⟨a9,o,(Sub.refl _),rfl,s.at1.at1⟩
      rintro z38 f9 ⟨dr,ds,dt,rfl,du⟩
      try dsimp only at a
      obtain rfl:=iS a
      exact Ag ((wN z17.1),z38.1,()) _ rfl rfl ⟨dr,ds,(((p.trans a8).trans b0).trans dt),az,rfl,du.at1.at1⟩
     ·rintro _ z17 fa ⟨dv,dw,dx,rfl,rfl,b4⟩ dy
      refine AA (x:=p_0.2.2.1) b4.at1 rfl ?_
      refine AX (dF ah dy) ?_
      exact AJ (AK (z17.1,z17.2.1,()) rfl ⟨dv,dw,dx,rfl,b4.at1.at1⟩)
    rintro z16 fb ⟨dz,e0,e1,rfl,e2⟩
    try dsimp only at d
    obtain rfl:=iS d
    exact Ag (z16.2.1,()) _ rfl rfl ⟨dz,e0,(l.trans e1),rfl,e2.at1.at1⟩
   obtain rfl:=iS d
   obtain rfl:=bv _ rfl
   exact AJ (AK (z15.1,()) rfl ⟨w,ar,l,rfl,au.at1.at1⟩)
 rintro z14 fc ⟨fd,e3,e4,rfl,e5⟩
 try dsimp only at hd
 obtain ⟨e6,e7,e8,e9⟩:=St.freezeRow (t:=t9) e5
 obtain rfl:=iS hd
 exact AB ⟨e6,t9,e3,(((m.trans n).trans e4).trans e7),rfl,rfl,e8,e9.tail⟩
noncomputable def CR (p_0:Ay):Option (List Bool):=
 (BG (p_0.1,p_0.2.1,p_0.2.2.1,p_0.2.2.2.1,p_0.2.2.2.2.1,p_0.2.2.2.2.2)).bind fun t8=>
 (FB t8 false).bind fun t9=>
 (BG (p_0.1,p_0.2.1,p_0.2.2.1,p_0.2.2.2.1,p_0.2.2.2.2.1,p_0.2.2.2.2.2)).bind fun t16=>
 (Dq t9 (IntKind.wrap .i64 (t16 - (1:Int))) true).bind fun m45=>
 (loop (σ:=(Bool×List Bool)) (β:=List Bool) (true,m45) fun z19=>
  cond z19.1
  ((forS (σ:=(Bool×List Bool)) (0:Int) (((List.length p_0.2.2.1):Nat):Int) (false,z19.2) fun i_z21 z21=>
   (loop (σ:=(Int×Bool×List Bool)) (β:=(Bool×List Bool)) ((0:Int),z21.1,z21.2) fun z24=>
    (idx p_0.2.2.1 i_z21).bind fun e101=>
    cond (decide (z24.1< (((List.length e101.2.1):Nat):Int)))
    (((idx p_0.2.2.1 i_z21).bind fun e119=>
     (idx z24.2.2 e119.1).bind fun e129=>
     cond e129
     ((idx p_0.2.2.1 i_z21).bind fun e138=>
      (idx e138.2.1 z24.1).bind fun e148=>
      (idx z24.2.2 e148).bind fun e151=>
      some (!e151))
     (some false)).bind fun z28=>
     (cond z28
     ((idx p_0.2.2.1 i_z21).bind fun e172=>
      (idx e172.2.1 z24.1).bind fun e182=>
      (Dq z24.2.2 e182 true).bind fun m195=>
      some (true,m195))
     (some (z24.2.1,z24.2.2))).bind fun z41=>
     some (AU.next ((IntKind.wrap .i64 (z24.1+(1:Int))),z41.1,z41.2)))
    (some (AU.done (z24.2.1,z24.2.2)))).bind fun z23=>
   some (z23.1,z23.2)).bind fun z20=>
   some (AU.next (z20.1,z20.2)))
  (some (AU.done z19.2))).bind fun z18=>
 some z18
theorem Ia {φ:AC} {h:AH} {F:List Chk} {p_0:Pl6} {a3:List ByteArray} {a4:List ByteArray} {w:List BC} {a5:List Int} {a6:List Int} {a7:List ByteArray} (a8:Ro.SliceIs Ro.str φ p_0.1 a3) (a9:Ro.SliceIs Ro.str φ p_0.2.1 a4) (i:Ro.SliceIs CF φ p_0.2.2.1 w) (aa:Ro.SliceIs (Ro.int .i64) φ p_0.2.2.2.1 a5) (ab:Ro.SliceIs (Ro.int .i64) φ p_0.2.2.2.2.1 a6) (ac:Ro.SliceIs Ro.str φ p_0.2.2.2.2.2.1 a7) (s0:St φ (F) h) {r:(List Bool)} (hd:CR (a3,a4,w,a5,a6,a7)=some r):
 CallsH Tryz.prog 58 [(aG p_0)] h (Ar fun v h'=> ∃ψ:AC,∃y:Slc,∃ad:List Bool,Sub φ ψ∧v=((.one aS):Sh).val y∧ad=r∧Ro.SliceIs Ro.bool ψ y ad∧St ψ (F) h'):=by
 refine AR mixed Tryz.func58 ?_
 rw [IX]
 unfold Fj
 unfold CR at hd
 have ae:p_0.2.2.1.2.1=List.length w:=i.length
 refine AY (vs:= [sv p_0.1,sv p_0.2.1,sv p_0.2.2.1,sv p_0.2.2.2.1,sv p_0.2.2.2.2.1,sv p_0.2.2.2.2.2.1]) s0 fun r1 dq j=> ?_
 refine AA (x:=p_0.1) j rfl ?_
 refine AA (x:=p_0.2.1) j rfl ?_
 refine AA (x:=p_0.2.2.1) j rfl ?_
 refine AA (x:=p_0.2.2.2.1) j rfl ?_
 refine AA (x:=p_0.2.2.2.2.1) j rfl ?_
 refine AA (x:=p_0.2.2.2.2.2.1) j rfl ?_
 obtain ⟨dr,b0,hd⟩:=bS hd
 refine AI (By (p_0:=(p_0.1,p_0.2.1,p_0.2.2.1,p_0.2.2.2.1,p_0.2.2.2.2.1,p_0.2.2.2.2.2.1,())) a8 a9 i aa ab ac j b0) ?_
 rintro _ ds ⟨dt,t8,d,rfl,rfl,b1⟩
 refine ⟨t8,rfl,?_⟩
 obtain ⟨du,b2,hd⟩:=bS hd
 refine Ir (r:=Ro.bool) (x:=false) Pu b1 rfl rfl b2 ?_
 intro t9 dv k
 refine AA (x:=p_0.1) k.at1 rfl ?_
 refine AA (x:=p_0.2.1) k.at1 rfl ?_
 refine AA (x:=p_0.2.2.1) k.at1 rfl ?_
 refine AA (x:=p_0.2.2.2.1) k.at1 rfl ?_
 refine AA (x:=p_0.2.2.2.2.1) k.at1 rfl ?_
 refine AA (x:=p_0.2.2.2.2.2.1) k.at1 rfl ?_
 obtain ⟨dw,b3,hd⟩:=bS hd
 refine AI (By (p_0:=(p_0.1,p_0.2.1,p_0.2.2.1,p_0.2.2.2.1,p_0.2.2.2.2.1,p_0.2.2.2.2.2.1,())) (a8.mono d) (a9.mono d) (i.mono d) (aa.mono d) (ab.mono d) (ac.mono d) k b3) ?_
 rintro _ dx ⟨z,t16,o,rfl,rfl,af⟩
 refine ⟨t16,rfl,?_⟩
 obtain ⟨b4,ag,hd⟩:=bS hd
 obtain ⟨dy,ah,b5⟩:=af.there ag
 refine AF _ ah (Aa b5 (ID af ag rfl ah ?_))
 intro dz b6
 obtain ⟨b7,b8,hd⟩:=bS hd
 refine AT (fun (y:Bool×Unit) w_ g=> ∃ψ:AC,∃ai:List Bool,Sub z ψ∧ai=g∧St ψ (cR 4 Ro.bool t9 ai::Wq2 r1 p_0::F) w_) (g:=b7) ?_ ?_
 ·refine Dr b8 (fun (y:Bool×Unit) w_ g=> ∃ψ:AC,∃aj:List Bool,Sub z ψ∧(y.1,aj)=g∧St ψ (cR 4 Ro.bool t9 aj::Wq2 r1 p_0::F) w_) (true,()) rfl ⟨z,b4,(Sub.refl _),rfl,b6.at1.at1⟩ ?_
  ·rintro z19 e0 _ _ ⟨s,ak,l,rfl,al⟩ f b9
   try dsimp only at f
   refine AL f rfl (fun _ f=> ?_) (fun _ f=> ?_)
   ·have ba:=al.at1
    obtain ⟨bb,bc,f⟩:=bS f
    refine AT (fun (y:Int×Bool×Unit) w_ g=> ∃ψ:AC,∃am:List Bool,Sub s ψ∧(y.2.1,am)=g∧St ψ (cR 4 Ro.bool t9 am::Wq2 r1 p_0::F) w_) (g:=bb) ?_ ?_
    ·refine BJ bc (fun bd (y:Int×Bool×Unit) w_ g=> ∃ψ:AC,∃an:List Bool,Sub s ψ∧y.1=bd∧(y.2.1,an)=g∧St ψ (cR 4 Ro.bool t9 an::Wq2 r1 p_0::F) w_) ((0:Int),false,()) rfl ⟨s,ak,(Sub.refl _),rfl,rfl,ba.at1⟩ ?_ ?_
     ·rintro _ z21 e1 _ _ ⟨a0,be,p,rfl,rfl,ao⟩ q bf ap aq
      try dsimp only at q bf ap aq
      refine AA (x:=p_0.2.2.1) ao.at1 rfl ?_
      refine Ai (dT ae ap) ?_
      obtain ⟨bg,bh,q⟩:=bS q
      refine AT (fun (y:Int×Bool×Unit) w_ g=> ∃ψ:AC,∃ar:List Bool,Sub a0 ψ∧(y.2.1,ar)=g∧St ψ (cR 4 Ro.bool t9 ar::Wq2 r1 p_0::F) w_) (g:=bg) ?_ ?_
      ·refine Dr bh (fun (y:Int×Bool×Unit) w_ g=> ∃ψ:AC,∃au:List Bool,Sub a0 ψ∧(y.1,y.2.1,au)=g∧St ψ (cR 4 Ro.bool t9 au::Wq2 r1 p_0::F) w_) ((0:Int),z21.2.1,()) rfl ⟨a0,be,(Sub.refl _),rfl,ao.at1.at1⟩ ?_
       ·rintro z24 e2 _ _ ⟨u,a1,m,rfl,c⟩ b bi
        try dsimp only at b
        refine AA (x:=p_0.2.2.1) c.at1 rfl ?_
        obtain ⟨e3,bj,b⟩:=bS b
        obtain ⟨e4,e5,bk,bl,bm,bn⟩:=(i.mono ((((d.trans o).trans l).trans p).trans m)).get bj
        refine AF _ bk (Aa bl ?_)
        obtain ⟨_,_,rfl,bo,bp⟩:=bm
        obtain rfl:=bo
        obtain ⟨_,_,rfl,bq,br⟩:=bp
        obtain ⟨bs,rfl,bt⟩:=bq
        have bu:=bt.length
        obtain rfl:=br
        refine AG (x:=bs) (by rw [Ae]; exact (AE c.sub (bn 1 _ rfl))) rfl ?_
        refine AL b (by rw [bu] <;>rfl) (fun _ b=> ?_) (fun _ b=> ?_)
        ·obtain ⟨bv,a,b⟩:=bS b
         refine Ao (fun (y:Bool×Unit) w_ g=> ∃ψ:AC,Sub u ψ∧y.1=g∧St ψ (cR 4 Ro.bool t9 a1::Wq2 r1 p_0::F) w_) (g:=bv) ?_ ?_
         ·refine AA (x:=p_0.2.2.1) c.at1 rfl ?_
          obtain ⟨bw,bx,a⟩:=bS a
          obtain ⟨e6,e7,bz,c0,c1,c2⟩:=(i.mono ((((d.trans o).trans l).trans p).trans m)).get bx
          refine AF _ bz (Aa c0 ?_)
          obtain ⟨_,_,rfl,c3,c4⟩:=c1
          obtain rfl:=c3
          obtain ⟨_,_,rfl,c5,c6⟩:=c4
          obtain ⟨e8,rfl,e9⟩:=c5
          obtain rfl:=c6
          refine AG (x:=bw.1) (AE c.sub (c2 0 _ rfl)) rfl ?_
          obtain ⟨ea,c7,a⟩:=bS a
          refine Is c c7 ?_
          refine AL a rfl (fun _ a=> ?_) (fun _ a=> ?_)
          ·refine AA (x:=p_0.2.2.1) c.at1 rfl ?_
           obtain ⟨eb,c8,a⟩:=bS a
           obtain ⟨ec,ed,c9,ca,cb,cc⟩:=(i.mono ((((d.trans o).trans l).trans p).trans m)).get c8
           refine AF _ c9 (Aa ca ?_)
           obtain ⟨_,_,rfl,cd,ce⟩:=cb
           obtain rfl:=cd
           obtain ⟨_,_,rfl,cf,cg⟩:=ce
           obtain ⟨ch,rfl,ci⟩:=cf
           obtain rfl:=cg
           refine AG (x:=ch) (by rw [Ae]; exact (AE c.sub (cc 1 _ rfl))) rfl ?_
           obtain ⟨ee,cj,a⟩:=bS a
           refine CV ci cj c.sub ?_
           obtain ⟨ck,cl,a⟩:=bS a
           refine Is c cl ?_
           obtain rfl:=iS a
           exact AS ((!ck),()) rfl ⟨u,(Sub.refl _),rfl,c.at1.at1⟩
          obtain rfl:=iS a
          exact AS (false,()) rfl ⟨u,(Sub.refl _),rfl,c.at1.at1⟩
         rintro z28 ef ⟨a2,av,rfl,n⟩
         try dsimp only at b
         obtain ⟨cm,e,b⟩:=bS b
         refine Ao (fun (y:Bool×Unit) w_ g=> ∃ψ:AC,∃aw:List Bool,Sub a2 ψ∧(y.1,aw)=g∧St ψ (cR 4 Ro.bool t9 aw::Wq2 r1 p_0::F) w_) (g:=cm) ?_ ?_
         ·refine AL e rfl (fun _ e=> ?_) (fun _ e=> ?_)
          ·refine AA (x:=p_0.2.2.1) n.at1 rfl ?_
           obtain ⟨eg,cn,e⟩:=bS e
           obtain ⟨eh,ei,co,cp,cq,cr⟩:=(i.mono (((((d.trans o).trans l).trans p).trans m).trans av)).get cn
           refine AF _ co (Aa cp ?_)
           obtain ⟨_,_,rfl,cs,ct⟩:=cq
           obtain rfl:=cs
           obtain ⟨_,_,rfl,cu,cv⟩:=ct
           obtain ⟨cw,rfl,cx⟩:=cu
           obtain rfl:=cv
           refine AG (x:=cw) (by rw [Ae]; exact (AE n.sub (cr 1 _ rfl))) rfl ?_
           obtain ⟨ej,cy,e⟩:=bS e
           refine CV cx cy n.sub ?_
           obtain ⟨cz,ax,e⟩:=bS e
           obtain ⟨ek,ay,d0⟩:=n.there ax
           refine AF _ ay (Aa d0 (ID n ax rfl ay ?_))
           intro el d1
           obtain rfl:=iS e
           exact AS (true,()) rfl ⟨a2,cz,(Sub.refl _),rfl,d1.at1.at1⟩
          obtain rfl:=iS e
          exact AS (z24.2.1,()) rfl ⟨a2,a1,(Sub.refl _),rfl,n.at1.at1⟩
         rintro z41 em ⟨d2,d3,d4,rfl,d5⟩
         try dsimp only at b
         obtain rfl:=iS b
         exact Ag ((wN z24.1),z41.1,()) _ rfl rfl ⟨d2,d3,((m.trans av).trans d4),rfl,d5.at1.at1⟩
        obtain rfl:=iS b
        obtain rfl:=bi _ rfl
        exact AJ (AK (z24.1,z24.2.1,()) rfl ⟨u,a1,m,rfl,c.at1.at1⟩)
      rintro z23 en ⟨d6,d7,d8,rfl,d9⟩
      try dsimp only at q
      obtain rfl:=iS q
      exact Ag ((wN z21.1),z23.2.1,()) _ rfl rfl ⟨d6,d7,(p.trans d8),aq,rfl,d9.at1.at1⟩
     ·rintro _ z21 eo ⟨da,db,dc,rfl,rfl,az⟩ dd
      refine AA (x:=p_0.2.2.1) az.at1 rfl ?_
      refine AX (dF ae dd) ?_
      exact AJ (AK (z21.1,z21.2.1,()) rfl ⟨da,db,dc,rfl,az.at1.at1⟩)
    rintro z20 ep ⟨de,df,dg,rfl,dh⟩
    try dsimp only at f
    obtain rfl:=iS f
    exact Ag (z20.2.1,()) _ rfl rfl ⟨de,df,(l.trans dg),rfl,dh.at1.at1⟩
   obtain rfl:=iS f
   obtain rfl:=b9 _ rfl
   exact AJ (AK (z19.1,()) rfl ⟨s,ak,l,rfl,al.at1.at1⟩)
 rintro z18 er ⟨es,di,dj,rfl,dk⟩
 try dsimp only at hd
 obtain ⟨dl,dm,dn,dp⟩:=St.freezeRow (t:=t9) dk
 obtain rfl:=iS hd
 exact AB ⟨dl,t9,di,(((d.trans o).trans dj).trans dm),rfl,rfl,dn,dp.tail⟩
noncomputable def CI (p_0:Ay):Option (Int×Int):=
 (CH (p_0.1,p_0.2.1,p_0.2.2.1,p_0.2.2.2.1,p_0.2.2.2.2.1,p_0.2.2.2.2.2)).bind fun t8=>
 (CR (p_0.1,p_0.2.1,p_0.2.2.1,p_0.2.2.2.1,p_0.2.2.2.2.1,p_0.2.2.2.2.2)).bind fun t15=>
 (loop (σ:=Int) (β:=AU Unit (Int×Int)) (((List.length p_0.1):Nat):Int) fun z18=>
  (BG (p_0.1,p_0.2.1,p_0.2.2.1,p_0.2.2.2.1,p_0.2.2.2.2.1,p_0.2.2.2.2.2)).bind fun t25=>
  cond (decide (z18< (IntKind.wrap .i64 (t25 - (1:Int)))))
  ((idx t8 z18).bind fun e49=>
   cond (!e49)
   (some (AU.done (AU.done (z18,(18:Int)))))
   (some (AU.next (IntKind.wrap .i64 (z18+(1:Int))))))
  (some (AU.done (AU.next ())))).bind fun e_z17=>match e_z17 with
 | .next z17=>
  (loop (σ:=Int) (β:=AU Unit (Int×Int)) (((List.length p_0.1):Nat):Int) fun z30=>
   (BG (p_0.1,p_0.2.1,p_0.2.2.1,p_0.2.2.2.1,p_0.2.2.2.2.1,p_0.2.2.2.2.2)).bind fun t37=>
   cond (decide (z30< (IntKind.wrap .i64 (t37 - (1:Int)))))
   ((idx t15 z30).bind fun e74=>
    cond (!e74)
    (some (AU.done (AU.done (z30,(17:Int)))))
    (some (AU.next (IntKind.wrap .i64 (z30+(1:Int))))))
   (some (AU.done (AU.next ())))).bind fun e_z29=>match e_z29 with
  | .next z29=>
   some ((0:Int),(0:Int))
  | .done q84=>some q84
 | .done q85=>some q85
theorem H8 {φ:AC} {h:AH} {F:List Chk} {p_0:Pl6} {a1:List ByteArray} {a6:List ByteArray} {a7:List BC} {a8:List Int} {a9:List Int} {aa:List ByteArray} (n:Ro.SliceIs Ro.str φ p_0.1 a1) (o:Ro.SliceIs Ro.str φ p_0.2.1 a6) (p:Ro.SliceIs CF φ p_0.2.2.1 a7) (q:Ro.SliceIs (Ro.int .i64) φ p_0.2.2.2.1 a8) (s:Ro.SliceIs (Ro.int .i64) φ p_0.2.2.2.2.1 a9) (t:Ro.SliceIs Ro.str φ p_0.2.2.2.2.2.1 aa) (s0:St φ (F) h) {r:(Int×Int)} (hd:CI (a1,a6,a7,a8,a9,aa)=some r):
 CallsH Tryz.prog 16 [(aG p_0)] h (Ar fun v h'=> ∃ψ:AC,∃y:Int×Int×Unit,Sub φ ψ∧v=((.tuple [aI,aI]):Sh).val y∧(y.1,y.2.1)=r∧St ψ (F) h'):=by
 refine AR mixed Tryz.func16 ?_
 rw [Hy]
 unfold FS
 unfold CI at hd
 have ab:p_0.1.2.1=List.length a1:=n.length
 refine AY (vs:= [sv p_0.1,sv p_0.2.1,sv p_0.2.2.1,sv p_0.2.2.2.1,sv p_0.2.2.2.2.1,sv p_0.2.2.2.2.2.1]) s0 fun r1 ax j=> ?_
 refine AA (x:=p_0.1) j rfl ?_
 refine AA (x:=p_0.2.1) j rfl ?_
 refine AA (x:=p_0.2.2.1) j rfl ?_
 refine AA (x:=p_0.2.2.2.1) j rfl ?_
 refine AA (x:=p_0.2.2.2.2.1) j rfl ?_
 refine AA (x:=p_0.2.2.2.2.2.1) j rfl ?_
 obtain ⟨ay,ag,hd⟩:=bS hd
 refine AI (H7 (p_0:=(p_0.1,p_0.2.1,p_0.2.2.1,p_0.2.2.2.1,p_0.2.2.2.2.1,p_0.2.2.2.2.2.1,())) n o p q s t j ag) ?_
 rintro _ az ⟨b0,t8,b1,a,rfl,rfl,ah,k⟩
 refine ⟨t8,rfl,?_⟩
 refine AA (x:=p_0.1) k rfl ?_
 refine AA (x:=p_0.2.1) k rfl ?_
 refine AA (x:=p_0.2.2.1) k rfl ?_
 refine AA (x:=p_0.2.2.2.1) k rfl ?_
 refine AA (x:=p_0.2.2.2.2.1) k rfl ?_
 refine AA (x:=p_0.2.2.2.2.2.1) k rfl ?_
 obtain ⟨b2,ai,hd⟩:=bS hd
 refine AI (Ia (p_0:=(p_0.1,p_0.2.1,p_0.2.2.1,p_0.2.2.2.1,p_0.2.2.2.2.1,p_0.2.2.2.2.2.1,())) (n.mono a) (o.mono a) (p.mono a) (q.mono a) (s.mono a) (t.mono a) k ai) ?_
 rintro _ b3 ⟨a2,t15,b4,b,rfl,rfl,aj,ac⟩
 refine ⟨t15,rfl,?_⟩
 refine AA (x:=p_0.1) ac rfl ?_
 obtain ⟨ak,al,hd⟩:=bS hd
 refine AT (fun (y:Int×Int×Int×Unit) w_ g=> ∃ψ:AC,Sub a2 ψ∧AU.next ()=g∧St ψ (Wq2 r1 p_0::F) w_) (g:=ak) ?_ ?_
 ·refine Dr al (fun (y:Int×Int×Int×Unit) w_ g=> ∃ψ:AC,Sub a2 ψ∧y.1=g∧St ψ (Wq2 r1 p_0::F) w_) (((p_0.1.2.1:Nat):Int),(0:Int),(0:Int),()) rfl ⟨a2,(Sub.refl _),(by rw [ab]),ac⟩ ?_
  ·rintro z18 b5 _ _ ⟨b6,e,rfl,l⟩ c ad
   try dsimp only at c
   refine AA (x:=p_0.1) l rfl ?_
   refine AA (x:=p_0.2.1) l rfl ?_
   refine AA (x:=p_0.2.2.1) l rfl ?_
   refine AA (x:=p_0.2.2.2.1) l rfl ?_
   refine AA (x:=p_0.2.2.2.2.1) l rfl ?_
   refine AA (x:=p_0.2.2.2.2.2.1) l rfl ?_
   obtain ⟨b7,am,c⟩:=bS c
   refine AI (By (p_0:=(p_0.1,p_0.2.1,p_0.2.2.1,p_0.2.2.2.1,p_0.2.2.2.2.1,p_0.2.2.2.2.2.1,())) (n.mono ((a.trans b).trans e)) (o.mono ((a.trans b).trans e)) (p.mono ((a.trans b).trans e)) (q.mono ((a.trans b).trans e)) (s.mono ((a.trans b).trans e)) (t.mono ((a.trans b).trans e)) l am) ?_
   rintro _ b8 ⟨a3,t25,u,rfl,rfl,w⟩
   refine ⟨t25,rfl,?_⟩
   refine AL c rfl (fun _ c=> ?_) (fun _ c=> ?_)
   ·obtain ⟨b9,an,c⟩:=bS c
    refine CV ah an (Sub.trans ((b.trans e).trans u) w.sub) ?_
    refine AL c rfl (fun _ c=> ?_) (fun _ c=> ?_)
    ·obtain rfl:=iS c
     obtain rfl:=ad _ rfl
     try dsimp only at hd
     obtain rfl:=iS hd
     exact Af (Ah (AB ⟨a3,(z18.1,(18:Int),()),(((a.trans b).trans e).trans u),rfl,rfl,w.tail⟩))
    obtain rfl:=iS c
    exact Ag ((wN z18.1),z18.2.1,z18.2.2.1,()) _ rfl rfl ⟨a3,(e.trans u),rfl,w⟩
   obtain rfl:=iS c
   obtain rfl:=ad _ rfl
   exact AJ (AK (z18.1,z18.2.1,z18.2.2.1,()) rfl ⟨a3,(e.trans u),rfl,w⟩)
 rintro z17 ba ⟨a4,i,rfl,ae⟩
 try dsimp only at hd
 refine AA (x:=p_0.1) ae rfl ?_
 obtain ⟨ao,ap,hd⟩:=bS hd
 refine AT (fun (y:Int×Int×Int×Unit) w_ g=> ∃ψ:AC,Sub a4 ψ∧AU.next ()=g∧St ψ (Wq2 r1 p_0::F) w_) (g:=ao) ?_ ?_
 ·refine Dr ap (fun (y:Int×Int×Int×Unit) w_ g=> ∃ψ:AC,Sub a4 ψ∧y.1=g∧St ψ (Wq2 r1 p_0::F) w_) (((p_0.1.2.1:Nat):Int),z17.2.1,z17.2.2.1,()) rfl ⟨a4,(Sub.refl _),(by rw [ab]),ae⟩ ?_
  ·rintro z30 bb _ _ ⟨bc,f,rfl,m⟩ d af
   try dsimp only at d
   refine AA (x:=p_0.1) m rfl ?_
   refine AA (x:=p_0.2.1) m rfl ?_
   refine AA (x:=p_0.2.2.1) m rfl ?_
   refine AA (x:=p_0.2.2.2.1) m rfl ?_
   refine AA (x:=p_0.2.2.2.2.1) m rfl ?_
   refine AA (x:=p_0.2.2.2.2.2.1) m rfl ?_
   obtain ⟨bd,aq,d⟩:=bS d
   refine AI (By (p_0:=(p_0.1,p_0.2.1,p_0.2.2.1,p_0.2.2.2.1,p_0.2.2.2.2.1,p_0.2.2.2.2.2.1,())) (n.mono (((a.trans b).trans i).trans f)) (o.mono (((a.trans b).trans i).trans f)) (p.mono (((a.trans b).trans i).trans f)) (q.mono (((a.trans b).trans i).trans f)) (s.mono (((a.trans b).trans i).trans f)) (t.mono (((a.trans b).trans i).trans f)) m aq) ?_
   rintro _ be ⟨a5,t37,z,rfl,rfl,a0⟩
   refine ⟨t37,rfl,?_⟩
   refine AL d rfl (fun _ d=> ?_) (fun _ d=> ?_)
   ·obtain ⟨bf,ar,d⟩:=bS d
    refine CV aj ar (Sub.trans ((i.trans f).trans z) a0.sub) ?_
    refine AL d rfl (fun _ d=> ?_) (fun _ d=> ?_)
    ·obtain rfl:=iS d
     obtain rfl:=af _ rfl
     try dsimp only at hd
     obtain rfl:=iS hd
     exact Af (Ah (AB ⟨a5,(z30.1,(17:Int),()),((((a.trans b).trans i).trans f).trans z),rfl,rfl,a0.tail⟩))
    obtain rfl:=iS d
    exact Ag ((wN z30.1),z30.2.1,z30.2.2.1,()) _ rfl rfl ⟨a5,(f.trans z),rfl,a0⟩
   obtain rfl:=iS d
   obtain rfl:=af _ rfl
   exact AJ (AK (z30.1,z30.2.1,z30.2.2.1,()) rfl ⟨a5,(f.trans z),rfl,a0⟩)
 rintro z29 bg ⟨au,av,rfl,aw⟩
 try dsimp only at hd
 obtain rfl:=iS hd
 exact AB ⟨au,((0:Int),(0:Int),()),(((a.trans b).trans i).trans av),rfl,rfl,aw.tail⟩
noncomputable def Cx (a_0:List Int) (b_1:List Int):Option Bool:=
 cond ((((List.length a_0):Nat):Int) !=(((List.length b_1):Nat):Int))
 (some false)
 ((Cf (σ:=Unit) (β:=Bool) (0:Int) (((List.length a_0):Nat):Int) () fun i_z2 z2=>
  (idx a_0 i_z2).bind fun e19=>
  (idx b_1 i_z2).bind fun e22=>
  cond (e19 !=e22)
  (some (AU.done false))
  (some (AU.next ()))).bind fun e_z1=>match e_z1 with
  | .next z1=>
   some true
  | .done q35=>some q35)
theorem Eu {φ:AC} {h:AH} {F:List Chk} {a_0:Slc} {d:List Int} {b_1:Slc} {e:List Int} (i:Ro.SliceIs (Ro.int .i64) φ a_0 d) (j:Ro.SliceIs (Ro.int .i64) φ b_1 e) (s0:St φ (F) h) {r:Bool} (hd:Cx d e=some r):
 CallsH Tryz.prog 21 [(sv a_0),(sv b_1)] h (Ar fun v h'=> ∃ψ:AC,∃y:Bool,Sub φ ψ∧v=((.one aB):Sh).val y∧y=r∧St ψ (F) h'):=by
 refine AR mixed Tryz.func21 ?_
 rw [IW]
 unfold Fi
 unfold Cx at hd
 have f:a_0.2.1=List.length d:=i.length
 have n:b_1.2.1=List.length e:=j.length
 refine AL hd (by rw [f,n] <;>rfl) (fun _ hd=> ?_) (fun _ hd=> ?_)
 ·obtain rfl:=iS hd
  exact AB ⟨φ,false,(Sub.refl _),rfl,rfl,s0⟩
 obtain ⟨o,p,hd⟩:=bS hd
 refine AT (fun (y:Int×Bool×Unit) w_ g=> ∃ψ:AC,Sub φ ψ∧AU.next ()=g∧St ψ (F) w_) (g:=o) ?_ ?_
 ·refine Be p (fun q (y:Int×Bool×Unit) w_ g=> ∃ψ:AC,Sub φ ψ∧y.1=q∧()=g∧St ψ (F) w_) ((0:Int),false,()) rfl ⟨φ,(Sub.refl _),rfl,rfl,s0⟩ ?_ ?_
  ·rintro _ z2 a6 _ _ ⟨k,b,rfl,rfl,c⟩ a s l m t
   try dsimp only at a s l m
   refine Ai (dT f l) ?_
   obtain ⟨a7,u,a⟩:=bS a
   refine CV i u (Sub.trans b c.sub) ?_
   obtain ⟨a8,w,a⟩:=bS a
   refine CV j w (Sub.trans b c.sub) ?_
   refine AL a rfl (fun _ a=> ?_) (fun _ a=> ?_)
   ·obtain rfl:=iS a
    obtain rfl:=t _ rfl
    try dsimp only at hd
    obtain rfl:=iS hd
    exact Af (Ah (AB ⟨k,false,b,rfl,rfl,c⟩))
   obtain rfl:=iS a
   exact Ag ((wN z2.1),z2.2.1,()) _ rfl rfl ⟨k,b,m,rfl,c⟩
  ·rintro _ z2 a9 _ ⟨x,z,rfl,rfl,a0⟩ a1 a2
   subst a2
   refine AX (dF f a1) ?_
   exact AJ (AK (z2.1,z2.2.1,()) rfl ⟨x,z,rfl,a0⟩)
 rintro z1 aa ⟨a3,a4,rfl,a5⟩
 try dsimp only at hd
 obtain rfl:=iS hd
 exact AB ⟨a3,true,a4,rfl,rfl,a5⟩
noncomputable def Df:Option (Int×Int×List Int×List (List Int)×List Int×List Int×List Int):=
 some ((2:Int),(2:Int),([(0:Int),(0:Int),(1:Int),(1:Int),(2:Int)] :List Int),([([(4:Int),(0:Int),(5:Int)] :List Int),([(5:Int)] :List Int),([(1:Int),(5:Int)] :List Int),([(2:Int)] :List Int),([(4:Int)] :List Int)] :List (List Int)),([] :List Int),([] :List Int),([] :List Int))
theorem H9 {φ:AC} {h:AH} {F:List Chk} (s0:St φ (F) h) {r:(Int×Int×List Int×List (List Int)×List Int×List Int×List Int)} (hd:Df=some r):
 CallsH Tryz.prog 54 [] h (Ar fun v h'=> ∃ψ:AC,∃y:Int×Int×Slc×Slc×Slc×Slc×Slc×Unit,∃i:List Int,∃j:List (List Int),∃k:List Int,∃m:List Int,∃o:List Int,Sub φ ψ∧v=((.one (.agg [(.int .u8),(.int .u8), .slice, .slice, .slice, .slice, .slice])):Sh).val y∧(y.1,y.2.1,i,j,k,m,o)=r∧Ro.SliceIs (Ro.int .u8) ψ y.2.2.1 i∧Ro.SliceIs (Ro.list (Ro.int .u8)) ψ y.2.2.2.1 j∧Ro.SliceIs (Ro.int .u8) ψ y.2.2.2.2.1 k∧Ro.SliceIs (Ro.int .u8) ψ y.2.2.2.2.2.1 m∧Ro.SliceIs (Ro.int .u8) ψ y.2.2.2.2.2.2.1 o∧St ψ (F) h'):=by
 refine AR mixed Tryz.func54 ?_
 rw [H5]
 unfold FW
 unfold Df at hd
 refine AY (vs:= [.int .u8 (0:Int), .int .u8 (0:Int), .slice none 0 0, .slice none 0 0, .slice none 0 0, .slice none 0 0, .slice none 0 0]) s0 fun r1 ay s=> ?_
 refine AY (vs:= [.int .u8 (0:Int), .int .u8 (0:Int), .int .u8 (1:Int), .int .u8 (1:Int), .int .u8 (2:Int)]) s fun r2 az u=> ?_
 refine AY (vs:= [.int .u8 (4:Int), .int .u8 (0:Int), .int .u8 (5:Int)]) u fun r3 b0 w=> ?_
 refine AY (vs:= [.int .u8 (5:Int)]) w fun r4 b1 z=> ?_
 refine AY (vs:= [.int .u8 (1:Int), .int .u8 (5:Int)]) z fun r5 b2 a0=> ?_
 refine AY (vs:= [.int .u8 (2:Int)]) a0 fun r6 b3 a1=> ?_
 refine AY (vs:= [.int .u8 (4:Int)]) a1 fun r7 b4 a2=> ?_
 refine AY (vs:= [.slice (some ⟨r3,0,none⟩) 3 3, .slice (some ⟨r4,0,none⟩) 1 1, .slice (some ⟨r5,0,none⟩) 2 2, .slice (some ⟨r6,0,none⟩) 1 1, .slice (some ⟨r7,0,none⟩) 1 1]) a2 fun r8 b5 a3=> ?_
 refine AQ a3.at7 rfl rfl fun b6 a4=> ?_
 refine AQ a4 rfl rfl fun b7 a5=> ?_
 refine AQ a5 rfl rfl fun b8 a6=> ?_
 refine AQ a6 rfl rfl fun b9 a7=> ?_
 refine AQ a7 rfl rfl fun ba a8=> ?_
 refine AQ a8 rfl rfl fun bb a9=> ?_
 refine AQ a9 rfl rfl fun bc b=> ?_
 refine AA (x:=(2:Int)) b rfl ?_
 refine AA (x:=(2:Int)) b rfl ?_
 refine AA (x:=((some ⟨r2,0,none⟩,5,5):Slc)) b rfl ?_
 refine AA (x:=((some ⟨r8,0,none⟩,5,5):Slc)) b rfl ?_
 refine AA (x:=((none,0,0):Slc)) b rfl ?_
 refine AA (x:=((none,0,0):Slc)) b rfl ?_
 refine AA (x:=((none,0,0):Slc)) b rfl ?_
 have aa:=St.lit (r:=(Ro.int .u8)) (l:=([(0:Int),(0:Int),(1:Int),(1:Int),(2:Int)] :List Int)) (n:=5) b.at7 (.cons (a:= [_]) rfl (.cons (a:= [_]) rfl (.cons (a:= [_]) rfl (.cons (a:= [_]) rfl (.cons (a:= [_]) rfl .nil))))) rfl (by decide)
 obtain ⟨bd,ab,ac,ad⟩:=St.freezeRow (t:=((some ⟨r2,0,none⟩,5,5):Slc)) aa
 have ae:=St.lit (r:=(Ro.int .u8)) (l:=([(4:Int),(0:Int),(5:Int)] :List Int)) (n:=3) ad.at6 (.cons (a:= [_]) rfl (.cons (a:= [_]) rfl (.cons (a:= [_]) rfl .nil))) rfl (by decide)
 obtain ⟨be,p,af,ag⟩:=St.freezeRow (t:=((some ⟨r3,0,none⟩,3,3):Slc)) ae
 have ah:=St.lit (r:=(Ro.int .u8)) (l:=([(5:Int)] :List Int)) (n:=1) ag.at5 (.cons (a:= [_]) rfl .nil) rfl (by decide)
 obtain ⟨bf,g,ai,aj⟩:=St.freezeRow (t:=((some ⟨r4,0,none⟩,1,1):Slc)) ah
 have ak:=St.lit (r:=(Ro.int .u8)) (l:=([(1:Int),(5:Int)] :List Int)) (n:=2) aj.at4 (.cons (a:= [_]) rfl (.cons (a:= [_]) rfl .nil)) rfl (by decide)
 obtain ⟨bg,e,al,am⟩:=St.freezeRow (t:=((some ⟨r5,0,none⟩,2,2):Slc)) ak
 have an:=St.lit (r:=(Ro.int .u8)) (l:=([(2:Int)] :List Int)) (n:=1) am.at3 (.cons (a:= [_]) rfl .nil) rfl (by decide)
 obtain ⟨bh,d,ao,ap⟩:=St.freezeRow (t:=((some ⟨r6,0,none⟩,1,1):Slc)) an
 have aq:=St.lit (r:=(Ro.int .u8)) (l:=([(4:Int)] :List Int)) (n:=1) ap.at2 (.cons (a:= [_]) rfl .nil) rfl (by decide)
 obtain ⟨bi,c,ar,au⟩:=St.freezeRow (t:=((some ⟨r7,0,none⟩,1,1):Slc)) aq
 have av:=St.lit (r:=(Ro.list (Ro.int .u8))) (l:=([([(4:Int),(0:Int),(5:Int)] :List Int),([(5:Int)] :List Int),([(1:Int),(5:Int)] :List Int),([(2:Int)] :List Int),([(4:Int)] :List Int)] :List (List Int))) (n:=5) au.at1 (.cons (a:= [_]) ⟨((some ⟨r3,0,none⟩,3,3):Slc),rfl,(af.mono (((g.trans e).trans d).trans c))⟩ (.cons (a:= [_]) ⟨((some ⟨r4,0,none⟩,1,1):Slc),rfl,(ai.mono ((e.trans d).trans c))⟩ (.cons (a:= [_]) ⟨((some ⟨r5,0,none⟩,2,2):Slc),rfl,(al.mono (d.trans c))⟩ (.cons (a:= [_]) ⟨((some ⟨r6,0,none⟩,1,1):Slc),rfl,(ao.mono c)⟩ (.cons (a:= [_]) ⟨((some ⟨r7,0,none⟩,1,1):Slc),rfl,ar⟩ .nil))))) rfl (by decide)
 obtain ⟨f,q,aw,ax⟩:=St.freezeRow (t:=((some ⟨r8,0,none⟩,5,5):Slc)) av
 obtain rfl:=iS hd
 exact AB ⟨f,((2:Int),(2:Int),((some ⟨r2,0,none⟩,5,5):Slc),((some ⟨r8,0,none⟩,5,5):Slc),((none,0,0):Slc),((none,0,0):Slc),((none,0,0):Slc),()),([(0:Int),(0:Int),(1:Int),(1:Int),(2:Int)] :List Int),([([(4:Int),(0:Int),(5:Int)] :List Int),([(5:Int)] :List Int),([(1:Int),(5:Int)] :List Int),([(2:Int)] :List Int),([(4:Int)] :List Int)] :List (List Int)),([] :List Int),([] :List Int),([] :List Int),((((((ab.trans p).trans g).trans e).trans d).trans c).trans q),rfl,rfl,(ac.mono (((((p.trans g).trans e).trans d).trans c).trans q)),aw,(Ro.SliceIs.nil (Ro.int .u8) f),(Ro.SliceIs.nil (Ro.int .u8) f),(Ro.SliceIs.nil (Ro.int .u8) f),ax.tail⟩
noncomputable def Bk (small_0:KQ):Option (List ByteArray×List ByteArray×List BC×List Int×List Int×List ByteArray×Option C1×(Option LkD)×Bool):=
 (Bh (small_0.1,small_0.2.1,small_0.2.2.1,small_0.2.2.2.1,small_0.2.2.2.2.1,small_0.2.2.2.2.2.1,small_0.2.2.2.2.2.2)).bind fun t10=>
 (CI (t10.1,t10.2.1,t10.2.2.1,t10.2.2.2.1,t10.2.2.2.2.1,t10.2.2.2.2.2)).bind fun t18=>
 cond (t18.2 !=(0:Int))
 (some (t10.1,t10.2.1,t10.2.2.1,t10.2.2.2.1,t10.2.2.2.2.1,t10.2.2.2.2.2,none,none,false))
 ((Mq (t10.1,t10.2.1,t10.2.2.1,t10.2.2.2.1,t10.2.2.2.2.1,t10.2.2.2.2.2) (300:Int) (9000:Int)).bind fun t37=>
  (cond (Option.isNone t37.1)
  (some true)
  (t37.1.bind fun e100=>
   (BF e100).bind fun t39=>
   some (t39==(0:Int)))).bind fun z38=>
  cond z38
  (some (t10.1,t10.2.1,t10.2.2.1,t10.2.2.2.1,t10.2.2.2.2.1,t10.2.2.2.2.2,none,none,false))
  (t37.1.bind fun e134=>
   (RV (t10.1,t10.2.1,t10.2.2.1,t10.2.2.2.1,t10.2.2.2.2.1,t10.2.2.2.2.2) e134).bind fun t58=>
   some (t10.1,t10.2.1,t10.2.2.1,t10.2.2.2.1,t10.2.2.2.2.1,t10.2.2.2.2.2,(some e134),t58,(!(Option.isNone t58)))))
theorem DI {φ:AC} {h:AH} {F:List Chk} {small_0:Int×Int×Slc×Slc×Slc×Slc×Slc×Unit} {a9:List Int} {aa:List (List Int)} {ab:List Int} {ac:List Int} {ad:List Int} (gk:KE φ) (ap:Ro.SliceIs (Ro.int .u8) φ small_0.2.2.1 a9) (aq:Ro.SliceIs (Ro.list (Ro.int .u8)) φ small_0.2.2.2.1 aa) (ar:Ro.SliceIs (Ro.int .u8) φ small_0.2.2.2.2.1 ab) (au:Ro.SliceIs (Ro.int .u8) φ small_0.2.2.2.2.2.1 ac) (av:Ro.SliceIs (Ro.int .u8) φ small_0.2.2.2.2.2.2.1 ad) (s0:St φ (F) h) {r:(List ByteArray×List ByteArray×List BC×List Int×List Int×List ByteArray×Option C1×(Option LkD)×Bool)} (hd:Bk (small_0.1,small_0.2.1,a9,aa,ab,ac,ad)=some r):
 CallsH Tryz.prog 19 [(.agg #[(.int .u8 small_0.1),(.int .u8 small_0.2.1),(sv small_0.2.2.1),(sv small_0.2.2.2.1),(sv small_0.2.2.2.2.1),(sv small_0.2.2.2.2.2.1),(sv small_0.2.2.2.2.2.2.1)])] h (Ar fun v h'=> ∃ψ:AC,∃y:(Pl6)×(Option Addr)×(Option Addr)×Bool×Unit,∃ae:List ByteArray,∃af:List ByteArray,∃ag:List BC,∃ah:List Int,∃ai:List Int,∃aj:List ByteArray,∃ak:Option C1,∃al:(Option LkD),Sub φ ψ∧v=((.tuple [(.agg [.slice, .slice, .slice, .slice, .slice, .slice]),aP,aP,aB]):Sh).val y∧(ae,af,ag,ah,ai,aj,ak,al,y.2.2.2.1)=r∧Ro.SliceIs Ro.str ψ y.1.1 ae∧Ro.SliceIs Ro.str ψ y.1.2.1 af∧Ro.SliceIs CF ψ y.1.2.2.1 ag∧Ro.SliceIs (Ro.int .i64) ψ y.1.2.2.2.1 ah∧Ro.SliceIs (Ro.int .i64) ψ y.1.2.2.2.2.1 ai∧Ro.SliceIs Ro.str ψ y.1.2.2.2.2.2.1 aj∧Np FC ψ y.2.1 ak∧St ψ (⟨BO, [.pointer y.2.2.1],al⟩::F) h'):=by
 refine AR mixed Tryz.func19 ?_
 rw [IY]
 unfold Fk
 unfold Bk at hd
 refine AY (vs:= [.int .u8 small_0.1, .int .u8 small_0.2.1,sv small_0.2.2.1,sv small_0.2.2.2.1,sv small_0.2.2.2.2.1,sv small_0.2.2.2.2.2.1,sv small_0.2.2.2.2.2.2.1]) s0 fun r1 c4 aw=> ?_
 refine AY (vs:= [.slice none 0 0, .slice none 0 0, .slice none 0 0, .slice none 0 0, .slice none 0 0, .slice none 0 0]) aw fun r2 c5 k=> ?_
 refine AA (x:=small_0.1) k.at1 rfl ?_
 refine AA (x:=small_0.2.1) k.at1 rfl ?_
 refine AA (x:=small_0.2.2.1) k.at1 rfl ?_
 refine AA (x:=small_0.2.2.2.1) k.at1 rfl ?_
 refine AA (x:=small_0.2.2.2.2.1) k.at1 rfl ?_
 refine AA (x:=small_0.2.2.2.2.2.1) k.at1 rfl ?_
 refine AA (x:=small_0.2.2.2.2.2.2.1) k.at1 rfl ?_
 obtain ⟨c6,ax,hd⟩:=bS hd
 refine AI (Fx (s_0:=(small_0.1,small_0.2.1,small_0.2.2.1,small_0.2.2.2.1,small_0.2.2.2.2.1,small_0.2.2.2.2.2.1,small_0.2.2.2.2.2.2.1,())) ap aq ar au av k ax) ?_
 rintro _ c7 ⟨c8,t10,a2,a3,a4,a5,a6,a7,a1,rfl,rfl,s,t,u,w,z,a0,ay⟩
 refine ⟨t10,rfl,?_⟩
 try dsimp only at hd
 refine AY (vs:= [.slice none 0 0, .slice none 0 0, .slice none 0 0, .slice none 0 0, .slice none 0 0, .slice none 0 0]) ay fun r11 c9 az=> ?_
 refine AQ az rfl rfl fun ca b0=> ?_
 refine AQ b0 rfl rfl fun cb b1=> ?_
 refine AQ b1 rfl rfl fun cc b2=> ?_
 refine AQ b2 rfl rfl fun cd b3=> ?_
 refine AQ b3 rfl rfl fun ce b4=> ?_
 refine AQ b4 rfl rfl fun cf n=> ?_
 refine AA (x:=t10.1) n rfl ?_
 refine AA (x:=t10.2.1) n rfl ?_
 refine AA (x:=t10.2.2.1) n rfl ?_
 refine AA (x:=t10.2.2.2.1) n rfl ?_
 refine AA (x:=t10.2.2.2.2.1) n rfl ?_
 refine AA (x:=t10.2.2.2.2.2.1) n rfl ?_
 obtain ⟨cg,b5,hd⟩:=bS hd
 refine AI (H8 (p_0:=(t10.1,t10.2.1,t10.2.2.1,t10.2.2.2.1,t10.2.2.2.2.1,t10.2.2.2.2.2.1,())) s t u w z a0 n b5) ?_
 rintro _ ch ⟨b6,t18,c,rfl,rfl,f⟩
 refine ⟨t18,rfl,?_⟩
 try dsimp only at hd
 refine AL hd rfl (fun _ hd=> ?_) (fun _ hd=> ?_)
 ·refine AA (x:=t10.1) f rfl ?_
  refine AA (x:=t10.2.1) f rfl ?_
  refine AA (x:=t10.2.2.1) f rfl ?_
  refine AA (x:=t10.2.2.2.1) f rfl ?_
  refine AA (x:=t10.2.2.2.2.1) f rfl ?_
  refine AA (x:=t10.2.2.2.2.2.1) f rfl ?_
  refine AQ f.at1 rfl rfl fun ci b7=> ?_
  refine AQ b7 rfl rfl fun cj b8=> ?_
  refine AQ b8 rfl rfl fun ck b9=> ?_
  refine AQ b9 rfl rfl fun cl ba=> ?_
  refine AQ ba rfl rfl fun cm bb=> ?_
  refine AQ bb rfl rfl fun cn o=> ?_
  refine AA (x:=t10.1) o rfl ?_
  refine AA (x:=t10.2.1) o rfl ?_
  refine AA (x:=t10.2.2.1) o rfl ?_
  refine AA (x:=t10.2.2.2.1) o rfl ?_
  refine AA (x:=t10.2.2.2.2.1) o rfl ?_
  refine AA (x:=t10.2.2.2.2.2.1) o rfl ?_
  obtain rfl:=iS hd
  exact AB ⟨b6,((t10.1,t10.2.1,t10.2.2.1,t10.2.2.2.1,t10.2.2.2.2.1,t10.2.2.2.2.2.1,()),none,none,false,()),a2,a3,a4,a5,a6,a7,none,none,(a1.trans c),rfl,rfl,(s.mono c),(t.mono c),(u.mono c),(w.mono c),(z.mono c),(a0.mono c),(Np.none _ _),((((RW o).at1.tail).at1.tail).at1.tail)⟩
 refine AA (x:=t10.1) f rfl ?_
 refine AA (x:=t10.2.1) f rfl ?_
 refine AA (x:=t10.2.2.1) f rfl ?_
 refine AA (x:=t10.2.2.2.1) f rfl ?_
 refine AA (x:=t10.2.2.2.2.1) f rfl ?_
 refine AA (x:=t10.2.2.2.2.2.1) f rfl ?_
 obtain ⟨co,bc,hd⟩:=bS hd
 refine AI (ST (p_0:=(t10.1,t10.2.1,t10.2.2.1,t10.2.2.2.1,t10.2.2.2.2.1,t10.2.2.2.2.2.1,())) (gk.a.mono (a1.trans c)) (s.mono c) (t.mono c) (u.mono c) (w.mono c) (z.mono c) (a0.mono c) f bc) ?_
 rintro _ cp ⟨am,t37,cq,e,rfl,rfl,a8,an⟩
 refine ⟨t37,rfl,?_⟩
 try dsimp only at hd
 have bd:=a8.nil
 obtain ⟨be,j,hd⟩:=bS hd
 refine Ao (fun (y:Bool×Unit) w_ g=> ∃ψ:AC,Sub am ψ∧y.1=g∧St ψ (cW 32 r11 [sv t10.1,sv t10.2.1,sv t10.2.2.1,sv t10.2.2.2.1,sv t10.2.2.2.2.1,sv t10.2.2.2.2.2.1] ::Wq5 r2::Wq0 r1 small_0::F) w_) (g:=be) ?_ ?_
 ·refine AL j (by rw [bd] <;>rfl) (fun _ j=> ?_) (fun _ j=> ?_)
  ·have bf:=an.at2
   obtain rfl:=iS j
   exact AS (true,()) rfl ⟨am,(Sub.refl _),rfl,bf.at2.at2⟩
  obtain ⟨cr,bg,j⟩:=bS j
  obtain ⟨cs,bh,j⟩:=bS j
  refine AI (Bj ((a8).get bg) an bh) ?_
  rintro _ ct ⟨bi,t39,bj,rfl,rfl,bk⟩
  refine ⟨t39,rfl,?_⟩
  obtain rfl:=iS j
  exact AS ((t39==(0:Int)),()) rfl ⟨bi,bj,rfl,bk.at2.at2.at2⟩
 rintro z38 cu ⟨bl,d,rfl,i⟩
 try dsimp only at hd
 refine AL hd rfl (fun _ hd=> ?_) (fun _ hd=> ?_)
 ·refine AA (x:=t10.1) i rfl ?_
  refine AA (x:=t10.2.1) i rfl ?_
  refine AA (x:=t10.2.2.1) i rfl ?_
  refine AA (x:=t10.2.2.2.1) i rfl ?_
  refine AA (x:=t10.2.2.2.2.1) i rfl ?_
  refine AA (x:=t10.2.2.2.2.2.1) i rfl ?_
  refine AQ i.at1 rfl rfl fun cv bm=> ?_
  refine AQ bm rfl rfl fun cw bn=> ?_
  refine AQ bn rfl rfl fun cx bo=> ?_
  refine AQ bo rfl rfl fun cy bp=> ?_
  refine AQ bp rfl rfl fun cz bq=> ?_
  refine AQ bq rfl rfl fun d0 p=> ?_
  refine AA (x:=t10.1) p rfl ?_
  refine AA (x:=t10.2.1) p rfl ?_
  refine AA (x:=t10.2.2.1) p rfl ?_
  refine AA (x:=t10.2.2.2.1) p rfl ?_
  refine AA (x:=t10.2.2.2.2.1) p rfl ?_
  refine AA (x:=t10.2.2.2.2.2.1) p rfl ?_
  obtain rfl:=iS hd
  exact AB ⟨bl,((t10.1,t10.2.1,t10.2.2.1,t10.2.2.2.1,t10.2.2.2.2.1,t10.2.2.2.2.2.1,()),none,none,false,()),a2,a3,a4,a5,a6,a7,none,none,(((a1.trans c).trans e).trans d),rfl,rfl,(s.mono ((c.trans e).trans d)),(t.mono ((c.trans e).trans d)),(u.mono ((c.trans e).trans d)),(w.mono ((c.trans e).trans d)),(z.mono ((c.trans e).trans d)),(a0.mono ((c.trans e).trans d)),(Np.none _ _),((((RW p).at1.tail).at1.tail).at1.tail)⟩
 refine AA (x:=t10.1) i rfl ?_
 refine AA (x:=t10.2.1) i rfl ?_
 refine AA (x:=t10.2.2.1) i rfl ?_
 refine AA (x:=t10.2.2.2.1) i rfl ?_
 refine AA (x:=t10.2.2.2.2.1) i rfl ?_
 refine AA (x:=t10.2.2.2.2.2.1) i rfl ?_
 obtain ⟨br,bs,hd⟩:=bS hd
 have ao:=((a8.mono d)).get bs
 obtain ⟨d1,bt,hd⟩:=bS hd
 refine AI (UK (p_0:=(t10.1,t10.2.1,t10.2.2.1,t10.2.2.2.1,t10.2.2.2.2.1,t10.2.2.2.2.2.1,())) (gk.b.mono (((a1.trans c).trans e).trans d)) (s.mono ((c.trans e).trans d)) (t.mono ((c.trans e).trans d)) (u.mono ((c.trans e).trans d)) (w.mono ((c.trans e).trans d)) (z.mono ((c.trans e).trans d)) (a0.mono ((c.trans e).trans d)) ao i bt) ?_
 rintro _ d2 ⟨bu,t58,bv,l,rfl,rfl,m⟩
 refine ⟨t58,rfl,?_⟩
 have bw:=WT m
 refine AA (x:=t10.1) m.at1 rfl ?_
 refine AA (x:=t10.2.1) m.at1 rfl ?_
 refine AA (x:=t10.2.2.1) m.at1 rfl ?_
 refine AA (x:=t10.2.2.2.1) m.at1 rfl ?_
 refine AA (x:=t10.2.2.2.2.1) m.at1 rfl ?_
 refine AA (x:=t10.2.2.2.2.2.1) m.at1 rfl ?_
 refine AQ m.at2 rfl rfl fun d3 bx=> ?_
 refine AQ bx rfl rfl fun d4 bz=> ?_
 refine AQ bz rfl rfl fun d5 c0=> ?_
 refine AQ c0 rfl rfl fun d6 c1=> ?_
 refine AQ c1 rfl rfl fun d7 c2=> ?_
 refine AQ c2 rfl rfl fun d8 q=> ?_
 refine AA (x:=t10.1) q rfl ?_
 refine AA (x:=t10.2.1) q rfl ?_
 refine AA (x:=t10.2.2.1) q rfl ?_
 refine AA (x:=t10.2.2.2.1) q rfl ?_
 refine AA (x:=t10.2.2.2.2.1) q rfl ?_
 refine AA (x:=t10.2.2.2.2.2.1) q rfl ?_
 obtain rfl:=iS hd
 have c3:=q.tail.at1.tail.at1.tail
 exact AB ⟨bu,((t10.1,t10.2.1,t10.2.2.1,t10.2.2.2.1,t10.2.2.2.2.1,t10.2.2.2.2.2.1,()),t37.1,t58,(!(Option.isNone t58)),()),a2,a3,a4,a5,a6,a7,(some br),bv,((((a1.trans c).trans e).trans d).trans l),rfl,(by rw [bw]),(s.mono (((c.trans e).trans d).trans l)),(t.mono (((c.trans e).trans d).trans l)),(u.mono (((c.trans e).trans d).trans l)),(w.mono (((c.trans e).trans d).trans l)),(z.mono (((c.trans e).trans d).trans l)),(a0.mono (((c.trans e).trans d).trans l)),(ao.mono l),c3⟩
noncomputable def CS (a_0:C1) (l_1:(Option LkD)) (terms_2:Int) (state_3:Int):Option (List Int):=
 (BK a_0 state_3).bind fun t1=>
 (forS (σ:=List Int) (0:Int) (((List.length t1):Nat):Int) ([] :List Int) fun i_z3 z3=>
  (idx t1 i_z3).bind fun e40=>
  (cond (decide (e40.1<terms_2))
  ((idx t1 i_z3).bind fun e54=>
   (app z3 ([e54.1] :List Int)).bind fun t10=>
   some t10)
  (some z3)).bind fun z6=>
  some z6).bind fun z2=>
 (Gu l_1 state_3).bind fun t11=>
 (forS (σ:=List Int) (0:Int) (((List.length t11):Nat):Int) z2 fun i_z13 z13=>
  (idx t11 i_z13).bind fun e133=>
  (L9 l_1 state_3 e133).bind fun t16=>
  (app z13 t16).bind fun t17=>
  some t17).bind fun z12=>
 some z12
theorem Ib {φ:AC} {h:AH} {F:List Chk} {a_0:Option Addr} {p:C1} {l_1:Option Addr} {c:(Option LkD)} {terms_2:Int} {state_3:Int} (gk:Dg.Glob φ) (af:Pt FC φ a_0 p) (s0:St φ (⟨BO, [.pointer l_1],c⟩::F) h) {r:(List Int)} (hd:CS p c terms_2 state_3=some r):
 CallsH Tryz.prog 33 [(.pointer a_0),(.pointer l_1),(.int .i64 terms_2),(.int .i64 state_3)] h (Ar fun v h'=> ∃ψ:AC,∃y:Slc,∃q:List Int,Sub φ ψ∧v=((.one aS):Sh).val y∧q=r∧Ro.SliceIs (Ro.int .i64) ψ y q∧St ψ (⟨BO, [.pointer l_1],c⟩::F) h'):=by
 refine AR mixed Tryz.func33 ?_
 rw [IZ]
 unfold Fl
 unfold CS at hd
 obtain ⟨cc,ag,hd⟩:=bS hd
 refine AI (CB af s0 ag) ?_
 rintro _ cd ⟨i,t1,ce,s,rfl,rfl,j,ah⟩
 refine ⟨t1,rfl,?_⟩
 have u:=j.length
 obtain ⟨ai,aj,hd⟩:=bS hd
 refine AT (fun (y:Int×Slc×Unit) w_ g=> ∃ψ:AC,∃w:List Int,Sub i ψ∧w=g∧St ψ (cR 3 (Ro.int .i64) y.2.1 w::⟨BO, [.pointer l_1],c⟩::F) w_) (g:=ai) ?_ ?_
 ·refine BJ aj (fun ak (y:Int×Slc×Unit) w_ g=> ∃ψ:AC,∃z:List Int,Sub i ψ∧y.1=ak∧z=g∧St ψ (cR 3 (Ro.int .i64) y.2.1 z::⟨BO, [.pointer l_1],c⟩::F) w_) ((0:Int),((none,0,0):Slc),()) rfl ⟨i,([] :List Int),(Sub.refl _),rfl,rfl,(((ah.nil 3 (Ro.int .i64)).at1).at1)⟩ ?_ ?_
  ·rintro _ z3 cf _ _ ⟨k,al,l,rfl,rfl,f⟩ e am a0 a1
   try dsimp only at e am a0 a1
   refine Ai (dT u a0) ?_
   obtain ⟨an,ao,e⟩:=bS e
   obtain ⟨cg,ch,ap,aq,ar,au⟩:=(j.mono l).get ao
   refine AF _ ap (Aa aq ?_)
   obtain ⟨_,_,rfl,av,aw⟩:=ar
   obtain rfl:=av
   obtain rfl:=aw
   refine AG (x:=an.1) (AE f.sub (au 0 _ rfl)) rfl ?_
   obtain ⟨ax,b,e⟩:=bS e
   refine Ao (fun (y:Slc×Unit) w_ g=> ∃ψ:AC,∃a2:List Int,Sub k ψ∧a2=g∧St ψ (cR 3 (Ro.int .i64) y.1 a2::⟨BO, [.pointer l_1],c⟩::F) w_) (g:=ax) ?_ ?_
   ·refine AL b rfl (fun _ b=> ?_) (fun _ b=> ?_)
    ·obtain ⟨m,ay,b⟩:=bS b
     obtain ⟨ci,cj,az,b0,b1,b2⟩:=(j.mono l).get ay
     refine AF _ az (Aa b0 ?_)
     obtain ⟨_,_,rfl,b3,b4⟩:=b1
     obtain rfl:=b3
     obtain rfl:=b4
     refine AG (x:=m.1) (AE f.sub (b2 0 _ rfl)) rfl ?_
     refine AY (vs:= [.int .i64 m.1]) f fun r9 ck a3=> ?_
     obtain ⟨b5,b6,b⟩:=bS b
     refine Aj (r:=(Ro.int .i64)) (ms:=([m.1] :List Int)) ED a3.tail rfl (St.cells a3) (.cons (a:= [_]) rfl .nil) rfl b6 ?_
     intro t10 cl b7
     obtain rfl:=iS b
     exact AS (t10,()) rfl ⟨k,b5,(Sub.refl _),rfl,b7.at1.at1⟩
    obtain rfl:=iS b
    exact AS (z3.2.1,()) rfl ⟨k,al,(Sub.refl _),rfl,f.at1.at1⟩
   rintro z6 cm ⟨b8,b9,ba,rfl,bb⟩
   try dsimp only at e
   obtain rfl:=iS e
   exact Ag ((wN z3.1),z6.1,()) _ rfl rfl ⟨b8,b9,(l.trans ba),a1,rfl,bb.at1.at1⟩
  ·rintro _ z3 cn ⟨bc,bd,be,rfl,rfl,bf⟩ bg
   refine AX (dF u bg) ?_
   exact AJ (AK (z3.1,z3.2.1,()) rfl ⟨bc,bd,be,rfl,bf.at1.at1⟩)
 rintro z2 co ⟨cp,bh,a4,rfl,bi⟩
 try dsimp only at hd
 obtain ⟨cq,bj,hd⟩:=bS hd
 refine AI (GR bi.at1 bj) ?_
 rintro _ cr ⟨n,t11,cs,a5,rfl,rfl,a6,bk⟩
 refine ⟨t11,rfl,?_⟩
 have a7:=a6.length
 obtain ⟨bl,bm,hd⟩:=bS hd
 refine AT (fun (y:Int×Slc×Unit) w_ g=> ∃ψ:AC,∃a8:List Int,Sub n ψ∧a8=g∧St ψ (cR 3 (Ro.int .i64) y.2.1 a8::⟨BO, [.pointer l_1],c⟩::F) w_) (g:=bl) ?_ ?_
 ·refine BJ bm (fun bn (y:Int×Slc×Unit) w_ g=> ∃ψ:AC,∃a9:List Int,Sub n ψ∧y.1=bn∧a9=g∧St ψ (cR 3 (Ro.int .i64) y.2.1 a9::⟨BO, [.pointer l_1],c⟩::F) w_) ((0:Int),z2.2.1,()) rfl ⟨n,bh,(Sub.refl _),rfl,rfl,bk.at1.at1.at1⟩ ?_ ?_
  ·rintro _ z13 ct _ _ ⟨cu,cv,o,rfl,rfl,aa⟩ d bo ab ac
   try dsimp only at d bo ab ac
   refine Ai (dT a7 ab) ?_
   obtain ⟨cw,bp,d⟩:=bS d
   refine CV a6 bp (Sub.trans o aa.sub) ?_
   obtain ⟨cx,bq,d⟩:=bS d
   refine AI (JS (gk.mono (((s.trans a4).trans a5).trans o)) aa.at1 bq) ?_
   rintro _ cy ⟨br,t16,bs,bt,rfl,rfl,ad,ae⟩
   refine ⟨t16,rfl,?_⟩
   obtain ⟨cz,bu,bv⟩:=ad.heap ae.sub
   obtain ⟨bw,bx,d⟩:=bS d
   refine Aj (r:=(Ro.int .i64)) (ms:=bs) ED ae.at1 rfl bv bu ad.length.symm bx ?_
   intro t17 d0 bz
   obtain rfl:=iS d
   exact Ag ((wN z13.1),t17,()) _ rfl rfl ⟨br,bw,(o.trans bt),ac,rfl,bz.at1.at1⟩
  ·rintro _ z13 d1 ⟨c0,c1,c2,rfl,rfl,c3⟩ c4
   refine AX (dF a7 c4) ?_
   exact AJ (AK (z13.1,z13.2.1,()) rfl ⟨c0,c1,c2,rfl,c3.at1.at1⟩)
 rintro z12 d2 ⟨d3,c5,c6,rfl,c7⟩
 try dsimp only at hd
 obtain ⟨c8,c9,ca,cb⟩:=St.freezeRow (t:=z12.2.1) c7
 obtain rfl:=iS hd
 exact AB ⟨c8,z12.2.1,c5,((((s.trans a4).trans a5).trans c6).trans c9),rfl,rfl,ca,cb⟩
noncomputable def CJ (a_0:C1) (l_1:(Option LkD)) (state_2:Int) (rule_3:Int):Option Bool:=
 (loop (σ:=(Int×Int)) (β:=Int) ((0:Int),(0:Int)) fun z2=>
  (BF a_0).bind fun t3=>
  cond (decide (z2.1<t3))
  ((BK a_0 z2.1).bind fun t4=>
   (forS (σ:=Int) (0:Int) (((List.length t4):Nat):Int) z2.2 fun i_z6 z6=>
    (idx t4 i_z6).bind fun e46=>
    (cond (e46.2==state_2)
    (some (IntKind.wrap .i64 (z6+(1:Int))))
    (some z6)).bind fun z9=>
    some z9).bind fun z5=>
   some (AU.next ((IntKind.wrap .i64 (z2.1+(1:Int))),z5)))
  (some (AU.done z2.2))).bind fun z1=>
 (cond (z1==(1:Int))
 ((Hw l_1 state_2 rule_3).bind fun t11=>
  some ((((List.length t11):Nat):Int)==(1:Int)))
 (some false)).bind fun z10=>
 some z10
theorem IA {φ:AC} {h:AH} {F:List Chk} {a_0:Option Addr} {m:C1} {l_1:Option Addr} {b:(Option LkD)} {state_2:Int} {rule_3:Int} (n:Pt FC φ a_0 m) (s0:St φ (⟨BO, [.pointer l_1],b⟩::F) h) {r:Bool} (hd:CJ m b state_2 rule_3=some r):
 CallsH Tryz.prog 35 [(.pointer a_0),(.pointer l_1),(.int .i64 state_2),(.int .i64 rule_3)] h (Ar fun v h'=> ∃ψ:AC,∃y:Bool,Sub φ ψ∧v=((.one aB):Sh).val y∧y=r∧St ψ (⟨BO, [.pointer l_1],b⟩::F) h'):=by
 refine AR mixed Tryz.func35 ?_
 rw [H6]
 unfold FX
 unfold CJ at hd
 obtain ⟨a0,a1,hd⟩:=bS hd
 refine AT (fun (y:Int×Int×Unit) w_ g=> ∃ψ:AC,Sub φ ψ∧y.2.1=g∧St ψ (⟨BO, [.pointer l_1],b⟩::F) w_) (g:=a0) ?_ ?_
 ·refine Dr a1 (fun (y:Int×Int×Unit) w_ g=> ∃ψ:AC,Sub φ ψ∧(y.1,y.2.1)=g∧St ψ (⟨BO, [.pointer l_1],b⟩::F) w_) ((0:Int),(0:Int),()) rfl ⟨φ,(Sub.refl _),rfl,s0⟩ ?_
  ·rintro z2 b9 _ _ ⟨ba,f,rfl,a2⟩ a a3
   try dsimp only at a
   obtain ⟨bb,a4,a⟩:=bS a
   refine AI (Bj (n.mono f) a2 a4) ?_
   rintro _ bc ⟨a5,t3,i,rfl,rfl,o⟩
   refine ⟨t3,rfl,?_⟩
   refine AL a rfl (fun _ a=> ?_) (fun _ a=> ?_)
   ·obtain ⟨bd,a6,a⟩:=bS a
    refine AI (CB (n.mono (f.trans i)) o a6) ?_
    rintro _ be ⟨j,t4,bf,a7,rfl,rfl,p,a8⟩
    refine ⟨t4,rfl,?_⟩
    have q:=p.length
    obtain ⟨a9,aa,a⟩:=bS a
    refine AT (fun (y:Int×Int×Unit) w_ g=> ∃ψ:AC,Sub j ψ∧y.2.1=g∧St ψ (⟨BO, [.pointer l_1],b⟩::F) w_) (g:=a9) ?_ ?_
    ·refine BJ aa (fun ab (y:Int×Int×Unit) w_ g=> ∃ψ:AC,Sub j ψ∧y.1=ab∧y.2.1=g∧St ψ (⟨BO, [.pointer l_1],b⟩::F) w_) ((0:Int),z2.2.1,()) rfl ⟨j,(Sub.refl _),rfl,rfl,a8⟩ ?_ ?_
     ·rintro _ z6 bg _ _ ⟨k,s,rfl,rfl,l⟩ c ac t u
      try dsimp only at c ac t u
      refine Ai (dT q t) ?_
      obtain ⟨ad,ae,c⟩:=bS c
      obtain ⟨bh,bi,af,ag,ah,ai⟩:=(p.mono s).get ae
      refine AF _ af (Aa ag ?_)
      obtain ⟨_,_,rfl,aj,ak⟩:=ah
      obtain rfl:=aj
      obtain rfl:=ak
      refine AG (x:=ad.2) (by rw [Ae]; exact (AE l.sub (ai 1 _ rfl))) rfl ?_
      obtain ⟨al,e,c⟩:=bS c
      refine Ao (fun (y:Int×Unit) w_ g=> ∃ψ:AC,Sub k ψ∧y.1=g∧St ψ (⟨BO, [.pointer l_1],b⟩::F) w_) (g:=al) ?_ ?_
      ·refine AL e rfl (fun _ e=> ?_) (fun _ e=> ?_)
       ·obtain rfl:=iS e
        exact AS ((wN z6.2.1),()) rfl ⟨k,(Sub.refl _),rfl,l⟩
       obtain rfl:=iS e
       exact AS (z6.2.1,()) rfl ⟨k,(Sub.refl _),rfl,l⟩
      rintro z9 bj ⟨am,an,rfl,ao⟩
      try dsimp only at c
      obtain rfl:=iS c
      exact Ag ((wN z6.1),z9.1,()) _ rfl rfl ⟨am,(s.trans an),u,rfl,ao⟩
     ·rintro _ z6 bk ⟨ap,aq,rfl,rfl,ar⟩ au
      refine AX (dF q au) ?_
      exact AJ (AK (z6.1,z6.2.1,()) rfl ⟨ap,aq,rfl,ar⟩)
    rintro z5 bl ⟨av,aw,rfl,ax⟩
    try dsimp only at a
    obtain rfl:=iS a
    exact Ag ((wN z2.1),z5.2.1,()) _ rfl rfl ⟨av,(((f.trans i).trans a7).trans aw),rfl,ax⟩
   obtain rfl:=iS a
   obtain rfl:=a3 _ rfl
   exact AJ (AK (z2.1,z2.2.1,()) rfl ⟨a5,(f.trans i),rfl,o⟩)
 rintro z1 bm ⟨w,ay,rfl,z⟩
 try dsimp only at hd
 obtain ⟨az,d,hd⟩:=bS hd
 refine Ao (fun (y:Bool×Unit) w_ g=> ∃ψ:AC,Sub w ψ∧y.1=g∧St ψ (⟨BO, [.pointer l_1],b⟩::F) w_) (g:=az) ?_ ?_
 ·refine AL d rfl (fun _ d=> ?_) (fun _ d=> ?_)
  ·obtain ⟨bn,b0,d⟩:=bS d
   refine AI (Hx z b0) ?_
   rintro _ bo ⟨b1,t11,bp,b2,rfl,rfl,b3,b4⟩
   refine ⟨t11,rfl,?_⟩
   have b5:=b3.length
   obtain rfl:=iS d
   exact AS ((((t11.2.1:Nat):Int)==(1:Int)),()) rfl ⟨b1,b2,(by rw [b5]),b4⟩
  obtain rfl:=iS d
  exact AS (false,()) rfl ⟨w,(Sub.refl _),rfl,z⟩
 rintro z10 bq ⟨b6,b7,rfl,b8⟩
 try dsimp only at hd
 obtain rfl:=iS hd
 exact AB ⟨b6,z10.1,(ay.trans b7),rfl,rfl,b8⟩
end Go.Proofs.YteolcjbobmpdiaaGreatDoor
namespace Go.Proofs.YteolcjbobmpdiaaGreatDoor
open Go Go.Eng Dg
set_option linter.unusedVariables false
set_option maxRecDepth 100000
section
variable {p:dtP}
theorem M9 (S:Sy p):BG p=some ((p.1.length+p.2.1.length+1:Nat):Int):=by
 have hT:=S.t1
 have hV:=S.v1
 unfold BG
 congr 1
 rw [w64 (n:=((p.1.length:Nat):Int) +((p.2.1.length:Nat):Int)) (by omega) (by omega),w64 (by omega) (by omega)]
 omega
def B4 (l:List Bool):Nat:=l.countP fun b=> !b
theorem NA {l:List Bool} {i:Nat} (h:l[i]? =some false):B4 (l.set i true) +1=B4 l:=HR h
theorem RZ {l:List Bool} {i j:Nat} (h:(l.set i true)[j]? =some true):j=i∨l[j]? =some true:=by
 rw [List.getElem?_set] at h
 split at h
 ·rename_i e; exact .inl e.symm
 ·exact .inr h
set_option maxHeartbeats 1000000 in
theorem US (S:Sy p):Ok (CH p) fun l=>l.length=p.1.length+p.2.1.length+1∧ ∀s:Nat,l[s]? =some true→Pro (nT p) p.2.2.1 (s:Int):=by
 have hT:=S.t1
 have hV:=S.v1
 have hF:=S.few
 have hnT:nT p=(p.1.length:Int):=rfl
 unfold CH
 refine AN (x:=((p.1.length+p.2.1.length+1:Nat):Int)) (M9 S) (AN (x:=List.replicate (p.1.length+p.2.1.length+1) false) (by unfold FB; rw [if_pos ⟨by omega,by omega⟩,Int.toNat_natCast]) ?_)
 refine B5 (fun k (l:List Bool)=>l.length=p.1.length+p.2.1.length+1∧ ∀s:Nat,l[s]? =some true→s<k) (by omega) ⟨by simp,fun s h=> ?_⟩ (fun k l hk hl=> ?_) fun l hl=> ?_
 ·rw [List.getElem?_replicate] at h
  split at h<;>simp at h
 ·refine Hm (by omega) (by omega) (AD ⟨by simp [hl.1],fun s h=> ?_⟩)
  rw [Int.toNat_natCast] at h
  rcases RZ h with h | h
  ·omega
  ·have:=hl.2 s h; omega
 ·obtain ⟨l1,l2⟩:=hl
  refine DL (fun (z:Bool×List Bool)=>z.2.length=p.1.length+p.2.1.length+1∧ ∀s:Nat,z.2[s]? =some true→Pro (nT p) p.2.2.1 (s:Int)) (fun z=>B4 z.2 * 2+(if z.1 then 1 else 0)) (fun l=>l.length=p.1.length+p.2.1.length+1∧ ∀s:Nat,l[s]? =some true→Pro (nT p) p.2.2.1 (s:Int)) ⟨l1,fun s h=> .term (by omega) (by have:=l2 s h; omega)⟩ (fun z hz=> ?_) fun l hl=>AD hl
  obtain ⟨c,m⟩:=z
  obtain ⟨m1,m2⟩:=hz
  dsimp only at m1 m2 ⊢
  refine Ac (fun hc=> ?_) fun hc=>Bs ⟨m1,m2⟩
  subst hc
  refine B5 (fun k (z:Bool×List Bool)=>z.2.length=p.1.length+p.2.1.length+1∧(∀s:Nat,z.2[s]? =some true→Pro (nT p) p.2.2.1 (s:Int))∧B4 z.2≤B4 m∧(z.1=true→B4 z.2<B4 m)) (by omega) ⟨m1,m2,Nat.le_refl _,by simp⟩ (fun k z hk hz=> ?_) fun z hz=>CQ ⟨⟨hz.1,hz.2.1⟩,?_⟩
  ·obtain ⟨g,w⟩:=z
   obtain ⟨w1,w2,w3,w4⟩:=hz
   dsimp only at w1 w2 w3 w4 ⊢
   have hr:=List.getElem?_eq_getElem hk
   have hmem:=List.getElem_mem hk
   obtain ⟨r,hre⟩: ∃r,p.2.2.1[k] =r:=⟨_,rfl⟩
   rw [hre] at hr hmem
   have hL:=S.left r hmem
   have hR:=S.right r hmem
   have hS:=S.short r hmem
   refine DL (fun (z:Int×Bool)=> ∃j:Nat,z.1=(j:Int)∧j≤r.2.1.length∧(z.2=true→ ∀s ∈ r.2.1.take j,Pro (nT p) p.2.2.1 s)) (fun z=>r.2.1.length - z.1.toNat) (fun b=>b=true→ ∀s ∈ r.2.1,Pro (nT p) p.2.2.1 s) ⟨0,rfl,Nat.zero_le _,by simp⟩ (fun z hz=> ?_) fun b hb=> ?_
   ·obtain ⟨j',b⟩:=z
    obtain ⟨j,h1,h2,h3⟩:=hz
    dsimp only at h1 h3 ⊢
    subst h1
    refine AV hr (Ac (fun hc=> ?_) fun hc=>Bs ?_)
    ·have hlt:j<r.2.1.length:=by have:=of_decide_eq_true hc; omega
     have hj:=List.getElem?_eq_getElem hlt
     have hs:=hR _ (List.getElem_mem hlt)
     refine AM (Q:=fun b'=>b'=true→ ∀s ∈ r.2.1.take (j+1),Pro (nT p) p.2.2.1 s) (Ac (fun hb=> ?_) fun hb=>AD (by simp)) fun b' hb'=> ?_
     ·have hw:(r.2.1[j]).toNat<w.length:=by omega
      refine AV hr (AV hj (Dt hs.1 (List.getElem?_eq_getElem hw) (AD fun ht s hs'=> ?_)))
      rcases (Ap hj).1 hs' with h | rfl
      ·exact h3 hb s h
      ·have:=w2 _ (by rw [List.getElem?_eq_getElem hw,ht])
       rwa [Int.toNat_of_nonneg hs.1] at this
     ·refine CQ ⟨⟨j+1,by rw [w64 (by omega) (by omega)]; omega,hlt,hb'⟩,?_⟩
      rw [w64 (by omega) (by omega)]
      omega
    ·have:j=r.2.1.length:=by have:=of_decide_eq_false hc; omega
     subst this
     rw [List.take_of_length_le (Nat.le_refl _)] at h3
     exact h3
   ·have hw:r.1.toNat<w.length:=by omega
    have hwg:=List.getElem?_eq_getElem hw
    refine AM (Q:=fun c=>c=true→b=true∧w[r.1.toNat]? =some false) (Ac (fun h=>AV hr (Dt (by omega) hwg (AD fun h'=>⟨h,by rw [hwg]; simpa using h'⟩))) fun h=>AD (by simp)) fun c hc=> ?_
    refine AM (Q:=fun (z:Bool×List Bool)=>z.2.length=p.1.length+p.2.1.length+1∧(∀s:Nat,z.2[s]? =some true→Pro (nT p) p.2.2.1 (s:Int))∧B4 z.2≤B4 m∧(z.1=true→B4 z.2<B4 m)) (Ac (fun h=> ?_) fun h=>AD ⟨w1,w2,w3,w4⟩) fun z hz=>AD hz
    obtain ⟨c1,c2⟩:=hc h
    have hfs:=NA c2
    refine AV hr (Hm (by omega) (by omega) (AD ⟨by simp [w1],fun s hs=> ?_,by dsimp only; omega,fun _=>by dsimp only; omega⟩))
    rcases RZ hs with rfl | h
    ·rw [Int.toNat_of_nonneg (by omega)]
     exact .rule hmem (hb c1)
    ·exact w2 s h
  ·obtain ⟨_,_,w3,w4⟩:=hz
   obtain ⟨g,w⟩:=z
   dsimp only at w3 w4 ⊢
   cases g with
   | true=>have:=w4 rfl; simp; omega
   | false=>simp; omega
set_option maxHeartbeats 1000000 in
theorem VR (S:Sy p):Ok (CR p) fun l=>l.length=p.1.length+p.2.1.length+1:=by
 have hT:=S.t1
 have hV:=S.v1
 have hF:=S.few
 have hnT:nT p=(p.1.length:Int):=rfl
 unfold CR
 refine AN (x:=((p.1.length+p.2.1.length+1:Nat):Int)) (M9 S) (AN (x:=List.replicate (p.1.length+p.2.1.length+1) false) (by unfold FB; rw [if_pos ⟨by omega,by omega⟩,Int.toNat_natCast]) (AN (x:=((p.1.length+p.2.1.length+1:Nat):Int)) (M9 S) ?_))
 have e1:IntKind.wrap .i64 (((p.1.length+p.2.1.length+1:Nat):Int) - 1)=((p.1.length+p.2.1.length:Nat):Int):=by rw [w64 (by omega) (by omega)]; omega
 rw [e1]
 refine Hm (by omega) (by simp; omega) ?_
 refine DL (fun (z:Bool×List Bool)=>z.2.length=p.1.length+p.2.1.length+1) (fun z=>B4 z.2 * 2+(if z.1 then 1 else 0)) (fun l=>l.length=p.1.length+p.2.1.length+1) (by simp) (fun z hz=> ?_) fun l hl=>AD hl
 obtain ⟨c,m⟩:=z
 dsimp only at hz ⊢
 refine Ac (fun hc=> ?_) fun hc=>Bs hz
 subst hc
 refine B5 (fun k (z:Bool×List Bool)=>z.2.length=p.1.length+p.2.1.length+1∧B4 z.2≤B4 m∧(z.1=true→B4 z.2<B4 m)) (by omega) ⟨hz,Nat.le_refl _,by simp⟩ (fun k z hk hz=> ?_) fun z hz=>CQ ⟨hz.1,?_⟩
 ·obtain ⟨g,w⟩:=z
  have hr:=List.getElem?_eq_getElem hk
  have hmem:=List.getElem_mem hk
  obtain ⟨r,hre⟩: ∃r,p.2.2.1[k] =r:=⟨_,rfl⟩
  rw [hre] at hr hmem
  have hL:=S.left r hmem
  have hR:=S.right r hmem
  have hS:=S.short r hmem
  refine DL (fun (z:Int×Bool×List Bool)=> ∃j:Nat,z.1=(j:Int)∧j≤r.2.1.length∧z.2.2.length=p.1.length+p.2.1.length+1∧B4 z.2.2≤B4 m∧(z.2.1=true→B4 z.2.2<B4 m)) (fun z=>r.2.1.length - z.1.toNat) (fun (z:Bool×List Bool)=>z.2.length=p.1.length+p.2.1.length+1∧B4 z.2≤B4 m∧(z.1=true→B4 z.2<B4 m)) ⟨0,rfl,Nat.zero_le _,hz⟩ (fun z hz=> ?_) fun b hb=>AD hb
  obtain ⟨j',b,w⟩:=z
  obtain ⟨j,h1,h2,h3,h4,h5⟩:=hz
  dsimp only at h1 h3 h4 h5 ⊢
  subst h1
  refine AV hr (Ac (fun hc=> ?_) fun hc=>Bs ⟨h3,h4,h5⟩)
  have hlt:j<r.2.1.length:=by have:=of_decide_eq_true hc; omega
  have hj:=List.getElem?_eq_getElem hlt
  have hs:=hR _ (List.getElem_mem hlt)
  have hw:r.1.toNat<w.length:=by omega
  have hw2:(r.2.1[j]).toNat<w.length:=by omega
  have hwg:=List.getElem?_eq_getElem hw2
  refine AM (Q:=fun c=>c=true→w[(r.2.1[j]).toNat]? =some false) (AV hr (Dt (by omega) (List.getElem?_eq_getElem hw) (Ac (fun h=>AV hr (AV hj (Dt hs.1 hwg (AD fun h'=>by rw [hwg]; simpa using h')))) fun h=>AD (by simp)))) fun c hc=> ?_
  refine AM (Q:=fun (z:Bool×List Bool)=>z.2.length=p.1.length+p.2.1.length+1∧B4 z.2≤B4 m∧(z.1=true→B4 z.2<B4 m)) (Ac (fun h=> ?_) fun h=>AD ⟨h3,h4,h5⟩) fun z hz=> ?_
  ·have hfs:=NA (hc h)
   exact AV hr (AV hj (Hm hs.1 (by omega) (AD ⟨by simp [h3],by dsimp only; omega,fun _=>by dsimp only; omega⟩)))
  ·refine CQ ⟨⟨j+1,by rw [w64 (by omega) (by omega)]; omega,hlt,hz⟩,?_⟩
   rw [w64 (by omega) (by omega)]
   omega
 ·obtain ⟨_,w3,w4⟩:=hz
  obtain ⟨g,w⟩:=z
  dsimp only at w3 w4 ⊢
  cases g with
  | true=>have:=w4 rfl; simp; omega
  | false=>simp; omega
theorem UT (S:Sy p):Ok (CI p) fun r=>r.2=0→ ∀v:Nat,v<p.2.1.length→Pro (nT p) p.2.2.1 ((p.1.length+v:Nat):Int):=by
 have hT:=S.t1
 have hV:=S.v1
 unfold CI
 refine AM (US S) fun l hl=>AM (VR S) fun l' hl'=> ?_
 obtain ⟨l1,l2⟩:=hl
 have l1:l.length=p.1.length+p.2.1.length+1:=l1
 have hl':l'.length=p.1.length+p.2.1.length+1:=hl'
 have e1:IntKind.wrap .i64 (((p.1.length+p.2.1.length+1:Nat):Int) - 1)=((p.1.length+p.2.1.length:Nat):Int):=by rw [w64 (by omega) (by omega)]; omega
 refine DL (fun z=> ∃k:Nat,z=((p.1.length+k:Nat):Int)∧k≤p.2.1.length∧ ∀v,v<k→l[p.1.length+v]? =some true) (fun z=>p.1.length+p.2.1.length - z.toNat)
  (fun b=>(∃z,b= .done (z,18))∨(b= .next ()∧ ∀v,v<p.2.1.length→l[p.1.length+v]? =some true)) ⟨0,rfl,Nat.zero_le _,fun v hv=>by omega⟩ (fun z hz=> ?_) fun b hb=> ?_
 ·obtain ⟨k,rfl,h1,h2⟩:=hz
  refine AN (x:=((p.1.length+p.2.1.length+1:Nat):Int)) (M9 S) ?_
  rw [e1]
  refine Ac (fun hc=> ?_) fun hc=>Bs (.inr ⟨rfl,fun v hv=>h2 v (by have:=of_decide_eq_false hc; omega)⟩)
  have hlt:k<p.2.1.length:=by have:=of_decide_eq_true hc; omega
  have hg:=List.getElem?_eq_getElem (l:=l) (i:=p.1.length+k) (by omega)
  refine AV hg (Ac (fun h=>Bs (.inl ⟨_,rfl⟩)) fun h=>CQ ⟨⟨k+1,by rw [w64 (by omega) (by omega)]; omega,hlt,fun v hv=> ?_⟩,?_⟩)
  ·rcases Nat.lt_succ_iff_lt_or_eq.1 hv with hv | rfl
   ·exact h2 v hv
   ·rw [hg]
    have:l[p.1.length+v] =true:=by simpa using h
    rw [this]
  ·rw [w64 (by omega) (by omega)]; omega
 ·rcases hb with ⟨z,rfl⟩ | ⟨rfl,hb⟩
  ·exact AD fun h=>by simp at h
  ·refine DL (fun z=> ∃k:Nat,z=((p.1.length+k:Nat):Int)∧k≤p.2.1.length) (fun z=>p.1.length+p.2.1.length - z.toNat)
    (fun b=>(∃z,b= .done (z,17))∨b= .next ()) ⟨0,rfl,Nat.zero_le _⟩ (fun z hz=> ?_) fun b hb'=> ?_
   ·obtain ⟨k,rfl,h1⟩:=hz
    refine AN (x:=((p.1.length+p.2.1.length+1:Nat):Int)) (M9 S) ?_
    rw [e1]
    refine Ac (fun hc=> ?_) fun hc=>Bs (.inr rfl)
    have hlt:k<p.2.1.length:=by have:=of_decide_eq_true hc; omega
    have hg:=List.getElem?_eq_getElem (l:=l') (i:=p.1.length+k) (by omega)
    refine AV hg (Ac (fun h=>Bs (.inl ⟨_,rfl⟩)) fun h=>CQ ⟨⟨k+1,by rw [w64 (by omega) (by omega)]; omega,hlt⟩,?_⟩)
    rw [w64 (by omega) (by omega)]; omega
   ·rcases hb' with ⟨z,rfl⟩ | rfl
    ·exact AD fun h=>by simp at h
    ·exact AD fun _ v hv=>l2 _ (hb v hv)
end
structure MkI (p:dtP) (B:List dtK) (E:List (List Edge)) (d:LkD) (tt:Int):Prop where
 all:DP p B E d.fa
 dp:d.p=p
 dA:d.A=C4 p B E tt
 lk:WX p B E d.L
theorem Vj {nt nl:Nat} {p:dtP} (H:Pl nt nl p):Sy p:=by
 have hT:=H.terms.len
 have hn:=H.nt5
 have hv:=H.vars
 have hr:=H.room
 have hnT:nT p=(p.1.length:Int):=rfl
 obtain ⟨st,s1,s2,s3⟩:=H.first
 have each: ∀r ∈ p.2.2.1,(nT p≤r.1∧r.1≤nT p+((p.2.1.length:Nat):Int))∧(∀s ∈ r.2.1,0≤s∧s<nT p+((p.2.1.length:Nat):Int))∧r.2.1.length≤1000:=fun r hm=>by
  obtain ⟨k,hk⟩:=List.getElem?_of_mem hm
  rcases Nat.eq_zero_or_pos k with rfl | h
  ·rw [s3] at hk
   cases hk
   refine ⟨⟨by dsimp only; omega,by dsimp only; omega⟩,fun s hs=> ?_,by simp⟩
   have:s=st:=by simpa using hs
   omega
  ·have:=H.rules k r h hk
   have hl:=this.left
   refine ⟨⟨by omega,by omega⟩,fun s hs=> ?_,by have:=this.few; omega⟩
   have:=this.right s hs
   omega
 exact ⟨by omega,by omega,by omega,fun r hm=>(each r hm).1,fun r hm=>(each r hm).2.1,fun r hm=>(each r hm).2.2⟩
theorem UU {nt nl:Nat} {p:dtP} (H:Pl nt nl p) (hp: ∀v:Nat,v<p.2.1.length→Pro (nT p) p.2.2.1 ((p.1.length+v:Nat):Int)) {B:List dtK} {E:List (List Edge)} (hF:Fin p B E) (hB:B.length≤300) {fa:dtF} (hfa:T6 p fa):DP p B E fa:=by
 have hT:=H.terms.len
 have hv:=H.vars
 have hnT:nT p=(p.1.length:Int):=rfl
 obtain ⟨st,s1,s2,s3⟩:=H.first
 refine ⟨H.vp,Vj H,hF,Wr H hp,hB,by omega,hfa,st,?_⟩
 rw [s3]
 congr 2
 omega
theorem Ra {s:KQ} (G:SmG s) (F:SmF 12 5 s):Ok (Bk s) fun r=>r.2.2.2.2.2.2.2.2=false∨(r.2.2.2.2.2.2.2.2=true∧ ∃(p:dtP) (B:List dtK) (E:List (List Edge)) (d:LkD) (tt:Int) (nt nl:Nat),
 (r.1,r.2.1,r.2.2.1,r.2.2.2.1,r.2.2.2.2.1,r.2.2.2.2.2.1)=p∧r.2.2.2.2.2.2.1=some (C4 p B E tt)∧r.2.2.2.2.2.2.2.1=some d∧Pl nt nl p∧MkI p B E d tt):=by
 unfold Bk
 refine AM (Ux G F.up) fun p ⟨nt,nl,hp⟩=> ?_
 have S:=Vj hp
 refine AM (UT S) fun e he=> ?_
 refine Ac (fun _=>AD (.inl rfl)) fun hc=> ?_
 have he0:e.2=0:=by simpa using hc
 have hpro:=he he0
 refine AM (Tt hp.vp hp.pos (st:=300) (it:=9000) (fun n m hl=>by
  have:held 300=300:=by decide
  omega)) fun r hr=> ?_
 rcases hr with ⟨n,h1,h2,rfl⟩ | ⟨rfl,_⟩
 ·have H:=WJ hp.vp hp.pos h1
  have hB:(stM p n).1.length≤300:=by
   have:=h2.1
   have e:held 300=300:=by decide
   omega
  have hpos:1≤(stM p n).1.length:=BM H.zero
  refine AM (Q:=fun c=>c=false) (An rfl (AN rfl (AN (Ht H) (AD ?_)))) fun c hc=> ?_
  ·simp only [beq_eq_false_iff_ne]; omega
  subst hc
  refine An rfl (AN rfl (AM (VQ (tt:=((tot (stM p n).1:Nat):Int)) (fun fa hfa=>UU hp hpro H hB hfa) S) fun l hl=> ?_))
  obtain ⟨d,rfl,d1,d2,d3,d4⟩:=hl
  exact AD (.inr ⟨rfl,p,_,_,d,_,nt,nl,rfl,rfl,rfl,hp,UU hp hpro H hB d3,d1,d2,d4⟩)
 ·refine AM (Q:=fun c=>c=true) (Cp rfl (AD rfl)) fun c hc=> ?_
  subst hc
  exact Cp rfl (AD (.inl rfl))
def FY (R:Rl) (l:List Item):List Int:=(l.filter fun x=>match R[x.1.toNat]? with
 | some r=>x.2==((r.2.1.length:Nat):Int)
 | none=>false).map (·.1)
section
variable {p:dtP} {B:List dtK} {E:List (List Edge)} {d:LkD} {tt:Int}
theorem Nz (R:Rl) (l:List Item):(FY R l).length≤l.length:=by
 unfold FY
 rw [List.length_map]
 exact List.length_filter_le _ _
theorem Qy {R:Rl} {l:List Item} {x:Item} {r:BC} (h:R[x.1.toNat]? =some r):FY R (l++ [x])=if x.2=((r.2.1.length:Nat):Int) then FY R l++ [x.1] else FY R l:=by
 unfold FY
 rw [List.filter_append,List.map_append]
 by_cases e:x.2=((r.2.1.length:Nat):Int)
 ·rw [if_pos e]
  simp [h,e]
 ·rw [if_neg e]
  simp [h,e]
theorem Jl (M:MkI p B E d tt) {n:Nat} {b:dtK} (hb:B[n]? =some b):Gu (some d) (n:Int)=some (FY p.2.2.1 b.2.1):=by
 obtain ⟨p',A',fa,steps,L⟩:=d
 obtain ⟨H,e1,e2,hL⟩:=M
 dsimp only at H e1 e2 hL
 subst e1
 subst e2
 obtain ⟨g1,g2,g3,g4,g5⟩:=H.fin.good H.vp hb
 refine Ok.eq ?_
 unfold Gu Cr
 rw [Option.bind_some]
 refine AN (PZ H.vp H.fin hb) ?_
 refine B5 (fun k (z:List Int)=>z=FY p'.2.2.1 (b.2.1.take k)) (by omega) (by simp [FY]) (fun k z hk hz=> ?_) fun z hz=>AD ?_
 ·subst hz
  have hx:=List.getElem?_eq_getElem hk
  obtain ⟨x,hxe⟩: ∃x,b.2.1[k] =x:=⟨_,rfl⟩
  rw [hxe] at hx
  obtain ⟨x0,x1,r,hr,hr2⟩:=g2.ok x (List.mem_of_getElem? hx)
  have hd:(FY p'.2.2.1 (b.2.1.take k)).length≤10100:=by
   have:=Nz p'.2.2.1 (b.2.1.take k)
   rw [List.length_take] at this
   omega
  refine AV hx (Dt x0 hr ?_)
  have hs:b.2.1.take (k+1)=b.2.1.take k++ [x] :=by rw [List.take_add_one,hx]; rfl
  rw [hs,Qy hr]
  refine AM (Q:=fun z=>z=if x.2=((r.2.1.length:Nat):Int) then FY p'.2.2.1 (b.2.1.take k) ++ [x.1] else FY p'.2.2.1 (b.2.1.take k)) (Ac (fun hc=> ?_) fun hc=>AD ?_) fun z hz=>AD hz
  ·rw [if_pos (eq_of_beq hc)]
   exact Bm (by simp; omega) (AD rfl)
  ·rw [if_neg (by simpa using hc)]
 ·subst hz
  rw [List.take_of_length_le (Nat.le_refl _)]
theorem NB (M:MkI p B E d tt) {n:Nat} {b:dtK} (hb:B[n]? =some b) {k:Int} :k ∈ FY p.2.2.1 b.2.1 ↔ ∃(k':Nat) (r:BC),k=(k':Int)∧p.2.2.1[k']? =some r∧It p.2.2.1 (KB B) n k' r.2.1.length:=by
 have H:=M.all
 obtain ⟨g1,g2,g3,g4,g5⟩:=H.fin.good H.vp hb
 unfold FY
 rw [List.mem_map]
 constructor
 ·rintro ⟨x,hx,rfl⟩
  obtain ⟨h1,h2⟩:=List.mem_filter.1 hx
  obtain ⟨x0,x1,r,hr,hr2⟩:=g2.ok x h1
  rw [hr] at h2
  refine ⟨x.1.toNat,r,by omega,hr,?_⟩
  have e:x=((x.1.toNat:Int),((r.2.1.length:Nat):Int)):=Prod.ext (by simp only; omega) (eq_of_beq h2)
  unfold It
  rw [← e]
  exact (E5 H.vp H.fin hb x).1 h1
 ·rintro ⟨k',r,rfl,hr,hi⟩
  refine ⟨((k':Int),((r.2.1.length:Nat):Int)),List.mem_filter.2 ⟨(E5 H.vp H.fin hb _).2 hi,?_⟩,rfl⟩
  dsimp only
  rw [Int.toNat_natCast,hr]
  simp
theorem MJ (M:MkI p B E d tt) {s k:Nat} (hk:k<p.2.2.1.length):Ok (L9 (some d) (s:Int) (k:Int)) fun t=>(∀j,j ∈ t ↔ Lk (nT p) p.2.2.1 (KB B) (TrB p B E) s k j)∧t.length≤64000:=by
 obtain ⟨p',A',fa,steps,L⟩:=d
 obtain ⟨H,e1,e2,hL⟩:=M
 dsimp only at H e1 e2 hL
 subst e1
 subst e2
 unfold L9
 rw [Option.bind_some]
 dsimp only
 cases hg:BL ((s:Int),(k:Int)) L with
 | none=>exact AD ⟨fun j=>⟨(fun h=>by cases h),fun h=>absurd h (hL.none_ s k j hg hk)⟩,by simp⟩
 | some x=>
  obtain ⟨a1,a2,s',k',e,_,_,a5⟩:=hL.some_ _ _ hg
  have e1:s=s':=by have:=(Prod.mk.inj e).1; omega
  have e2:k=k':=by have:=(Prod.mk.inj e).2; omega
  subst e1 e2
  dsimp only
  rw [JC a1]
  refine AD ⟨fun j=>by rw [EK a1,a5],?_⟩
  have h1:=Lh x
  have h2:=a1.len
  have h3:=a1.hi
  omega
theorem Lj (M:MkI p B E d tt) {s k:Nat} (hs:s<B.length) {r:BC} (hr:p.2.2.1[k]? =some r):
 Ok (Hw (some d) (s:Int) (k:Int)) fun w=>w.length≤300∧ ∀e,e ∈ w ↔ It p.2.2.1 (KB B) s k r.2.1.length∧ ∃n m:Nat,TrB p B E n r.1 m∧Pth (TrB p B E) n r.2.1 s∧e=(r.1,(m:Int)):=by
 obtain ⟨p',A',fa,steps,L⟩:=d
 obtain ⟨H,e1,e2,hL⟩:=M
 dsimp only at H e1 e2 hL
 subst e1
 subst e2
 have hf:=H.few
 have hsh:=H.sy.short r (List.mem_of_getElem? hr)
 unfold Hw
 rw [Option.bind_some]
 unfold Cs
 refine AM (Oi H hs hr) fun b hb=> ?_
 refine Ac (fun hc=>AD ⟨by simp,fun e=>⟨(fun h=>by cases h),fun h=> ?_⟩⟩) fun hc=> ?_
 ·have:=hb.2 h.1
  rw [this] at hc
  cases hc
 have hit:=hb.1 (by simpa using hc)
 refine AV hr (AN (Ht H.fin) ?_)
 refine B5 (fun n (w:List Edge)=>w.length≤n∧ ∀e,e ∈ w ↔ ∃n' m:Nat,n'<n∧TrB p' B E n' r.1 m∧Pth (TrB p' B E) n' r.2.1 s∧e=(r.1,(m:Int))) (by omega) ⟨by simp,fun e=>⟨fun h=>(by cases h),fun ⟨n',m,h,_⟩=>by omega⟩⟩ (fun n w hn hw=> ?_) fun w hw=>AD ⟨by have:=hw.1; omega,fun e=> ?_⟩
 ·obtain ⟨w1,w2⟩:=hw
  have hbn:=List.getElem?_eq_getElem hn
  obtain ⟨es,he⟩:=H.fin.edge hbn
  refine AM (Tv H.vp H.fin hbn he r.1) fun t ht=> ?_
  refine AM (Q:=fun c=>c=true ↔ ∃m:Nat,t=(m:Int)∧TrB p' B E n r.1 m∧Pth (TrB p' B E) n r.2.1 s) (Ac (fun hc=> ?_) fun hc=>AD ?_) fun c hc=> ?_
  ·have hc:=of_decide_eq_true hc
   have htr:TrB p' B E n r.1 t.toNat:=⟨_,es,hbn,he,by rw [Int.toNat_of_nonneg hc]; exact ht⟩
   refine AM (RP H.vp H.fin hn (by omega)) fun x hx=>AD ?_
   obtain ⟨x1,x2⟩:=hx
   constructor
   ·intro h
    have hx:x=(s:Int):=eq_of_beq h
    subst hx
    exact ⟨t.toNat,by omega,htr,(Pb H.fin hn).1 x1⟩
   ·rintro ⟨m,h1,h2,h3⟩
    have:=Walk.unique H.fin x1 (Ps H.fin hn h3)
    rw [this]
    simp
  ·have hc:=of_decide_eq_false hc
   constructor
   ·intro h; cases h
   ·rintro ⟨m,h1,_⟩; omega
  ·refine AM (Q:=fun (w:List Edge)=>w.length≤n+1∧ ∀e,e ∈ w ↔ ∃n' m:Nat,n'<n+1∧TrB p' B E n' r.1 m∧Pth (TrB p' B E) n' r.2.1 s∧e=(r.1,(m:Int))) (Ac (fun h=> ?_) fun h=>AD ⟨by omega,fun e=> ?_⟩) fun w hw=>AD hw
   ·obtain ⟨m,rfl,h2,h3⟩:=hc.1 h
    refine Bm (by simp; omega) (AD ⟨by simp; omega,fun e=> ?_⟩)
    rw [List.mem_append,w2,List.mem_singleton]
    constructor
    ·rintro (⟨n',m',a,b,c,e⟩ | e)
     ·exact ⟨n',m',by omega,b,c,e⟩
     ·exact ⟨n,m,by omega,h2,h3,e⟩
    ·rintro ⟨n',m',a,b,c,e⟩
     rcases Nat.lt_succ_iff_lt_or_eq.1 a with a | rfl
     ·exact .inl ⟨n',m',a,b,c,e⟩
     ·rw [H.aut.fn b h2] at e
      exact .inr e
   ·rw [w2]
    constructor
    ·rintro ⟨n',m',a,b⟩; exact ⟨n',m',by omega,b⟩
    ·rintro ⟨n',m',a,b,c,e⟩
     rcases Nat.lt_succ_iff_lt_or_eq.1 a with a | rfl
     ·exact ⟨n',m',a,b,c,e⟩
     ·exfalso
      have:=hc.2 ⟨m',?_,b,c⟩
      ·rw [this] at h; cases h
      ·obtain ⟨b',e',hb',he',hg⟩:=b
       rw [hbn] at hb'; cases hb'
       rw [he] at he'; cases he'
       exact IU.unique H.fin ht hg
 ·rw [hw.2]
  constructor
  ·rintro ⟨n',m,_,b,c,e⟩; exact ⟨hit,n',m,b,c,e⟩
  ·rintro ⟨_,n',m,b,c,e⟩; exact ⟨n',m,(H.aut.st b).1,b,c,e⟩
end
end Go.Proofs.YteolcjbobmpdiaaGreatDoor
