/-
  SimVd, R2, R3, LawsF, put together.
  Conditions: none; each part tells its own.
-/
import Derived.Test.YteolcjbobmpdiaaGreatDoorKr2
import Derived.Test.YteolcjbobmpdiaaGreatDoorKr5
import Derived.KernelRfl
import Derived.Test.YteolcjbobmpdiaaGreatDoorKr3
namespace Go.Proofs.YteolcjbobmpdiaaGreatDoor
open Go Go.Eng
set_option linter.unusedVariables false
set_option maxRecDepth 100000
noncomputable def CC (p_0:BJ) (term_1:Int) (shift_2:Int) (rules_3:List Int):Option (Int×Int×Bool):=
 (forS (σ:=Int) (0:Int) (((List.length rules_3):Nat):Int) (0:Int) fun i_z4 z4=>
  (cond (i_z4==(0:Int))
  (some true)
  ((idx rules_3 i_z4).bind fun e39=>
   some (decide (e39<z4)))).bind fun z5=>
  (cond z5
  ((idx rules_3 i_z4).bind fun e51=>
   some e51)
  (some z4)).bind fun z8=>
  some z8).bind fun z3=>
 (cond (z3==(0:Int))
 (some ((3:Int),(0:Int)))
 (some ((2:Int),z3))).bind fun z13=>
 (cond (decide (shift_2< (0:Int)))
 (some ((((List.length rules_3):Nat):Int)==(0:Int)))
 (some false)).bind fun z14=>
 cond z14
 (some ((0:Int),(0:Int),false))
 (cond (decide (shift_2< (0:Int)))
  (some ((z13.1),(z13.2),(decide ((((List.length rules_3):Nat):Int) >(1:Int)))))
  (cond ((((List.length rules_3):Nat):Int) !=(1:Int))
   (some ((1:Int),shift_2,(decide ((((List.length rules_3):Nat):Int) >(1:Int)))))
   ((cond (decide (term_1≥ (0:Int)))
    (some (decide (term_1< (((List.length p_0.2.2.2.1):Nat):Int))))
    (some false)).bind fun z25=>
    (cond z25
    ((idx p_0.2.2.2.1 term_1).bind fun e177=>
     some e177)
    (some (0:Int))).bind fun z27=>
    (cond (decide (z3≥ (0:Int)))
    (some (decide (z3< (((List.length p_0.2.2.1):Nat):Int))))
    (some false)).bind fun z31=>
    (cond z31
    ((idx p_0.2.2.1 z3).bind fun e216=>
     some e216.2.2)
    (some (0:Int))).bind fun z33=>
    (cond (decide (z27< (1:Int)))
    (some true)
    (some (decide (z33< (1:Int))))).bind fun z37=>
    cond z37
    (some ((1:Int),shift_2,true))
    ((cond (decide (z33>z27))
     (some true)
     (cond (z33==z27)
      ((idx p_0.2.2.2.2.1 z27).bind fun e268=>
       some (e268==(1:Int)))
      (some false))).bind fun z42=>
     cond z42
     (some ((z13.1),(z13.2),false))
     ((cond (z33==z27)
      ((idx p_0.2.2.2.2.1 z27).bind fun e299=>
       some (e299==(3:Int)))
      (some false)).bind fun z50=>
      cond z50
      (some ((0:Int),(0:Int),false))
      (some ((1:Int),shift_2,false)))))))
theorem IC {φ:AC} {h:AF} {F:List Chk} {p_0:Pl6} {b3:List ByteArray} {b4:List ByteArray} {ac:List BV} {ad:List Int} {b5:List Int} {b6:List ByteArray} {term_1:Int} {shift_2:Int} {rules_3:Slc} {ae:List Int} (ds:Ro.SliceIs Ro.str φ p_0.1 b3) (dt:Ro.SliceIs Ro.str φ p_0.2.1 b4) (b7:Ro.SliceIs BS φ p_0.2.2.1 ac) (b8:Ro.SliceIs (Ro.int .i64) φ p_0.2.2.2.1 ad) (b9:Ro.SliceIs (Ro.int .i64) φ p_0.2.2.2.2.1 b5) (du:Ro.SliceIs Ro.str φ p_0.2.2.2.2.2.1 b6) (af:Ro.SliceIs (Ro.int .i64) φ rules_3 ae) (s0:St φ (F) h) {r:(Int×Int×Bool)} (hd:CC (b3,b4,ac,ad,b5,b6) term_1 shift_2 ae=some r):
 CallsH Tryz.prog 38 [(aG p_0),(.int .i64 term_1),(.int .i64 shift_2),(sv rules_3)] h (Ai fun v h'=> ∃ψ:AC,∃y:(Int×Int×Unit)×Bool×Unit,Sub φ ψ∧v=((.tuple [(.agg [(.int .i64),(.int .i64)]),aB]):Sh).val y∧(y.1.1,y.1.2.1,y.2.1)=r∧St ψ (F) h'):=by
 refine AN mixed Tryz.func38 ?_
 rw [H7]
 unfold FW
 unfold CC at hd
 have bl:p_0.2.2.1.2.1=List.length ac:=b7.length
 have bm:p_0.2.2.2.1.2.1=List.length ad:=b8.length
 have t:rules_3.2.1=List.length ae:=af.length
 refine AR (vs:= [sv p_0.1,sv p_0.2.1,sv p_0.2.2.1,sv p_0.2.2.2.1,sv p_0.2.2.2.2.1,sv p_0.2.2.2.2.2.1]) s0 fun r1 dv bn=> ?_
 refine AR (vs:= [.int .i64 (0:Int), .int .i64 (0:Int)]) bn fun r2 dw bo=> ?_
 obtain ⟨bp,bq,hd⟩:=bS hd
 refine AS (fun (y:Int×Int×Unit) w_ g=> ∃ψ:AC,Sub φ ψ∧y.2.1=g∧St ψ (Wq8 r2::Wq2 r1 p_0::F) w_) (g:=bp) ?_ ?_
 ·refine Ax bq (fun br (y:Int×Int×Unit) w_ g=> ∃ψ:AC,Sub φ ψ∧y.1=br∧y.2.1=g∧St ψ (Wq8 r2::Wq2 r1 p_0::F) w_) ((0:Int),(0:Int),()) rfl ⟨φ,(Sub.refl _),rfl,rfl,bo.at1.at1⟩ ?_ ?_
  ·rintro _ z4 dx _ _ ⟨ag,ah,rfl,rfl,ai⟩ f ba bb bc
   try dsimp only at f ba bb bc
   refine Ad (dT t bb) ?_
   obtain ⟨bs,l,f⟩:=bS f
   refine AX (fun (y:Bool×Unit) w_ g=> ∃ψ:AC,Sub ag ψ∧y.1=g∧St ψ (Wq8 r2::Wq2 r1 p_0::F) w_) (g:=bs) ?_ ?_
   ·refine AI l rfl (fun _ l=> ?_) (fun _ l=> ?_)
    ·have bt:=ai.at1
     obtain rfl:=iS l
     exact AM (true,()) rfl ⟨ag,(Sub.refl _),rfl,bt.at1⟩
    obtain ⟨bu,bv,l⟩:=bS l
    refine CB af bv (Sub.trans ah ai.sub) ?_
    obtain rfl:=iS l
    exact AM ((decide (bu<z4.2.1)),()) rfl ⟨ag,(Sub.refl _),rfl,ai.at1.at1⟩
   rintro z5 dy ⟨aj,bd,rfl,ak⟩
   try dsimp only at f
   obtain ⟨bw,m,f⟩:=bS f
   refine AX (fun (y:Int×Unit) w_ g=> ∃ψ:AC,Sub aj ψ∧y.1=g∧St ψ (Wq8 r2::Wq2 r1 p_0::F) w_) (g:=bw) ?_ ?_
   ·refine AI m rfl (fun _ m=> ?_) (fun _ m=> ?_)
    ·obtain ⟨bx,bz,m⟩:=bS m
     refine CB af bz (Sub.trans (ah.trans bd) ak.sub) ?_
     obtain rfl:=iS m
     exact AM (bx,()) rfl ⟨aj,(Sub.refl _),rfl,ak.at1.at1⟩
    obtain rfl:=iS m
    exact AM (z4.2.1,()) rfl ⟨aj,(Sub.refl _),rfl,ak.at1.at1⟩
   rintro z8 dz ⟨c0,c1,rfl,c2⟩
   try dsimp only at f
   obtain rfl:=iS f
   exact Ac ((wN z4.1),z8.1,()) _ rfl rfl ⟨c0,((ah.trans bd).trans c1),bc,rfl,c2.at1.at1⟩
  ·rintro _ z4 e0 ⟨c3,c4,rfl,rfl,c5⟩ c6
   refine AU (dF t c6) ?_
   exact AL (AO (z4.1,z4.2.1,()) rfl ⟨c3,c4,rfl,c5.at1.at1⟩)
 rintro z3 e1 ⟨al,b,rfl,c7⟩
 try dsimp only at hd
 refine AR (vs:= [.int .i64 (0:Int), .int .i64 (0:Int)]) c7 fun r11 e2 c8=> ?_
 refine AH c8 rfl rfl fun e3 c9=> ?_
 refine AH c9 rfl rfl fun e4 ca=> ?_
 refine AR (vs:= [.int .i64 (0:Int), .int .i64 (0:Int)]) ca fun r12 e5 cb=> ?_
 refine AH cb rfl rfl fun e6 cc=> ?_
 refine AH cc rfl rfl fun e7 cd=> ?_
 have be:=St.shutR (r:=CR) (x:=((2:Int),z3.2.1)) cd ⟨[_],_,rfl,rfl,rfl⟩
 obtain ⟨ce,a0,hd⟩:=bS hd
 refine AX (fun (y:Unit) w_ g=> ∃ψ:AC,∃bf:DZ,Sub al ψ∧bf=g∧St ψ (cO 77 (Rep.ro CR) (some ⟨r12,0,none⟩) bf::cW 77 r11 [.int .i64 (1:Int), .int .i64 shift_2] ::Wq8 r2::Wq2 r1 p_0::F) w_) (g:=ce) ?_ ?_
 ·refine AI a0 rfl (fun _ a0=> ?_) (fun _ a0=> ?_)
  ·obtain ⟨cf,e8,cg,⟨_,_,rfl,rfl,rfl⟩,ch⟩:=St.openR be
   obtain rfl:r12=cf:=by simpa using cg
   refine AH ch rfl rfl fun e9 ci=> ?_
   refine AH ci rfl rfl fun ea cj=> ?_
   have ck:=((((St.shutR (r:=CR) (x:=((3:Int),(0:Int))) cj ⟨[_],_,rfl,rfl,rfl⟩).at3).at3).at3).at3
   obtain rfl:=iS a0
   exact AM (()) rfl ⟨al,((3:Int),(0:Int)),(Sub.refl _),rfl,ck⟩
  obtain rfl:=iS a0
  exact AM (()) rfl ⟨al,((2:Int),z3.2.1),(Sub.refl _),rfl,be.at3.at3.at3.at3⟩
 rintro z13 eb ⟨am,a,c,rfl,bg⟩
 try dsimp only at hd
 obtain ⟨cl,a1,hd⟩:=bS hd
 refine AX (fun (y:Bool×Unit) w_ g=> ∃ψ:AC,Sub am ψ∧y.1=g∧St ψ (cO 77 (Rep.ro CR) (some ⟨r12,0,none⟩) a::cW 77 r11 [.int .i64 (1:Int), .int .i64 shift_2] ::Wq8 r2::Wq2 r1 p_0::F) w_) (g:=cl) ?_ ?_
 ·refine AI a1 rfl (fun _ a1=> ?_) (fun _ a1=> ?_)
  ·have cm:=bg.at3
   have cn:=cm.at3.at3.at3
   obtain rfl:=iS a1
   exact AM ((((rules_3.2.1:Nat):Int)==(0:Int)),()) rfl ⟨am,(Sub.refl _),(by rw [t]),cn⟩
  obtain rfl:=iS a1
  exact AM (false,()) rfl ⟨am,(Sub.refl _),rfl,bg.at3.at3.at3.at3⟩
 rintro z14 ec ⟨u,d,rfl,i⟩
 try dsimp only at hd
 refine AI hd rfl (fun _ hd=> ?_) (fun _ hd=> ?_)
 ·refine AH i.at2 rfl rfl fun ba co=> ?_
  refine AH co rfl rfl fun ed an=> ?_
  refine AA (x:=(0:Int)) an rfl ?_
  refine AA (x:=(0:Int)) an rfl ?_
  obtain rfl:=iS hd
  exact AB ⟨u,(((0:Int),(0:Int),()),false,()),((b.trans c).trans d),rfl,rfl,an.tail.tail.tail.tail⟩
 refine AI hd rfl (fun _ hd=> ?_) (fun _ hd=> ?_)
 ·obtain ⟨cp,ee,cq,⟨_,_,rfl,rfl,rfl⟩,ao⟩:=St.openR i
  obtain rfl:r12=cp:=by simpa using cq
  refine AA (x:=(a.1)) ao rfl ?_
  refine AA (x:=(a.2)) ao rfl ?_
  refine AH ao.at2 rfl rfl fun ef cr=> ?_
  refine AH cr rfl rfl fun eg ap=> ?_
  refine AA (x:=(a.1)) ap rfl ?_
  refine AA (x:=(a.2)) ap rfl ?_
  obtain rfl:=iS hd
  have cs:=ap.tail.tail.tail.tail
  exact AB ⟨u,(((a.1),(a.2),()),(decide (((rules_3.2.1:Nat):Int) >(1:Int))),()),((b.trans c).trans d),rfl,(by rw [t]),cs⟩
 refine AI hd (by rw [t] <;>rfl) (fun _ hd=> ?_) (fun _ hd=> ?_)
 ·refine AA (x:=(1:Int)) i.at1 rfl ?_
  refine AA (x:=shift_2) i.at1 rfl ?_
  refine AH i.at2 rfl rfl fun eh ct=> ?_
  refine AH ct rfl rfl fun ei aq=> ?_
  refine AA (x:=(1:Int)) aq rfl ?_
  refine AA (x:=shift_2) aq rfl ?_
  obtain rfl:=iS hd
  have cu:=aq.tail.tail.tail.tail
  exact AB ⟨u,(((1:Int),shift_2,()),(decide (((rules_3.2.1:Nat):Int) >(1:Int))),()),((b.trans c).trans d),rfl,(by rw [t]),cu⟩
 obtain ⟨cv,a2,hd⟩:=bS hd
 refine AX (fun (y:Bool×Unit) w_ g=> ∃ψ:AC,Sub u ψ∧y.1=g∧St ψ (cO 77 (Rep.ro CR) (some ⟨r12,0,none⟩) a::cW 77 r11 [.int .i64 (1:Int), .int .i64 shift_2] ::Wq8 r2::Wq2 r1 p_0::F) w_) (g:=cv) ?_ ?_
 ·refine AI a2 rfl (fun _ a2=> ?_) (fun _ a2=> ?_)
  ·refine AA (x:=p_0.2.2.2.1) i.at3 rfl ?_
   have cw:=i.at3.at3.at3.at3
   obtain rfl:=iS a2
   exact AM ((decide (term_1< ((p_0.2.2.2.1.2.1:Nat):Int))),()) rfl ⟨u,(Sub.refl _),(by rw [bm]),cw⟩
  obtain rfl:=iS a2
  exact AM (false,()) rfl ⟨u,(Sub.refl _),rfl,i.at3.at3.at3.at3⟩
 rintro z25 ej ⟨ar,j,rfl,a7⟩
 try dsimp only at hd
 obtain ⟨cx,n,hd⟩:=bS hd
 refine AX (fun (y:Int×Unit) w_ g=> ∃ψ:AC,Sub ar ψ∧y.1=g∧St ψ (cO 77 (Rep.ro CR) (some ⟨r12,0,none⟩) a::cW 77 r11 [.int .i64 (1:Int), .int .i64 shift_2] ::Wq8 r2::Wq2 r1 p_0::F) w_) (g:=cx) ?_ ?_
 ·refine AI n rfl (fun _ n=> ?_) (fun _ n=> ?_)
  ·refine AA (x:=p_0.2.2.2.1) a7.at3 rfl ?_
   obtain ⟨cy,cz,n⟩:=bS n
   refine CB b8 cz (Sub.trans (((b.trans c).trans d).trans j) a7.sub) ?_
   obtain rfl:=iS n
   exact AM (cy,()) rfl ⟨ar,(Sub.refl _),rfl,a7.at3.at3.at3.at3⟩
  obtain rfl:=iS n
  exact AM ((0:Int),()) rfl ⟨ar,(Sub.refl _),rfl,a7.at3.at3.at3.at3⟩
 rintro z27 ek ⟨au,o,rfl,av⟩
 try dsimp only at hd
 obtain ⟨d0,a3,hd⟩:=bS hd
 refine AX (fun (y:Bool×Unit) w_ g=> ∃ψ:AC,Sub au ψ∧y.1=g∧St ψ (cO 77 (Rep.ro CR) (some ⟨r12,0,none⟩) a::cW 77 r11 [.int .i64 (1:Int), .int .i64 shift_2] ::Wq8 r2::Wq2 r1 p_0::F) w_) (g:=d0) ?_ ?_
 ·refine AI a3 rfl (fun _ a3=> ?_) (fun _ a3=> ?_)
  ·refine AA (x:=p_0.2.2.1) av.at3 rfl ?_
   have d1:=av.at3.at3.at3.at3
   obtain rfl:=iS a3
   exact AM ((decide (z3.2.1< ((p_0.2.2.1.2.1:Nat):Int))),()) rfl ⟨au,(Sub.refl _),(by rw [bl]),d1⟩
  obtain rfl:=iS a3
  exact AM (false,()) rfl ⟨au,(Sub.refl _),rfl,av.at3.at3.at3.at3⟩
 rintro z31 el ⟨aw,p,rfl,a8⟩
 try dsimp only at hd
 obtain ⟨d2,q,hd⟩:=bS hd
 refine AX (fun (y:Int×Unit) w_ g=> ∃ψ:AC,Sub aw ψ∧y.1=g∧St ψ (cO 77 (Rep.ro CR) (some ⟨r12,0,none⟩) a::cW 77 r11 [.int .i64 (1:Int), .int .i64 shift_2] ::Wq8 r2::Wq2 r1 p_0::F) w_) (g:=d2) ?_ ?_
 ·refine AI q rfl (fun _ q=> ?_) (fun _ q=> ?_)
  ·refine AA (x:=p_0.2.2.1) a8.at3 rfl ?_
   obtain ⟨bh,d3,q⟩:=bS q
   obtain ⟨em,en,d4,d5,d6,d7⟩:=(b7.mono (((((b.trans c).trans d).trans j).trans o).trans p)).get d3
   refine AG _ d4 (Aa d5 ?_)
   obtain ⟨_,_,rfl,d8,d9⟩:=d6
   obtain rfl:=d8
   obtain ⟨_,_,rfl,da,db⟩:=d9
   obtain ⟨eo,rfl,ep⟩:=da
   obtain rfl:=db
   refine AE (x:=bh.2.2) (by rw [AV]; exact (AD a8.sub (d7 2 _ rfl))) rfl ?_
   obtain rfl:=iS q
   exact AM (bh.2.2,()) rfl ⟨aw,(Sub.refl _),rfl,a8.at3.at3.at3.at3⟩
  obtain rfl:=iS q
  exact AM ((0:Int),()) rfl ⟨aw,(Sub.refl _),rfl,a8.at3.at3.at3.at3⟩
 rintro z33 er ⟨ax,w,rfl,bi⟩
 try dsimp only at hd
 obtain ⟨dc,a4,hd⟩:=bS hd
 refine AX (fun (y:Bool×Unit) w_ g=> ∃ψ:AC,Sub ax ψ∧y.1=g∧St ψ (cO 77 (Rep.ro CR) (some ⟨r12,0,none⟩) a::cW 77 r11 [.int .i64 (1:Int), .int .i64 shift_2] ::Wq8 r2::Wq2 r1 p_0::F) w_) (g:=dc) ?_ ?_
 ·refine AI a4 rfl (fun _ a4=> ?_) (fun _ a4=> ?_)
  ·have dd:=bi.at3
   obtain rfl:=iS a4
   exact AM (true,()) rfl ⟨ax,(Sub.refl _),rfl,dd.at3.at3.at3⟩
  obtain rfl:=iS a4
  exact AM ((decide (z33.1< (1:Int))),()) rfl ⟨ax,(Sub.refl _),rfl,bi.at3.at3.at3.at3⟩
 rintro z37 es ⟨a5,z,rfl,k⟩
 try dsimp only at hd
 refine AI hd rfl (fun _ hd=> ?_) (fun _ hd=> ?_)
 ·refine AA (x:=(1:Int)) k.at1 rfl ?_
  refine AA (x:=shift_2) k.at1 rfl ?_
  refine AH k.at2 rfl rfl fun eu de=> ?_
  refine AH de rfl rfl fun ev ay=> ?_
  refine AA (x:=(1:Int)) ay rfl ?_
  refine AA (x:=shift_2) ay rfl ?_
  obtain rfl:=iS hd
  exact AB ⟨a5,(((1:Int),shift_2,()),true,()),(((((((b.trans c).trans d).trans j).trans o).trans p).trans w).trans z),rfl,rfl,ay.tail.tail.tail.tail⟩
 obtain ⟨df,e,hd⟩:=bS hd
 refine AX (fun (y:Bool×Unit) w_ g=> ∃ψ:AC,Sub a5 ψ∧y.1=g∧St ψ (cO 77 (Rep.ro CR) (some ⟨r12,0,none⟩) a::cW 77 r11 [.int .i64 (1:Int), .int .i64 shift_2] ::Wq8 r2::Wq2 r1 p_0::F) w_) (g:=df) ?_ ?_
 ·refine AI e rfl (fun _ e=> ?_) (fun _ e=> ?_)
  ·have dg:=k.at3
   obtain rfl:=iS e
   exact AM (true,()) rfl ⟨a5,(Sub.refl _),rfl,dg.at3.at3.at3⟩
  refine AI e rfl (fun _ e=> ?_) (fun _ e=> ?_)
  ·refine AA (x:=p_0.2.2.2.2.1) k.at3 rfl ?_
   obtain ⟨dh,di,e⟩:=bS e
   refine CB b9 di (Sub.trans (((((((b.trans c).trans d).trans j).trans o).trans p).trans w).trans z) k.sub) ?_
   obtain rfl:=iS e
   exact AM ((dh==(1:Int)),()) rfl ⟨a5,(Sub.refl _),rfl,k.at3.at3.at3.at3⟩
  obtain rfl:=iS e
  exact AM (false,()) rfl ⟨a5,(Sub.refl _),rfl,k.at3.at3.at3.at3⟩
 rintro z42 ew ⟨a9,aa,rfl,a6⟩
 try dsimp only at hd
 refine AI hd rfl (fun _ hd=> ?_) (fun _ hd=> ?_)
 ·obtain ⟨dj,ex,dk,⟨_,_,rfl,rfl,rfl⟩,az⟩:=St.openR a6
  obtain rfl:r12=dj:=by simpa using dk
  refine AA (x:=(a.1)) az rfl ?_
  refine AA (x:=(a.2)) az rfl ?_
  refine AH az.at2 rfl rfl fun ey dl=> ?_
  refine AH dl rfl rfl fun ez b0=> ?_
  refine AA (x:=(a.1)) b0 rfl ?_
  refine AA (x:=(a.2)) b0 rfl ?_
  obtain rfl:=iS hd
  exact AB ⟨a9,(((a.1),(a.2),()),false,()),((((((((b.trans c).trans d).trans j).trans o).trans p).trans w).trans z).trans aa),rfl,rfl,b0.tail.tail.tail.tail⟩
 obtain ⟨dm,s,hd⟩:=bS hd
 refine AX (fun (y:Bool×Unit) w_ g=> ∃ψ:AC,Sub a9 ψ∧y.1=g∧St ψ (cO 77 (Rep.ro CR) (some ⟨r12,0,none⟩) a::cW 77 r11 [.int .i64 (1:Int), .int .i64 shift_2] ::Wq8 r2::Wq2 r1 p_0::F) w_) (g:=dm) ?_ ?_
 ·refine AI s rfl (fun _ s=> ?_) (fun _ s=> ?_)
  ·refine AA (x:=p_0.2.2.2.2.1) a6.at3 rfl ?_
   obtain ⟨dn,dp,s⟩:=bS s
   refine CB b9 dp (Sub.trans ((((((((b.trans c).trans d).trans j).trans o).trans p).trans w).trans z).trans aa) a6.sub) ?_
   obtain rfl:=iS s
   exact AM ((dn==(3:Int)),()) rfl ⟨a9,(Sub.refl _),rfl,a6.at3.at3.at3.at3⟩
  obtain rfl:=iS s
  exact AM (false,()) rfl ⟨a9,(Sub.refl _),rfl,a6.at3.at3.at3.at3⟩
 rintro z50 f0 ⟨bj,bk,rfl,ab⟩
 try dsimp only at hd
 refine AI hd rfl (fun _ hd=> ?_) (fun _ hd=> ?_)
 ·refine AH ab.at2 rfl rfl fun f1 dq=> ?_
  refine AH dq rfl rfl fun f2 b1=> ?_
  refine AA (x:=(0:Int)) b1 rfl ?_
  refine AA (x:=(0:Int)) b1 rfl ?_
  obtain rfl:=iS hd
  exact AB ⟨bj,(((0:Int),(0:Int),()),false,()),(((((((((b.trans c).trans d).trans j).trans o).trans p).trans w).trans z).trans aa).trans bk),rfl,rfl,b1.tail.tail.tail.tail⟩
 refine AA (x:=(1:Int)) ab.at1 rfl ?_
 refine AA (x:=shift_2) ab.at1 rfl ?_
 refine AH ab.at2 rfl rfl fun f3 dr=> ?_
 refine AH dr rfl rfl fun f4 b2=> ?_
 refine AA (x:=(1:Int)) b2 rfl ?_
 refine AA (x:=shift_2) b2 rfl ?_
 obtain rfl:=iS hd
 exact AB ⟨bj,(((1:Int),shift_2,()),false,()),(((((((((b.trans c).trans d).trans j).trans o).trans p).trans w).trans z).trans aa).trans bk),rfl,rfl,b2.tail.tail.tail.tail⟩
noncomputable def Bh (small_0:LB) (term_1:Int) (shift_2:Int) (rules_3:List Int):Option Bool:=
 (B5).bind fun t2=>
 (BZ (small_0.1,small_0.2.1,small_0.2.2.1,small_0.2.2.2.1,small_0.2.2.2.2.1,small_0.2.2.2.2.2.1,small_0.2.2.2.2.2.2) (20:Int) (8:Int)).bind fun t10=>
 (cond (!t10)
 (some true)
 (some (decide ((((List.length rules_3):Nat):Int) >(10:Int))))).bind fun z11=>
 cond z11
 (some t2)
 ((BC (small_0.1,small_0.2.1,small_0.2.2.1,small_0.2.2.2.1,small_0.2.2.2.2.1,small_0.2.2.2.2.2.1,small_0.2.2.2.2.2.2)).bind fun t19=>
  (Ba (t19.1,t19.2.1,t19.2.2.1,t19.2.2.2.1,t19.2.2.2.2.1,t19.2.2.2.2.2) term_1 shift_2 rules_3).bind fun t27=>
  (CC (t19.1,t19.2.1,t19.2.2.1,t19.2.2.2.1,t19.2.2.2.2.1,t19.2.2.2.2.2) term_1 shift_2 rules_3).bind fun t35=>
  (cond t2
  (cond ((t27.1==t35.1) && ((t27.2.1==t35.2.1) && true))
   (some (t27.2.2==t35.2.2))
   (some false))
  (some false)).bind fun z37=>
  some z37)
theorem FM {φ:AC} {h:AF} {F:List Chk} {small_0:Int×Int×Slc×Slc×Slc×Slc×Slc×Unit} {t:List Int} {u:List (List Int)} {w:List Int} {z:List Int} {a0:List Int} {term_1:Int} {shift_2:Int} {rules_3:Slc} {o:List Int} (gk:JX φ) (a1:Ro.SliceIs (Ro.int .u8) φ small_0.2.2.1 t) (a2:Ro.SliceIs (Ro.list (Ro.int .u8)) φ small_0.2.2.2.1 u) (a3:Ro.SliceIs (Ro.int .u8) φ small_0.2.2.2.2.1 w) (a4:Ro.SliceIs (Ro.int .u8) φ small_0.2.2.2.2.2.1 z) (a5:Ro.SliceIs (Ro.int .u8) φ small_0.2.2.2.2.2.2.1 a0) (p:Ro.SliceIs (Ro.int .i64) φ rules_3 o) (s0:St φ (F) h) {r:Bool} (hd:Bh (small_0.1,small_0.2.1,t,u,w,z,a0) term_1 shift_2 o=some r):
 CallsH Tryz.prog 8 [(.agg #[(.int .u8 small_0.1),(.int .u8 small_0.2.1),(sv small_0.2.2.1),(sv small_0.2.2.2.1),(sv small_0.2.2.2.2.1),(sv small_0.2.2.2.2.2.1),(sv small_0.2.2.2.2.2.2.1)]),(.int .i64 term_1),(.int .i64 shift_2),(sv rules_3)] h (Ai fun v h'=> ∃ψ:AC,∃y:Bool,Sub φ ψ∧v=((.one aB):Sh).val y∧y=r∧St ψ (F) h'):=by
 refine AN mixed Tryz.func8 ?_
 rw [FF]
 unfold DB
 unfold Bh at hd
 have ad:rules_3.2.1=List.length o:=p.length
 refine AR (vs:= [.int .u8 small_0.1, .int .u8 small_0.2.1,sv small_0.2.2.1,sv small_0.2.2.2.1,sv small_0.2.2.2.2.1,sv small_0.2.2.2.2.2.1,sv small_0.2.2.2.2.2.2.1]) s0 fun r1 b7 ae=> ?_
 obtain ⟨b8,af,hd⟩:=bS hd
 refine AJ (EV gk ae af) ?_
 rintro _ b9 ⟨ba,t2,a,rfl,rfl,f⟩
 refine ⟨t2,rfl,?_⟩
 refine AA (x:=small_0.1) f rfl ?_
 refine AA (x:=small_0.2.1) f rfl ?_
 refine AA (x:=small_0.2.2.1) f rfl ?_
 refine AA (x:=small_0.2.2.2.1) f rfl ?_
 refine AA (x:=small_0.2.2.2.2.1) f rfl ?_
 refine AA (x:=small_0.2.2.2.2.2.1) f rfl ?_
 refine AA (x:=small_0.2.2.2.2.2.2.1) f rfl ?_
 obtain ⟨bb,ag,hd⟩:=bS hd
 refine AJ (F3 (s_0:=(small_0.1,small_0.2.1,small_0.2.2.1,small_0.2.2.2.1,small_0.2.2.2.2.1,small_0.2.2.2.2.2.1,small_0.2.2.2.2.2.2.1,())) (a1.mono a) (a2.mono a) (a3.mono a) (a4.mono a) (a5.mono a) f ag) ?_
 rintro _ bc ⟨q,t10,b,rfl,rfl,a6⟩
 refine ⟨t10,rfl,?_⟩
 obtain ⟨ah,m,hd⟩:=bS hd
 refine AX (fun (y:Bool×Unit) w_ g=> ∃ψ:AC,Sub q ψ∧y.1=g∧St ψ (Wq0 r1 small_0::F) w_) (g:=ah) ?_ ?_
 ·refine AI m rfl (fun _ m=> ?_) (fun _ m=> ?_)
  ·obtain rfl:=iS m
   exact AM (true,()) rfl ⟨q,(Sub.refl _),rfl,a6⟩
  obtain rfl:=iS m
  exact AM ((decide (((rules_3.2.1:Nat):Int) >(10:Int))),()) rfl ⟨q,(Sub.refl _),(by rw [ad]),a6⟩
 rintro z11 bd ⟨ai,c,rfl,d⟩
 try dsimp only at hd
 refine AI hd rfl (fun _ hd=> ?_) (fun _ hd=> ?_)
 ·obtain rfl:=iS hd
  exact AB ⟨ai,t2,((a.trans b).trans c),rfl,rfl,d.tail⟩
 refine AA (x:=small_0.1) d rfl ?_
 refine AA (x:=small_0.2.1) d rfl ?_
 refine AA (x:=small_0.2.2.1) d rfl ?_
 refine AA (x:=small_0.2.2.2.1) d rfl ?_
 refine AA (x:=small_0.2.2.2.2.1) d rfl ?_
 refine AA (x:=small_0.2.2.2.2.2.1) d rfl ?_
 refine AA (x:=small_0.2.2.2.2.2.2.1) d rfl ?_
 obtain ⟨be,aj,hd⟩:=bS hd
 refine AJ (C8 (s_0:=(small_0.1,small_0.2.1,small_0.2.2.1,small_0.2.2.2.1,small_0.2.2.2.2.1,small_0.2.2.2.2.2.1,small_0.2.2.2.2.2.2.1,())) (a1.mono ((a.trans b).trans c)) (a2.mono ((a.trans b).trans c)) (a3.mono ((a.trans b).trans c)) (a4.mono ((a.trans b).trans c)) (a5.mono ((a.trans b).trans c)) d aj) ?_
 rintro _ bf ⟨bg,t19,bh,bi,bj,bk,bl,bm,s,rfl,rfl,a7,a8,a9,aa,ab,ac,ak⟩
 refine ⟨t19,rfl,?_⟩
 try dsimp only at hd
 refine AR (vs:= [.slice none 0 0, .slice none 0 0, .slice none 0 0, .slice none 0 0, .slice none 0 0, .slice none 0 0]) ak fun r20 bn al=> ?_
 refine AH al rfl rfl fun bo am=> ?_
 refine AH am rfl rfl fun bp an=> ?_
 refine AH an rfl rfl fun bq ao=> ?_
 refine AH ao rfl rfl fun br ap=> ?_
 refine AH ap rfl rfl fun bs aq=> ?_
 refine AH aq rfl rfl fun bt j=> ?_
 refine AA (x:=t19.1) j rfl ?_
 refine AA (x:=t19.2.1) j rfl ?_
 refine AA (x:=t19.2.2.1) j rfl ?_
 refine AA (x:=t19.2.2.2.1) j rfl ?_
 refine AA (x:=t19.2.2.2.2.1) j rfl ?_
 refine AA (x:=t19.2.2.2.2.2.1) j rfl ?_
 obtain ⟨bu,ar,hd⟩:=bS hd
 refine AJ (Es (p_0:=(t19.1,t19.2.1,t19.2.2.1,t19.2.2.2.1,t19.2.2.2.2.1,t19.2.2.2.2.2.1,())) a7 a8 a9 aa ab ac (p.mono (((a.trans b).trans c).trans s)) j ar) ?_
 rintro _ bv ⟨bw,t27,i,rfl,rfl,au⟩
 refine ⟨t27,rfl,?_⟩
 try dsimp only at hd
 refine AR (vs:= [.int .i64 (0:Int), .int .i64 (0:Int)]) au fun r28 bx av=> ?_
 refine AH av rfl rfl fun bz aw=> ?_
 refine AH aw rfl rfl fun c0 k=> ?_
 refine AA (x:=t19.1) k.at1 rfl ?_
 refine AA (x:=t19.2.1) k.at1 rfl ?_
 refine AA (x:=t19.2.2.1) k.at1 rfl ?_
 refine AA (x:=t19.2.2.2.1) k.at1 rfl ?_
 refine AA (x:=t19.2.2.2.2.1) k.at1 rfl ?_
 refine AA (x:=t19.2.2.2.2.2.1) k.at1 rfl ?_
 obtain ⟨c1,ax,hd⟩:=bS hd
 refine AJ (IC (p_0:=(t19.1,t19.2.1,t19.2.2.1,t19.2.2.2.1,t19.2.2.2.2.1,t19.2.2.2.2.2.1,())) (a7.mono i) (a8.mono i) (a9.mono i) (aa.mono i) (ab.mono i) (ac.mono i) (p.mono ((((a.trans b).trans c).trans s).trans i)) k ax) ?_
 rintro _ c2 ⟨n,t35,ay,rfl,rfl,az⟩
 refine ⟨t35,rfl,?_⟩
 try dsimp only at hd
 refine AR (vs:= [.int .i64 (0:Int), .int .i64 (0:Int)]) az fun r36 c3 b0=> ?_
 refine AH b0 rfl rfl fun c4 b1=> ?_
 refine AH b1 rfl rfl fun c5 l=> ?_
 obtain ⟨b2,e,hd⟩:=bS hd
 refine AX (fun (y:Bool×Unit) w_ g=> ∃ψ:AC,Sub n ψ∧y.1=g∧St ψ (cW 77 r36 [.int .i64 t35.1.1, .int .i64 t35.1.2.1] ::cW 77 r28 [.int .i64 t27.1.1, .int .i64 t27.1.2.1] ::cW 32 r20 [sv t19.1,sv t19.2.1,sv t19.2.2.1,sv t19.2.2.2.1,sv t19.2.2.2.2.1,sv t19.2.2.2.2.2.1] ::Wq0 r1 small_0::F) w_) (g:=b2) ?_ ?_
 ·refine AI e rfl (fun _ e=> ?_) (fun _ e=> ?_)
  ·refine AA (x:=t27.1.1) l.at1 rfl ?_
   refine AA (x:=t27.1.2.1) l.at1 rfl ?_
   refine AA (x:=t35.1.1) l rfl ?_
   refine AA (x:=t35.1.2.1) l rfl ?_
   refine AI e rfl (fun _ e=> ?_) (fun _ e=> ?_)
   ·have b3:=l.at3
    obtain rfl:=iS e
    exact AM ((t27.2.1==t35.2.1),()) rfl ⟨n,(Sub.refl _),rfl,b3.at3.at3.at3⟩
   obtain rfl:=iS e
   exact AM (false,()) rfl ⟨n,(Sub.refl _),rfl,l.at3.at3.at3.at3⟩
  obtain rfl:=iS e
  exact AM (false,()) rfl ⟨n,(Sub.refl _),rfl,l.at3.at3.at3.at3⟩
 rintro z37 c6 ⟨b4,b5,rfl,b6⟩
 try dsimp only at hd
 obtain rfl:=iS hd
 exact AB ⟨b4,z37.1,((((((a.trans b).trans c).trans s).trans i).trans ay).trans b5),rfl,rfl,b6.tail.tail.tail.tail⟩
def lvl (p:BJ) (term:Int):Int:=if term<0∨((p.2.2.2.1.length:Nat):Int) ≤term then 0 else (idx p.2.2.2.1 term).getD 0
def hgt (p:BJ) (k:Int):Int:=if k<0∨((p.2.2.1.length:Nat):Int) ≤k then 0 else ((idx p.2.2.1 k).map (·.2.2)).getD 0
def asc (p:BJ) (t:Int):Int:=(idx p.2.2.2.2.1 t).getD 0
def red (k:Int):Int×Int:=if k=0 then (3,0) else (2,k)
theorem GE {α:Type} {l:List α} {i:Int} (h0:0≤i) (h1:i< ((l.length:Nat):Int)):idx l i=some l[i.toNat] :=by
 unfold idx
 rw [if_pos h0,List.getElem?_eq_getElem]
theorem SY (p:BJ) (term:Int):C2 p term=some (lvl p term):=by
 refine Ok.eq ?_
 unfold C2 lvl
 refine Ae (Q:=fun c=>c=decide (term<0∨((p.2.2.2.1.length:Nat):Int) ≤term)) (Am (fun h=>AP ?_) fun h=>AP ?_) fun c hc=> ?_
 ·exact (decide_eq_true (.inl (of_decide_eq_true h))).symm
 ·have h:=of_decide_eq_false h
  rw [Bool.eq_iff_iff,decide_eq_true_eq,decide_eq_true_eq]
  omega
 ·subst hc
  refine Am (fun h=>AP ?_) fun h=> ?_
  ·rw [if_pos (of_decide_eq_true h)]
  ·have h:=of_decide_eq_false h
   have e:=GE (l:=p.2.2.2.1) (i:=term) (by omega) (by omega)
   rw [if_neg h,e]
   exact AP rfl
theorem Rx (p:BJ) (k:Int):Cj p k=some (hgt p k):=by
 refine Ok.eq ?_
 unfold Cj hgt
 refine Ae (Q:=fun c=>c=decide (k<0∨((p.2.2.1.length:Nat):Int) ≤k)) (Am (fun h=>AP ?_) fun h=>AP ?_) fun c hc=> ?_
 ·exact (decide_eq_true (.inl (of_decide_eq_true h))).symm
 ·have h:=of_decide_eq_false h
  rw [Bool.eq_iff_iff,decide_eq_true_eq,decide_eq_true_eq]
  omega
 ·subst hc
  refine Am (fun h=>AP ?_) fun h=> ?_
  ·rw [if_pos (of_decide_eq_true h)]
  ·have h:=of_decide_eq_false h
   have e:=GE (l:=p.2.2.1) (i:=k) (by omega) (by omega)
   rw [if_neg h,e]
   exact AP rfl
theorem L9 (k:Int):Bg k=some (red k):=by
 unfold Bg red
 by_cases h:k=0
 ·subst h; rfl
 ·rw [if_neg h,show (k==(0:Int))=false by simpa using h,cond_false]
def byF (p:BJ) (term s k:Int):Int×Int×Bool:=
 if lvl p term≤0∨hgt p k≤0 then (1,s,true)
 else if hgt p k=lvl p term∧asc p (lvl p term)=3 then (0,0,false)
 else if (hgt p k=lvl p term∧asc p (lvl p term)=1)∨lvl p term<hgt p k then ((red k).1,k,false)
 else (1,s,false)
theorem UD (p:BJ) (term s k:Int) (hA:0≤lvl p term→lvl p term< ((p.2.2.2.2.1.length:Nat):Int)):DU p term ((1:Int),s) (red k)=some (byF p term s k):=by
 unfold DU
 rw [show ((p.1,p.2.1,p.2.2.1,p.2.2.2.1,p.2.2.2.2.1,p.2.2.2.2.2):BJ)=p from rfl,SY]
 have hk:(red k).2=k:=by unfold red; split<;>simp_all
 rw [Option.bind_some,hk,Rx,Option.bind_some]
 unfold byF
 by_cases h0:lvl p term≤0
 ·rw [if_pos (.inl h0),decide_eq_true h0,cond_true,Option.bind_some,cond_true]
 ·rw [decide_eq_false h0,cond_false,Option.bind_some]
  by_cases h1:hgt p k≤0
  ·rw [if_pos (.inr h1),decide_eq_true h1,cond_true]
  ·rw [if_neg (by omega),decide_eq_false h1,cond_false]
   by_cases e:hgt p k=lvl p term
   ·have ha:idx p.2.2.2.2.1 (lvl p term)=some (asc p (lvl p term)):=by
     unfold asc
     rw [GE (by omega) (hA (by omega))]
     rfl
    have e2:(hgt p k==lvl p term)=true:=by simpa using e
    rw [e2,cond_true,cond_true,ha,Option.bind_some,Option.bind_some]
    by_cases a3:asc p (lvl p term)=3
    ·rw [if_pos ⟨e,a3⟩,show (asc p (lvl p term)==(3:Int))=true by simpa using a3]
     rfl
    ·rw [if_neg (fun h=>a3 h.2),show (asc p (lvl p term)==(3:Int))=false by simpa using a3,cond_false,Option.bind_some,Option.bind_some]
     by_cases a1:asc p (lvl p term)=1
     ·rw [if_pos (.inl ⟨e,a1⟩),show (asc p (lvl p term)==(1:Int))=true by simpa using a1]
      rfl
     ·rw [if_neg (fun h=>h.elim (fun h=>a1 h.2) fun h=>by omega),show (asc p (lvl p term)==(1:Int))=false by simpa using a1,decide_eq_false (show ¬hgt p k>lvl p term by omega)]
      rfl
   ·have e2:(hgt p k==lvl p term)=false:=by simpa using e
    rw [e2,cond_false,cond_false,if_neg (fun h=>e h.1)]
    by_cases g:lvl p term<hgt p k
    ·rw [if_pos (.inr g),decide_eq_true (show hgt p k>lvl p term from g)]
     rfl
    ·rw [if_neg (fun h=>h.elim (fun h=>e h.1) g),decide_eq_false (show ¬hgt p k>lvl p term from g)]
     rfl
structure MA (l:List Int) (m:Int):Prop where
 mem:m ∈ l
 le: ∀x ∈ l,m≤x
theorem MA.eq {l:List Int} {m n:Int} (h:MA l m) (k:MA l n):m=n:=by
 have:=h.le n k.mem
 have:=k.le m h.mem
 omega
theorem FN {l:List Int} {j:Nat} {x:Int} (hx:l[j]? =some x) {y:Int} :y ∈ l.take (j+1) ↔ y ∈ l.take j∨y=x:=by
 rw [List.take_add_one,hx,List.mem_append]
 simp
theorem T2 {l:List Int} (hl:l.length≤1000000) (hp:0<l.length):Ok (Rr l) (MA l):=by
 have h0:=List.getElem?_eq_getElem hp
 unfold Rr
 refine BU (i:=0) h0 ?_
 have e:((l.length:Nat):Int)=1+((l.length - 1:Nat):Int):=by omega
 unfold forS
 rw [if_pos ⟨by omega,by omega⟩]
 obtain ⟨s',h1,h2⟩:=Lf (f:=fun i z=>(idx l i).bind fun x=>some (if x<z then x else z)) (fun i z=>0≤i∧MA (l.take i.toNat) z) (((l.length:Nat):Int) - 1).toNat 1 l[0] ⟨by omega,by
  have e1:l.take (1:Int).toNat= [l[0]] :=by
   show l.take 1=_
   rw [List.take_one]
   simp [List.head?_eq_getElem?,h0]
  rw [e1]
  exact ⟨by simp,by simp⟩⟩ fun j s hj hj' ⟨hj0,hI⟩=>by
   have hlt:j.toNat<l.length:=by omega
   have hx:=List.getElem?_eq_getElem hlt
   refine ⟨if l[j.toNat] <s then l[j.toNat] else s,?_,by omega,?_⟩
   ·unfold idx
    rw [if_pos (by omega),hx]
    rfl
   ·rw [show (j+1).toNat=j.toNat+1 by omega]
    by_cases g:l[j.toNat] <s
    ·rw [if_pos g]
     exact ⟨(FN hx).2 (.inr rfl),fun y hy=>(FN hx).1 hy |>.elim (fun hy=>by have:=hI.le y hy; omega) fun hy=>by omega⟩
    ·rw [if_neg g]
     exact ⟨(FN hx).2 (.inl hI.mem),fun y hy=>(FN hx).1 hy |>.elim (hI.le y) fun hy=>by omega⟩
 refine ⟨s',h1,?_⟩
 have e2:((1:Int) +((((l.length:Nat):Int) - 1).toNat:Nat)).toNat=l.length:=by omega
 have h3:=h2.2
 rw [e2,List.take_of_length_le (Nat.le_refl _)] at h3
 exact h3
def OI (p:BJ) (term s:Int) (l:List Int) (r:Int×Int×Bool):Prop:=
 (l= [] ∧s<0∧r=(0,0,false))∨(l= [] ∧0≤s∧r=(1,s,false))∨(∃k,l= [k] ∧s<0∧r=((red k).1,(red k).2,false))∨(∃k,l= [k] ∧0≤s∧r=byF p term s k)∨
 (1<l.length∧0≤s∧r=(1,s,true))∨(1<l.length∧s<0∧ ∃m,MA l m∧r=((red m).1,(red m).2,true))
theorem Tc (p:BJ) (term s:Int) {l:List Int} (hl:l.length≤1000000) (hA:0≤lvl p term→lvl p term< ((p.2.2.2.2.1.length:Nat):Int)):Ok (Ba p term s l) (OI p term s l):=by
 unfold Ba
 match l,hl with
 | [],_=>
  refine Ae (Q:=fun c=>c=decide (s<0)) (Cp rfl (AP rfl)) fun c hc=> ?_
  subst hc
  exact Am (fun h=>AP (.inl ⟨rfl,of_decide_eq_true h,rfl⟩)) fun h=>Cp rfl (AP (.inr (.inl ⟨rfl,by have:=of_decide_eq_false h; omega,rfl⟩)))
 | [k],_=>
  refine Ae (Q:=fun c=>c=false) (As rfl (AP rfl)) fun c hc=> ?_
  subst hc
  refine As rfl (As rfl (Ae (Q:=fun c=>c=decide (s<0)) (Cp rfl (AP rfl)) fun c hc=> ?_))
  subst hc
  refine Am (fun h=>BG rfl (BG (L9 k) (AP (.inr (.inr (.inl ⟨k,rfl,of_decide_eq_true h,rfl⟩)))))) fun h=>Cp rfl (BG rfl (BG (L9 k) (BG (UD p term s k hA) (AP (.inr (.inr (.inr (.inl ⟨k,rfl,by have:=of_decide_eq_false h; omega,rfl⟩))))))))
 | a::b::l,hl=>
  have e0:((((List.length (a::b::l)):Nat):Int)==(0:Int))=false:=by simp; omega
  have e1:((((List.length (a::b::l)):Nat):Int)==(1:Int))=false:=by simp; omega
  have hlen:1< (a::b::l).length:=by simp
  refine Ae (Q:=fun c=>c=false) (As e0 (AP rfl)) fun c hc=> ?_
  subst hc
  refine As rfl (As e0 (Ae (Q:=fun c=>c=false) (As e1 (AP rfl)) fun c hc=> ?_))
  subst hc
  refine As rfl (As e1 (Am (fun h=>AP (.inr (.inr (.inr (.inr (.inl ⟨hlen,of_decide_eq_true h,rfl⟩)))))) fun h=> ?_))
  refine Ae (T2 hl (by omega)) fun m hm=>BG (L9 m) (AP (.inr (.inr (.inr (.inr (.inr ⟨hlen,by have:=of_decide_eq_false h; omega,m,hm,rfl⟩))))))
theorem OI.eq {p:BJ} {term s:Int} {l:List Int} {r r':Int×Int×Bool} (h:OI p term s l r) (h':OI p term s l r'):r=r':=by
 rcases h with ⟨rfl,g,rfl⟩ | ⟨rfl,g,rfl⟩ | ⟨k,rfl,g,rfl⟩ | ⟨k,rfl,g,rfl⟩ | ⟨q,g,rfl⟩ | ⟨q,g,m,hm,rfl⟩ <;>
 rcases h' with ⟨q',g',rfl⟩ | ⟨q',g',rfl⟩ | ⟨k',q',g',rfl⟩ | ⟨k',q',g',rfl⟩ | ⟨q',g',rfl⟩ | ⟨q',g',m',hm',rfl⟩ <;>
 first
  | rfl
  | (exfalso; omega)
  | (cases q'; done)
  | (cases q'; rfl)
  | (exfalso; simp at q'; done)
  | (exfalso; subst q'; simp at q; done)
  | (exfalso; simp at q'; omega)
  | (exfalso; subst q'; simp at q; omega)
  | (rw [hm.eq hm'])
theorem UE (k:Int):(red k).2=k:=by unfold red; split<;>simp_all
theorem QR (p:BJ) (term s:Int) {l:List Int} (hl:l.length≤1000000) (hA:0≤lvl p term→lvl p term< ((p.2.2.2.2.1.length:Nat):Int)):Ok (CC p term s l) (OI p term s l):=by
 unfold CC
 refine HV (fun j (z:Int)=>(j=0→z=0)∧(0<j→MA (l.take j) z)) (by omega) ⟨fun _=>rfl,fun h=>by omega⟩ (fun j z hj hz=> ?_) fun z hz=> ?_
 ·have hx:=List.getElem?_eq_getElem hj
  obtain ⟨x,hxe⟩: ∃x,l[j] =x:=⟨_,rfl⟩
  rw [hxe] at hx
  refine Ae (Q:=fun c=>c=decide (j=0∨x<z)) (Am (fun h=>AP ?_) fun h=>BU hx (AP ?_)) fun c hc=> ?_
  ·have:(j:Int)=0:=eq_of_beq h
   exact (decide_eq_true (.inl (by omega))).symm
  ·have:(j:Int) ≠ 0:=by simpa using h
   rw [Bool.eq_iff_iff,decide_eq_true_eq,decide_eq_true_eq]
   omega
  subst hc
  refine Ae (Q:=fun y=>y=if j=0∨x<z then x else z) (Am (fun h=>BU hx (AP ?_)) fun h=>AP ?_) fun y hy=>AP ⟨fun h=>by omega,fun _=> ?_⟩
  ·rw [if_pos (of_decide_eq_true h)]
  ·rw [if_neg (of_decide_eq_false h)]
  ·subst hy
   by_cases h0:j=0
   ·subst h0
    rw [if_pos (.inl rfl),List.take_add_one,hx]
    exact ⟨by simp,by simp⟩
   ·have hI:=hz.2 (by omega)
    by_cases g:x<z
    ·rw [if_pos (.inr g)]
     exact ⟨(FN hx).2 (.inr rfl),fun y hy=>(FN hx).1 hy |>.elim (fun hy=>by have:=hI.le y hy; omega) fun hy=>by omega⟩
    ·rw [if_neg (by omega)]
     exact ⟨(FN hx).2 (.inl hI.mem),fun y hy=>(FN hx).1 hy |>.elim (hI.le y) fun hy=>by omega⟩
 obtain ⟨z0,z1⟩:=hz
 rw [List.take_of_length_le (Nat.le_refl _)] at z1
 refine Ae (Q:=fun y=>y=red z) (Am (fun h=>AP ?_) fun h=>AP ?_) fun y hy=> ?_
 ·unfold red; rw [if_pos (eq_of_beq h)]
 ·unfold red; rw [if_neg (by simpa using h)]
 subst hy
 refine Ae (Q:=fun c=>c=decide (s<0∧l= [])) (Am (fun h=>AP ?_) fun h=>AP ?_) fun c hc=> ?_
 ·have h:=of_decide_eq_true h
  rw [Bool.eq_iff_iff,beq_iff_eq,decide_eq_true_eq]
  constructor
  ·intro g; exact ⟨h,List.eq_nil_of_length_eq_zero (by omega)⟩
  ·rintro ⟨_,rfl⟩; rfl
 ·have h:=of_decide_eq_false h
  exact (decide_eq_false (fun g=>h g.1)).symm
 subst hc
 refine Am (fun h=>AP (.inl ⟨(of_decide_eq_true h).2,(of_decide_eq_true h).1,rfl⟩)) fun hne=> ?_
 have hne:=of_decide_eq_false hne
 refine Am (fun h=>AP ?_) fun h=> ?_
 ·have h:=of_decide_eq_true h
  have hp:0<l.length:=List.length_pos_iff.2 fun e=>hne ⟨h,e⟩
  have hL:=z1 hp
  by_cases g:1<l.length
  ·rw [decide_eq_true (show (((List.length l):Nat):Int) >1 by omega)]
   exact .inr (.inr (.inr (.inr (.inr ⟨g,h,z,hL,rfl⟩))))
  ·rw [decide_eq_false (show ¬(((List.length l):Nat):Int) >1 by omega)]
   match l,hp,g with
   | [k],_,_=>
    have:z=k:=by simpa using hL.mem
    subst this
    exact .inr (.inr (.inl ⟨z,rfl,h,rfl⟩))
   | a::b::l,_,g=>simp at g
 ·have hs:0≤s:=by have:=of_decide_eq_false h; omega
  refine Am (fun h1=>AP ?_) fun h1=> ?_
  ·have h1:(((List.length l):Nat):Int) ≠ 1:=by simpa using h1
   by_cases g:1<l.length
   ·rw [decide_eq_true (show (((List.length l):Nat):Int) >1 by omega)]
    exact .inr (.inr (.inr (.inr (.inl ⟨g,hs,rfl⟩))))
   ·rw [decide_eq_false (show ¬(((List.length l):Nat):Int) >1 by omega)]
    exact .inr (.inl ⟨List.eq_nil_of_length_eq_zero (by omega),hs,rfl⟩)
  ·have h1:(((List.length l):Nat):Int)=1:=by simpa using h1
   have hp:0<l.length:=by omega
   have hL:=z1 hp
   have hone:l= [z] :=by
    match l,h1 with
    | [k],_=>
     have:z=k:=by simpa using hL.mem
     rw [this]
    | [],h1=>simp at h1
    | a::b::l,h1=>simp at h1; omega
   refine Ok.mono (Q:=fun r=>r=byF p term s z) ?_ fun r hr=> .inr (.inr (.inr (.inl ⟨z,hone,hs,hr⟩)))
   refine Ae (Q:=fun c=>c=decide (0≤term∧term< ((p.2.2.2.1.length:Nat):Int))) (Am (fun h=>AP ?_) fun h=>AP ?_) fun c hc=> ?_
   ·have h:=of_decide_eq_true h
    rw [Bool.eq_iff_iff,decide_eq_true_eq,decide_eq_true_eq]
    omega
   ·have h:=of_decide_eq_false h
    exact (decide_eq_false (by omega)).symm
   subst hc
   refine Ae (Q:=fun t=>t=lvl p term) (Am (fun h=> ?_) fun h=>AP ?_) fun t ht=> ?_
   ·have h:=of_decide_eq_true h
    have e:=GE (l:=p.2.2.2.1) (i:=term) h.1 h.2
    refine BG e (AP ?_)
    unfold lvl
    rw [if_neg (by omega),e]
    rfl
   ·have h:=of_decide_eq_false h
    unfold lvl
    rw [if_pos (by omega)]
   refine Ae (Q:=fun c=>c=decide (0≤z∧z< ((p.2.2.1.length:Nat):Int))) (Am (fun h=>AP ?_) fun h=>AP ?_) fun c hc=> ?_
   ·have h:=of_decide_eq_true h
    rw [Bool.eq_iff_iff,decide_eq_true_eq,decide_eq_true_eq]
    omega
   ·have h:=of_decide_eq_false h
    exact (decide_eq_false (by omega)).symm
   subst hc
   refine Ae (Q:=fun t=>t=hgt p z) (Am (fun h=> ?_) fun h=>AP ?_) fun r hr=> ?_
   ·have h:=of_decide_eq_true h
    have e:=GE (l:=p.2.2.1) (i:=z) h.1 h.2
    refine BG e (AP ?_)
    unfold hgt
    rw [if_neg (by omega),e]
    rfl
   ·have h:=of_decide_eq_false h
    unfold hgt
    rw [if_pos (by omega)]
   subst ht hr
   refine Ae (Q:=fun c=>c=decide (lvl p term≤0∨hgt p z≤0)) (Am (fun h=>AP ?_) fun h=>AP ?_) fun c hc=> ?_
   ·have h:=of_decide_eq_true h
    exact (decide_eq_true (by omega)).symm
   ·have h:=of_decide_eq_false h
    rw [Bool.eq_iff_iff,decide_eq_true_eq,decide_eq_true_eq]
    omega
   subst hc
   unfold byF
   refine Am (fun h=>AP ?_) fun h=> ?_
   ·rw [if_pos (of_decide_eq_true h)]
   have h:=of_decide_eq_false h
   rw [if_neg h]
   have ha:lvl p term=hgt p z→idx p.2.2.2.2.1 (lvl p term)=some (asc p (lvl p term)):=fun e=>by
    unfold asc
    rw [GE (by omega) (hA (by omega))]
    rfl
   refine Ae (Q:=fun c=>c=decide (lvl p term<hgt p z∨(hgt p z=lvl p term∧asc p (lvl p term)=1))) (Am (fun h=>AP ?_) fun h=>Am (fun h2=>BG (ha (eq_of_beq h2).symm) (AP ?_)) fun h2=>AP ?_) fun c hc=> ?_
   ·exact (decide_eq_true (.inl (of_decide_eq_true h))).symm
   ·have h2:=eq_of_beq h2
    have h:=of_decide_eq_false h
    rw [Bool.eq_iff_iff,beq_iff_eq,decide_eq_true_eq]
    constructor
    ·intro g; exact .inr ⟨h2,g⟩
    ·rintro (g | g)
     ·omega
     ·exact g.2
   ·have h2:hgt p z ≠ lvl p term:=by simpa using h2
    have h:=of_decide_eq_false h
    exact (decide_eq_false (by omega)).symm
   subst hc
   refine Am (fun h=>AP ?_) fun h=> ?_
   ·have h:=of_decide_eq_true h
    rw [if_neg (by omega),if_pos (by omega),UE]
   have h:=of_decide_eq_false h
   refine Ae (Q:=fun c=>c=decide (hgt p z=lvl p term∧asc p (lvl p term)=3)) (Am (fun h2=>BG (ha (eq_of_beq h2).symm) (AP ?_)) fun h2=>AP ?_) fun c hc=> ?_
   ·have h2:=eq_of_beq h2
    rw [Bool.eq_iff_iff,beq_iff_eq,decide_eq_true_eq]
    exact ⟨fun g=>⟨h2,g⟩,fun g=>g.2⟩
   ·have h2:hgt p z ≠ lvl p term:=by simpa using h2
    exact (decide_eq_false (fun g=>h2 g.1)).symm
   subst hc
   refine Am (fun h=>AP ?_) fun h3=>AP ?_
   ·rw [if_pos (of_decide_eq_true h)]
   ·rw [if_neg (of_decide_eq_false h3),if_neg (by omega)]
theorem QS {s:LB} (G:SmG s) (term shift:Int) {l:List Int} :Bh s term shift l=some true:=by
 refine Ok.eq ?_
 unfold Bh
 refine BG L8 (Ae (TI G 20 8) fun b hb=> ?_)
 refine Ae (Q:=fun c=>c=false→b=true∧l.length≤10) (Am (fun h=>AP (by simp)) fun h=>AP fun g=>⟨by simpa using h,by have:=of_decide_eq_false g; omega⟩) fun c hc=>Am (fun _=>AP rfl) fun h=> ?_
 obtain ⟨h1,h2⟩:=hc h
 refine Ae (SX G (hb h1)) fun p ⟨nt,nl,hp⟩=> ?_
 have hA:0≤lvl p term→lvl p term< ((p.2.2.2.2.1.length:Nat):Int):=fun _=>by
  have h3:=hp.assocs
  have h4:=hp.levels.2
  have:lvl p term≤(nl:Int):=by
   unfold lvl
   split
   ·omega
   ·rename_i g
    have e:=GE (l:=p.2.2.2.1) (i:=term) (by omega) (by omega)
    rw [e]
    exact (h4 _ (List.getElem_mem _)).2
  omega
 refine Ae (Tc p term shift (by omega) hA) fun x hx=>Ae (QR p term shift (by omega) hA) fun y hy=> ?_
 have:=hx.eq hy
 subst this
 refine Ae (Q:=fun b=>b=true) (Cp rfl (Cp (by simp) (AP (by simp)))) fun b hb=>AP hb
section
variable {h:AF}
theorem resolveKeeps {n m:Nat} {cs:List Value} {x y:Int} {q:Option Addr} {len cap:Nat} (gk:JX (BB h)) (hr:Eb Tryz.prog h n 25 cs) (hq:Eb Tryz.prog h m 30 [.slice q len cap]):
 CallsH Tryz.prog 8 [.agg cs.toArray, .int .i64 x, .int .i64 y, .slice q len cap] h (Ai (PX h)):=by
 obtain ⟨s,d2,d3,d4,d5,d6,rfl,h2,h3,h4,h5,h6,G⟩:=RW hr
 obtain ⟨l,h7,_,_⟩:=RF (Ew Tryz.underlying30 (by kernel_rfl) (Ij Tryz.underlying3)) hq
 exact Ny (FM (small_0:=s) gk h2 h3 h4 h5 h6 h7 (St.start h) (QS G x y))
end
end Go.Proofs.YteolcjbobmpdiaaGreatDoor
