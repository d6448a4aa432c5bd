/-
  Sim2, EngP, EngO, G1, G2, Lays, Sorts, DgLays2, DgVisitD, DgClone, SimB, DgBits, DgSets, DgLow, DgTz, EngR, EngQ, DgEach, DgCollect, DgList, DgApart, DgUnion, DgFrom, DgVisit, DgSetsB, DgObjs, DgWalk, SimW, DgSolveF, LaysS, Str, SetsL, put together.
  Conditions: none; each part tells its own.
-/
import Derived.Test.YteolcjbobmpdiaaGreatDoorKa2
import Derived.KernelRfl
import Derived.Test.YteolcjbobmpdiaaGreatDoorKa1
import Derived.Test.YteolcjbobmpdiaaGreatDoorProg
import Derived.Shelf.Sort.Plain
import Derived.Shelf.SlSortCmp.NoneTotal
import Derived.Shelf.Slices.CompactI
import Derived.Shelf.Small.Wraps
import Derived.Shelf.Slices.In.SortNone
import Derived.Shelf.SlicesE.DeleteFunc
import Derived.Lib.TrailingZeros
import Derived.WalkKit
import Derived.ProofKit
import Derived.OpenShut
import Derived.ShutString
import Derived.ChangeOld
import Derived.Below
import Derived.RangeFuncNested
import Derived.RangeFuncBound
import Derived.RangeFuncCalls
import Derived.RangeFuncLeaves
import Derived.Shelf.Abstract
import Derived.Shelf.RegionOpen
import Derived.OwnWalkIn
import Derived.TacticsInMore
import Derived.LoopNIn
import Derived.LoopIn
import Derived.RangeFuncBox
import Derived.Maps.AppendAt
import Derived.Shelf.GgClosure.Gives
import Derived.Shelf.Strconv.AppendIntPublic10
import Derived.Lib.ItoaLen
namespace Go.Proofs.YteolcjbobmpdiaaGreatDoor
open Go Go.Eng
set_option linter.unusedVariables false
set_option maxRecDepth 100000
theorem Pp:Gu Tryz.prog 29 29 65 3:=⟨Tryz.underlying29, .inl Tryz.underlying29,⟨Tryz.t65,by kernel_rfl,rfl,⟨_,rfl,rfl⟩,by decide,by decide⟩,by decide⟩
theorem F7:Gu Tryz.prog 30 30 3 1:=⟨Tryz.underlying30, .inl Tryz.underlying30,⟨Tryz.t3,by kernel_rfl,rfl,⟨_,rfl,rfl⟩,by decide,by decide⟩,by decide⟩
noncomputable def Cf (g_0:CN):Option (List ByteArray×List ByteArray×List BA×List Int×List Int×List ByteArray×Int×ByteArray):=
 (CB (g_0.1,g_0.2.1,g_0.2.2.1,g_0.2.2.2.1,g_0.2.2.2.2)).bind fun t8=>
 cond (!t8)
 (some (([] :List ByteArray),([] :List ByteArray),([] :List BA),([] :List Int),([] :List Int),([] :List ByteArray),(1:Int),{data:= #[] }))
 ((forS (σ:=Ax) (0:Int) (((List.length g_0.2.2.2.2):Nat):Int) (([{data:= #[36,101,110,100] }] :List ByteArray),([] :List ByteArray),([] :List BA),([(0:Int)] :List Int),([(0:Int)] :List Int),([{data:= #[] }] :List ByteArray)) fun i_z21 z21=>
  (idx g_0.2.2.2.2 i_z21).bind fun e109=>
  (Ar z21.2.1 e109.1).bind fun t27=>
  (cond (decide (t27< (0:Int)))
  ((idx g_0.2.2.2.2 i_z21).bind fun e159=>
   (app (z21.1,z21.2.1,z21.2.2.1,z21.2.2.2.1,z21.2.2.2.2.1,z21.2.2.2.2.2).2.1 ([e159.1] :List ByteArray)).bind fun t34=>
   some ((z21.1,z21.2.1,z21.2.2.1,z21.2.2.2.1,z21.2.2.2.2.1,z21.2.2.2.2.2).1,t34,(z21.1,z21.2.1,z21.2.2.1,z21.2.2.2.1,z21.2.2.2.2.1,z21.2.2.2.2.2).2.2.1,(z21.1,z21.2.1,z21.2.2.1,z21.2.2.2.1,z21.2.2.2.2.1,z21.2.2.2.2.2).2.2.2.1,(z21.1,z21.2.1,z21.2.2.1,z21.2.2.2.1,z21.2.2.2.2.1,z21.2.2.2.2.2).2.2.2.2.1,(z21.1,z21.2.1,z21.2.2.1,z21.2.2.2.1,z21.2.2.2.2.1,z21.2.2.2.2.2).2.2.2.2.2))
  (some (z21.1,z21.2.1,z21.2.2.1,z21.2.2.2.1,z21.2.2.2.2.1,z21.2.2.2.2.2))).bind fun z28=>
  (idx g_0.2.2.2.2 i_z21).bind fun e224=>
  (app z28.2.2.2.2.2 ([e224.2.2.2] :List ByteArray)).bind fun t40=>
  some (z28.1,z28.2.1,z28.2.2.1,z28.2.2.2.1,z28.2.2.2.2.1,t40)).bind fun z20=>
  (Cv (σ:=(Ax×Ax)) (β:=(List ByteArray×List ByteArray×List BA×List Int×List Int×List ByteArray×Int×ByteArray)) (0:Int) (((List.length g_0.1):Nat):Int) ((([] :List ByteArray),([] :List ByteArray),([] :List BA),([] :List Int),([] :List Int),([] :List ByteArray)),z20) fun i_z42 z42=>
   (idx g_0.1 i_z42).bind fun e324=>
   (Ar z42.2.2.1 e324.1).bind fun t48=>
   cond (decide (t48≥ (0:Int)))
   ((idx g_0.1 i_z42).bind fun e346=>
    some (AW.done (([] :List ByteArray),([] :List ByteArray),([] :List BA),([] :List Int),([] :List Int),([] :List ByteArray),(15:Int),e346.1)))
   ((idx g_0.1 i_z42).bind fun e403=>
    (app z42.2.1 ([e403.1] :List ByteArray)).bind fun t63=>
    (idx g_0.1 i_z42).bind fun e431=>
    (Bm (g_0.1,g_0.2.1,g_0.2.2.1,g_0.2.2.2.1,g_0.2.2.2.2) e431.1).bind fun t73=>
    (app z42.2.2.2.2.1 ([t73] :List Int)).bind fun t75=>
    some (AW.next (z42.1,(t63,z42.2.2.1,z42.2.2.2.1,t75,z42.2.2.2.2.2.1,z42.2.2.2.2.2.2))))).bind fun e_z41=>match e_z41 with
  | .next z41=>
   (forS (σ:=Ax) (0:Int) (((List.length g_0.2.2.1):Nat):Int) z41.2 fun i_z77 z77=>
    (idx g_0.2.2.1 i_z77).bind fun e527=>
    (app z77.2.2.2.2.1 ([e527.1] :List Int)).bind fun t84=>
    some (z77.1,z77.2.1,z77.2.2.1,z77.2.2.2.1,t84,z77.2.2.2.2.2)).bind fun z76=>
   (BK (z76.1,z76.2.1) g_0.2.2.2.1).bind fun t94=>
   (Cv (σ:=(Ax×Ax)) (β:=(List ByteArray×List ByteArray×List BA×List Int×List Int×List ByteArray×Int×ByteArray)) (0:Int) (((List.length g_0.2.2.2.2):Nat):Int) (z41.1,(z76.1,z76.2.1,([((IntKind.wrap .i64 ((((List.length z76.1):Nat):Int) +(((List.length z76.2.1):Nat):Int))),([t94] :List Int),(0:Int))] :List BA),z76.2.2.2.1,z76.2.2.2.2.1,z76.2.2.2.2.2)) fun i_z98 z98=>
    (idx g_0.2.2.2.2 i_z98).bind fun e644=>
    (BK (z98.2.1,z98.2.2.1) e644.1).bind fun t114=>
    (Cv (σ:=(Ax×BA)) (β:=(List ByteArray×List ByteArray×List BA×List Int×List Int×List ByteArray×Int×ByteArray)) (0:Int) (((List.length e644.2.1):Nat):Int) (z98.1,(t114,([] :List Int),(0:Int))) fun i_z117 z117=>
     (idx e644.2.1 i_z117).bind fun e735=>
     (BK (z98.2.1,z98.2.2.1) e735).bind fun t128=>
     cond (decide (t128< (0:Int)))
     ((idx e644.2.1 i_z117).bind fun e753=>
      some (AW.done (([] :List ByteArray),([] :List ByteArray),([] :List BA),([] :List Int),([] :List Int),([] :List ByteArray),(16:Int),e753)))
     ((app z117.2.2.1 ([t128] :List Int)).bind fun t140=>
      (cond (decide (t128< (((List.length z98.2.1):Nat):Int)))
      ((idx z98.2.2.2.2.1 t128).bind fun e849=>
       some ((((z117.2.1),t140,(z117.2.2.2)).1),((z117.2.1),t140,(z117.2.2.2)).2.1,e849))
      (some ((z117.2.1),t140,(z117.2.2.2)))).bind fun z142=>
      some (AW.next (z117.1,z142)))).bind fun e_z116=>match e_z116 with
    | .next z116=>
     ((cond (!(ByteArray.toList e644.2.2.1==ByteArray.toList {data:= #[] }))
     ((Bm (g_0.1,g_0.2.1,g_0.2.2.1,g_0.2.2.2.1,g_0.2.2.2.2) e644.2.2.1).bind fun t154=>
      cond (t154==(0:Int))
      (some (AW.done (([] :List ByteArray),([] :List ByteArray),([] :List BA),([] :List Int),([] :List Int),([] :List ByteArray),(16:Int),e644.2.2.1)))
      (some (AW.next (((z116.2.1),z116.2.2.1,t154),z116.1))))
     (some (AW.next (z116.2,z116.1)))):Option (AW (BA×Ax) (List ByteArray×List ByteArray×List BA×List Int×List Int×List ByteArray×Int×ByteArray))).bind fun e_z147=>match e_z147 with
     | .next z147=>
      (app z98.2.2.2.1 ([((z147.1.1),z147.1.2.1,(z147.1.2.2))] :List BA)).bind fun t168=>
      some (AW.next (z147.2,(z98.2.1,z98.2.2.1,t168,z98.2.2.2.2.1,z98.2.2.2.2.2.1,z98.2.2.2.2.2.2)))
     | .done q1132=>some (AW.done q1132)
    | .done q1133=>some (AW.done q1133)).bind fun e_z97=>match e_z97 with
   | .next z97=>
    (Ar z97.2.2.1 g_0.2.2.2.1).bind fun t171=>
    cond (decide (t171< (0:Int)))
    (some (([] :List ByteArray),([] :List ByteArray),([] :List BA),([] :List Int),([] :List Int),([] :List ByteArray),(16:Int),g_0.2.2.2.1))
    (some (z97.2.1,z97.2.2.1,z97.2.2.2.1,z97.2.2.2.2.1,z97.2.2.2.2.2.1,z97.2.2.2.2.2.2,(0:Int),{data:= #[] }))
   | .done q1286=>some q1286
  | .done q1287=>some q1287)
set_option maxHeartbeats 4000000 in
theorem JX {φ:AC} {h:AE} {F:List Chk} {g_0:Slc×Slc×Slc×ByteArray×Slc×Unit} {c8:List Fq} {cx:List Gw} {c9:List EN} {ca:List Cw} (ar:Ro.SliceIs GQ φ g_0.1 c8) (cb:Ro.SliceIs KJ φ g_0.2.1 cx) (bc:Ro.SliceIs GR φ g_0.2.2.1 c9) (au:Ro.SliceIs Ft φ g_0.2.2.2.2.1 ca) (s0:St φ (F) h) {r:(List ByteArray×List ByteArray×List BA×List Int×List Int×List ByteArray×Int×ByteArray)} (hd:Cf (c8,cx,c9,g_0.2.2.2.1,ca)=some r):
 CallsH Tryz.prog 55 [(.agg #[(sv g_0.1),(sv g_0.2.1),(sv g_0.2.2.1),(.string g_0.2.2.2.1),(sv g_0.2.2.2.2.1)])] h (Aq fun v h'=> ∃ψ:AC,∃y:(Slc×Slc×Slc×Slc×Slc×Slc×Unit)×Int×ByteArray×Unit,∃cy:List ByteArray,∃cz:List ByteArray,∃d0:List BA,∃d1:List Int,∃d2:List Int,∃d3:List ByteArray,Sub φ ψ∧v=((.tuple [(.agg [.slice, .slice, .slice, .slice, .slice, .slice]),aI,(.atom .string)]):Sh).val y∧(cy,cz,d0,d1,d2,d3,y.2.1,y.2.2.1)=r∧Ro.SliceIs Ro.str ψ y.1.1 cy∧Ro.SliceIs Ro.str ψ y.1.2.1 cz∧Ro.SliceIs CA ψ y.1.2.2.1 d0∧Ro.SliceIs (Ro.int .i64) ψ y.1.2.2.2.1 d1∧Ro.SliceIs (Ro.int .i64) ψ y.1.2.2.2.2.1 d2∧Ro.SliceIs Ro.str ψ y.1.2.2.2.2.2.1 d3∧St ψ (F) h'):=by
 refine AQ mixed Tryz.func55 ?_
 rw [JQ]
 unfold GU
 unfold Cf at hd
 have d4:g_0.1.2.1=List.length c8:=ar.length
 have d5:g_0.2.2.1.2.1=List.length c9:=bc.length
 have bj:g_0.2.2.2.2.1.2.1=List.length ca:=au.length
 refine AU (vs:= [sv g_0.1,sv g_0.2.1,sv g_0.2.2.1, .string g_0.2.2.2.1,sv g_0.2.2.2.2.1]) s0 fun r1 q2 fo=> ?_
 refine AU (vs:= [.slice none 0 0, .slice none 0 0, .slice none 0 0, .slice none 0 0, .slice none 0 0, .slice none 0 0]) fo fun r2 q3 b5=> ?_
 refine AA (x:=g_0.1) b5.at1 rfl ?_
 refine AA (x:=g_0.2.1) b5.at1 rfl ?_
 refine AA (x:=g_0.2.2.1) b5.at1 rfl ?_
 refine AA (x:=g_0.2.2.2.1) b5.at1 rfl ?_
 refine AA (x:=g_0.2.2.2.2.1) b5.at1 rfl ?_
 obtain ⟨q4,fp,hd⟩:=bS hd
 refine AI (HW (g_0:=(g_0.1,g_0.2.1,g_0.2.2.1,g_0.2.2.2.1,g_0.2.2.2.2.1,())) ar cb bc au b5 fp) ?_
 rintro _ q5 ⟨a8,t8,p,rfl,rfl,d6⟩
 refine ⟨t8,rfl,?_⟩
 refine AK hd rfl (fun _ hd=> ?_) (fun _ hd=> ?_)
 ·refine AP d6 rfl rfl fun q6 fq=> ?_
  refine AP fq rfl rfl fun q7 fr=> ?_
  refine AP fr rfl rfl fun q8 fs=> ?_
  refine AP fs rfl rfl fun q9 ft=> ?_
  refine AP ft rfl rfl fun qa fu=> ?_
  refine AP fu rfl rfl fun qb ay=> ?_
  refine AA (x:=((none,0,0):Slc)) ay rfl ?_
  refine AA (x:=((none,0,0):Slc)) ay rfl ?_
  refine AA (x:=((none,0,0):Slc)) ay rfl ?_
  refine AA (x:=((none,0,0):Slc)) ay rfl ?_
  refine AA (x:=((none,0,0):Slc)) ay rfl ?_
  refine AA (x:=((none,0,0):Slc)) ay rfl ?_
  obtain rfl:=iS hd
  exact AB ⟨a8,((((none,0,0):Slc),((none,0,0):Slc),((none,0,0):Slc),((none,0,0):Slc),((none,0,0):Slc),((none,0,0):Slc),()),(1:Int),{data:= #[] },()),([] :List ByteArray),([] :List ByteArray),([] :List BA),([] :List Int),([] :List Int),([] :List ByteArray),p,rfl,rfl,(Ro.SliceIs.nil Ro.str a8),(Ro.SliceIs.nil Ro.str a8),(Ro.SliceIs.nil CA a8),(Ro.SliceIs.nil (Ro.int .i64) a8),(Ro.SliceIs.nil (Ro.int .i64) a8),(Ro.SliceIs.nil Ro.str a8),ay.tail.tail⟩
 refine AU (vs:= [.string ({data:= #[36,101,110,100] })]) d6 fun r15 qc fv=> ?_
 refine AU (vs:= [.int .i64 (0:Int)]) fv fun r16 qd fw=> ?_
 refine AU (vs:= [.int .i64 (0:Int)]) fw fun r17 qe fx=> ?_
 refine AU (vs:= [.string ({data:= #[] })]) fx fun r18 qf fy=> ?_
 refine AU (vs:= [.slice none 0 0, .slice none 0 0, .slice none 0 0, .slice none 0 0, .slice none 0 0, .slice none 0 0]) fy fun r19 qg fz=> ?_
 refine AP fz rfl rfl fun qh g0=> ?_
 refine AP g0 rfl rfl fun qi g1=> ?_
 refine AP g1 rfl rfl fun qj g2=> ?_
 refine AP g2 rfl rfl fun qk g3=> ?_
 refine AP g3 rfl rfl fun ql g4=> ?_
 refine AP g4 rfl rfl fun qm g5=> ?_
 have g6:=St.lit (r:=Ro.str) (l:=([{data:= #[36,101,110,100] }] :List ByteArray)) (n:=1) g5.at4 (.cons (a:= [_]) rfl .nil) rfl (by decide)
 have g7:=St.lit (r:=(Ro.int .i64)) (l:=([(0:Int)] :List Int)) (n:=1) ((g6.nil 9 Ro.str).nil 65 CA).at6 (.cons (a:= [_]) rfl .nil) rfl (by decide)
 have g8:=St.lit (r:=(Ro.int .i64)) (l:=([(0:Int)] :List Int)) (n:=1) g7.at6 (.cons (a:= [_]) rfl .nil) rfl (by decide)
 have g9:=St.lit (r:=Ro.str) (l:=([{data:= #[] }] :List ByteArray)) (n:=1) g8.at6 (.cons (a:= [_]) rfl .nil) rfl (by decide)
 have ga:=HP (t0:=((some ⟨r15,0,none⟩,1,1):Slc)) (t1:=((none,0,0):Slc)) (t2:=((none,0,0):Slc)) (t3:=((some ⟨r16,0,none⟩,1,1):Slc)) (t4:=((some ⟨r17,0,none⟩,1,1):Slc)) (t5:=((some ⟨r18,0,none⟩,1,1):Slc)) g9.at6.at6.at6.at6.at6.at6.at6
 obtain ⟨gb,gc,hd⟩:=bS hd
 refine AV (fun (y:Int×Unit) w_ g=> ∃ψ:AC,∃d7:Ax,Sub a8 ψ∧d7=g∧St ψ (cO 32 EO (some ⟨r19,0,none⟩) d7::cW 32 r2 [.slice none 0 0, .slice none 0 0, .slice none 0 0, .slice none 0 0, .slice none 0 0, .slice none 0 0] ::cW 107 r1 [sv g_0.1,sv g_0.2.1,sv g_0.2.2.1, .string g_0.2.2.2.1,sv g_0.2.2.2.2.1] ::F) w_) (g:=gb) ?_ ?_
 ·refine BL gc (fun gd (y:Int×Unit) w_ g=> ∃ψ:AC,∃d8:Ax,Sub a8 ψ∧y.1=gd∧d8=g∧St ψ (cO 32 EO (some ⟨r19,0,none⟩) d8::cW 32 r2 [.slice none 0 0, .slice none 0 0, .slice none 0 0, .slice none 0 0, .slice none 0 0, .slice none 0 0] ::cW 107 r1 [sv g_0.1,sv g_0.2.1,sv g_0.2.2.1, .string g_0.2.2.2.1,sv g_0.2.2.2.2.1] ::F) w_) ((0:Int),()) rfl ⟨a8,(([{data:= #[36,101,110,100] }] :List ByteArray),([] :List ByteArray),([] :List BA),([(0:Int)] :List Int),([(0:Int)] :List Int),([{data:= #[] }] :List ByteArray)),(Sub.refl _),rfl,rfl,ga.at2.at2.at2⟩ ?_ ?_
  ·rintro _ z21 qn _ _ ⟨qo,a6,bk,rfl,rfl,d9⟩ a4 ge da db
   try dsimp only at a4 ge da db
   refine AA (x:=g_0.2.2.2.2.1) d9.at2 rfl ?_
   refine Ag (dT bj da) ?_
   obtain ⟨gf,qp,gg,qq,qr,qs,qt,dc,bl⟩:=En d9
   obtain rfl:r19=gf:=by simpa using dc
   clear dc
   refine AA (x:=gg) bl.at6 rfl ?_
   refine AA (x:=g_0.2.2.2.2.1) bl.at8 rfl ?_
   obtain ⟨gh,gi,a4⟩:=bS a4
   obtain ⟨qu,qv,gj,gk,gl,gm⟩:=(au.mono (p.trans bk)).get gi
   refine AF _ gj (Ac gk ?_)
   obtain ⟨_,_,rfl,gn,go⟩:=gl
   obtain rfl:=gn
   obtain ⟨_,_,rfl,gp,gq⟩:=go
   obtain ⟨qw,rfl,qx⟩:=gp
   obtain ⟨_,_,rfl,gr,gs⟩:=gq
   obtain rfl:=gr
   obtain rfl:=gs
   refine AH (x:=gh.1) (AD bl.sub (gm 0 _ rfl)) rfl ?_
   obtain ⟨qy,gt,a4⟩:=bS a4
   refine AI (BZ bl.at4 gt) ?_
   rintro _ qz ⟨cc,t27,cd,rfl,rfl,gu⟩
   refine ⟨t27,rfl,?_⟩
   have dd:=HP gu.at5.at1.at5.at5.at5.at5.at6.at6.at6.at6.at6.at6.at6
   obtain ⟨gv,af,a4⟩:=bS a4
   refine Ao (fun (y:Unit) w_ g=> ∃ψ:AC,∃de:Ax,Sub cc ψ∧de=g∧St ψ (cO 32 EO (some ⟨r19,0,none⟩) de::cW 32 r2 [.slice none 0 0, .slice none 0 0, .slice none 0 0, .slice none 0 0, .slice none 0 0, .slice none 0 0] ::cW 107 r1 [sv g_0.1,sv g_0.2.1,sv g_0.2.2.1, .string g_0.2.2.2.1,sv g_0.2.2.2.2.1] ::F) w_) (g:=gv) ?_ ?_
   ·refine AK af rfl (fun _ af=> ?_) (fun _ af=> ?_)
    ·obtain ⟨gw,r0,gx,r3,r4,r5,r6,df,bd⟩:=En dd
     obtain rfl:r19=gw:=by simpa using df
     clear df
     try dsimp only at bd
     refine AA (x:=gx) bd.at6 rfl ?_
     refine AA (x:=g_0.2.2.2.2.1) bd.at8 rfl ?_
     obtain ⟨ce,gy,af⟩:=bS af
     obtain ⟨r7,r8,gz,h0,h1,h2⟩:=(au.mono ((p.trans bk).trans cd)).get gy
     refine AF _ gz (Ac h0 ?_)
     obtain ⟨_,_,rfl,h3,h4⟩:=h1
     obtain rfl:=h3
     obtain ⟨_,_,rfl,h5,h6⟩:=h4
     obtain ⟨r9,rfl,ra⟩:=h5
     obtain ⟨_,_,rfl,h7,h8⟩:=h6
     obtain rfl:=h7
     obtain rfl:=h8
     refine AH (x:=ce.1) (AD bd.sub (h2 0 _ rfl)) rfl ?_
     refine AU (vs:= [.string ce.1]) bd fun r33 rb cf=> ?_
     refine AL (St.cell (b:=r19) (j:=1) cf.at7 rfl) ?_
     obtain ⟨h9,hb,af⟩:=bS af
     refine Am (r:=Ro.str) (ms:=([ce.1] :List ByteArray)) CH cf.tail.at4 rfl (St.cells cf) (.cons (a:= [_]) rfl .nil) rfl hb ?_
     intro t34 rc hc
     refine AP hc.at6 rfl rfl fun rd he=> ?_
     obtain rfl:=iS af
     exact AS (()) rfl ⟨cc,(a6.1,h9,a6.2.2.1,a6.2.2.2.1,a6.2.2.2.2.1,a6.2.2.2.2.2),(Sub.refl _),rfl,((((HP he.at6.at2.at6.at6.at6.at6.at6.at6.at6.at6.at6.at6.at6).at2).at2).at2)⟩
    obtain rfl:=iS af
    exact AS (()) rfl ⟨cc,(a6.1,a6.2.1,a6.2.2.1,a6.2.2.2.1,a6.2.2.2.2.1,a6.2.2.2.2.2),(Sub.refl _),rfl,dd.at2.at2.at2⟩
   rintro z28 re ⟨hf,be,dg,rfl,hg⟩
   try dsimp only at a4
   obtain ⟨hh,rf,rg,rh,ri,rj,hi,dh,bm⟩:=En hg
   obtain rfl:r19=hh:=by simpa using dh
   clear dh
   refine AA (x:=hi) bm.at6 rfl ?_
   refine AA (x:=g_0.2.2.2.2.1) bm.at8 rfl ?_
   obtain ⟨cg,hj,a4⟩:=bS a4
   obtain ⟨rk,rl,hk,hl,hm,hn⟩:=(au.mono (((p.trans bk).trans cd).trans dg)).get hj
   refine AF _ hk (Ac hl ?_)
   obtain ⟨_,_,rfl,ho,hp⟩:=hm
   obtain rfl:=ho
   obtain ⟨_,_,rfl,hq,hr⟩:=hp
   obtain ⟨rm,rfl,rn⟩:=hq
   obtain ⟨_,_,rfl,hs,ht⟩:=hr
   obtain rfl:=hs
   obtain rfl:=ht
   refine AH (x:=cg.2.2.2) (by rw [Ad]; exact (AD bm.sub (hn 3 _ rfl))) rfl ?_
   refine AU (vs:= [.string cg.2.2.2]) bm fun r39 rp ch=> ?_
   refine AL (St.cell (b:=r19) (j:=5) ch.at7 rfl) ?_
   obtain ⟨hu,hv,a4⟩:=bS a4
   refine Am (r:=Ro.str) (ms:=([cg.2.2.2] :List ByteArray)) CH ch.tail rfl (St.cells ch) (.cons (a:= [_]) rfl .nil) rfl hv ?_
   intro t40 rq hw
   refine AP hw.at6 rfl rfl fun rr hx=> ?_
   obtain rfl:=iS a4
   exact Af ((wN z21.1),()) _ rfl rfl ⟨hf,(be.1,be.2.1,be.2.2.1,be.2.2.2.1,be.2.2.2.2.1,hu),((bk.trans cd).trans dg),db,rfl,((((HP hx.at6.at6.at6.at6.at6.at6.at6.at6.at6.at6.at6.at6.at6).at2).at2).at2)⟩
  ·rintro _ z21 rs ⟨hy,hz,i0,rfl,rfl,di⟩ i1
   refine AA (x:=g_0.2.2.2.2.1) di.at2 rfl ?_
   refine AY (dF bj i1) ?_
   exact AJ (AM (z21.1,()) rfl ⟨hy,hz,i0,rfl,di.at2.at2.at2⟩)
 rintro z20 rt ⟨ci,i2,u,rfl,i3⟩
 try dsimp only at hd
 have i4:=HP (t0:=((none,0,0):Slc)) (t1:=((none,0,0):Slc)) (t2:=((none,0,0):Slc)) (t3:=((none,0,0):Slc)) (t4:=((none,0,0):Slc)) (t5:=((none,0,0):Slc)) ((((((i3.nil 9 Ro.str).nil 9 Ro.str).nil 65 CA).nil 3 (Ro.int .i64)).nil 3 (Ro.int .i64)).nil 9 Ro.str).at7.at6.at6.at6.at6.at6.at6
 obtain ⟨i5,i6,hd⟩:=bS hd
 refine AV (fun (y:Int×ByteArray×Int×Unit) w_ g=> ∃ψ:AC,∃dj:Ax,∃dk:Ax,Sub ci ψ∧AW.next (dj,dk)=g∧St ψ (cO 32 EO (some ⟨r2,0,none⟩) dj::cO 32 EO (some ⟨r19,0,none⟩) dk::cW 107 r1 [sv g_0.1,sv g_0.2.1,sv g_0.2.2.1, .string g_0.2.2.2.1,sv g_0.2.2.2.2.1] ::F) w_) (g:=i5) ?_ ?_
 ·refine Bq i6 (fun i7 (y:Int×ByteArray×Int×Unit) w_ g=> ∃ψ:AC,∃dl:Ax,∃dm:Ax,Sub ci ψ∧y.1=i7∧(dl,dm)=g∧St ψ (cO 32 EO (some ⟨r2,0,none⟩) dl::cO 32 EO (some ⟨r19,0,none⟩) dm::cW 107 r1 [sv g_0.1,sv g_0.2.1,sv g_0.2.2.1, .string g_0.2.2.2.1,sv g_0.2.2.2.2.1] ::F) w_) ((0:Int),{data:= #[] },(0:Int),()) rfl ⟨ci,(([] :List ByteArray),([] :List ByteArray),([] :List BA),([] :List Int),([] :List Int),([] :List ByteArray)),i2,(Sub.refl _),rfl,rfl,i4.at2.at2.at2⟩ ?_ ?_
  ·rintro _ z42 ru _ _ ⟨rv,i8,bn,a9,rfl,rfl,dn⟩ s i9 dp dq ia
   try dsimp only at s i9 dp dq
   refine AA (x:=g_0.1) dn.at2 rfl ?_
   refine Ag (dT d4 dp) ?_
   obtain ⟨ib,ic,ie,rx,ig,ry,rz,dr,bo⟩:=En dn.at1
   obtain rfl:r19=ib:=by simpa using dr
   clear dr
   refine AA (x:=ie) bo.at6 rfl ?_
   refine AA (x:=g_0.1) bo.at8 rfl ?_
   obtain ⟨ih,ii,s⟩:=bS s
   obtain ⟨s1,s2,ij,ik,il,im⟩:=(ar.mono ((p.trans u).trans a9)).get ii
   refine AF _ ij (Ac ik ?_)
   obtain ⟨_,_,rfl,io,ip⟩:=il
   obtain rfl:=io
   obtain ⟨_,_,rfl,iq,ir⟩:=ip
   obtain rfl:=iq
   obtain ⟨_,_,rfl,it,iu⟩:=ir
   obtain rfl:=it
   obtain rfl:=iu
   refine AH (x:=ih.1) (AD bo.sub (im 0 _ rfl)) rfl ?_
   obtain ⟨s3,iv,s⟩:=bS s
   refine AI (BZ bo.at4 iv) ?_
   rintro _ s4 ⟨az,t48,ag,rfl,rfl,b0⟩
   refine ⟨t48,rfl,?_⟩
   refine AK s rfl (fun _ s=> ?_) (fun _ s=> ?_)
   ·refine AA (x:=g_0.1) b0.at8 rfl ?_
    obtain ⟨ds,iw,s⟩:=bS s
    obtain ⟨s5,s6,ix,iy,iz,dt⟩:=(ar.mono (((p.trans u).trans a9).trans ag)).get iw
    refine AF _ ix (Ac iy ?_)
    obtain ⟨_,_,rfl,j0,j1⟩:=iz
    obtain rfl:=j0
    obtain ⟨_,_,rfl,j2,j3⟩:=j1
    obtain rfl:=j2
    obtain ⟨_,_,rfl,j4,j5⟩:=j3
    obtain rfl:=j4
    obtain rfl:=j5
    refine AH (x:=ds.1) (AD b0.sub (dt 0 _ rfl)) rfl ?_
    obtain ⟨j6,s7,s8,s9,sa,sb,sc,du,j7⟩:=En b0.at7
    obtain rfl:r2=j6:=by simpa using du
    clear du
    refine AP j7.at6 rfl rfl fun sd j8=> ?_
    refine AP j8 rfl rfl fun se j9=> ?_
    refine AP j9 rfl rfl fun sf ja=> ?_
    refine AP ja rfl rfl fun sg jb=> ?_
    refine AP jb rfl rfl fun sh jc=> ?_
    refine AP jc rfl rfl fun si ah=> ?_
    refine AL (AD ah.sub (dt 0 _ rfl)) ?_
    refine AL (St.cell (b:=r1) (j:=0) ah.at14 rfl) ?_
    refine AA (x:=((none,0,0):Slc)) ah rfl ?_
    refine AA (x:=((none,0,0):Slc)) ah rfl ?_
    refine AA (x:=((none,0,0):Slc)) ah rfl ?_
    refine AA (x:=((none,0,0):Slc)) ah rfl ?_
    refine AA (x:=((none,0,0):Slc)) ah rfl ?_
    refine AA (x:=((none,0,0):Slc)) ah rfl ?_
    obtain rfl:=iS s
    obtain rfl:=ia _ rfl
    try dsimp only at hd
    obtain rfl:=iS hd
    exact Ah (An (AB ⟨az,((((none,0,0):Slc),((none,0,0):Slc),((none,0,0):Slc),((none,0,0):Slc),((none,0,0):Slc),((none,0,0):Slc),()),(15:Int),ds.1,()),([] :List ByteArray),([] :List ByteArray),([] :List BA),([] :List Int),([] :List Int),([] :List ByteArray),(((p.trans u).trans a9).trans ag),rfl,rfl,(Ro.SliceIs.nil Ro.str az),(Ro.SliceIs.nil Ro.str az),(Ro.SliceIs.nil CA az),(Ro.SliceIs.nil (Ro.int .i64) az),(Ro.SliceIs.nil (Ro.int .i64) az),(Ro.SliceIs.nil Ro.str az),ah.tail.tail.tail.tail.tail.tail.tail.tail.tail.tail.tail.tail.tail.tail.tail⟩))
   refine AA (x:=ic) b0.at6 rfl ?_
   refine AA (x:=g_0.1) b0.at8 rfl ?_
   obtain ⟨cj,jd,s⟩:=bS s
   obtain ⟨sj,sk,je,jf,jg,jh⟩:=(ar.mono (((p.trans u).trans a9).trans ag)).get jd
   refine AF _ je (Ac jf ?_)
   obtain ⟨_,_,rfl,ji,jj⟩:=jg
   obtain rfl:=ji
   obtain ⟨_,_,rfl,jk,jl⟩:=jj
   obtain rfl:=jk
   obtain ⟨_,_,rfl,jm,jn⟩:=jl
   obtain rfl:=jm
   obtain rfl:=jn
   refine AH (x:=cj.1) (AD b0.sub (jh 0 _ rfl)) rfl ?_
   refine AU (vs:= [.string cj.1]) b0 fun r62 sl ck=> ?_
   refine AL (St.cell (b:=r19) (j:=0) ck.at7 rfl) ?_
   obtain ⟨jo,jp,s⟩:=bS s
   refine Am (r:=Ro.str) (ms:=([cj.1] :List ByteArray)) CH ck.tail.at5 rfl (St.cells ck) (.cons (a:= [_]) rfl .nil) rfl jp ?_
   intro t63 sm jq
   refine AP jq.at6 rfl rfl fun sn ai=> ?_
   refine AA (x:=ig) ai rfl ?_
   refine AA (x:=g_0.1) ai.at8 rfl ?_
   refine AA (x:=g_0.2.1) ai.at8 rfl ?_
   refine AA (x:=g_0.2.2.1) ai.at8 rfl ?_
   refine AA (x:=g_0.2.2.2.1) ai.at8 rfl ?_
   refine AA (x:=g_0.2.2.2.2.1) ai.at8 rfl ?_
   refine AA (x:=g_0.1) ai.at8 rfl ?_
   obtain ⟨jr,js,s⟩:=bS s
   obtain ⟨so,sp,jt,ju,jv,jw⟩:=(ar.mono (((p.trans u).trans a9).trans ag)).get js
   refine AF _ jt (Ac ju ?_)
   obtain ⟨_,_,rfl,jx,jy⟩:=jv
   obtain rfl:=jx
   obtain ⟨_,_,rfl,jz,k0⟩:=jy
   obtain rfl:=jz
   obtain ⟨_,_,rfl,k1,k2⟩:=k0
   obtain rfl:=k1
   obtain rfl:=k2
   refine AH (x:=jr.1) (AD ai.sub (jw 0 _ rfl)) rfl ?_
   obtain ⟨sq,k3,s⟩:=bS s
   refine AI (ES (g_0:=(g_0.1,g_0.2.1,g_0.2.2.1,g_0.2.2.2.1,g_0.2.2.2.2.1,())) (ar.mono (((p.trans u).trans a9).trans ag)) (cb.mono (((p.trans u).trans a9).trans ag)) (bc.mono (((p.trans u).trans a9).trans ag)) (au.mono (((p.trans u).trans a9).trans ag)) ai k3) ?_
   rintro _ sr ⟨k4,t73,k5,rfl,rfl,dv⟩
   refine ⟨t73,rfl,?_⟩
   refine AL (St.cell (b:=r19) (j:=3) dv rfl) ?_
   refine AU (vs:= [.int .i64 t73]) dv fun r74 ss cl=> ?_
   refine AL (St.cell (b:=r19) (j:=3) cl.at1 rfl) ?_
   obtain ⟨k6,k7,s⟩:=bS s
   refine Am (r:=(Ro.int .i64)) (ms:=([t73] :List Int)) F7 cl.tail.at5 rfl (St.cells cl) (.cons (a:= [_]) rfl .nil) rfl k7 ?_
   intro t75 st k8
   refine AP k8.at1 rfl rfl fun su k9=> ?_
   obtain rfl:=iS s
   exact Af ((wN z42.1),z42.2.1,z42.2.2.1,()) _ rfl rfl ⟨k4,i8,(jo,bn.2.1,bn.2.2.1,k6,bn.2.2.2.2.1,bn.2.2.2.2.2),((a9.trans ag).trans k5),dq,rfl,((((HP k9.at2.at3.at6.at4.at6.at6.at6.at6.at6.at6.at6.at6.at6).at2).at1).at2)⟩
  ·rintro _ z42 sw _ ⟨ka,kb,kc,kd,rfl,rfl,dw⟩ ke kf
   subst kf
   refine AA (x:=g_0.1) dw.at2 rfl ?_
   refine AY (dF d4 ke) ?_
   exact AJ (AM (z42.1,z42.2.1,z42.2.2.1,()) rfl ⟨ka,kb,kc,kd,rfl,dw.at2.at2.at2⟩)
 rintro z41 sx ⟨cm,cn,kg,aa,rfl,kh⟩
 try dsimp only at hd
 obtain ⟨ki,kj,hd⟩:=bS hd
 refine AV (fun (y:Int×Unit) w_ g=> ∃ψ:AC,∃dx:Ax,Sub cm ψ∧dx=g∧St ψ (cO 32 EO (some ⟨r19,0,none⟩) dx::cO 32 EO (some ⟨r2,0,none⟩) cn::cW 107 r1 [sv g_0.1,sv g_0.2.1,sv g_0.2.2.1, .string g_0.2.2.2.1,sv g_0.2.2.2.2.1] ::F) w_) (g:=ki) ?_ ?_
 ·refine BL kj (fun kk (y:Int×Unit) w_ g=> ∃ψ:AC,∃dy:Ax,Sub cm ψ∧y.1=kk∧dy=g∧St ψ (cO 32 EO (some ⟨r19,0,none⟩) dy::cO 32 EO (some ⟨r2,0,none⟩) cn::cW 107 r1 [sv g_0.1,sv g_0.2.1,sv g_0.2.2.1, .string g_0.2.2.2.1,sv g_0.2.2.2.2.1] ::F) w_) ((0:Int),()) rfl ⟨cm,kg,(Sub.refl _),rfl,rfl,kh.at2.at1.at2⟩ ?_ ?_
  ·rintro _ z77 sy _ _ ⟨kl,bf,dz,rfl,rfl,e0⟩ b6 km e1 e2
   try dsimp only at b6 km e1 e2
   refine AA (x:=g_0.2.2.1) e0.at2 rfl ?_
   refine Ag (dT d5 e1) ?_
   obtain ⟨kn,sz,t6,t7,t9,ko,ta,e3,bp⟩:=En e0
   obtain rfl:r19=kn:=by simpa using e3
   clear e3
   refine AA (x:=ko) bp.at6 rfl ?_
   refine AA (x:=g_0.2.2.1) bp.at8 rfl ?_
   obtain ⟨co,kp,b6⟩:=bS b6
   obtain ⟨tb,tc,kq,kr,ks,kt⟩:=(bc.mono (((p.trans u).trans aa).trans dz)).get kp
   refine AF _ kq (Ac kr ?_)
   obtain ⟨_,_,rfl,ku,kv⟩:=ks
   obtain rfl:=ku
   obtain ⟨td,rfl,te⟩:=kv
   refine AH (x:=co.1) (AD bp.sub (kt 0 _ rfl)) rfl ?_
   refine AU (vs:= [.int .i64 co.1]) bp fun r83 tf cp=> ?_
   refine AL (St.cell (b:=r19) (j:=4) cp.at7 rfl) ?_
   obtain ⟨kw,kx,b6⟩:=bS b6
   refine Am (r:=(Ro.int .i64)) (ms:=([co.1] :List Int)) F7 cp.tail.at1 rfl (St.cells cp) (.cons (a:= [_]) rfl .nil) rfl kx ?_
   intro t84 tg ky
   refine AP ky.at6 rfl rfl fun th kz=> ?_
   obtain rfl:=iS b6
   exact Af ((wN z77.1),()) _ rfl rfl ⟨kl,(bf.1,bf.2.1,bf.2.2.1,bf.2.2.2.1,kw,bf.2.2.2.2.2),dz,e2,rfl,((((HP kz.at6.at6.at6.at6.at5.at6.at6.at6.at6.at6.at6.at6.at6).at2).at2).at2)⟩
  ·rintro _ z77 ti ⟨l0,l1,l2,rfl,rfl,e4⟩ l3
   refine AA (x:=g_0.2.2.1) e4.at2 rfl ?_
   refine AY (dF d5 l3) ?_
   exact AJ (AM (z77.1,()) rfl ⟨l0,l1,l2,rfl,e4.at2.at2.at2⟩)
 rintro z76 tj ⟨tk,q,aj,rfl,l4⟩
 try dsimp only at hd
 obtain ⟨l5,bq,br,a2,e5,e6,e7,e8,a5⟩:=En l4
 obtain rfl:r19=l5:=by simpa using e8
 clear e8
 have l6:=(a5.at5).rowLen
 have l7:=(a5.at4).rowLen
 refine AA (x:=bq) a5.at6 rfl ?_
 refine AA (x:=br) a5.at6 rfl ?_
 refine AA (x:=bq) a5.at6 rfl ?_
 refine AA (x:=br) a5.at6 rfl ?_
 refine AA (x:=a2) a5.at6 rfl ?_
 refine AA (x:=e5) a5.at6 rfl ?_
 refine AA (x:=e6) a5.at6 rfl ?_
 refine AA (x:=e7) a5.at6 rfl ?_
 refine AA (x:=g_0.2.2.2.1) a5.at8 rfl ?_
 obtain ⟨tl,l8,hd⟩:=bS hd
 refine AI (Cn (p_0:=(bq,br,a2,e5,e6,e7,())) a5.at5.at5.at1 l8) ?_
 rintro _ tm ⟨tn,t94,ak,rfl,rfl,l9⟩
 refine ⟨t94,rfl,?_⟩
 refine AU (vs:= [.int .i64 t94]) l9 fun r95 tp la=> ?_
 refine AU (vs:= [.int .i64 (IntKind.wrap .i64 (((bq.2.1:Nat):Int) +((br.2.1:Nat):Int))), .slice (some ⟨r95,0,none⟩) 1 1, .int .i64 (0:Int)]) la fun r96 tq lb=> ?_
 refine AP lb.at8 rfl rfl fun tr lc=> ?_
 have ld:=St.lit (r:=(Ro.int .i64)) (l:=([t94] :List Int)) (n:=1) lc.at3.at4.at4 (.cons (a:= [_]) rfl .nil) rfl (by decide)
 obtain ⟨cq,al,le,lf⟩:=St.freezeRow (t:=((some ⟨r95,0,none⟩,1,1):Slc)) ld
 have lg:=St.lit (r:=CA) (l:=([((IntKind.wrap .i64 ((((List.length q.1):Nat):Int) +(((List.length q.2.1):Nat):Int))),([t94] :List Int),(0:Int))] :List BA)) (n:=1) lf.at3 (.cons (a:= [_,_,_]) ⟨[_],_,rfl,(show _=_ by rw [l6,l7]; rfl),⟨[_],_,rfl,⟨((some ⟨r95,0,none⟩,1,1):Slc),rfl,le⟩,rfl⟩⟩ .nil) rfl (by decide)
 have lh:=((((HP (t2:=((some ⟨r96,0,none⟩,1,1):Slc)) lg.at6.at6.at6.at6.at6.at6.at6.at6.at6.at6).at3).at2).at2).at3
 obtain ⟨li,lj,hd⟩:=bS hd
 refine AV (fun (y:Int×ByteArray×Int×Unit) w_ g=> ∃ψ:AC,∃e9:Ax,∃ea:Ax,Sub cq ψ∧AW.next (e9,ea)=g∧St ψ (cO 32 EO (some ⟨r2,0,none⟩) e9::cO 32 EO (some ⟨r19,0,none⟩) ea::cR 65 CA a2 q.2.2.1::cW 107 r1 [sv g_0.1,sv g_0.2.1,sv g_0.2.2.1, .string g_0.2.2.2.1,sv g_0.2.2.2.2.1] ::F) w_) (g:=li) ?_ ?_
 ·refine Bq lj (fun lk (y:Int×ByteArray×Int×Unit) w_ g=> ∃ψ:AC,∃eb:Ax,∃ec:Ax,Sub cq ψ∧y.1=lk∧(eb,ec)=g∧St ψ (cO 32 EO (some ⟨r2,0,none⟩) eb::cO 32 EO (some ⟨r19,0,none⟩) ec::cR 65 CA a2 q.2.2.1::cW 107 r1 [sv g_0.1,sv g_0.2.1,sv g_0.2.2.1, .string g_0.2.2.2.1,sv g_0.2.2.2.2.1] ::F) w_) ((0:Int),z41.2.1,z41.2.2.1,()) rfl ⟨cq,cn,(q.1,q.2.1,([((IntKind.wrap .i64 ((((List.length q.1):Nat):Int) +(((List.length q.2.1):Nat):Int))),([t94] :List Int),(0:Int))] :List BA),q.2.2.2.1,q.2.2.2.2.1,q.2.2.2.2.2),(Sub.refl _),rfl,rfl,lh⟩ ?_ ?_
  ·rintro _ z98 ts _ _ ⟨tt,ed,c,av,rfl,rfl,b1⟩ w ll ee ef eg
   try dsimp only at w ll ee ef
   refine AA (x:=g_0.2.2.2.2.1) b1.at3 rfl ?_
   refine Ag (dT bj ee) ?_
   refine AA (x:=g_0.2.2.2.2.1) b1.at3 rfl ?_
   obtain ⟨d,lm,w⟩:=bS w
   obtain ⟨tu,tv,ln,lo,lp,bs⟩:=(au.mono ((((((p.trans u).trans aa).trans aj).trans ak).trans al).trans av)).get lm
   refine AF _ ln (Ac lo ?_)
   obtain ⟨_,_,rfl,lq,lr⟩:=lp
   obtain rfl:=lq
   obtain ⟨_,_,rfl,ls,lt⟩:=lr
   obtain ⟨z,rfl,cr⟩:=ls
   have eh:=cr.length
   obtain ⟨_,_,rfl,lu,lv⟩:=lt
   obtain rfl:=lu
   obtain rfl:=lv
   refine AH (x:=d.1) (AD b1.sub (bs 0 _ rfl)) rfl ?_
   refine AH (x:=z) (by rw [Ad]; exact (AD b1.sub (bs 1 _ rfl))) rfl ?_
   refine AH (x:=d.2.2.1) (by rw [Ad]; exact (AD b1.sub (bs 2 _ rfl))) rfl ?_
   refine AH (x:=d.2.2.2) (by rw [Ad]; exact (AD b1.sub (bs 3 _ rfl))) rfl ?_
   refine AU (vs:= [.string ({data:= #[] }), .slice none 0 0, .string ({data:= #[] }), .string ({data:= #[] })]) b1 fun r106 tw lw=> ?_
   refine AP lw rfl rfl fun tx lx=> ?_
   refine AP lx rfl rfl fun ty ly=> ?_
   refine AP ly rfl rfl fun tz lz=> ?_
   refine AP lz rfl rfl fun u0 m0=> ?_
   obtain ⟨m1,e,k,f,i,m,o,ei,am⟩:=En m0.at2
   obtain rfl:r19=m1:=by simpa using ei
   clear ei
   have m2:=(am.at5).rowLen
   refine AA (x:=e) am.at6 rfl ?_
   refine AA (x:=k) am.at6 rfl ?_
   refine AA (x:=f) am.at6 rfl ?_
   refine AA (x:=i) am.at6 rfl ?_
   refine AA (x:=m) am.at6 rfl ?_
   refine AA (x:=o) am.at6 rfl ?_
   refine AA (x:=d.1) am.at7 rfl ?_
   obtain ⟨u1,m3,w⟩:=bS w
   refine AI (Cn (p_0:=(e,k,f,i,m,o,())) am.at5.at5.at1 m3) ?_
   rintro _ u2 ⟨bt,t114,an,rfl,rfl,m4⟩
   refine ⟨t114,rfl,?_⟩
   refine AU (vs:= [.int .i64 (0:Int), .slice none 0 0, .int .i64 (0:Int)]) m4 fun r115 u3 m5=> ?_
   refine AP m5 rfl rfl fun u4 m6=> ?_
   refine AP m6 rfl rfl fun u5 m7=> ?_
   refine AP m7 rfl rfl fun u6 m8=> ?_
   have m9:=St.unpair ((St.unro (r:=(Ro.int .i64)) (cs:= [.int .i64 (0:Int)]) (x:=(0:Int)) (m8.nil 3 (Ro.int .i64)) rfl).at1)
   have ma:St bt (cO 65 Rq1 (some ⟨r115,0,none⟩) (t114,([] :List Int),(0:Int))::cR 9 Ro.str e c.1::cR 9 Ro.str k c.2.1::cR 9 Ro.str o c.2.2.2.2.2::cR 3 (Ro.int .i64) m c.2.2.2.2.1::cR 3 (Ro.int .i64) i c.2.2.2.1::cR 65 CA f c.2.2.1::cW 32 r19 [sv e,sv k,sv f,sv i,sv m,sv o] ::cW 172 r106 [.string d.1,sv z, .string d.2.2.1, .string d.2.2.2] ::cO 32 EO (some ⟨r2,0,none⟩) ed::cR 65 CA a2 q.2.2.1::cW 107 r1 [sv g_0.1,sv g_0.2.1,sv g_0.2.2.1, .string g_0.2.2.2.1,sv g_0.2.2.2.2.1] ::F) _:=St.shut (St.unpair (St.unro (r:=(Ro.int .i64)) (cs:= [.int .i64 t114]) (x:=t114) m9 rfl)).at1
   obtain ⟨mb,mc,w⟩:=bS w
   refine AV (fun (y:Int×ByteArray×Int×Unit) w_ g=> ∃ψ:AC,∃ej:Ax,∃ek:BA,Sub bt ψ∧AW.next (ej,ek)=g∧St ψ (cO 32 EO (some ⟨r2,0,none⟩) ej::cO 65 Rq1 (some ⟨r115,0,none⟩) ek::cR 9 Ro.str e c.1::cR 9 Ro.str k c.2.1::cR 9 Ro.str o c.2.2.2.2.2::cR 3 (Ro.int .i64) m c.2.2.2.2.1::cR 3 (Ro.int .i64) i c.2.2.2.1::cR 65 CA f c.2.2.1::cW 32 r19 [sv e,sv k,sv f,sv i,sv m,sv o] ::cW 172 r106 [.string d.1,sv z, .string d.2.2.1, .string d.2.2.2] ::cR 65 CA a2 q.2.2.1::cW 107 r1 [sv g_0.1,sv g_0.2.1,sv g_0.2.2.1, .string g_0.2.2.2.1,sv g_0.2.2.2.2.1] ::F) w_) (g:=mb) ?_ ?_
   ·refine Bq mc (fun md (y:Int×ByteArray×Int×Unit) w_ g=> ∃ψ:AC,∃el:Ax,∃em:BA,Sub bt ψ∧y.1=md∧(el,em)=g∧St ψ (cO 32 EO (some ⟨r2,0,none⟩) el::cO 65 Rq1 (some ⟨r115,0,none⟩) em::cR 9 Ro.str e c.1::cR 9 Ro.str k c.2.1::cR 9 Ro.str o c.2.2.2.2.2::cR 3 (Ro.int .i64) m c.2.2.2.2.1::cR 3 (Ro.int .i64) i c.2.2.2.1::cR 65 CA f c.2.2.1::cW 32 r19 [sv e,sv k,sv f,sv i,sv m,sv o] ::cW 172 r106 [.string d.1,sv z, .string d.2.2.1, .string d.2.2.2] ::cR 65 CA a2 q.2.2.1::cW 107 r1 [sv g_0.1,sv g_0.2.1,sv g_0.2.2.1, .string g_0.2.2.2.1,sv g_0.2.2.2.2.1] ::F) w_) ((0:Int),z98.2.1,z98.2.2.1,()) rfl ⟨bt,ed,(t114,([] :List Int),(0:Int)),(Sub.refl _),rfl,rfl,ma.at11.at11.at10.at10.at10.at10.at10.at10.at10.at10.at10.at11⟩ ?_ ?_
    ·rintro _ z117 u7 _ _ ⟨u8,b7,a0,bu,rfl,rfl,ab⟩ a1 me en eo mf
     try dsimp only at a1 me en eo
     refine AA (x:=z) ab.at9 rfl ?_
     refine Ag (dT eh en) ?_
     refine AA (x:=e) ab.at8 rfl ?_
     refine AA (x:=k) ab.at8 rfl ?_
     refine AA (x:=f) ab.at8 rfl ?_
     refine AA (x:=i) ab.at8 rfl ?_
     refine AA (x:=m) ab.at8 rfl ?_
     refine AA (x:=o) ab.at8 rfl ?_
     refine AA (x:=z) ab.at9 rfl ?_
     obtain ⟨u9,mg,a1⟩:=bS a1
     refine DM cr mg (Sub.trans (an.trans bu) ab.sub) ?_
     obtain ⟨ua,mh,a1⟩:=bS a1
     refine AI (Cn (p_0:=(e,k,f,i,m,o,())) ab.at2.at3.at1 mh) ?_
     rintro _ ub ⟨a3,t128,ct,rfl,rfl,bv⟩
     refine ⟨t128,rfl,?_⟩
     refine AK a1 rfl (fun _ a1=> ?_) (fun _ a1=> ?_)
     ·refine AA (x:=z) bv.at9 rfl ?_
      obtain ⟨ep,mi,a1⟩:=bS a1
      obtain ⟨uc,ud,mj,mk,ml,er⟩:=(cr.mono ((an.trans bu).trans ct)).get mi
      refine AF _ mj (Ac mk ?_)
      obtain rfl:=ml
      refine AH (x:=ep) (AD bv.sub (er 0 _ rfl)) rfl ?_
      obtain ⟨mm,ue,uf,ug,uh,ui,uj,es,mn⟩:=En bv.at2
      obtain rfl:r2=mm:=by simpa using es
      clear es
      refine AP mn.at6 rfl rfl fun uk mo=> ?_
      refine AP mo rfl rfl fun ul mp=> ?_
      refine AP mp rfl rfl fun um mq=> ?_
      refine AP mq rfl rfl fun un mr=> ?_
      refine AP mr rfl rfl fun uo mu=> ?_
      refine AP mu rfl rfl fun up ao=> ?_
      refine AL (AD ao.sub (er 0 _ rfl)) ?_
      refine AL (St.cell (b:=r106) (j:=1) ao.at15 rfl) ?_
      refine AA (x:=((none,0,0):Slc)) ao rfl ?_
      refine AA (x:=((none,0,0):Slc)) ao rfl ?_
      refine AA (x:=((none,0,0):Slc)) ao rfl ?_
      refine AA (x:=((none,0,0):Slc)) ao rfl ?_
      refine AA (x:=((none,0,0):Slc)) ao rfl ?_
      refine AA (x:=((none,0,0):Slc)) ao rfl ?_
      obtain rfl:=iS a1
      obtain rfl:=mf _ rfl
      try dsimp only at w
      obtain rfl:=iS w
      obtain rfl:=eg _ rfl
      try dsimp only at hd
      obtain rfl:=iS hd
      exact Ah (An (Ah (An (AB ⟨a3,((((none,0,0):Slc),((none,0,0):Slc),((none,0,0):Slc),((none,0,0):Slc),((none,0,0):Slc),((none,0,0):Slc),()),(16:Int),ep,()),([] :List ByteArray),([] :List ByteArray),([] :List BA),([] :List Int),([] :List Int),([] :List ByteArray),(((((((((p.trans u).trans aa).trans aj).trans ak).trans al).trans av).trans an).trans bu).trans ct),rfl,rfl,(Ro.SliceIs.nil Ro.str a3),(Ro.SliceIs.nil Ro.str a3),(Ro.SliceIs.nil CA a3),(Ro.SliceIs.nil (Ro.int .i64) a3),(Ro.SliceIs.nil (Ro.int .i64) a3),(Ro.SliceIs.nil Ro.str a3),ao.tail.tail.tail.tail.tail.tail.tail.tail.tail.tail.tail.tail.tail.tail.tail.tail.tail.tail⟩))))
     obtain ⟨mv,uq,eu,ur,mw⟩:=bv.at3.open
     obtain rfl:r115=mv:=by simpa using eu
     clear eu
     obtain ⟨us,ut,rfl,uu,mx⟩:=mw.at1.pair
     obtain ⟨my,mz⟩:=mx.ro
     subst my
     obtain ⟨uv,uw,rfl,ux,ev⟩:=mz.pair
     obtain ⟨cu,n0⟩:=ev.rowCs
     subst n0
     obtain ⟨n1,n2⟩:=ev.at1.ro
     subst n1
     have ew:St a3 (cR 3 (Ro.int .i64) cu a0.2.1::cW 65 r115 [.int .i64 (a0.1),sv cu, .int .i64 (a0.2.2)] ::cR 9 Ro.str e c.1::cR 9 Ro.str k c.2.1::cO 32 EO (some ⟨r2,0,none⟩) b7::cR 9 Ro.str o c.2.2.2.2.2::cR 3 (Ro.int .i64) m c.2.2.2.2.1::cR 3 (Ro.int .i64) i c.2.2.2.1::cR 65 CA f c.2.2.1::cW 32 r19 [sv e,sv k,sv f,sv i,sv m,sv o] ::cW 172 r106 [.string d.1,sv z, .string d.2.2.1, .string d.2.2.2] ::cR 65 CA a2 q.2.2.1::cW 107 r1 [sv g_0.1,sv g_0.2.1,sv g_0.2.2.1, .string g_0.2.2.2.1,sv g_0.2.2.2.2.1] ::F) _:=n2
     refine AA (x:=cu) ew.at1 rfl ?_
     refine AU (vs:= [.int .i64 t128]) ew fun r139 uy ex=> ?_
     obtain ⟨bg,n3,a1⟩:=bS a1
     refine Am (r:=(Ro.int .i64)) (ms:=([t128] :List Int)) F7 ex.tail rfl (St.cells ex) (.cons (a:= [_]) rfl .nil) rfl n3 ?_
     intro t140 uz n4
     refine AP n4.at1 rfl rfl fun v0 ey=> ?_
     refine AA (x:=e) ey.at9 rfl ?_
     have n5:=St.unro (r:=(Ro.int .i64)) (cs:= [.int .i64 (a0.1)]) (x:=(a0.1)) (St.unpair ((St.unro (r:=(Ro.int .i64)) (cs:= [.int .i64 (a0.2.2)]) (x:=(a0.2.2)) ey.at1 rfl).at1)) rfl
     have bw:St a3 (cO 65 Rq1 (some ⟨r115,0,none⟩) ((a0.1),bg,(a0.2.2))::cR 9 Ro.str e c.1::cR 9 Ro.str k c.2.1::cO 32 EO (some ⟨r2,0,none⟩) b7::cR 9 Ro.str o c.2.2.2.2.2::cR 3 (Ro.int .i64) m c.2.2.2.2.1::cR 3 (Ro.int .i64) i c.2.2.2.1::cR 65 CA f c.2.2.1::cW 32 r19 [sv e,sv k,sv f,sv i,sv m,sv o] ::cW 172 r106 [.string d.1,sv z, .string d.2.2.1, .string d.2.2.2] ::cR 65 CA a2 q.2.2.1::cW 107 r1 [sv g_0.1,sv g_0.2.1,sv g_0.2.2.1, .string g_0.2.2.2.1,sv g_0.2.2.2.2.1] ::F) _:=St.shut (St.unpair n5).at1
     obtain ⟨n6,b2,a1⟩:=bS a1
     refine Ao (fun (y:Unit) w_ g=> ∃ψ:AC,∃ez:BA,Sub a3 ψ∧ez=g∧St ψ (cO 65 Rq1 (some ⟨r115,0,none⟩) ez::cR 9 Ro.str e c.1::cR 9 Ro.str k c.2.1::cO 32 EO (some ⟨r2,0,none⟩) b7::cR 9 Ro.str o c.2.2.2.2.2::cR 3 (Ro.int .i64) m c.2.2.2.2.1::cR 3 (Ro.int .i64) i c.2.2.2.1::cR 65 CA f c.2.2.1::cW 32 r19 [sv e,sv k,sv f,sv i,sv m,sv o] ::cW 172 r106 [.string d.1,sv z, .string d.2.2.1, .string d.2.2.2] ::cR 65 CA a2 q.2.2.1::cW 107 r1 [sv g_0.1,sv g_0.2.1,sv g_0.2.2.1, .string g_0.2.2.2.1,sv g_0.2.2.2.2.1] ::F) w_) (g:=n6) ?_ ?_
     ·refine AK b2 (by rw [m2] <;>rfl) (fun _ b2=> ?_) (fun _ b2=> ?_)
      ·refine AA (x:=i) bw.at8 rfl ?_
       obtain ⟨bx,n7,b2⟩:=bS b2
       refine IX bw.at6 n7 ?_
       obtain ⟨n8,v1,f0,v2,n9⟩:=bw.open
       obtain rfl:r115=n8:=by simpa using f0
       clear f0
       obtain ⟨v3,v4,rfl,v5,na⟩:=n9.at1.pair
       obtain ⟨nb,nc⟩:=na.ro
       subst nb
       obtain ⟨v6,v7,rfl,v8,f1⟩:=nc.pair
       obtain ⟨f2,nd⟩:=f1.rowCs
       subst nd
       obtain ⟨nf,ng⟩:=f1.at1.ro
       subst nf
       have nh:St a3 (cR 3 (Ro.int .i64) f2 bg::cW 65 r115 [.int .i64 ((a0.1)),sv f2, .int .i64 ((a0.2.2))] ::cR 9 Ro.str e c.1::cR 9 Ro.str k c.2.1::cO 32 EO (some ⟨r2,0,none⟩) b7::cR 9 Ro.str o c.2.2.2.2.2::cR 3 (Ro.int .i64) m c.2.2.2.2.1::cR 3 (Ro.int .i64) i c.2.2.2.1::cR 65 CA f c.2.2.1::cW 32 r19 [sv e,sv k,sv f,sv i,sv m,sv o] ::cW 172 r106 [.string d.1,sv z, .string d.2.2.1, .string d.2.2.2] ::cR 65 CA a2 q.2.2.1::cW 107 r1 [sv g_0.1,sv g_0.2.1,sv g_0.2.2.1, .string g_0.2.2.2.1,sv g_0.2.2.2.2.1] ::F) _:=ng
       refine AP nh.at1 rfl rfl fun v9 ni=> ?_
       have nj:=St.unro (r:=(Ro.int .i64)) (cs:= [.int .i64 ((a0.1))]) (x:=((a0.1))) (St.unpair ((St.unro (r:=(Ro.int .i64)) (cs:= [.int .i64 bx]) (x:=bx) ni.at1 rfl).at1)) rfl
       have nk:St a3 (cO 65 Rq1 (some ⟨r115,0,none⟩) (((a0.1)),bg,bx)::cR 9 Ro.str e c.1::cR 9 Ro.str k c.2.1::cO 32 EO (some ⟨r2,0,none⟩) b7::cR 9 Ro.str o c.2.2.2.2.2::cR 3 (Ro.int .i64) m c.2.2.2.2.1::cR 3 (Ro.int .i64) i c.2.2.2.1::cR 65 CA f c.2.2.1::cW 32 r19 [sv e,sv k,sv f,sv i,sv m,sv o] ::cW 172 r106 [.string d.1,sv z, .string d.2.2.1, .string d.2.2.2] ::cR 65 CA a2 q.2.2.1::cW 107 r1 [sv g_0.1,sv g_0.2.1,sv g_0.2.2.1, .string g_0.2.2.2.1,sv g_0.2.2.2.2.1] ::F) _:=St.shut (St.unpair nj).at1
       obtain rfl:=iS b2
       exact AS (()) rfl ⟨a3,(((a0.1)),bg,bx),(Sub.refl _),rfl,nk.at11.at11.at11.at11.at11.at11.at11.at11.at11.at11.at11.at11⟩
      obtain rfl:=iS b2
      exact AS (()) rfl ⟨a3,((a0.1),bg,(a0.2.2)),(Sub.refl _),rfl,bw.at11.at11.at11.at11.at11.at11.at11.at11.at11.at11.at11.at11⟩
     rintro z142 va ⟨nl,nm,nn,rfl,np⟩
     try dsimp only at a1
     obtain rfl:=iS a1
     exact Af ((wN z117.1),z117.2.1,z117.2.2.1,()) _ rfl rfl ⟨nl,b7,nm,((bu.trans ct).trans nn),eo,rfl,np.at11.at11.at11.at11.at11.at11.at11.at11.at10.at10.at10.at11⟩
    ·rintro _ z117 vb _ ⟨nq,nr,ns,nt,rfl,rfl,f3⟩ nu nv
     subst nv
     refine AA (x:=z) f3.at9 rfl ?_
     refine AY (dF eh nu) ?_
     exact AJ (AM (z117.1,z117.2.1,z117.2.2.1,()) rfl ⟨nq,nr,ns,nt,rfl,f3.at11.at11.at11.at11.at11.at11.at11.at11.at11.at11.at11.at11⟩)
   rintro z116 vc ⟨f4,bz,ac,b8,rfl,ap⟩
   try dsimp only at w
   refine AA (x:=d.2.2.1) ap.at9 rfl ?_
   obtain ⟨nw,a7,w⟩:=bS w
   refine Ao (fun (y:ByteArray×Int×Unit) w_ g=> ∃ψ:AC,∃f5:BA,∃f6:Ax,Sub f4 ψ∧AW.next (f5,f6)=g∧St ψ (cO 65 Rq1 (some ⟨r115,0,none⟩) f5::cO 32 EO (some ⟨r2,0,none⟩) f6::cR 9 Ro.str e c.1::cR 9 Ro.str k c.2.1::cR 9 Ro.str o c.2.2.2.2.2::cR 3 (Ro.int .i64) m c.2.2.2.2.1::cR 3 (Ro.int .i64) i c.2.2.2.1::cR 65 CA f c.2.2.1::cW 32 r19 [sv e,sv k,sv f,sv i,sv m,sv o] ::cW 172 r106 [.string d.1,sv z, .string d.2.2.1, .string d.2.2.2] ::cR 65 CA a2 q.2.2.1::cW 107 r1 [sv g_0.1,sv g_0.2.1,sv g_0.2.2.1, .string g_0.2.2.2.1,sv g_0.2.2.2.2.1] ::F) w_) (g:=nw) ?_ ?_
   ·refine AK a7 rfl (fun _ a7=> ?_) (fun _ a7=> ?_)
    ·refine AA (x:=g_0.1) ap.at11 rfl ?_
     refine AA (x:=g_0.2.1) ap.at11 rfl ?_
     refine AA (x:=g_0.2.2.1) ap.at11 rfl ?_
     refine AA (x:=g_0.2.2.2.1) ap.at11 rfl ?_
     refine AA (x:=g_0.2.2.2.2.1) ap.at11 rfl ?_
     refine AA (x:=d.2.2.1) ap.at9 rfl ?_
     obtain ⟨vd,nx,a7⟩:=bS a7
     refine AI (ES (g_0:=(g_0.1,g_0.2.1,g_0.2.2.1,g_0.2.2.2.1,g_0.2.2.2.2.1,())) (ar.mono ((((((((p.trans u).trans aa).trans aj).trans ak).trans al).trans av).trans an).trans b8)) (cb.mono ((((((((p.trans u).trans aa).trans aj).trans ak).trans al).trans av).trans an).trans b8)) (bc.mono ((((((((p.trans u).trans aa).trans aj).trans ak).trans al).trans av).trans an).trans b8)) (au.mono ((((((((p.trans u).trans aa).trans aj).trans ak).trans al).trans av).trans an).trans b8)) ap nx) ?_
     rintro _ ve ⟨ad,t154,f7,rfl,rfl,ny⟩
     refine ⟨t154,rfl,?_⟩
     obtain ⟨nz,vf,f8,vg,o0⟩:=ny.at1.open
     obtain rfl:r115=nz:=by simpa using f8
     clear f8
     obtain ⟨vh,vi,rfl,vj,o1⟩:=o0.at1.pair
     obtain ⟨o2,o3⟩:=o1.ro
     subst o2
     obtain ⟨vk,vl,rfl,vm,f9⟩:=o3.pair
     obtain ⟨fa,o4⟩:=f9.rowCs
     subst o4
     obtain ⟨o5,o6⟩:=f9.at1.ro
     subst o5
     have o7:St ad (cR 3 (Ro.int .i64) fa ac.2.1::cW 65 r115 [.int .i64 (ac.1),sv fa, .int .i64 (ac.2.2)] ::cO 32 EO (some ⟨r2,0,none⟩) bz::cR 9 Ro.str e c.1::cR 9 Ro.str k c.2.1::cR 9 Ro.str o c.2.2.2.2.2::cR 3 (Ro.int .i64) m c.2.2.2.2.1::cR 3 (Ro.int .i64) i c.2.2.2.1::cR 65 CA f c.2.2.1::cW 32 r19 [sv e,sv k,sv f,sv i,sv m,sv o] ::cW 172 r106 [.string d.1,sv z, .string d.2.2.1, .string d.2.2.2] ::cR 65 CA a2 q.2.2.1::cW 107 r1 [sv g_0.1,sv g_0.2.1,sv g_0.2.2.1, .string g_0.2.2.2.1,sv g_0.2.2.2.2.1] ::F) _:=o6
     refine AP o7.at1 rfl rfl fun vn c0=> ?_
     refine AA (x:=t154) c0 rfl ?_
     refine AK a7 rfl (fun _ a7=> ?_) (fun _ a7=> ?_)
     ·refine AA (x:=d.2.2.1) c0.at10 rfl ?_
      obtain ⟨o8,vo,vp,vq,vr,vt,vu,fb,o9⟩:=En c0.at2
      obtain rfl:r2=o8:=by simpa using fb
      clear fb
      refine AP o9.at6 rfl rfl fun vv oa=> ?_
      refine AP oa rfl rfl fun vw ob=> ?_
      refine AP ob rfl rfl fun vx oc=> ?_
      refine AP oc rfl rfl fun vy od=> ?_
      refine AP od rfl rfl fun vz oe=> ?_
      refine AP oe rfl rfl fun w0 aw=> ?_
      refine AL (St.cell (b:=r106) (j:=2) aw.at16 rfl) ?_
      refine AA (x:=((none,0,0):Slc)) aw rfl ?_
      refine AA (x:=((none,0,0):Slc)) aw rfl ?_
      refine AA (x:=((none,0,0):Slc)) aw rfl ?_
      refine AA (x:=((none,0,0):Slc)) aw rfl ?_
      refine AA (x:=((none,0,0):Slc)) aw rfl ?_
      refine AA (x:=((none,0,0):Slc)) aw rfl ?_
      obtain rfl:=iS a7
      try dsimp only at w
      obtain rfl:=iS w
      obtain rfl:=eg _ rfl
      try dsimp only at hd
      obtain rfl:=iS hd
      exact Oa (Ah (An (AB ⟨ad,((((none,0,0):Slc),((none,0,0):Slc),((none,0,0):Slc),((none,0,0):Slc),((none,0,0):Slc),((none,0,0):Slc),()),(16:Int),d.2.2.1,()),([] :List ByteArray),([] :List ByteArray),([] :List BA),([] :List Int),([] :List Int),([] :List ByteArray),(((((((((p.trans u).trans aa).trans aj).trans ak).trans al).trans av).trans an).trans b8).trans f7),rfl,rfl,(Ro.SliceIs.nil Ro.str ad),(Ro.SliceIs.nil Ro.str ad),(Ro.SliceIs.nil CA ad),(Ro.SliceIs.nil (Ro.int .i64) ad),(Ro.SliceIs.nil (Ro.int .i64) ad),(Ro.SliceIs.nil Ro.str ad),aw.tail.tail.tail.tail.tail.tail.tail.tail.tail.tail.tail.tail.tail.tail.tail.tail.tail.tail.tail⟩)))
     have og:=St.unro (r:=(Ro.int .i64)) (cs:= [.int .i64 (ac.1)]) (x:=(ac.1)) (St.unpair ((St.unro (r:=(Ro.int .i64)) (cs:= [.int .i64 t154]) (x:=t154) c0.at1 rfl).at1)) rfl
     have oh:St ad (cO 65 Rq1 (some ⟨r115,0,none⟩) ((ac.1),ac.2.1,t154)::cO 32 EO (some ⟨r2,0,none⟩) bz::cR 9 Ro.str e c.1::cR 9 Ro.str k c.2.1::cR 9 Ro.str o c.2.2.2.2.2::cR 3 (Ro.int .i64) m c.2.2.2.2.1::cR 3 (Ro.int .i64) i c.2.2.2.1::cR 65 CA f c.2.2.1::cW 32 r19 [sv e,sv k,sv f,sv i,sv m,sv o] ::cW 172 r106 [.string d.1,sv z, .string d.2.2.1, .string d.2.2.2] ::cR 65 CA a2 q.2.2.1::cW 107 r1 [sv g_0.1,sv g_0.2.1,sv g_0.2.2.1, .string g_0.2.2.2.1,sv g_0.2.2.2.2.1] ::F) _:=St.shut (St.unpair og).at1
     obtain rfl:=iS a7
     exact AS (z116.2.1,z116.2.2.1,()) rfl ⟨ad,((ac.1),ac.2.1,t154),bz,f7,rfl,oh.at11.at11.at11.at11.at11.at11.at11.at11.at11.at11.at11.at11⟩
    obtain rfl:=iS a7
    exact AS (z116.2.1,z116.2.2.1,()) rfl ⟨f4,ac,bz,(Sub.refl _),rfl,ap.at11.at11.at11.at11.at11.at11.at11.at11.at11.at11.at10.at11⟩
   rintro z147 w1 ⟨oi,ae,fc,oj,rfl,fd⟩
   try dsimp only at w
   refine AA (x:=f) fd.at8 rfl ?_
   obtain ⟨ok,w2,fe,w3,ol⟩:=fd.open
   obtain rfl:r115=ok:=by simpa using fe
   clear fe
   obtain ⟨w4,w5,rfl,w6,om⟩:=ol.at1.pair
   obtain ⟨on,oo⟩:=om.ro
   subst on
   obtain ⟨w7,w8,rfl,w9,ff⟩:=oo.pair
   obtain ⟨b9,op⟩:=ff.rowCs
   subst op
   obtain ⟨oq,os⟩:=ff.at1.ro
   subst oq
   have c1:St oi (cR 3 (Ro.int .i64) b9 ae.2.1::cW 65 r115 [.int .i64 (ae.1),sv b9, .int .i64 (ae.2.2)] ::cO 32 EO (some ⟨r2,0,none⟩) fc::cR 9 Ro.str e c.1::cR 9 Ro.str k c.2.1::cR 9 Ro.str o c.2.2.2.2.2::cR 3 (Ro.int .i64) m c.2.2.2.2.1::cR 3 (Ro.int .i64) i c.2.2.2.1::cR 65 CA f c.2.2.1::cW 32 r19 [sv e,sv k,sv f,sv i,sv m,sv o] ::cW 172 r106 [.string d.1,sv z, .string d.2.2.1, .string d.2.2.2] ::cR 65 CA a2 q.2.2.1::cW 107 r1 [sv g_0.1,sv g_0.2.1,sv g_0.2.2.1, .string g_0.2.2.2.1,sv g_0.2.2.2.2.1] ::F) _:=os
   refine AA (x:=(ae.1)) c1.at1 rfl ?_
   refine AA (x:=b9) c1.at1 rfl ?_
   refine AA (x:=(ae.2.2)) c1.at1 rfl ?_
   refine AU (vs:= [.int .i64 (ae.1),sv b9, .int .i64 (ae.2.2)]) c1 fun r167 wa ot=> ?_
   obtain ⟨ou,ov,ow,fg⟩:=St.freezeRow (t:=b9) ot.at1
   obtain ⟨ox,oy,w⟩:=bS w
   refine Am (r:=CA) (ms:=([((ae.1),ae.2.1,(ae.2.2))] :List BA)) Pp fg.tail.at7 rfl (St.cells fg) (.cons (a:= [_,_,_]) ⟨[_],_,rfl,rfl,⟨[_],_,rfl,⟨b9,rfl,ow⟩,rfl⟩⟩ .nil) rfl oy ?_
   intro t168 wb oz
   refine AP oz.at8 rfl rfl fun wc p0=> ?_
   obtain rfl:=iS w
   exact Af ((wN z98.1),z147.1,z147.2.1,()) _ rfl rfl ⟨ou,fc,(c.1,c.2.1,ox,c.2.2.2.1,c.2.2.2.2.1,c.2.2.2.2.2),((((av.trans an).trans b8).trans oj).trans ov),ef,rfl,(((((((HP p0.at4.at5.at3.at8.at8.at8.at6.at6.at6.at6.at6.at6.at6).at1.tail).at2.tail).at3).at3).at2).at3)⟩
  ·rintro _ z98 wd _ ⟨p1,p2,p3,p4,rfl,rfl,fh⟩ p5 p6
   subst p6
   refine AA (x:=g_0.2.2.2.2.1) fh.at3 rfl ?_
   refine AY (dF bj p5) ?_
   exact AJ (AM (z98.1,z98.2.1,z98.2.2.1,()) rfl ⟨p1,p2,p3,p4,rfl,fh.at3.at3.at3.at3⟩)
 rintro z97 we ⟨wf,wg,ba,fi,rfl,p7⟩
 try dsimp only at hd
 obtain ⟨p8,c2,bh,c3,c4,c5,c6,fj,cv⟩:=En p7.at1
 obtain rfl:r19=p8:=by simpa using fj
 clear fj
 refine AA (x:=bh) cv.at6 rfl ?_
 refine AA (x:=g_0.2.2.2.1) cv.at9 rfl ?_
 obtain ⟨wh,p9,hd⟩:=bS hd
 refine AI (BZ cv.at4 p9) ?_
 rintro _ wi ⟨b3,t171,fk,rfl,rfl,aq⟩
 refine ⟨t171,rfl,?_⟩
 refine AK hd rfl (fun _ hd=> ?_) (fun _ hd=> ?_)
 ·refine AA (x:=g_0.2.2.2.1) aq.at9 rfl ?_
  obtain ⟨pa,wj,wk,wl,wm,wn,wo,fl,pb⟩:=En aq.at7
  obtain rfl:r2=pa:=by simpa using fl
  clear fl
  refine AP pb.at6 rfl rfl fun wp pc=> ?_
  refine AP pc rfl rfl fun wq pd=> ?_
  refine AP pd rfl rfl fun wr pe=> ?_
  refine AP pe rfl rfl fun ws pf=> ?_
  refine AP pf rfl rfl fun wt pg=> ?_
  refine AP pg rfl rfl fun wu ax=> ?_
  refine AL (St.cell (b:=r1) (j:=3) ax.at15 rfl) ?_
  refine AA (x:=((none,0,0):Slc)) ax rfl ?_
  refine AA (x:=((none,0,0):Slc)) ax rfl ?_
  refine AA (x:=((none,0,0):Slc)) ax rfl ?_
  refine AA (x:=((none,0,0):Slc)) ax rfl ?_
  refine AA (x:=((none,0,0):Slc)) ax rfl ?_
  refine AA (x:=((none,0,0):Slc)) ax rfl ?_
  obtain rfl:=iS hd
  exact AB ⟨b3,((((none,0,0):Slc),((none,0,0):Slc),((none,0,0):Slc),((none,0,0):Slc),((none,0,0):Slc),((none,0,0):Slc),()),(16:Int),g_0.2.2.2.1,()),([] :List ByteArray),([] :List ByteArray),([] :List BA),([] :List Int),([] :List Int),([] :List ByteArray),(((((((p.trans u).trans aa).trans aj).trans ak).trans al).trans fi).trans fk),rfl,rfl,(Ro.SliceIs.nil Ro.str b3),(Ro.SliceIs.nil Ro.str b3),(Ro.SliceIs.nil CA b3),(Ro.SliceIs.nil (Ro.int .i64) b3),(Ro.SliceIs.nil (Ro.int .i64) b3),(Ro.SliceIs.nil Ro.str b3),ax.tail.tail.tail.tail.tail.tail.tail.tail.tail.tail.tail.tail.tail.tail.tail.tail⟩
 refine AA (x:=c2) aq.at6 rfl ?_
 refine AA (x:=bh) aq.at6 rfl ?_
 refine AA (x:=c3) aq.at6 rfl ?_
 refine AA (x:=c4) aq.at6 rfl ?_
 refine AA (x:=c5) aq.at6 rfl ?_
 refine AA (x:=c6) aq.at6 rfl ?_
 obtain ⟨ph,wv,ww,wx,wy,wz,x0,fm,pi⟩:=En aq.at7
 obtain rfl:r2=ph:=by simpa using fm
 clear fm
 refine AP pi.at6 rfl rfl fun x1 pj=> ?_
 refine AP pj rfl rfl fun x2 pk=> ?_
 refine AP pk rfl rfl fun x3 pl=> ?_
 refine AP pl rfl rfl fun x4 pm=> ?_
 refine AP pm rfl rfl fun x5 pn=> ?_
 refine AP pn rfl rfl fun x6 b4=> ?_
 refine AA (x:=c2) b4 rfl ?_
 refine AA (x:=bh) b4 rfl ?_
 refine AA (x:=c3) b4 rfl ?_
 refine AA (x:=c4) b4 rfl ?_
 refine AA (x:=c5) b4 rfl ?_
 refine AA (x:=c6) b4 rfl ?_
 obtain ⟨x7,po,pp,pq⟩:=St.freezeRow (t:=c2) b4.at12
 obtain ⟨x8,fn,pr,ps⟩:=St.freezeRow (t:=bh) pq.at7
 obtain ⟨x9,cw,pt,pu⟩:=St.freezeRow (t:=c3) ps.at10
 obtain ⟨xa,c7,pv,pw⟩:=St.freezeRow (t:=c4) pu.at9
 obtain ⟨xb,bi,px,py⟩:=St.freezeRow (t:=c5) pw.at8
 obtain ⟨pz,bb,q0,q1⟩:=St.freezeRow (t:=c6) py.at7
 obtain rfl:=iS hd
 exact AB ⟨pz,((c2,bh,c3,c4,c5,c6,()),(0:Int),{data:= #[] },()),ba.1,ba.2.1,ba.2.2.1,ba.2.2.2.1,ba.2.2.2.2.1,ba.2.2.2.2.2,(((((((((((((p.trans u).trans aa).trans aj).trans ak).trans al).trans fi).trans fk).trans po).trans fn).trans cw).trans c7).trans bi).trans bb),rfl,rfl,(pp.mono ((((fn.trans cw).trans c7).trans bi).trans bb)),(pr.mono (((cw.trans c7).trans bi).trans bb)),(pt.mono ((c7.trans bi).trans bb)),(pv.mono (bi.trans bb)),(px.mono bb),q0,q1.tail.tail.tail.tail.tail.tail.tail.tail.tail.tail⟩
noncomputable def Bd (s_0:Lf):Option (List ByteArray×List ByteArray×List BA×List Int×List Int×List ByteArray):=
 (BM (s_0.1,s_0.2.1,s_0.2.2.1,s_0.2.2.2.1,s_0.2.2.2.2.1,s_0.2.2.2.2.2.1,s_0.2.2.2.2.2.2)).bind fun t10=>
 (Cf (t10.1,t10.2.1,t10.2.2.1,t10.2.2.2.1,t10.2.2.2.2)).bind fun t11=>
 some (t11.1,t11.2.1,t11.2.2.1,t11.2.2.2.1,t11.2.2.2.2.1,t11.2.2.2.2.2.1)
theorem Fi {φ:AC} {h:AE} {F:List Chk} {s_0:Int×Int×Slc×Slc×Slc×Slc×Slc×Unit} {d:List Int} {e:List (List Int)} {f:List Int} {g:List Int} {i:List Int} (p:Ro.SliceIs (Ro.int .u8) φ s_0.2.2.1 d) (q:Ro.SliceIs (Ro.list (Ro.int .u8)) φ s_0.2.2.2.1 e) (s:Ro.SliceIs (Ro.int .u8) φ s_0.2.2.2.2.1 f) (t:Ro.SliceIs (Ro.int .u8) φ s_0.2.2.2.2.2.1 g) (u:Ro.SliceIs (Ro.int .u8) φ s_0.2.2.2.2.2.2.1 i) (s0:St φ (F) h) {r:(List ByteArray×List ByteArray×List BA×List Int×List Int×List ByteArray)} (hd:Bd (s_0.1,s_0.2.1,d,e,f,g,i)=some r):
 CallsH Tryz.prog 15 [(.agg #[(.int .u8 s_0.1),(.int .u8 s_0.2.1),(sv s_0.2.2.1),(sv s_0.2.2.2.1),(sv s_0.2.2.2.2.1),(sv s_0.2.2.2.2.2.1),(sv s_0.2.2.2.2.2.2.1)])] h (Aq fun v h'=> ∃ψ:AC,∃y:Slc×Slc×Slc×Slc×Slc×Slc×Unit,∃j:List ByteArray,∃k:List ByteArray,∃l:List BA,∃m:List Int,∃n:List Int,∃o:List ByteArray,Sub φ ψ∧v=((.one (.agg [.slice, .slice, .slice, .slice, .slice, .slice])):Sh).val y∧(j,k,l,m,n,o)=r∧Ro.SliceIs Ro.str ψ y.1 j∧Ro.SliceIs Ro.str ψ y.2.1 k∧Ro.SliceIs CA ψ y.2.2.1 l∧Ro.SliceIs (Ro.int .i64) ψ y.2.2.2.1 m∧Ro.SliceIs (Ro.int .i64) ψ y.2.2.2.2.1 n∧Ro.SliceIs Ro.str ψ y.2.2.2.2.2.1 o∧St ψ (F) h'):=by
 refine AQ mixed Tryz.func15 ?_
 rw [Fg]
 unfold Dj
 unfold Bd at hd
 refine AU (vs:= [.int .u8 s_0.1, .int .u8 s_0.2.1,sv s_0.2.2.1,sv s_0.2.2.2.1,sv s_0.2.2.2.2.1,sv s_0.2.2.2.2.2.1,sv s_0.2.2.2.2.2.2.1]) s0 fun r1 az w=> ?_
 refine AU (vs:= [.slice none 0 0, .slice none 0 0, .slice none 0 0, .slice none 0 0, .slice none 0 0, .slice none 0 0]) w fun r2 b0 a=> ?_
 refine AA (x:=s_0.1) a.at1 rfl ?_
 refine AA (x:=s_0.2.1) a.at1 rfl ?_
 refine AA (x:=s_0.2.2.1) a.at1 rfl ?_
 refine AA (x:=s_0.2.2.2.1) a.at1 rfl ?_
 refine AA (x:=s_0.2.2.2.2.1) a.at1 rfl ?_
 refine AA (x:=s_0.2.2.2.2.2.1) a.at1 rfl ?_
 refine AA (x:=s_0.2.2.2.2.2.2.1) a.at1 rfl ?_
 obtain ⟨b1,z,hd⟩:=bS hd
 refine AI (Er (s_0:=(s_0.1,s_0.2.1,s_0.2.2.1,s_0.2.2.2.1,s_0.2.2.2.2.1,s_0.2.2.2.2.2.1,s_0.2.2.2.2.2.2.1,())) p q s t u a z) ?_
 rintro _ b2 ⟨b3,t10,b4,b5,b6,b7,a0,rfl,rfl,a1,a2,a3,a4,a5⟩
 refine ⟨t10,rfl,?_⟩
 try dsimp only at hd
 obtain ⟨b8,a6,hd⟩:=bS hd
 refine AI (JX (g_0:=(t10.1,t10.2.1,t10.2.2.1,t10.2.2.2.1,t10.2.2.2.2.1,())) a1 a2 a3 a4 a5 a6) ?_
 rintro _ b9 ⟨a7,t11,a8,a9,aa,ab,ac,ad,ae,rfl,rfl,af,ag,ah,ai,aj,ak,al⟩
 refine ⟨t11,rfl,?_⟩
 try dsimp only at hd
 refine AU (vs:= [.slice none 0 0, .slice none 0 0, .slice none 0 0, .slice none 0 0, .slice none 0 0, .slice none 0 0]) al fun r12 ba am=> ?_
 refine AP am rfl rfl fun bb an=> ?_
 refine AP an rfl rfl fun bc ao=> ?_
 refine AP ao rfl rfl fun bd ap=> ?_
 refine AP ap rfl rfl fun be aq=> ?_
 refine AP aq rfl rfl fun bf ar=> ?_
 refine AP ar rfl rfl fun bg b=> ?_
 refine AA (x:=t11.1.1) b rfl ?_
 refine AA (x:=t11.1.2.1) b rfl ?_
 refine AA (x:=t11.1.2.2.1) b rfl ?_
 refine AA (x:=t11.1.2.2.2.1) b rfl ?_
 refine AA (x:=t11.1.2.2.2.2.1) b rfl ?_
 refine AA (x:=t11.1.2.2.2.2.2.1) b rfl ?_
 refine AP b.at1 rfl rfl fun bh au=> ?_
 refine AP au rfl rfl fun bi av=> ?_
 refine AP av rfl rfl fun bj aw=> ?_
 refine AP aw rfl rfl fun bk ax=> ?_
 refine AP ax rfl rfl fun bl ay=> ?_
 refine AP ay rfl rfl fun bm c=> ?_
 refine AA (x:=t11.1.1) c rfl ?_
 refine AA (x:=t11.1.2.1) c rfl ?_
 refine AA (x:=t11.1.2.2.1) c rfl ?_
 refine AA (x:=t11.1.2.2.2.1) c rfl ?_
 refine AA (x:=t11.1.2.2.2.2.1) c rfl ?_
 refine AA (x:=t11.1.2.2.2.2.2.1) c rfl ?_
 obtain rfl:=iS hd
 exact AB ⟨a7,(t11.1.1,t11.1.2.1,t11.1.2.2.1,t11.1.2.2.2.1,t11.1.2.2.2.2.1,t11.1.2.2.2.2.2.1,()),a8,a9,aa,ab,ac,ad,(a0.trans ae),rfl,rfl,af,ag,ah,ai,aj,ak,c.tail.tail.tail⟩
end Go.Proofs.YteolcjbobmpdiaaGreatDoor
namespace Go.Eng
open Go
theorem Cq {α:Type} (l:List α) (k:Nat):idx l (k:Int)=l[k]? :=by
 unfold idx
 rw [if_pos (by omega),Int.toNat_natCast]
theorem JC {α:Type} {l:List α} {i:Int} (h0:0≤i) (h1:i.toNat<l.length):idx l i=some l[i.toNat] :=by
 unfold idx
 rw [if_pos h0,List.getElem?_eq_getElem h1]
theorem Es {α:Type} {l:List α} {k:Nat} (h:k<l.length):idx l (k:Int)=some l[k] :=by
 rw [Cq,List.getElem?_eq_getElem h]
theorem Pq {α:Type} {l m:List α} (h:l.length+m.length≤1073741824):app l m=some (l++m):=by unfold app; rw [if_pos h]
theorem Ps {α:Type} {l:List α} {a b:Int} (h0:0≤a) (h1:a≤b) (h2:b≤(l.length:Int)):cut l a b=some ((l.take b.toNat).drop a.toNat):=by unfold cut; rw [if_pos ⟨h0,h1,h2⟩]
theorem Ga {α:Type} {l:List α} {i:Int} {x:α} (h0:0≤i) (h1:i< (l.length:Int)):Dm l i x=some (l.set i.toNat x):=by unfold Dm; rw [if_pos ⟨h0,h1⟩]
theorem EU {α:Type} {p:Prop} [Decidable p] (h:p) (k:Option α):need p k=k:=by unfold need; rw [if_pos h]
theorem Pu {σ:Type} {f:Int→σ→Option σ} (I:Int→σ→Prop): ∀(n:Nat) (i:Int) (s:σ),I i s→(∀j s,i≤j→j<i+n→I j s→ ∃s',f j s=some s'∧I (j+1) s')→ ∃s',Jw f n i s=some s'∧I (i+n) s':=by
 intro n
 induction n with
 | zero=>intro i s hI _; exact ⟨s,rfl,by simpa using hI⟩
 | succ n ih=>
  intro i s hI hs
  obtain ⟨s',h1,h2⟩:=hs i s (Int.le_refl _) (by omega) hI
  obtain ⟨s'',h3,h4⟩:=ih (i+1) s' h2 fun j s hj hj'=>hs j s (by omega) (by omega)
  refine ⟨s'',by simp only [Jw]; rw [h1]; exact h3,?_⟩
  rw [show i+(n+1:Nat)=i+1+n by omega]
  exact h4
theorem B6 {σ:Type} {f:Int→σ→Option σ} {n:Nat} (I:Nat→σ→Prop) (hn:n≤9223372036854775807) {s:σ} (h0:I 0 s) (hs: ∀k s,k<n→I k s→ ∃s',f (k:Int) s=some s'∧I (k+1) s'): ∃s',forS 0 (n:Int) s f=some s'∧I n s':=by
 unfold forS
 rw [if_pos ⟨by omega,by omega⟩]
 obtain ⟨s',h1,h2⟩:=Pu (f:=f) (fun i s=>I i.toNat s) ((n:Int) - 0).toNat 0 s (by simpa using h0) fun j s hj hj' hI=>by
  obtain ⟨s',h1,h2⟩:=hs j.toNat s (by omega) hI
  refine ⟨s',by rw [← h1,show ((j.toNat:Nat):Int)=j by omega],by rw [show (j+1).toNat=j.toNat+1 by omega]; exact h2⟩
 refine ⟨s',h1,?_⟩
 have e:((0:Int) +(((n:Int) - 0).toNat:Nat)).toNat=n:=by omega
 rw [e] at h2
 exact h2
theorem RW {σ β:Type} {f:Int→σ→Option (AW σ β)} (I:Int→σ→Prop) (B:β→Prop): ∀(n:Nat) (i:Int) (s:σ),I i s→(∀j s,i≤j→j<i+n→I j s→(∃s',f j s=some (.next s')∧I (j+1) s')∨ ∃b,f j s=some (.done b)∧B b)→
 (∃s',Hs f n i s=some (.next s')∧I (i+n) s')∨ ∃b,Hs f n i s=some (.done b)∧B b:=by
 intro n
 induction n with
 | zero=>intro i s hI _; exact .inl ⟨s,rfl,by simpa using hI⟩
 | succ n ih=>
  intro i s hI hs
  rcases hs i s (Int.le_refl _) (by omega) hI with ⟨s',h1,h2⟩ | ⟨b,h1,h2⟩
  ·rcases ih (i+1) s' h2 fun j s hj hj'=>hs j s (by omega) (by omega) with ⟨s'',h3,h4⟩ | ⟨b,h3,h4⟩
   ·left
    refine ⟨s'',by simp only [Hs]; rw [h1]; exact h3,?_⟩
    rw [show i+(n+1:Nat)=i+1+n by omega]
    exact h4
   ·exact .inr ⟨b,by simp only [Hs]; rw [h1]; exact h3,h4⟩
  ·exact .inr ⟨b,by simp only [Hs]; rw [h1]; rfl,h2⟩
theorem KS {σ β:Type} {f:Int→σ→Option (AW σ β)} {n:Nat} (I:Nat→σ→Prop) (B:β→Prop) (hn:n≤9223372036854775807) {s:σ} (h0:I 0 s)
 (hs: ∀k s,k<n→I k s→(∃s',f (k:Int) s=some (.next s')∧I (k+1) s')∨ ∃b,f (k:Int) s=some (.done b)∧B b):
 (∃s',Cv 0 (n:Int) s f=some (.next s')∧I n s')∨ ∃b,Cv 0 (n:Int) s f=some (.done b)∧B b:=by
 unfold Cv
 rw [if_pos ⟨by omega,by omega⟩]
 rcases RW (fun i s=>I i.toNat s) B ((n:Int) - 0).toNat 0 s (by simpa using h0) (fun j s hj hj' hI=>by
  have e:((j.toNat:Nat):Int)=j:=by omega
  rcases hs j.toNat s (by omega) hI with ⟨s',h1,h2⟩ | ⟨b,h1,h2⟩
  ·exact .inl ⟨s',by rw [← h1,e],by rw [show (j+1).toNat=j.toNat+1 by omega]; exact h2⟩
  ·exact .inr ⟨b,by rw [← h1,e],h2⟩) with ⟨s',h1,h2⟩ | h
 ·left
  refine ⟨s',h1,?_⟩
  have e:((0:Int) +(((n:Int) - 0).toNat:Nat)).toNat=n:=by omega
  rw [e] at h2
  exact h2
 ·exact .inr h
theorem SR {σ β:Type} {f:Int→σ→Option (AW σ β)} {n:Nat} (I:Nat→σ→Prop) (hn:n≤9223372036854775807) {s:σ} (h0:I 0 s)
 (hs: ∀k s,k<n→I k s→ ∃s',f (k:Int) s=some (.next s')∧I (k+1) s'): ∃s',Cv 0 (n:Int) s f=some (.next s')∧I n s':=by
 rcases KS I (fun _=>False) hn h0 (fun k s hk hI=> .inl (hs k s hk hI)) with h | ⟨_,_,h⟩
 ·exact h
 ·exact h.elim
theorem SS {σ β:Type} {f:σ→Option (AW σ β)} (I:σ→Prop) (μ:σ→Nat) (B:β→Prop) (hs: ∀s,I s→(∃s',f s=some (.next s')∧I s'∧μ s'<μ s)∨ ∃b,f s=some (.done b)∧B b): ∀ {s:σ},I s→ ∃b,loop s f=some b∧B b:=by
 intro s
 generalize hm:μ s=m
 induction m using Nat.strongRecOn generalizing s with
 | ind m ih=>
  intro hI
  rw [Nj]
  rcases hs s hI with ⟨s',h1,h2,h3⟩ | ⟨b,h1,h2⟩
  ·rw [h1]
   exact ih (μ s') (by omega) rfl h2
  ·rw [h1]
   exact ⟨b,rfl,h2⟩
def Ok {α:Type} (o:Option α) (P:α→Prop):Prop:= ∃x,o=some x∧P x
section
variable {α β γ σ:Type} {P:γ→Prop} {k:α→Option γ}
theorem Ok.eq {o:Option α} {x:α} (h:Ok o (· =x)):o=some x:=by obtain ⟨y,h1,h2⟩:=h; rw [h1]; exact congrArg some h2
theorem Ok.of {o:Option α} {x:α} {Q:α→Prop} (h:o=some x) (hq:Q x):Ok o Q:=⟨x,h,hq⟩
theorem Ok.mono {o:Option α} {Q R:α→Prop} (h:Ok o Q) (hq: ∀x,Q x→R x):Ok o R:=by obtain ⟨x,h1,h2⟩:=h; exact ⟨x,h1,hq x h2⟩
theorem AG {x:γ} (h:P x):Ok (some x) P:=⟨x,rfl,h⟩
theorem AO {o:Option α} {Q:α→Prop} (h:Ok o Q) (hk: ∀x,Q x→Ok (k x) P):Ok (o.bind k) P:=by
 obtain ⟨x,h1,h2⟩:=h
 rw [h1]
 exact hk x h2
theorem AR {o:Option α} {x:α} (h:o=some x) (hk:Ok (k x) P):Ok (o.bind k) P:=by rw [h]; exact hk
theorem Bc {p:Prop} {d:Decidable p} {o:Option γ} (h:p) (hk:Ok o P):Ok (@need γ p d o) P:=by
 have: @need γ p d o=o:=by unfold need; exact if_pos h
 rw [this]; exact hk
theorem Cg {c:Bool} {x y:Option γ} (h:c=true) (hk:Ok x P):Ok (cond c x y) P:=by subst h; exact hk
theorem Al {c:Bool} {x y:Option γ} (h:c=false) (hk:Ok y P):Ok (cond c x y) P:=by subst h; exact hk
theorem Ae {c:Bool} {x y:Option γ} (h1:c=true→Ok x P) (h2:c=false→Ok y P):Ok (cond c x y) P:=by
 cases c with
 | true=>exact h1 rfl
 | false=>exact h2 rfl
theorem DS {l:List α} {i:Int} {x:α} (h0:0≤i) (h:l[i.toNat]? =some x) (hk:Ok (k x) P):Ok ((idx l i).bind k) P:=by
 unfold idx
 rw [if_pos h0,h]
 exact hk
theorem AZ {l:List α} {i:Nat} {x:α} (h:l[i]? =some x) (hk:Ok (k x) P):Ok ((idx l (i:Int)).bind k) P:=by
 rw [Cq,h]
 exact hk
theorem Bp {l m:List α} {k:List α→Option γ} (h:l.length+m.length≤1073741824) (hk:Ok (k (l++m)) P):Ok ((app l m).bind k) P:=by
 rw [Pq h]
 exact hk
theorem HX {l:List α} {i:Int} {x:α} {k:List α→Option γ} (h0:0≤i) (h1:i< (l.length:Int)) (hk:Ok (k (l.set i.toNat x)) P):Ok ((Dm l i x).bind k) P:=by
 rw [Ga h0 h1]
 exact hk
theorem CT {f:Int→σ→Option σ} {n:Nat} {s:σ} {k:σ→Option γ} (I:Nat→σ→Prop) (hn:n≤9223372036854775807) (h0:I 0 s) (hs: ∀j s,j<n→I j s→Ok (f (j:Int) s) (I (j+1))) (hk: ∀s',I n s'→Ok (k s') P):
 Ok ((forS 0 (n:Int) s f).bind k) P:=by
 obtain ⟨s',h1,h2⟩:=B6 I hn h0 hs
 rw [h1]
 exact hk s' h2
theorem EV {f:Int→σ→Option (AW σ β)} {n:Nat} {s:σ} {k:AW σ β→Option γ} (I:Nat→σ→Prop) (hn:n≤9223372036854775807) (h0:I 0 s) (hs: ∀j s,j<n→I j s→Ok (f (j:Int) s) (fun e=> ∃s',e= .next s'∧I (j+1) s')) (hk: ∀s',I n s'→Ok (k (.next s')) P):
 Ok ((Cv 0 (n:Int) s f).bind k) P:=by
 obtain ⟨s',h1,h2⟩:=SR I hn h0 (fun j s hj hI=>by
  obtain ⟨e,h1,s',rfl,h2⟩:=hs j s hj hI
  exact ⟨s',h1,h2⟩)
 rw [h1]
 exact hk s' h2
theorem F8 {f:Int→σ→Option (AW σ β)} {n:Nat} {s:σ} {k:AW σ β→Option γ} (I:Nat→σ→Prop) (B:β→Prop) (hn:n≤9223372036854775807) (h0:I 0 s) (hs: ∀j s,j<n→I j s→Ok (f (j:Int) s) (fun e=>(∃s',e= .next s'∧I (j+1) s')∨ ∃b,e= .done b∧B b))
 (hk: ∀s',I n s'→Ok (k (.next s')) P) (hb: ∀b,B b→Ok (k (.done b)) P):
 Ok ((Cv 0 (n:Int) s f).bind k) P:=by
 rcases KS I B hn h0 (fun j s hj hI=>by
  obtain ⟨e,h1,h2⟩:=hs j s hj hI
  rcases h2 with ⟨s',rfl,h2⟩ | ⟨b,rfl,h2⟩
  ·exact .inl ⟨s',h1,h2⟩
  ·exact .inr ⟨b,h1,h2⟩) with ⟨s',h1,h2⟩ | ⟨b,h1,h2⟩
 ·rw [h1]; exact hk s' h2
 ·rw [h1]; exact hb b h2
theorem De {f:σ→Option (AW σ β)} {s:σ} {k:β→Option γ} (I:σ→Prop) (μ:σ→Nat) (B:β→Prop) (h0:I s) (hs: ∀s,I s→Ok (f s) (fun e=>(∃s',e= .next s'∧I s'∧μ s'<μ s)∨ ∃b,e= .done b∧B b)) (hk: ∀b,B b→Ok (k b) P):
 Ok ((loop s f).bind k) P:=by
 obtain ⟨b,h1,h2⟩:=SS I μ B (fun s hI=>by
  obtain ⟨e,h1,h2⟩:=hs s hI
  rcases h2 with ⟨s',rfl,h2⟩ | ⟨b,rfl,h2⟩
  ·exact .inl ⟨s',h1,h2⟩
  ·exact .inr ⟨b,h1,h2⟩) h0
 rw [h1]
 exact hk b h2
theorem Ew {s:σ} {Q:σ→Prop} (h:Q s):Ok (some (AW.next s:AW σ β)) (fun e=> ∃s',e= .next s'∧Q s'):=⟨_,rfl,s,rfl,h⟩
theorem CJ {s:σ} {Q:σ→Prop} {B:β→Prop} (h:Q s):Ok (some (AW.next s:AW σ β)) (fun e=>(∃s',e= .next s'∧Q s')∨ ∃b,e= .done b∧B b):=⟨_,rfl, .inl ⟨s,rfl,h⟩⟩
theorem Bs {b:β} {Q:σ→Prop} {B:β→Prop} (h:B b):Ok (some (AW.done b:AW σ β)) (fun e=>(∃s',e= .next s'∧Q s')∨ ∃b,e= .done b∧B b):=⟨_,rfl, .inr ⟨b,rfl,h⟩⟩
end
theorem KT {α β γ:Type} {P:γ→Prop} {f:Int→Unit→Option (AW Unit β)} {k:AW Unit β→Option γ} (l:List α) (q:Nat→α→Bool) (d:Nat→α→β) (hl:l.length≤9223372036854775807)
 (hf: ∀(j:Nat) x,l[j]? =some x→f (j:Int) ()=some (if q j x then .done (d j x) else .next ()))
 (h1:(∀(j:Nat) x,l[j]? =some x→q j x=false)→Ok (k (.next ())) P) (h2: ∀(j:Nat) x,l[j]? =some x→q j x=true→(∀(i:Nat) y,i<j→l[i]? =some y→q i y=false)→Ok (k (.done (d j x))) P):
 Ok ((Cv (0:Int) ((l.length:Nat):Int) () f).bind k) P:=by
 refine F8 (fun i _=> ∀(j:Nat) y,j<i→l[j]? =some y→q j y=false) (fun b=> ∃(j:Nat) (x:α),l[j]? =some x∧q j x=true∧(∀(i:Nat) y,i<j→l[i]? =some y→q i y=false)∧b=d j x) hl (fun j y h=>by omega) (fun i _ hi hI=> ?_) (fun _ h=>h1 fun j x hx=>h j x (List.getElem?_eq_some_iff.1 hx).1 hx) (fun b ⟨j,x,g1,g2,g3,g4⟩=>by rw [g4]; exact h2 j x g1 g2 g3)
 have hx:=List.getElem?_eq_getElem hi
 rw [hf i _ hx]
 cases hq:q i l[i] with
 | true=>exact ⟨_,rfl, .inr ⟨_,rfl,i,_,hx,hq,hI,rfl⟩⟩
 | false=>
  refine ⟨_,rfl, .inl ⟨(),rfl,fun j y hj hy=> ?_⟩⟩
  rcases Nat.lt_succ_iff_lt_or_eq.1 hj with h | rfl
  ·exact hI j y h hy
  ·rw [hx] at hy; cases hy; exact hq
end Go.Eng
namespace Go.Proofs.YteolcjbobmpdiaaGreatDoor
open Go Go.Eng
set_option linter.unusedVariables false
set_option maxRecDepth 100000
theorem LW (b:ByteArray):b.toList=b.data.toList:=by
 have hsz:b.size=b.data.toList.length:=by rw [Array.length_toList]; rfl
 have key: ∀(n i:Nat) (r:List UInt8),b.size - i=n→ByteArray.toList.loop b i r=r.reverse++b.data.toList.drop i:=by
  intro n
  induction n with
  | zero=>
   intro i r h
   rw [ByteArray.toList.loop.eq_1,if_neg (by omega),List.drop_eq_nil_of_le (by omega),List.append_nil]
  | succ n ih=>
   intro i r h
   have hi:i<b.size:=by omega
   rw [ByteArray.toList.loop.eq_1,if_pos hi,ih (i+1) _ (by omega)]
   have hi':i<b.data.toList.length:=by omega
   rw [List.drop_eq_getElem_cons hi',List.reverse_cons,List.append_assoc]
   have:b.get! i=b.data.toList[i] :=by
    cases b with
    | mk a=>
     show a[i]! =_
     rw [getElem!_pos a i (by simpa using hi')]
     rw [Array.getElem_toList]
   rw [this]
   rfl
 unfold ByteArray.toList
 rw [key _ 0 [] rfl]
 rfl
theorem DT (a b:ByteArray):(a.toList==b.toList)=decide (a=b):=by
 rw [LW,LW]
 by_cases h:a=b
 ·subst h; simp
 ·rw [decide_eq_false h]
  refine beq_eq_false_iff_ne.2 fun e=>h ?_
  cases a; cases b
  simp only [ByteArray.mk.injEq]
  exact Array.toList_inj.1 e
theorem F9 {l:List ByteArray} {s:ByteArray} (hl:l.length≤9223372036854775807):Ok (Ar l s) fun k=>(k= -1∧s ∉ l)∨ ∃j:Nat,k=j∧l[j]? =some s:=by
 unfold Ar
 refine KT l (fun _ x=>decide (x=s)) (fun k _=>k) hl (fun k x hx=> ?_) (fun h=> ?_) fun j x hx hq _=> ?_
 ·rw [Cq,hx,Option.bind_some,DT]
  cases decide (x=s) <;>rfl
 ·refine AG (.inl ⟨rfl,fun hm=> ?_⟩)
  obtain ⟨j,hj⟩:=List.getElem?_of_mem hm
  have:=h j s hj
  simp at this
 ·refine AG (.inr ⟨j,rfl,?_⟩)
  rw [hx,of_decide_eq_true hq]
def nm (c i:Nat):ByteArray:=⟨#[UInt8.ofNat (c+i)]⟩
theorem J6 {c i d j:Nat} (h1:c+i<256) (h2:d+j<256) (h:nm c i=nm d j):c+i=d+j:=by
 unfold nm at h
 simp only [ByteArray.mk.injEq,Array.mk.injEq,List.cons.injEq,and_true] at h
 have:=congrArg UInt8.toNat h
 simp at this
 omega
theorem Va {i:Nat} (h:i<5):ByteArray.extract {data:= #[97,98,99,100,101] } i (i+1)=nm 97 i:=by
 match i,h with
 | 0,_ | 1,_ | 2,_ | 3,_ | 4,_=>decide
theorem Vb {i:Nat} (h:i<5):ByteArray.extract {data:= #[112,113,114,115,116] } i (i+1)=nm 112 i:=by
 match i,h with
 | 0,_ | 1,_ | 2,_ | 3,_ | 4,_=>decide
theorem Vc {i:Nat} (h:i<4):ByteArray.extract {data:= #[83,84,85,86] } i (i+1)=nm 83 i:=by
 match i,h with
 | 0,_ | 1,_ | 2,_ | 3,_=>decide
inductive Nm:ByteArray→Prop
 | tok {i:Nat} :i<5→Nm (nm 97 i)
 | lev {i:Nat} :i<5→Nm (nm 112 i)
 | var {i:Nat} :i<4→Nm (nm 83 i)
theorem Qg {c i:Nat} (h:(65≤c+i∧c+i≤90)∨(97≤c+i∧c+i≤122)):A9 (nm c i)=some true:=by
 generalize e:c+i=n at h
 have:nm c i=⟨#[UInt8.ofNat n]⟩:=by unfold nm; rw [e]
 rw [this]
 have all: ∀m:Fin 123,((65≤m.1∧m.1≤90)∨(97≤m.1∧m.1≤122))→(B2 ((UInt8.toNat (UInt8.ofNat m.1):Nat):Int))=some true:=by
  have: ∀m:Fin 123,((65≤m.1∧m.1≤90)∨(97≤m.1∧m.1≤122))→(match B2 ((UInt8.toNat (UInt8.ofNat m.1):Nat):Int) with | some true=>true | _=>false)=true:=by
   decide+kernel
  intro m hm
  have:=this m hm
  split at this
  ·assumption
  ·cases this
 have hl:=all ⟨n,by omega⟩ h
 refine Ok.eq ?_
 unfold A9 Cp
 have hs:ByteArray.size {data:= #[UInt8.ofNat n] } =1:=rfl
 rw [hs]
 refine AO (Q:=fun x=>x=true) (Cg rfl (AO (Q:=fun x=>x=true) ?_ fun _ h=>AG h)) fun _ h=>AG h
 refine EV (fun _ _=>True) (by omega) trivial (fun j s hj _=> ?_) fun s _=> ?_
 ·obtain rfl:j=0:=by omega
  refine AO (Q:=fun x=>x=false) (Bc (by omega) (AR hl (Al rfl (AG rfl)))) fun _ h=> ?_
  subst h
  exact Ew trivial
 ·rw [DT,decide_eq_false (fun h=>by simp at h)]
  exact AG rfl
theorem Nm.name {s:ByteArray} (h:Nm s):A9 s=some true:=by
 cases h with
 | tok h | lev h | var h=>exact Qg (by omega)
theorem Nm.ne {s:ByteArray} (h:Nm s):s ≠ ⟨#[]⟩:=by
 cases h with
 | tok h | lev h | var h=>intro e; unfold nm at e; simp at e
theorem Nm.size {s:ByteArray} (h:Nm s):s.size=1:=by
 cases h with
 | tok h | lev h | var h=>rfl
theorem Pv:(ByteArray.toList {data:= #[] } ==ByteArray.toList {data:= #[] })=true:=by rw [DT]; rfl
theorem KU:B5 {data:= #[] } =some true:=by rfl
theorem Nu {s:ByteArray} (h:Nm s):Bb (s,{data:= #[] },false)=some true:=by
 unfold Bb
 dsimp only
 have e:=h.size
 rw [Pv,DT,decide_eq_false h.ne,e]
 rfl
theorem Qi {l:List ByteArray} (hl:l.length≤9223372036854775807) (h: ∀x ∈ l,Nm x) (hn:l.Nodup):BP l=some true:=by
 refine Ok.eq ?_
 unfold BP
 refine EV (fun _ _=>True) hl trivial (fun k s hk _=> ?_) fun _ _=>AG rfl
 have hk':=List.getElem?_eq_getElem hk
 refine AZ hk' (AR (h _ (List.getElem_mem hk)).name ?_)
 refine Al rfl ?_
 refine EV (fun _ _=>True) (by omega) trivial (fun j s hj _=> ?_) fun _ _=>Ew trivial
 have hj':=List.getElem?_eq_getElem (show j<l.length by omega)
 refine AZ hj' (AZ hk' ?_)
 rw [DT,decide_eq_false (List.pairwise_iff_getElem.1 (List.nodup_iff_pairwise_ne.1 hn) j k (by omega) hk hj)]
 exact Ew trivial
theorem wr {x:Int} (h: -1000000≤x∧x≤1000000):IntKind.wrap .i64 x=x:=w64 (by omega) (by omega)
theorem tm {x n:Int} (h:0≤x):Int.tmod x n=x % n:=Int.tmod_eq_emod_of_nonneg h
theorem ST {i:Int} (h0:0≤i) (h1:i<5):ByteArray.extract {data:= #[112,113,114,115,116] } (Int.toNat i) (Int.toNat (i+1))=nm 112 i.toNat:=by
 rw [show Int.toNat (i+1)=i.toNat+1 by omega,Vb (by omega)]
theorem SU {i:Int} (h0:0≤i) (h1:i<5):ByteArray.extract {data:= #[97,98,99,100,101] } (Int.toNat i) (Int.toNat (i+1))=nm 97 i.toNat:=by
 rw [show Int.toNat (i+1)=i.toNat+1 by omega,Va (by omega)]
theorem Pw {i:Int} (h0:0≤i) (h1:i<4):ByteArray.extract {data:= #[83,84,85,86] } (Int.toNat i) (Int.toNat (i+1))=nm 83 i.toNat:=by
 rw [show Int.toNat (i+1)=i.toNat+1 by omega,Vc (by omega)]
def Et (L:List EN):List ByteArray:=L.flatMap (·.2)
structure Lv (nl nk:Nat) (L:List EN):Prop where
 len:L.length=nl
 each: ∀(j:Nat) x,L[j]? =some x→1≤x.1∧x.1≤3∧nm 112 j ∈ x.2
 names: ∀x ∈ Et L,(∃i,i<nl∧x=nm 112 i)∨ ∃i,i<nk∧x=nm 97 i
 once:(Et L).Nodup
 room:(Et L).length≤nl+nk
def Tk (n:Nat) (l:List Fq):Prop:=l.length=n∧ ∀j,j<n→l[j]? =some (nm 97 j,nm 97 j,{data:= #[] },false)
structure Ru1 (nt nv nl:Nat) (r:Cw):Prop where
 left: ∃i,i<nv∧r.1=nm 83 i
 few:r.2.1.length≤5
 right: ∀x ∈ r.2.1,(∃i,i<nt∧x=nm 97 i)∨ ∃i,i<nv∧x=nm 83 i
 prec:r.2.2.1= {data:= #[] } ∨ ∃i,i<nl∧r.2.2.1=nm 112 i
 act:r.2.2.2= {data:= #[] }
theorem Lv.snoc {k:Nat} {L:List EN} {a:Int} (H:Lv k 0 L) (ha:1≤a∧a≤3) (hk:k<5):Lv (k+1) 0 (L++ [(a, [nm 112 k])]):=by
 have e:Et (L++ [(a, [nm 112 k])])=Et L++ [nm 112 k] :=by unfold Et; rw [List.flatMap_append]; rfl
 refine ⟨by simp [H.len],fun j x hj=> ?_,fun x hx=> ?_,?_,?_⟩
 ·rcases Nat.lt_or_ge j L.length with g | g
  ·rw [List.getElem?_append_left g] at hj; exact H.each j x hj
  ·rw [List.getElem?_append_right g] at hj
   have:j - L.length=0:=by
    rcases Nat.eq_zero_or_pos (j - L.length) with q | q
    ·exact q
    ·rw [List.getElem?_eq_none (by simp; omega)] at hj; cases hj
   rw [this] at hj
   simp at hj
   subst hj
   have:j=k:=by have:=H.len; omega
   subst this
   exact ⟨ha.1,ha.2,by simp⟩
 ·rw [e] at hx
  rcases List.mem_append.1 hx with h | h
  ·rcases H.names x h with ⟨i,h1,h2⟩ | ⟨i,h1,h2⟩
   ·exact .inl ⟨i,by omega,h2⟩
   ·omega
  ·exact .inl ⟨k,by omega,by simpa using h⟩
 ·rw [e]
  refine List.nodup_append.2 ⟨H.once,by simp,fun x hx y hy hxy=> ?_⟩
  have hy:y=nm 112 k:=by simpa using hy
  subst hy
  rcases H.names x hx with ⟨i,h1,h2⟩ | ⟨i,h1,h2⟩
  ·rw [h2] at hxy
   have:=J6 (by omega) (by omega) hxy
   omega
  ·omega
 ·rw [e,List.length_append]
  have:=H.room
  simp
  omega
theorem SV {L:List EN} {q:Nat} {a:Int} {ns:List ByteArray} {y:ByteArray} (h:L[q]? =some (a,ns)):(Et (L.set q (a,ns++ [y]))).Perm (y::Et L):=by
 induction L generalizing q with
 | nil=>simp at h
 | cons x L ih=>
  cases q with
  | zero=>
   simp at h
   subst h
   show (ns++ [y] ++Et L).Perm (y::(ns++Et L))
   rw [List.append_assoc]
   exact List.perm_middle
  | succ q=>
   have:=ih (q:=q) (by simpa using h)
   show (x.2++Et (L.set q (a,ns++ [y]))).Perm (y::(x.2++Et L))
   exact (this.append_left x.2).trans List.perm_middle
theorem Lv.put {nl k:Nat} {L:List EN} {q:Nat} {a:Int} {ns:List ByteArray} (H:Lv nl k L) (hk:k<5) (hn:nl≤5) (h:L[q]? =some (a,ns)):Lv nl (k+1) (L.set q (a,ns++ [nm 97 k])):=by
 have hp:=SV (y:=nm 97 k) h
 refine ⟨by simp [H.len],fun j x hj=> ?_,fun x hx=> ?_,?_,?_⟩
 ·by_cases hq:j=q
  ·subst hq
   rw [List.getElem?_set_self (List.getElem?_eq_some_iff.1 h).1] at hj
   cases hj
   obtain ⟨h1,h2,h3⟩:=H.each j _ h
   exact ⟨h1,h2,List.mem_append_left _ h3⟩
  ·rw [List.getElem?_set_ne (fun e=>hq e.symm)] at hj
   exact H.each j x hj
 ·rcases List.mem_cons.1 (hp.mem_iff.1 hx) with rfl | h
  ·exact .inr ⟨k,by omega,rfl⟩
  ·rcases H.names x h with h | ⟨i,h1,h2⟩
   ·exact .inl h
   ·exact .inr ⟨i,by omega,h2⟩
 ·rw [hp.nodup_iff]
  refine List.nodup_cons.2 ⟨fun hm=> ?_,H.once⟩
  rcases H.names _ hm with ⟨i,h1,h2⟩ | ⟨i,h1,h2⟩
  ·have:=J6 (by omega) (by omega) h2
   omega
  ·have:=J6 (by omega) (by omega) h2
   omega
 ·rw [hp.length_eq,List.length_cons]
  have:=H.room
  omega
theorem Lv.up {nl k:Nat} {L:List EN} (H:Lv nl k L):Lv nl (k+1) L:=⟨H.len,H.each,fun x hx=>by
 rcases H.names x hx with h | ⟨i,h1,h2⟩
 ·exact .inl h
 ·exact .inr ⟨i,by omega,h2⟩,H.once,by have:=H.room; omega⟩
theorem Tk.snoc {k:Nat} {l:List Fq} (H:Tk k l):Tk (k+1) (l++ [(nm 97 k,nm 97 k,{data:= #[] },false)]):=by
 refine ⟨by simp [H.1],fun j hj=> ?_⟩
 rcases Nat.lt_or_ge j k with g | g
 ·rw [List.getElem?_append_left (by rw [H.1]; exact g)]; exact H.2 j g
 ·have:j=k:=by omega
  subst this
  rw [List.getElem?_append_right (by rw [H.1]; omega),H.1]
  simp
structure Sg (nt nv nl:Nat) (g:CN):Prop where
 nt1:1≤nt
 nt5:nt≤5
 nv1:1≤nv
 nv4:nv≤4
 nl5:nl≤5
 toks:Tk nt g.1
 skips:g.2.1= []
 levs:Lv nl nt g.2.2.1
 start:g.2.2.2.1=nm 83 0
 rules: ∀r ∈ g.2.2.2.2,Ru1 nt nv nl r
 all: ∀v,v<nv→ ∃r ∈ g.2.2.2.2,r.1=nm 83 v
 room:g.2.2.2.2.length≤16
structure SmG (s:Lf):Prop where
 t0:0≤s.1∧s.1<256
 v0:0≤s.2.1∧s.2.1<256
 lefts:s.2.2.1.length≤9223372036854775807∧ ∀x ∈ s.2.2.1,0≤x∧x<256
 rights:s.2.2.2.1.length≤9223372036854775807∧ ∀l ∈ s.2.2.2.1,l.length≤9223372036854775807∧ ∀x ∈ l,0≤x∧x<256
 precs:s.2.2.2.2.1.length≤9223372036854775807∧ ∀x ∈ s.2.2.2.2.1,0≤x∧x<256
 assocs:s.2.2.2.2.2.1.length≤9223372036854775807∧ ∀x ∈ s.2.2.2.2.2.1,0≤x∧x<256
 levels:s.2.2.2.2.2.2.length≤9223372036854775807∧ ∀x ∈ s.2.2.2.2.2.2,0≤x∧x<256
structure SmF (n m:Nat) (s:Lf):Prop where
 lefts:s.2.2.1.length≤n
 assocs:s.2.2.2.2.2.1.length≤5
 rights: ∀l ∈ s.2.2.2.1,l.length≤m
theorem Vd {s:Lf} (G:SmG s) (n m:Nat):Ok (Bh s (n:Int) (m:Int)) fun b=>b=true→SmF n m s:=by
 unfold Bh
 refine AO (Q:=fun c=>c=false→s.2.2.1.length≤n∧s.2.2.2.2.2.1.length≤5) (Ae (fun h=>AG (by simp)) fun h=>AG fun h'=> ?_) fun c hc=> ?_
 ·have h:=of_decide_eq_false h; have h':=of_decide_eq_false h'; omega
 refine Ae (fun _=>AG (by simp)) fun h=> ?_
 obtain ⟨h1,h2⟩:=hc h
 refine KT s.2.2.2.1 (fun _ l=>decide (((l.length:Nat):Int) >(m:Int))) (fun _ _=>false) (by have:=G.rights.1; omega) (fun j x hx=> ?_) (fun h=>AG fun _=>⟨h1,h2,fun l hl=> ?_⟩) fun j x hx hq _=>AG (by simp)
 ·rw [Cq,hx,Option.bind_some]
  cases decide (((x.length:Nat):Int) >(m:Int)) <;>rfl
 ·obtain ⟨j,hj⟩:=List.getElem?_of_mem hl
  have:=of_decide_eq_false (h j l hj)
  omega
set_option maxHeartbeats 4000000 in
theorem Px {s:Lf} (G:SmG s) (F:SmF 12 5 s):Ok (BM s) (Sg (s.1.toNat % 5+1) (s.2.1.toNat % 4+1) s.2.2.2.2.2.1.length):=by
 obtain ⟨tk,vr,lefts,rights,precs,assocs,levels⟩:=s
 obtain ⟨g1,g2,g3,g4,g5,g6,g7⟩:=G
 obtain ⟨f1,f2,f3⟩:=F
 dsimp only at *
 unfold BM
 dsimp only
 have et:IntKind.wrap .i64 ((IntKind.wrap .i64 (Int.tmod tk (5:Int))) +(1:Int))=((tk.toNat % 5+1:Nat):Int):=by
  rw [tm g1.1,wr (show -1000000≤tk % 5∧tk % 5≤1000000 by omega),wr (by omega)]; omega
 have ev:IntKind.wrap .i64 ((IntKind.wrap .i64 (Int.tmod vr (4:Int))) +(1:Int))=((vr.toNat % 4+1:Nat):Int):=by
  rw [tm g2.1,wr (show -1000000≤vr % 4∧vr % 4≤1000000 by omega),wr (by omega)]; omega
 rw [et,ev]
 generalize hnt:tk.toNat % 5+1=nt
 generalize hnv:vr.toNat % 4+1=nv
 have s5:(ByteArray.size {data:= #[112,113,114,115,116] } :Nat)=5:=rfl
 have s5':(ByteArray.size {data:= #[97,98,99,100,101] } :Nat)=5:=rfl
 have s4:(ByteArray.size {data:= #[83,84,85,86] } :Nat)=4:=rfl
 rw [s5,s5',s4]
 refine Bc (by decide) (Bc (by decide) ?_)
 refine CT (fun k (z:CN)=>z.1= [] ∧z.2.1= [] ∧Lv k 0 z.2.2.1∧z.2.2.2.1=nm 83 0∧z.2.2.2.2= []) (by omega) ⟨rfl,rfl,⟨rfl,fun j x h=>by simp at h,fun x h=>by simp [Et] at h,by simp [Et],by simp [Et]⟩,rfl,rfl⟩ (fun k z hk h=> ?_) fun z hz=> ?_
 ·obtain ⟨z1,z2,z3,z4,z5⟩:=z
  obtain ⟨rfl,rfl,h,rfl,rfl⟩:=h
  have hx:=List.getElem?_eq_getElem hk
  have hb:=g6.2 _ (List.getElem_mem hk)
  refine AZ hx (Bc (by decide) (Bc ?_ ?_))
  ·rw [wr (by omega)]; omega
  have hl:=h.len
  dsimp only at hl ⊢
  refine Bp (by simp; omega) (AG ⟨rfl,rfl,?_,rfl,rfl⟩)
  rw [tm hb.1,wr (show -1000000≤assocs[k] % 3∧assocs[k] % 3≤1000000 by omega),wr (show -1000000≤assocs[k] % 3+1∧assocs[k] % 3+1≤1000000 by omega),wr (show -1000000≤(k:Int) +1∧(k:Int) +1≤1000000 by omega),ST (by omega) (by omega)]
  exact h.snoc (by omega) (by omega)
 obtain ⟨z1,z2,z3,z4,z5⟩:=z
 obtain ⟨rfl,rfl,hz,rfl,rfl⟩:=hz
 dsimp only at hz
 refine CT (fun k (z:CN)=>Tk k z.1∧z.2.1= [] ∧Lv assocs.length k z.2.2.1∧z.2.2.2.1=nm 83 0∧z.2.2.2.2= []) (by omega) ⟨⟨rfl,fun j h=>by omega⟩,rfl,hz,rfl,rfl⟩ (fun k z hk h=> ?_) fun z hz=> ?_
 ·obtain ⟨z1,z2,z3,z4,z5⟩:=z
  obtain ⟨ht,rfl,hL,rfl,rfl⟩:=h
  dsimp only at ht hL ⊢
  have hl:=hL.len
  have htl:=ht.1
  refine Bc (by rw [wr (by omega)]; omega) ?_
  rw [wr (show -1000000≤(k:Int) +1∧(k:Int) +1≤1000000 by omega),SU (by omega) (by omega),Int.toNat_natCast]
  refine Bp (by simp; omega) ?_
  refine AO (Q:=fun (z:CN)=>Tk (k+1) z.1∧z.2.1= [] ∧Lv assocs.length (k+1) z.2.2.1∧z.2.2.2.1=nm 83 0∧z.2.2.2.2= []) (Ae (fun hc=> ?_) fun _=>AG ⟨ht.snoc,rfl,hL.up,rfl,rfl⟩) fun _ h=>AG h
  have hc:=of_decide_eq_true hc
  have hx:=List.getElem?_eq_getElem (show k<levels.length by omega)
  have hb:=g7.2 _ (List.getElem_mem (show k<levels.length by omega))
  refine AZ hx (Bc (by rw [wr (by omega)]; omega) ?_)
  have hm:0≤levels[k] % ((z3.length:Int) +1)∧levels[k] % ((z3.length:Int) +1) < (z3.length:Int) +1:=⟨Int.emod_nonneg _ (by omega),Int.emod_lt_of_pos _ (by omega)⟩
  rw [wr (show -1000000≤levels[k] ∧levels[k] ≤1000000 by omega),wr (show -1000000≤(z3.length:Int) +1∧(z3.length:Int) +1≤1000000 by omega),tm hb.1]
  generalize levels[k] % ((z3.length:Int) +1)=q at hm
  refine AO (Q:=fun (z:CN)=>Tk (k+1) z.1∧z.2.1= [] ∧Lv assocs.length (k+1) z.2.2.1∧z.2.2.2.1=nm 83 0∧z.2.2.2.2= []) (Ae (fun hq=> ?_) fun _=>AG ⟨ht.snoc,rfl,hL.up,rfl,rfl⟩) fun _ h=>AG h
  have hq:=of_decide_eq_true hq
  rw [wr (show -1000000≤q - 1∧q - 1≤1000000 by omega)]
  have hq':(q - 1).toNat<z3.length:=by omega
  have hy:=List.getElem?_eq_getElem hq'
  have hroom:z3[(q - 1).toNat].2.length≤(Et z3).length:=(List.sublist_flatten_of_mem (List.mem_map_of_mem (List.getElem_mem hq'))).length_le
  have hr:=hL.room
  refine DS (by omega) hy (Bp (by simp only [List.length_nil]; omega) (Bp (by simp only [List.length_nil,List.length_append,List.length_cons]; omega) (DS (by omega) hy (HX (by omega) (by omega) (AG ⟨ht.snoc,rfl,?_,rfl,rfl⟩)))))
  exact hL.put (by omega) (by omega) hy
 obtain ⟨z1,z2,z3,z4,z5⟩:=z
 obtain ⟨hT,rfl,hL,rfl,rfl⟩:=hz
 dsimp only at hT hL
 have hl:=hL.len
 refine CT (fun k (z:CN)=>z.1=z1∧z.2.1= [] ∧z.2.2.1=z3∧z.2.2.2.1=nm 83 0∧z.2.2.2.2.length=k∧ ∀r ∈ z.2.2.2.2,Ru1 nt nv assocs.length r) (by omega) ⟨rfl,rfl,rfl,rfl,rfl,by simp⟩ (fun k z hk h=> ?_) fun z hz=> ?_
 ·obtain ⟨y1,y2,y3,y4,y5⟩:=z
  obtain ⟨rfl,rfl,rfl,rfl,hlen,hr⟩:=h
  dsimp only at hlen hr hl ⊢
  have hx:=List.getElem?_eq_getElem hk
  have hb:=g3.2 _ (List.getElem_mem hk)
  have hm:0≤lefts[k] % (nv:Int)∧lefts[k] % (nv:Int) < (nv:Int):=⟨Int.emod_nonneg _ (by omega),Int.emod_lt_of_pos _ (by omega)⟩
  refine AZ hx (Bc (by omega) (AZ hx (Bc (by omega) ?_)))
  rw [wr (show -1000000≤lefts[k] ∧lefts[k] ≤1000000 by omega),tm hb.1]
  generalize lefts[k] % (nv:Int)=q at hm
  rw [wr (show -1000000≤q+1∧q+1≤1000000 by omega)]
  refine Bc (by omega) ?_
  rw [Pw (by omega) (by omega)]
  refine AO (Q:=fun (x:Cw)=>x.2.2.1= {data:= #[] } ∧Ru1 nt nv assocs.length x) (Ae (fun hc=> ?_) fun _=>AG ⟨rfl,⟨q.toNat,by omega,rfl⟩,by simp,by simp, .inl rfl,rfl⟩) fun x hx'=> ?_
  ·have hc:=of_decide_eq_true hc
   have hR:=List.getElem?_eq_getElem (show k<rights.length by omega)
   have hRm:=List.getElem_mem (show k<rights.length by omega)
   have hR5:=f3 _ hRm
   have hRb:=(g4.2 _ hRm).2
   generalize rights[k] =R at hR hR5 hRb
   refine De (fun (z:Int×Cw)=>0≤z.1∧z.1≤(R.length:Int)∧(z.2.2.1.length:Int)=z.1∧z.2.2.2.1= {data:= #[] } ∧Ru1 nt nv assocs.length z.2) (fun z=>(R.length:Nat) - z.1.toNat) (fun x=>x.2.2.1= {data:= #[] } ∧Ru1 nt nv assocs.length x) ⟨Int.le_refl _,by dsimp only; omega,rfl,rfl,⟨q.toNat,by omega,rfl⟩,by simp,by simp, .inl rfl,rfl⟩ (fun z hz=> ?_) fun x hx=>AG hx
   obtain ⟨i,z⟩:=z
   obtain ⟨h0,h1,h2,h3,h4⟩:=hz
   dsimp only at h0 h1 h2 h3 h4 ⊢
   refine AZ hR (Ae (fun hc=> ?_) fun hc=>Bs ⟨h3,h4⟩)
   have hc:=of_decide_eq_true hc
   have hi:i.toNat<R.length:=by omega
   have hy:=List.getElem?_eq_getElem hi
   have hyb:=hRb _ (List.getElem_mem hi)
   refine AZ hR (DS h0 hy ?_)
   generalize R[i.toNat] =e at hyb
   rw [wr (show -1000000≤e∧e≤1000000 by omega),wr (show -1000000≤(nt:Int) +(nv:Int)∧(nt:Int) +(nv:Int) ≤1000000 by omega),tm hyb.1]
   have hm2:0≤e % ((nt:Int) +(nv:Int))∧e % ((nt:Int) +(nv:Int)) < (nt:Int) +(nv:Int):=⟨Int.emod_nonneg _ (by omega),Int.emod_lt_of_pos _ (by omega)⟩
   generalize e % ((nt:Int) +(nv:Int))=w at hm2
   rw [tm hm2.1,wr (show -1000000≤w % 5+1∧w % 5+1≤1000000 by omega)]
   refine Bc (by omega) (Bc (by decide) (Bc (by decide) (Bc (by omega) ?_)))
   refine AO (Q:=fun x=>(∃i,i<nt∧x=nm 97 i)∨ ∃i,i<nv∧x=nm 83 i) (Ae (fun hw=> ?_) fun hw=>AG ?_) fun x hx=> ?_
   ·have hw:=of_decide_eq_true hw
    rw [wr (show -1000000≤w - (nt:Int)∧w - (nt:Int) ≤1000000 by omega),wr (show -1000000≤w - (nt:Int) +1∧w - (nt:Int) +1≤1000000 by omega)]
    refine Bc (by omega) (AG ?_)
    rw [Pw (by omega) (by omega)]
    exact .inr ⟨_,by omega,rfl⟩
   ·have hw:=of_decide_eq_false hw
    rw [SU (by omega) (by omega)]
    exact .inl ⟨_,by omega,rfl⟩
   ·refine Bp (by simp; omega) (CJ ⟨⟨?_,?_,?_,h3,⟨h4.left,?_,?_,h4.prec,h4.act⟩⟩,?_⟩)
    ·rw [wr (by omega)]; omega
    ·rw [wr (by omega)]; omega
    ·rw [wr (by omega),List.length_append]; simp; omega
    ·rw [List.length_append]; simp; omega
    ·intro x' hx'
     rcases List.mem_append.1 hx' with h | h
     ·exact h4.right _ h
     ·have:x'=x:=by simpa using h
      subst this; exact hx
    ·rw [wr (by omega)]; omega
  ·obtain ⟨hp,hr1⟩:=hx'
   obtain ⟨x1,x2,x3,x4⟩:=x
   dsimp only at hp ⊢
   subst hp
   refine AO (Q:=Ru1 nt nv assocs.length) (Ae (fun hc=> ?_) fun _=>AG hr1) fun x hx=> ?_
   ·have hc:=of_decide_eq_true hc
    have hP:=List.getElem?_eq_getElem (show k<precs.length by omega)
    have hPb:=g5.2 _ (List.getElem_mem (show k<precs.length by omega))
    refine AZ hP ?_
    generalize precs[k] =e at hPb
    rw [wr (show -1000000≤e∧e≤1000000 by omega),wr (show -1000000≤(y3.length:Int) +1∧(y3.length:Int) +1≤1000000 by omega),tm hPb.1]
    have hm2:0≤e % ((y3.length:Int) +1)∧e % ((y3.length:Int) +1) < (y3.length:Int) +1:=⟨Int.emod_nonneg _ (by omega),Int.emod_lt_of_pos _ (by omega)⟩
    generalize e % ((y3.length:Int) +1)=w at hm2
    refine Bc (by omega) ?_
    refine AO (Q:=Ru1 nt nv assocs.length) (Ae (fun hw=> ?_) fun _=>AG hr1) fun x hx=>AG hx
    have hw:=of_decide_eq_true hw
    rw [wr (show -1000000≤w - 1∧w - 1≤1000000 by omega)]
    refine Bc (by omega) (AG ⟨hr1.left,hr1.few,hr1.right, .inr ⟨(w - 1).toNat,by omega,?_⟩,hr1.act⟩)
    have:=ST (i:=w - 1) (by omega) (by omega)
    rw [show w - 1+1=w by omega] at this
    exact this
   ·refine Bp (by simp; omega) (AG ⟨rfl,rfl,rfl,rfl,by simp [hlen],fun r hr'=> ?_⟩)
    rcases List.mem_append.1 hr' with h | h
    ·exact hr _ h
    ·have:r=x:=by simpa using h
     subst this; exact hx
 obtain ⟨y1,y2,y3,y4,y5⟩:=z
 obtain ⟨rfl,rfl,rfl,rfl,hlen,hr⟩:=hz
 dsimp only at hlen hr
 refine CT (fun k (z:CN)=>z.1=y1∧z.2.1= [] ∧z.2.2.1=y3∧z.2.2.2.1=nm 83 0∧z.2.2.2.2.length≤lefts.length+k∧(∀r ∈ z.2.2.2.2,Ru1 nt nv assocs.length r)∧ ∀v,v<k→ ∃r ∈ z.2.2.2.2,r.1=nm 83 v) (by omega) ⟨rfl,rfl,rfl,rfl,by dsimp only; omega,hr,fun v hv=>by omega⟩ (fun k z hk h=> ?_) fun z hz=> ?_
 ·obtain ⟨x1,x2,x3,x4,x5⟩:=z
  obtain ⟨rfl,rfl,rfl,rfl,h1,h2,h3⟩:=h
  dsimp only at h1 h2 h3 ⊢
  refine Bc (by rw [wr (by omega)]; omega) ?_
  rw [wr (show -1000000≤(k:Int) +1∧(k:Int) +1≤1000000 by omega),Pw (by omega) (by omega),Int.toNat_natCast]
  refine De (fun (z:Int×Bool)=>0≤z.1∧z.1≤(x5.length:Int)∧(z.2=true→ ∃r ∈ x5,r.1=nm 83 k)) (fun z=>x5.length - z.1.toNat) (fun b=>b=true→ ∃r ∈ x5,r.1=nm 83 k) ⟨by decide,by dsimp only; omega,by simp⟩ (fun z hz=> ?_) fun b hb=> ?_
  ·obtain ⟨i,b⟩:=z
   obtain ⟨j1,j2,j3⟩:=hz
   dsimp only at j1 j2 j3 ⊢
   refine Ae (fun hc=> ?_) fun hc=>Bs j3
   have hc:=of_decide_eq_true hc
   have hi:i.toNat<x5.length:=by omega
   have hy:=List.getElem?_eq_getElem hi
   refine AO (Q:=fun b=>b=true→ ∃r ∈ x5,r.1=nm 83 k) (Ae (fun hb=>AG fun _=>j3 hb) fun _=>DS j1 hy (AG fun he=> ?_)) fun b' hb'=> ?_
   ·rw [DT] at he
    exact ⟨_,List.getElem_mem hi,of_decide_eq_true he⟩
   ·refine CJ ⟨⟨?_,?_,hb'⟩,?_⟩
    ·rw [wr (by omega)]; omega
    ·rw [wr (by omega)]; omega
    ·rw [wr (by omega)]; omega
  ·refine AO (Q:=fun (z:CN)=>z.1=x1∧z.2.1= [] ∧z.2.2.1=x3∧z.2.2.2.1=nm 83 0∧z.2.2.2.2.length≤lefts.length+(k+1)∧(∀r ∈ z.2.2.2.2,Ru1 nt nv assocs.length r)∧ ∀v,v<k+1→ ∃r ∈ z.2.2.2.2,r.1=nm 83 v) (Ae (fun hc=> ?_) fun hc=>AG ⟨rfl,rfl,rfl,rfl,by dsimp only; omega,h2,fun v hv=> ?_⟩) fun z hz=>AG hz
   ·refine Bp (by simp; omega) (AG ⟨rfl,rfl,rfl,rfl,by dsimp only; rw [List.length_append]; simp; omega,fun r hr'=> ?_,fun v hv=> ?_⟩)
    ·rcases List.mem_append.1 hr' with h | h
     ·exact h2 _ h
     ·obtain rfl:=List.mem_singleton.1 h
      exact ⟨⟨k,hk,rfl⟩,by simp,by simp, .inl rfl,rfl⟩
    ·rcases Nat.lt_succ_iff_lt_or_eq.1 hv with h | rfl
     ·obtain ⟨r,a,b⟩:=h3 v h
      exact ⟨r,List.mem_append_left _ a,b⟩
     ·exact ⟨_,List.mem_append_right _ (List.mem_singleton.2 rfl),rfl⟩
   ·rcases Nat.lt_succ_iff_lt_or_eq.1 hv with h | rfl
    ·exact h3 v h
    ·exact hb (by simpa using hc)
 obtain ⟨x1,x2,x3,x4,x5⟩:=z
 obtain ⟨rfl,rfl,rfl,rfl,h1,h2,h3⟩:=hz
 dsimp only at h1 h2 h3
 exact AG ⟨by omega,by omega,by omega,by omega,by omega,hT,rfl,hL,rfl,h2,h3,by dsimp only; omega⟩
end Go.Proofs.YteolcjbobmpdiaaGreatDoor
namespace Go.Proofs.YteolcjbobmpdiaaGreatDoor
open Go Go.Shelf Go.Proofs
set_option maxRecDepth 100000
def Aw:Ren:=⟨fun x=>bif Nat.beq x 125 then 156 else bif Nat.beq x 128 then 178 else bif Nat.beq x 129 then 179 else bif Nat.beq x 189 then 130 else bif Nat.beq x 215 then 180 else bif Nat.beq x 216 then 187 else bif Nat.beq x 257 then 159 else bif Nat.beq x 294 then 181 else bif Nat.beq x 295 then 182 else bif Nat.beq x 296 then 183 else bif Nat.beq x 297 then 184 else bif Nat.beq x 298 then 185 else bif Nat.beq x 299 then 186 else bif Nat.beq x 300 then 188 else bif Nat.beq x 301 then 189 else bif Nat.beq x 328 then 201 else bif Nat.beq x 329 then 197 else bif Nat.beq x 330 then 198 else bif Nat.beq x 331 then 202 else bif Nat.beq x 332 then 203 else bif Nat.beq x 343 then 210 else 0,fun x=>bif Nat.beq x 0 then 0 else bif Nat.beq x 3 then 3 else bif Nat.beq x 4 then 4 else bif Nat.beq x 5 then 5 else bif Nat.beq x 9 then 9 else bif Nat.beq x 28 then 30 else bif Nat.beq x 46 then 244 else bif Nat.beq x 51 then 263 else bif Nat.beq x 53 then 237 else bif Nat.beq x 131 then 186 else bif Nat.beq x 182 then 256 else bif Nat.beq x 183 then 257 else bif Nat.beq x 218 then 275 else bif Nat.beq x 222 then 279 else bif Nat.beq x 228 then 287 else bif Nat.beq x 229 then 288 else 0,fun _=>0⟩
theorem KV:Lays.n189 Tryz.prog Aw where
 mixed:=by kernel_rfl
 f125:=Tryz.func156.trans (congrArg some (show Tryz.f156=Body.n125 Aw by kernel_rfl))
 f128:=Tryz.func178.trans (congrArg some (show Tryz.f178=Body.n128 Aw by kernel_rfl))
 f129:=Tryz.func179.trans (congrArg some (show Tryz.f179=Body.n129 Aw by kernel_rfl))
 f189:=Tryz.func130.trans (congrArg some (show Tryz.f130=Body.n189 Aw by kernel_rfl))
 f215:=Tryz.func180.trans (congrArg some (show Tryz.f180=Body.n215 Aw by kernel_rfl))
 f216:=Tryz.func187.trans (congrArg some (show Tryz.f187=Body.n216 Aw by kernel_rfl))
 f257:=Tryz.func159.trans (congrArg some (show Tryz.f159=Body.n257 Aw by kernel_rfl))
 f294:=Tryz.func181.trans (congrArg some (show Tryz.f181=Body.n294 Aw by kernel_rfl))
 f295:=Tryz.func182.trans (congrArg some (show Tryz.f182=Body.n295 Aw by kernel_rfl))
 f296:=Tryz.func183.trans (congrArg some (show Tryz.f183=Body.n296 Aw by kernel_rfl))
 f297:=Tryz.func184.trans (congrArg some (show Tryz.f184=Body.n297 Aw by kernel_rfl))
 f298:=Tryz.func185.trans (congrArg some (show Tryz.f185=Body.n298 Aw by kernel_rfl))
 f299:=Tryz.func186.trans (congrArg some (show Tryz.f186=Body.n299 Aw by kernel_rfl))
 f300:=Tryz.func188.trans (congrArg some (show Tryz.f188=Body.n300 Aw by kernel_rfl))
 f301:=Tryz.func189.trans (congrArg some (show Tryz.f189=Body.n301 Aw by kernel_rfl))
 f328:=Tryz.func201.trans (congrArg some (show Tryz.f201=Body.n328 Aw by kernel_rfl))
 f329:=Tryz.func197.trans (congrArg some (show Tryz.f197=Body.n329 Aw by kernel_rfl))
 f330:=Tryz.func198.trans (congrArg some (show Tryz.f198=Body.n330 Aw by kernel_rfl))
 f331:=Tryz.func202.trans (congrArg some (show Tryz.f202=Body.n331 Aw by kernel_rfl))
 f332:=Tryz.func203.trans (congrArg some (show Tryz.f203=Body.n332 Aw by kernel_rfl))
 f343:=Tryz.func210.trans (congrArg some (show Tryz.f210=Body.n343 Aw by kernel_rfl))
 t0:=Tryz.underlying0
 a0:=Tryz.isAgg0
 z0:=Tryz.sizeOf0
 v0:=Tryz.zeroValue0
 t3:=Tryz.underlying3
 a3:=Tryz.isAgg3
 z3:=Tryz.sizeOf3
 v3:=Tryz.zeroValue3
 t4:=Tryz.underlying4
 a4:=Tryz.isAgg4
 z4:=Tryz.sizeOf4
 v4:=Tryz.zeroValue4
 t5:=Tryz.underlying5
 a5:=Tryz.isAgg5
 z5:=Tryz.sizeOf5
 v5:=Tryz.zeroValue5
 t9:=Tryz.underlying9
 a9:=Tryz.isAgg9
 z9:=Tryz.sizeOf9
 v9:=Tryz.zeroValue9
 t28:=Tryz.underlying30
 a28:=Tryz.isAgg30
 z28:=Tryz.sizeOf30
 v28:=Tryz.zeroValue30
 t46:=Tryz.underlying244
 a46:=Tryz.isAgg244
 z46:=Tryz.sizeOf244
 v46:=Tryz.zeroValue244
 t51:=Tryz.underlying263
 a51:=Tryz.isAgg263
 z51:=Tryz.sizeOf263
 v51:=Tryz.zeroValue263
 t53:=Tryz.underlying237
 a53:=Tryz.isAgg237
 z53:=Tryz.sizeOf237
 v53:=Tryz.zeroValue237
 t131:=Tryz.underlying186
 a131:=Tryz.isAgg186
 z131:=Tryz.sizeOf186
 v131:=Tryz.zeroValue186
 t182:=Tryz.underlying256
 a182:=Tryz.isAgg256
 z182:=Tryz.sizeOf256
 v182:=Tryz.zeroValue256
 t183:=Tryz.underlying257
 a183:=Tryz.isAgg257
 z183:=Tryz.sizeOf257
 v183:=Tryz.zeroValue257
 t218:=Tryz.underlying275
 a218:=Tryz.isAgg275
 z218:=Tryz.sizeOf275
 v218:=Tryz.zeroValue275
 t222:=Tryz.underlying279
 a222:=Tryz.isAgg279
 z222:=Tryz.sizeOf279
 v222:=Tryz.zeroValue279
 t228:=Tryz.underlying287
 a228:=Tryz.isAgg287
 z228:=Tryz.sizeOf287
 v228:=Tryz.zeroValue287
 t229:=Tryz.underlying288
 a229:=Tryz.isAgg288
 z229:=Tryz.sizeOf288
 v229:=Tryz.zeroValue288
def C8:Ren:=⟨fun x=>bif Nat.beq x 6 then 127 else bif Nat.beq x 14 then 155 else bif Nat.beq x 15 then 156 else bif Nat.beq x 20 then 170 else bif Nat.beq x 21 then 171 else bif Nat.beq x 22 then 172 else bif Nat.beq x 23 then 173 else bif Nat.beq x 24 then 174 else bif Nat.beq x 25 then 175 else bif Nat.beq x 26 then 176 else bif Nat.beq x 27 then 177 else bif Nat.beq x 28 then 178 else bif Nat.beq x 29 then 179 else bif Nat.beq x 46 then 196 else bif Nat.beq x 47 then 197 else bif Nat.beq x 48 then 198 else bif Nat.beq x 49 then 199 else bif Nat.beq x 50 then 200 else bif Nat.beq x 57 then 209 else 0,fun x=>bif Nat.beq x 0 then 0 else bif Nat.beq x 3 then 3 else bif Nat.beq x 4 then 4 else bif Nat.beq x 5 then 5 else bif Nat.beq x 9 then 9 else bif Nat.beq x 22 then 67 else bif Nat.beq x 24 then 70 else bif Nat.beq x 25 then 216 else bif Nat.beq x 39 then 244 else bif Nat.beq x 45 then 256 else bif Nat.beq x 46 then 257 else bif Nat.beq x 50 then 186 else bif Nat.beq x 53 then 263 else bif Nat.beq x 55 then 237 else bif Nat.beq x 66 then 275 else bif Nat.beq x 70 then 279 else bif Nat.beq x 76 then 287 else bif Nat.beq x 77 then 288 else 0,fun _=>0⟩
theorem Ik:SlLaysF0.n6 Tryz.prog C8 where
 mixed:=by kernel_rfl
 f6:=⟨ "slices.SortFunc[[]tronage/api.Item,tronage/api.Item]",by decide,Tryz.func127.trans (congrArg some (by kernel_rfl))⟩
 f14:=⟨ "slices.pdqsortCmpFunc[tronage/api.Item]",by decide,Tryz.func155.trans (congrArg some (by kernel_rfl))⟩
 f15:=Tryz.func156.trans (congrArg some (show Tryz.f156=SlBodyF.n15 C8 by kernel_rfl))
 f20:=⟨ "slices.insertionSortCmpFunc[tronage/api.Item]",by decide,Tryz.func170.trans (congrArg some (by kernel_rfl))⟩
 f21:=⟨ "slices.heapSortCmpFunc[tronage/api.Item]",by decide,Tryz.func171.trans (congrArg some (by kernel_rfl))⟩
 f22:=⟨ "slices.breakPatternsCmpFunc[tronage/api.Item]",by decide,Tryz.func172.trans (congrArg some (by kernel_rfl))⟩
 f23:=⟨ "slices.choosePivotCmpFunc[tronage/api.Item]",by decide,Tryz.func173.trans (congrArg some (by kernel_rfl))⟩
 f24:=⟨ "slices.reverseRangeCmpFunc[tronage/api.Item]",by decide,Tryz.func174.trans (congrArg some (by kernel_rfl))⟩
 f25:=⟨ "slices.partialInsertionSortCmpFunc[tronage/api.Item]",by decide,Tryz.func175.trans (congrArg some (by kernel_rfl))⟩
 f26:=⟨ "slices.partitionEqualCmpFunc[tronage/api.Item]",by decide,Tryz.func176.trans (congrArg some (by kernel_rfl))⟩
 f27:=⟨ "slices.partitionCmpFunc[tronage/api.Item]",by decide,Tryz.func177.trans (congrArg some (by kernel_rfl))⟩
 f28:=Tryz.func178.trans (congrArg some (show Tryz.f178=SlBodyF.n28 C8 by kernel_rfl))
 f29:=Tryz.func179.trans (congrArg some (show Tryz.f179=SlBodyF.n29 C8 by kernel_rfl))
 f46:=⟨ "slices.siftDownCmpFunc[tronage/api.Item]",by decide,Tryz.func196.trans (congrArg some (by kernel_rfl))⟩
 f47:=Tryz.func197.trans (congrArg some (show Tryz.f197=SlBodyF.n47 C8 by kernel_rfl))
 f48:=Tryz.func198.trans (congrArg some (show Tryz.f198=SlBodyF.n48 C8 by kernel_rfl))
 f49:=⟨ "slices.medianAdjacentCmpFunc[tronage/api.Item]",by decide,Tryz.func199.trans (congrArg some (by kernel_rfl))⟩
 f50:=⟨ "slices.medianCmpFunc[tronage/api.Item]",by decide,Tryz.func200.trans (congrArg some (by kernel_rfl))⟩
 f57:=⟨ "slices.order2CmpFunc[tronage/api.Item]",by decide,Tryz.func209.trans (congrArg some (by kernel_rfl))⟩
 t0:=Tryz.underlying0
 a0:=Tryz.isAgg0
 z0:=Tryz.sizeOf0
 v0:=Tryz.zeroValue0
 t3:=Tryz.underlying3
 a3:=Tryz.isAgg3
 z3:=Tryz.sizeOf3
 v3:=Tryz.zeroValue3
 t4:=Tryz.underlying4
 a4:=Tryz.isAgg4
 z4:=Tryz.sizeOf4
 v4:=Tryz.zeroValue4
 t5:=Tryz.underlying5
 a5:=Tryz.isAgg5
 z5:=Tryz.sizeOf5
 v5:=Tryz.zeroValue5
 t9:=Tryz.underlying9
 a9:=Tryz.isAgg9
 z9:=Tryz.sizeOf9
 v9:=Tryz.zeroValue9
 t22:=Tryz.underlying67
 a22:=Tryz.isAgg67
 z22:=Tryz.sizeOf67
 v22:=Tryz.zeroValue67
 t25:=Tryz.underlying216
 a25:=Tryz.isAgg216
 z25:=Tryz.sizeOf216
 v25:=Tryz.zeroValue216
 t39:=Tryz.underlying244
 a39:=Tryz.isAgg244
 z39:=Tryz.sizeOf244
 v39:=Tryz.zeroValue244
 t45:=Tryz.underlying256
 a45:=Tryz.isAgg256
 z45:=Tryz.sizeOf256
 v45:=Tryz.zeroValue256
 t46:=Tryz.underlying257
 a46:=Tryz.isAgg257
 z46:=Tryz.sizeOf257
 v46:=Tryz.zeroValue257
 t50:=Tryz.underlying186
 a50:=Tryz.isAgg186
 z50:=Tryz.sizeOf186
 v50:=Tryz.zeroValue186
 t53:=Tryz.underlying263
 a53:=Tryz.isAgg263
 z53:=Tryz.sizeOf263
 v53:=Tryz.zeroValue263
 t55:=Tryz.underlying237
 a55:=Tryz.isAgg237
 z55:=Tryz.sizeOf237
 v55:=Tryz.zeroValue237
 t66:=Tryz.underlying275
 a66:=Tryz.isAgg275
 z66:=Tryz.sizeOf275
 v66:=Tryz.zeroValue275
 t70:=Tryz.underlying279
 a70:=Tryz.isAgg279
 z70:=Tryz.sizeOf279
 v70:=Tryz.zeroValue279
 t76:=Tryz.underlying287
 a76:=Tryz.isAgg287
 z76:=Tryz.sizeOf287
 v76:=Tryz.zeroValue287
 t77:=Tryz.underlying288
 a77:=Tryz.isAgg288
 z77:=Tryz.sizeOf288
 v77:=Tryz.zeroValue288
def LX:Ren:=⟨fun x=>bif Nat.beq x 20 then 131 else 0,fun x=>bif Nat.beq x 0 then 0 else bif Nat.beq x 3 then 3 else bif Nat.beq x 4 then 4 else bif Nat.beq x 22 then 30 else 0,fun _=>0⟩
theorem KW:Lays2.n20 Tryz.prog LX where
 mixed:=by kernel_rfl
 f20:=Tryz.func131.trans (congrArg some (show Tryz.f131=Body2.n20 LX by kernel_rfl))
 t0:=Tryz.underlying0
 a0:=Tryz.isAgg0
 z0:=Tryz.sizeOf0
 v0:=Tryz.zeroValue0
 t3:=Tryz.underlying3
 a3:=Tryz.isAgg3
 z3:=Tryz.sizeOf3
 v3:=Tryz.zeroValue3
 t4:=Tryz.underlying4
 a4:=Tryz.isAgg4
 z4:=Tryz.sizeOf4
 v4:=Tryz.zeroValue4
 t22:=Tryz.underlying30
 a22:=Tryz.isAgg30
 z22:=Tryz.sizeOf30
 v22:=Tryz.zeroValue30
 i3:=by kernel_rfl
def Il:Ren:=⟨fun x=>bif Nat.beq x 122 then 158 else bif Nat.beq x 215 then 180 else 0,fun x=>bif Nat.beq x 3 then 3 else bif Nat.beq x 4 then 4 else 0,fun _=>0⟩
theorem KX:Lays.n122 Tryz.prog Il where
 mixed:=by kernel_rfl
 f122:=Tryz.func158.trans (congrArg some (show Tryz.f158=Body.n122 Il by kernel_rfl))
 f215:=Tryz.func180.trans (congrArg some (show Tryz.f180=Body.n215 Il by kernel_rfl))
 t3:=Tryz.underlying3
 a3:=Tryz.isAgg3
 z3:=Tryz.sizeOf3
 v3:=Tryz.zeroValue3
 t4:=Tryz.underlying4
 a4:=Tryz.isAgg4
 z4:=Tryz.sizeOf4
 v4:=Tryz.zeroValue4
end Go.Proofs.YteolcjbobmpdiaaGreatDoor
namespace Go.Proofs.YteolcjbobmpdiaaGreatDoor
open Go Go.Eng Go.RowKit Go.Shelf Go.Sort
set_option linter.unusedVariables false
set_option maxRecDepth 100000
theorem EW {k:IntKind} {φ:AC} (l:List Int):(Ro.int k).All φ (l.map (BS.int k).val) l:=by
 induction l with
 | nil=>exact .nil
 | cons x l ih=>exact Ro.All.cons (a:= [(BS.int k).val x]) rfl ih
def ins {α:Type} (le:α→α→Bool) (x:α):List α→List α
 | [] => [x]
 | y::l=>if le x y then x::y::l else y::ins le x l
def NC {α:Type} (le:α→α→Bool):List α→List α
 | [] => []
 | x::l=>ins le x (NC le l)
theorem Of {α:Type} (le:α→α→Bool) (x:α) (l:List α):(ins le x l).Perm (x::l):=by
 induction l with
 | nil=>exact .refl _
 | cons y l ih=>
  unfold ins
  split
  ·exact .refl _
  ·exact (ih.cons y).trans (.swap x y l)
theorem Co {α:Type} (le:α→α→Bool) (l:List α):(NC le l).Perm l:=by
 induction l with
 | nil=>exact .refl _
 | cons x l ih=>exact (Of le x _).trans (ih.cons x)
theorem Ve {α:Type} {le:α→α→Bool} (ht: ∀a b c,le a b=true→le b c=true→le a c=true) (hl: ∀a b,(le a b || le b a)=true) (x:α) {l:List α} (h:l.Pairwise fun a b=>le a b=true):(ins le x l).Pairwise fun a b=>le a b=true:=by
 induction l with
 | nil=>exact List.pairwise_singleton _ _
 | cons y l ih=>
  unfold ins
  rw [List.pairwise_cons] at h
  split
  ·rename_i hxy
   refine List.pairwise_cons.2 ⟨fun z hz=> ?_,List.pairwise_cons.2 h⟩
   rcases List.mem_cons.1 hz with rfl | hz
   ·exact hxy
   ·exact ht _ _ _ hxy (h.1 z hz)
  ·rename_i hxy
   refine List.pairwise_cons.2 ⟨fun z hz=> ?_,ih h.2⟩
   rcases List.mem_cons.1 ((Of le x l).mem_iff.1 hz) with rfl | hz
   ·have:=hl z y
    rw [Bool.or_eq_true] at this
    rcases this with g | g
    ·exact absurd g hxy
    ·exact g
   ·exact h.1 z hz
theorem L9 {α:Type} {le:α→α→Bool} (ht: ∀a b c,le a b=true→le b c=true→le a c=true) (hl: ∀a b,(le a b || le b a)=true) (l:List α):(NC le l).Pairwise fun a b=>le a b=true:=by
 induction l with
 | nil=>exact .nil
 | cons x l ih=>exact Ve ht hl x ih
theorem Og {α:Type} {le:α→α→Bool} (ht: ∀a b c,le a b=true→le b c=true→le a c=true) (hl: ∀a b,(le a b || le b a)=true) (ha: ∀a b,le a b=true→le b a=true→a=b) (l:List α):NC le l=l.mergeSort le:=
 List.Perm.eq_of_pairwise (fun a b _ _ h1 h2=>ha a b h1 h2) (L9 ht hl l) (List.pairwise_mergeSort ht hl l) ((Co le l).trans (List.mergeSort_perm l le).symm)
def Im (l:List Int):List Int:=NC (fun x y=>decide (x≤y)) l
theorem SW (l:List Int):Im l=l.mergeSort fun x y=>decide (x≤y):=
 Og (fun a b c h1 h2=>by simp only [decide_eq_true_eq] at *; omega) (fun a b=>by simp only [Bool.or_eq_true,decide_eq_true_eq]; omega) (fun a b h1 h2=>by simp only [decide_eq_true_eq] at *; omega) l
theorem Nv {k:IntKind} {a b:List Int} (h:a.map (Value.int k)=b.map (Value.int k)):a=b:=
 (List.map_inj_right (f:=Value.int k) fun x y hxy=>by cases hxy; rfl).1 h
def Qj (l:List Int):Option (List Int):=if l.length<4611686018427387904 then some (Im l) else none
def KY (l:List Int):Option (List Int):=if l.length<4611686018427387904 then some (Lib.compact l) else none
theorem St.rowTake {α:Type} {φ:AC} {h:AE} {Γ:List Chk} {ty:TypeId} {r:Ro α} {t:Slc} {l:List α} (H:St φ (⟨Rep.row ty r, [.slice t.1 t.2.1 t.2.2],l⟩::Γ) h) {k:Nat} (hk:k≤l.length):
 St φ (⟨Rep.row ty r, [.slice t.1 k t.2.2],l.take k⟩::Γ) h:=by
 obtain ⟨F,⟨p,n,c,vs,e,hn,hc,hfu,ho,hall,hF⟩,h2,H⟩:=H
 have hn:l.length=n:=hn
 simp only [List.cons.injEq,Value.slice.injEq,and_true] at e
 obtain ⟨e1,e2,e3⟩:=e
 refine ⟨F,⟨p,k,c,vs.take (k * r.sz),by rw [e1,e3],by rw [List.length_take]; omega,hc,hfu,?_,hall.take k,hF⟩,h2,H⟩
 rcases ho with ⟨hp,hn0,hc0,hv0⟩ | ⟨b,off,arr,hp,hb0,g1,g2,g3,g4⟩
 ·exact .inl ⟨hp,by omega,hc0,by rw [hv0]; exact List.take_nil⟩
 ·refine .inr ⟨b,off,arr,hp,hb0,?_,by omega,g3,fun i v hv=> ?_⟩
  ·rw [List.length_take,g1]
   exact Nat.min_eq_left (Nat.mul_le_mul_right _ (by omega))
  ·rw [List.getElem?_take] at hv
   split at hv
   ·exact g4 i v hv
   ·cases hv
theorem St.rowCap {α:Type} {φ:AC} {h:AE} {Γ:List Chk} {ty:TypeId} {r:Ro α} {t:Slc} {l:List α} (H:St φ (⟨Rep.row ty r, [.slice t.1 t.2.1 t.2.2],l⟩::Γ) h):l.length≤t.2.2:=by
 obtain ⟨F,⟨p,n,c,vs,e,hn,hc,hfu,ho,hall,hF⟩,h2,H⟩:=H
 have hn:l.length=n:=hn
 simp only [List.cons.injEq,Value.slice.injEq,and_true] at e
 obtain ⟨e1,e2,e3⟩:=e
 rcases ho with ⟨hp,hn0,hc0,hv0⟩ | ⟨b,off,arr,hp,hb0,g1,g2,g3,g4⟩ <;>omega
theorem St.rowHoldsF {α:Type} {φ:AC} {w:World} {Γ:List Chk} {ty:TypeId} {r:Ro α} {t:Slc} {l:List α} (H:St φ (⟨Rep.row ty r, [.slice t.1 t.2.1 t.2.2],l⟩::Γ) w.heap):
 (l= [] ∧t.2.1=0)∨ ∃(b off:Nat) (vs:List Value),t.1=some ⟨b,off,none⟩∧r.All φ vs l∧t.2.1=l.length∧b<w.heap.size∧(∀arr,w.heap[b]? =some (.cells arr ty (0,0))→off+vs.length≤arr.size)∧Sort.Holds id w b off vs.toArray:=by
 obtain ⟨F,⟨p,n,c,vs,e,hn,hc,hfu,ho,hall,hF⟩,h2,H⟩:=H
 have hn:l.length=n:=hn
 simp only [List.cons.injEq,Value.slice.injEq,and_true] at e
 obtain ⟨e1,e2,e3⟩:=e
 rcases ho with ⟨hp,hn0,hc0,hv0⟩ | ⟨b,off,arr,hp,hb0,g1,g2,g3,g4⟩
 ·exact .inl ⟨List.eq_nil_of_length_eq_zero (by omega),by omega⟩
 ·right
  refine ⟨b,off,vs,by rw [e1,hp],hall,by omega,As hb0,fun arr' ha=> ?_,fun j hj=> ?_⟩
  ·rw [hb0] at ha
   cases ha
   have:=Nat.mul_le_mul_right r.sz g2
   omega
  have hj':j<vs.length:=by simpa using hj
  have hc:=g4 j vs[j] (List.getElem?_eq_getElem hj')
  refine ⟨?_,?_⟩
  ·unfold World.cell?
   dsimp only
   rw [hb0]
   dsimp only
   rw [getElem!_pos _ j hj]
   simpa using hc
  ·unfold World.frozen?
   dsimp only
   rw [hb0]
   simp
theorem St.rowSortedF {α:Type} {φ:AC} {w:World} {Γ:List Chk} {ty:TypeId} {r:Ro α} {t:Slc} {l m:List α} (H:St φ (⟨Rep.row ty r, [.slice t.1 t.2.1 t.2.2],l⟩::Γ) w.heap)
 {b off:Nat} (ht:t.1=some ⟨b,off,none⟩) (ms:List Value) (hall:r.All φ ms m) (hm:m.length=l.length) (hfit: ∀arr,w.heap[b]? =some (.cells arr ty (0,0))→off+ms.length≤arr.size) (k:Nat) (os:Array Obj):
 St φ (⟨Rep.row ty r, [.slice t.1 t.2.1 t.2.2],m⟩::Γ) (grow (putRow id (Sort.ahead w k) b off ms.toArray) os).heap:=by
 have hheap:(grow (putRow id (Sort.ahead w k) b off ms.toArray) os).heap=w.heap.modify b (onCells (putCells id off ms.toArray)) ++os:=rfl
 rw [hheap]
 refine H.rowPut hall hm (fun b' off' he arr harr=> ?_) fun j hj hne=> ?_
 ·rw [ht] at he
  cases he
  have hlt:=As harr
  refine ⟨putCells id off ms.toArray arr,?_,by simp [putCells],fun i v hv=> ?_⟩
  ·rw [Array.getElem?_append_left (by simpa using hlt),Array.getElem?_modify,if_pos rfl,harr]
   rfl
  ·have hi:i<ms.length:=by
    rcases Nat.lt_or_ge i ms.length with g | g
    ·exact g
    ·rw [List.getElem?_eq_none g] at hv; cases hv
   have hf:=hfit arr harr
   unfold putCells
   rw [Array.getElem?_mapIdx,Array.getElem?_eq_getElem (by omega)]
   have hc:off≤off+i∧off+i<off+ms.toArray.size:=by simp; exact hi
   simp only [Option.map_some]
   rw [if_pos hc,Nat.add_sub_cancel_left,getElem!_pos _ i (by simpa using hi)]
   rw [List.getElem?_eq_getElem hi] at hv
   cases hv
   simp
 ·rw [Array.getElem?_append_left (by simpa using hj),Array.getElem?_modify,if_neg fun e=>hne b off ht e.symm]
section
variable {φ:AC} {h:AE} {F:List Chk}
theorem RX {t:Slc} {l r:List Int} (s0:St φ (cR 3 (Ro.int .i64) t l::F) h) (hd:Qj l=some r):
 CallsH Tryz.prog 130 [.slice t.1 t.2.1 t.2.2] h (Aq fun v h'=> ∃ψ:AC,∃y:Unit,∃l1:List Int,Sub φ ψ∧v=((.tuple []):Sh).val y∧l1=r∧St ψ (cR 3 (Ro.int .i64) t l1::F) h'):=by
 unfold Qj at hd
 split at hd
 ·rename_i hb
  cases hd
  intro w hw
  subst hw
  rcases s0.rowHolds rfl (Value.int .i64) (fun vs ha=>⟨l,Cb ha⟩) with ⟨hl,hn⟩ | ⟨b,off,bs,ht,hall,hn,hlen,hlt,hfit,hH⟩
  ·subst hl
   rw [hn]
   have hc:=Any.slices_Sort_int_none KV t.1 t.2.2 w
   refine (show Calls Tryz.prog 130 #[.slice t.1 0 t.2.2] w _ from hc).mono ?_
   rintro e w' ⟨rfl,rfl⟩
   exact ⟨Bi.refl _,_,rfl,φ,(),_,Sub.refl _,rfl,rfl,by rw [show Im [] = [] from rfl]; exact s0⟩
  ·have hbl:bs=l:=Nv (Cb hall)
   subst hbl
   rw [ht,hn]
   have hc:=Any.slices_Sort_int KV b off t.2.2 bs w hH hlt hb
   rw [← SW] at hc
   refine (show Calls Tryz.prog 130 #[.slice (some ⟨b,off,none⟩) bs.length t.2.2] w _ from hc).mono ?_
   rintro e w' ⟨rfl,k,os,rfl⟩
   refine ⟨⟨rfl,rfl,rfl,by rw [Go.Sort.size_grow,Go.Sort.size_putRow]; exact Nat.le_add_right _ _⟩,_,rfl,φ,(),_,Sub.refl _,rfl,rfl,?_⟩
   exact s0.rowSorted ht (Value.int .i64) (Im bs) (EW _) (Co _ _).length_eq (Co _ _).length_eq hfit k os
 ·cases hd
theorem MA (l:List Int):(Lib.compact l).length≤l.length:=by
 unfold Lib.compact Lib.compactUpTo
 rw [List.length_map]
 refine Nat.le_trans (List.length_filter_le _ _) ?_
 simp
theorem Oh {t:Slc} {l r:List Int} (s0:St φ (cR 3 (Ro.int .i64) t l::F) h) (hd:KY l=some r):
 CallsH Tryz.prog 131 [.slice t.1 t.2.1 t.2.2] h (Aq fun v h'=> ∃ψ:AC,∃y:Slc,∃l1:List Int,Sub φ ψ∧v=((.one aS):Sh).val y∧l1=r∧St ψ (cR 3 (Ro.int .i64) y l1::F) h'):=by
 unfold KY at hd
 split at hd
 ·rename_i hb
  cases hd
  intro w hw
  subst hw
  have hcap:=St.rowCap s0
  rcases s0.rowHolds rfl (Value.int .i64) (fun vs ha=>⟨l,Cb ha⟩) with ⟨hl,hn⟩ | ⟨b,off,bs,ht,hall,hn,hlen,hlt,hfit,hH⟩
  ·subst hl
   rw [hn]
   have hc:=Any.slices_Compact_int_empty KW t.1 t.2.2 w
   refine (show Calls Tryz.prog 131 #[.slice t.1 0 t.2.2] w _ from hc).mono ?_
   rintro e w' ⟨rfl,rfl⟩
   rw [show t=(t.1,t.2.1,t.2.2) from rfl,hn] at s0
   exact ⟨Bi.refl _,_,rfl,φ,(t.1,0,t.2.2),_,Sub.refl _,rfl,rfl,s0⟩
  ·have hbl:bs=l:=Nv (Cb hall)
   subst hbl
   rw [ht,hn]
   have hc:=Any.slices_Compact_int KW b off t.2.2 bs w hH (by omega) hcap
   refine (show Calls Tryz.prog 131 #[.slice (some ⟨b,off,none⟩) bs.length t.2.2] w _ from hc).mono ?_
   rintro e w' ⟨rfl,k,rfl⟩
   have hle:=MA bs
   have hlz:(Lib.compact bs++List.replicate (bs.length - (Lib.compact bs).length) 0).length=bs.length:=by simp; omega
   have s1:=s0.rowSorted ht (Value.int .i64) (Lib.compact bs++List.replicate (bs.length - (Lib.compact bs).length) 0) (EW _) hlz hlz hfit k #[]
   have s2:=St.rowTake s1 (k:=(Lib.compact bs).length) (by rw [hlz]; exact hle)
   rw [List.take_left,grow_empty] at s2
   refine ⟨⟨rfl,rfl,rfl,by rw [Go.Sort.size_putRow]; exact Nat.le_refl _⟩,_,rfl,φ,(t.1,(Lib.compact bs).length,t.2.2),_,Sub.refl _,by rw [ht]; rfl,rfl,s2⟩
 ·cases hd
end
end Go.Proofs.YteolcjbobmpdiaaGreatDoor
namespace Go.Proofs.YteolcjbobmpdiaaGreatDoor
open Go Go.Shelf Go.Proofs
set_option maxRecDepth 100000
def Mv:Ren:=⟨fun x=>bif Nat.beq x 6 then 204 else bif Nat.beq x 10 then 190 else 0,fun x=>bif Nat.beq x 0 then 0 else bif Nat.beq x 3 then 3 else bif Nat.beq x 4 then 4 else bif Nat.beq x 22 then 30 else bif Nat.beq x 23 then 3 else bif Nat.beq x 25 then 161 else 0,fun _=>0⟩
theorem MB:SlLaysH.n10 Tryz.prog Mv where
 mixed:=by kernel_rfl
 f6:=⟨ "slices.IndexFunc[[]int,int]",by decide,Tryz.func204.trans (congrArg some (by kernel_rfl))⟩
 f10:=⟨ "slices.DeleteFunc[[]int,int]",by decide,Tryz.func190.trans (congrArg some (by kernel_rfl))⟩
 t0:=Tryz.underlying0
 a0:=Tryz.isAgg0
 z0:=Tryz.sizeOf0
 v0:=Tryz.zeroValue0
 t3:=Tryz.underlying3
 a3:=Tryz.isAgg3
 z3:=Tryz.sizeOf3
 v3:=Tryz.zeroValue3
 t4:=Tryz.underlying4
 a4:=Tryz.isAgg4
 z4:=Tryz.sizeOf4
 v4:=Tryz.zeroValue4
 t22:=Tryz.underlying30
 a22:=Tryz.isAgg30
 z22:=Tryz.sizeOf30
 v22:=Tryz.zeroValue30
 a23:=Tryz.isAgg3
 z23:=Tryz.sizeOf3
 t25:=Tryz.underlying161
 a25:=Tryz.isAgg161
 z25:=Tryz.sizeOf161
 v25:=Tryz.zeroValue161
end Go.Proofs.YteolcjbobmpdiaaGreatDoor
namespace Go.Proofs.YteolcjbobmpdiaaGreatDoor.Dg
open Go Go.Eng
set_option linter.unusedVariables false
def Io (n x:Int):Bool:=decide (x<0) || decide (n≤x)
def CW (ll:List (List Int)) (x n:Int):List Int:=if x≥ (ll.length:Int) then [] else (ll[x.toNat]?.getD []).filter fun y=> !Io n y
section
variable {A:Type} (ll:List (List Int)) (n:Int) (ledA:A→Int→Int→Option A) (partA:A→List Int→Option A)
abbrev C7 (A:Type):=List Int×List Int×A
noncomputable def toD (rec:C7 A→Int→Option (C7 A)) (x to:Int) (st:C7 A):Option (C7 A):=
 (idx st.1 to).bind fun e=>
 (cond (e==0) (rec st to) (some st)).bind fun st=>
 (idx st.1 x).bind fun p=>
 (idx st.1 to).bind fun q=>
 (Dm st.1 x (if q<p then q else p)).bind fun low=>
 (ledA st.2.2 x to).bind fun a=>some (low,st.2.1,a)
noncomputable def SX (x:Int) (deep:Nat) (st:C7 A):Option (C7 A):=
 (idx st.1 x).bind fun e=>
 cond (e !=(deep:Int)) (some st) <|
 need (1≤deep∧deep - 1≤st.2.1.length∧st.2.1.length≤1073741824) <|
 (forS 0 ((st.2.1.drop (deep - 1)).length:Int) st.1 fun i low=>(idx (st.2.1.drop (deep - 1)) i).bind fun y=>Dm low y 9223372036854775807).bind fun low=>
 (partA st.2.2 (st.2.1.drop (deep - 1))).bind fun a=>some (low,st.2.1.take (deep - 1),a)
noncomputable def MC (rec:C7 A→Int→Option (C7 A)) (st:C7 A) (x:Int):Option (C7 A):=
 (app st.2.1 [x]).bind fun stk=>
 (Dm st.1 x (stk.length:Int)).bind fun low=>
 need (∀l ∈ ll,l.length≤1073741824) <|
 (forS 0 ((CW ll x n).length:Int) ((low,stk,st.2.2):C7 A) fun i st=>(idx (CW ll x n) i).bind fun to=>toD ledA rec x to st).bind fun st=>
 SX partA x stk.length st
noncomputable def Ip:Nat→C7 A→Int→Option (C7 A)
 | 0=>fun _ _=>none
 | k+1=>MC ll n ledA partA (Ip k)
end
noncomputable def ND {A:Type} (ll:List (List Int)) (n:Int) (ledA:A→Int→Int→Option A) (partA:A→List Int→Option A) (fuel:Nat) (a:A):Option (C7 A):=
 need (0≤n∧n≤1073741824) <|
 forS 0 n ((List.replicate n.toNat (0:Int), [],a):C7 A) fun i st=>(idx st.1 i).bind fun e=>cond (e==0) (Ip ll n ledA partA fuel st i) (some st)
set_option maxRecDepth 100000
def cloneD (l:List Int):Option (List Int):=if l.length≤1073741824 then some l else none
theorem FB {l r:List Int} (h:cloneD l=some r):l.length≤1073741824∧r=l:=by
 unfold cloneD at h
 split at h
 ·rename_i g; exact ⟨g,(Option.some.inj h).symm⟩
 ·cases h
theorem SY:Gu Tryz.prog 30 30 3 1:=⟨Tryz.underlying30, .inl Tryz.underlying30,⟨Tryz.t3,by kernel_rfl,rfl,⟨_,rfl,rfl⟩,by decide,by decide⟩,by decide⟩
theorem WK:Gu Tryz.prog 235 235 237 1:=⟨Tryz.underlying235, .inl Tryz.underlying235,⟨Tryz.t237,by kernel_rfl,rfl,⟨_,rfl,rfl⟩,by decide,by decide⟩,by decide⟩
theorem EW {k:IntKind} {φ:AC} (l:List Int):(Ro.int k).All φ (l.map (BS.int k).val) l:=by
 induction l with
 | nil=>exact .nil
 | cons x l ih=>exact Ro.All.cons (a:= [(BS.int k).val x]) rfl ih
section
variable {φ:AC} {h:AE} {F:List Chk}
theorem KZ {t:Slc} {l:List Int} (s0:St φ F h) (hl:l.length=t.2.1) (hc: ∀h',St φ F h'→BC h' t.1 (l.map (BS.int .i64).val)) (hn:t.1=none→l= []) (hb:l.length≤1073741824):
 CallsH Tryz.prog 84 [.slice t.1 t.2.1 t.2.2] h (Aq fun v h'=> ∃y:Slc,v=((.one aS):Sh).val y∧St φ (⟨Rep.row 3 (Ro.int .i64), [.slice y.1 y.2.1 y.2.2],l⟩::F) h'):=by
 refine AQ mixed Tryz.func84 ?_
 rw [Gp]
 unfold ER
 cases hp:t.1 with
 | none=>
  rw [hn hp]
  exact AB ⟨(none,0,0),rfl,s0.nil _ _⟩
 | some a=>
  rw [Option.isNone_some]
  refine AU (vs:= []) s0 fun r h1 s1=> ?_
  have s2:=St.lit (r:=Ro.int .i64) (l:= []) (n:=0) s1 .nil rfl (by decide)
  refine Am (r:=Ro.int .i64) (ms:=l) (l':=l) SY s2 rfl (by rw [← hp]; exact hc h1 s1.tail) (EW l) hl (by unfold app; rw [if_pos (by simpa using hb)]; rfl) fun y h2 s3=> ?_
  exact AB ⟨y,rfl,s3⟩
theorem Nw {t:Slc} {l:List Int} (s0:St φ F h) (hl:l.length=t.2.1) (hc: ∀h',St φ F h'→BC h' t.1 (l.map (BS.int .u64).val)) (hn:t.1=none→l= []) (hb:l.length≤1073741824):
 CallsH Tryz.prog 148 [.slice t.1 t.2.1 t.2.2] h (Aq fun v h'=> ∃y:Slc,v=((.one aS):Sh).val y∧St φ (⟨Rep.row 237 (Ro.int .u64), [.slice y.1 y.2.1 y.2.2],l⟩::F) h'):=by
 refine AQ mixed Tryz.func148 ?_
 rw [Ep]
 unfold C5
 cases hp:t.1 with
 | none=>
  rw [hn hp]
  exact AB ⟨(none,0,0),rfl,s0.nil _ _⟩
 | some a=>
  rw [Option.isNone_some]
  refine AU (vs:= []) s0 fun r h1 s1=> ?_
  have s2:=St.lit (r:=Ro.int .u64) (l:= []) (n:=0) s1 .nil rfl (by decide)
  refine Am (r:=Ro.int .u64) (ms:=l) (l':=l) WK s2 rfl (by rw [← hp]; exact hc h1 s1.tail) (EW l) hl (by unfold app; rw [if_pos (by simpa using hb)]; rfl) fun y h2 s3=> ?_
  exact AB ⟨y,rfl,s3⟩
theorem Vf {k:IntKind} {t:Slc} {l:List Int} (H:Ro.SliceIs (Ro.int k) φ t l):t.1=none→l= [] :=H.2.2.2.1
theorem SZ {k:IntKind} {t:Slc} {l:List Int} (H:Ro.SliceIs (Ro.int k) φ t l) {h':AE} (s:St φ F h'):BC h' t.1 (l.map (BS.int k).val):=by
 obtain ⟨vs,ha,hc⟩:=H.heap s.sub
 rw [Cb ha] at hc
 exact hc
theorem UK {k:IntKind} {ty:TypeId} {t:Slc} {l:List Int} (H:St φ (⟨Rep.row ty (Ro.int k), [.slice t.1 t.2.1 t.2.2],l⟩::F) h):t.1=none→l= [] :=by
 intro hp
 obtain ⟨vs,ha,hc⟩:=H.all
 cases l with
 | nil=>rfl
 | cons x l=>
  have e:=Cb ha
  obtain ⟨a,ha',_⟩:=hc 0 ((BS.int k).val x) (by rw [e]; rfl)
  rw [hp] at ha'; cases ha'
theorem K5 {k:IntKind} {ty:TypeId} {t:Slc} {l:List Int} {h':AE} (s:St φ (⟨Rep.row ty (Ro.int k), [.slice t.1 t.2.1 t.2.2],l⟩::F) h'):BC h' t.1 (l.map (BS.int k).val):=by
 obtain ⟨vs,ha,hc⟩:=s.all
 rw [Cb ha] at hc
 exact hc
theorem Py {t:Slc} {l:List Int} (k:Ro.SliceIs (Ro.int .i64) φ t l) (s0:St φ F h) {r:List Int} (hd:cloneD l=some r):CallsH Tryz.prog 84 [.slice t.1 t.2.1 t.2.2] h
 (Aq fun v h'=> ∃ψ:AC,∃y:Slc,∃l1:List Int,Sub φ ψ∧v=((.one aS):Sh).val y∧l1=r∧St ψ (⟨Rep.row 3 (Ro.int .i64), [.slice y.1 y.2.1 y.2.2],l1⟩::F) h'):=by
 obtain ⟨hb,rfl⟩:=FB hd
 refine (KZ s0 k.length.symm (fun h' s=>SZ k s) (Vf k) hb).mono fun e h' ⟨v,hv,y,h1,h2⟩=>⟨v,hv,φ,y,_,Sub.refl _,h1,rfl,h2⟩
theorem clone53_own {t:Slc} {l:List Int} (s0:St φ (⟨Rep.row 237 (Ro.int .u64), [.slice t.1 t.2.1 t.2.2],l⟩::F) h) {r:List Int} (hd:cloneD l=some r):CallsH Tryz.prog 148 [.slice t.1 t.2.1 t.2.2] h
 (Aq fun v h'=> ∃ψ:AC,∃y:Slc,∃l1:List Int,Sub φ ψ∧v=((.one aS):Sh).val y∧l1=r∧St ψ (⟨Rep.row 237 (Ro.int .u64), [.slice y.1 y.2.1 y.2.2],l1⟩::⟨Rep.row 237 (Ro.int .u64), [.slice t.1 t.2.1 t.2.2],l⟩::F) h'):=by
 obtain ⟨hb,rfl⟩:=FB hd
 refine (Nw s0 s0.rowLen.symm (fun h' s=>K5 s) (UK s0) hb).mono fun e h' ⟨v,hv,y,h1,h2⟩=>⟨v,hv,φ,y,_,Sub.refl _,h1,rfl,h2⟩
end
end Go.Proofs.YteolcjbobmpdiaaGreatDoor.Dg
namespace Go.Proofs.YteolcjbobmpdiaaGreatDoor
open Go Go.Eng
set_option linter.unusedVariables false
set_option maxRecDepth 100000
theorem RY:NA Tryz.prog 235 237 (.int .u64 (0:Int)):=⟨Tryz.underlying235,⟨Tryz.t237,by kernel_rfl,rfl,⟨_,rfl,rfl⟩,by decide⟩⟩
noncomputable def EX (s_0:List Int) (v_1:Int):Option Int:=
 (Cv (σ:=Unit) (β:=Int) (0:Int) (((List.length s_0):Nat):Int) () fun i_z2 z2=>
  (idx s_0 i_z2).bind fun e17=>
  cond (v_1==e17)
  (some (AW.done i_z2))
  (some (AW.next ()))).bind fun e_z1=>match e_z1 with
 | .next z1=>
  some (-1:Int)
 | .done q30=>some q30
noncomputable def Dk (s_0:List Int) (v_1:Int):Option Bool:=
 (EX s_0 v_1).bind fun t1=>
 some (decide (t1≥ (0:Int)))
noncomputable def CY (s_0:CP) (i_1:Int):Option Bool:=
 (cond (decide (i_1≥ (0:Int)))
 (some (decide (i_1< (s_0.1))))
 (some false)).bind fun z1=>
 some z1
theorem Gb {φ:AC} {h:AE} {F:List Chk} {s_0:Option Addr} {a:CP} {i_1:Int} (s0:St φ (cO 239 DC s_0 a::F) h) {r:Bool} (hd:CY a i_1=some r):
 CallsH Tryz.prog 162 [(.pointer s_0),(.int .i64 i_1)] h (Aq fun v h'=> ∃ψ:AC,∃y:Bool,Sub φ ψ∧v=((.one aB):Sh).val y∧y=r∧St ψ (cO 239 DC s_0 a::F) h'):=by
 refine AQ mixed Tryz.func162 ?_
 rw [KP]
 unfold Hu
 unfold CY at hd
 obtain ⟨d,b,hd⟩:=bS hd
 refine Ao (fun (y:Bool×Unit) w_ g=> ∃ψ:AC,Sub φ ψ∧y.1=g∧St ψ (cO 239 DC s_0 a::F) w_) (g:=d) ?_ ?_
 ·refine AK b rfl (fun _ b=> ?_) (fun _ b=> ?_)
  ·obtain ⟨k,l,e,c⟩:=KK s0
   obtain rfl:=e
   refine AF _ rfl ?_
   refine AA (x:=(a.1)) c.at1 rfl ?_
   obtain rfl:=iS b
   exact AS ((decide (i_1< (a.1))),()) rfl ⟨φ,(Sub.refl _),rfl,(HQ (x0:=(a.1)) c.at1.at1)⟩
  obtain rfl:=iS b
  exact AS (false,()) rfl ⟨φ,(Sub.refl _),rfl,s0⟩
 rintro z1 m ⟨f,i,rfl,j⟩
 try dsimp only at hd
 obtain rfl:=iS hd
 exact AB ⟨f,z1.1,i,rfl,rfl,j⟩
noncomputable def Cu (s_0:CP) (i_1:Int):Option Bool:=
 ((CY s_0 i_1).bind fun t2=>
 cond t2
 (need ((64:Int) ≠ 0) <|
  (idx s_0.2 (IntKind.wrap .i64 (Int.tdiv i_1 (64:Int)))).bind fun e17=>
  need ((64:Int) ≠ 0) <|
  need (0≤(Int.tmod i_1 (64:Int))) <|
  some ((IntKind.wrap .u64 (BitVec.toNat (BitVec.ofInt (IntKind.bits .u64) (Int.fdiv e17 (2 ^ (min (Int.toNat (Int.tmod i_1 (64:Int))) (IntKind.bits .u64)))) &&& (BitVec.ofInt (IntKind.bits .u64) (1:Int))):Nat))==(1:Int)))
 (some false)).bind fun z1=>
 some z1
theorem J7 {φ:AC} {h:AE} {F:List Chk} {s_0:Option Addr} {b:CP} {i_1:Int} (s0:St φ (cO 239 DC s_0 b::F) h) {r:Bool} (hd:Cu b i_1=some r):
 CallsH Tryz.prog 163 [(.pointer s_0),(.int .i64 i_1)] h (Aq fun v h'=> ∃ψ:AC,∃y:Bool,Sub φ ψ∧v=((.one aB):Sh).val y∧y=r∧St ψ (cO 239 DC s_0 b::F) h'):=by
 refine AQ mixed Tryz.func163 ?_
 rw [J3]
 unfold G5
 unfold Cu at hd
 obtain ⟨i,a,hd⟩:=bS hd
 refine Ao (fun (y:Bool×Unit) w_ g=> ∃ψ:AC,Sub φ ψ∧y.1=g∧St ψ (cO 239 DC s_0 b::F) w_) (g:=i) ?_ ?_
 ·obtain ⟨s,j,a⟩:=bS a
  refine AI (Gb s0 j) ?_
  rintro _ t ⟨d,t2,e,rfl,rfl,f⟩
  refine ⟨t2,rfl,?_⟩
  refine AK a rfl (fun _ a=> ?_) (fun _ a=> ?_)
  ·obtain ⟨u,k,l,c⟩:=KK f
   obtain rfl:=l
   refine AF _ rfl ?_
   refine AA (x:=k) c.at1 rfl ?_
   refine CV a id fun w a=> ?_
   obtain ⟨m,n,a⟩:=bS a
   refine IX c n ?_
   refine CV a id fun z a=> ?_
   refine CV a id fun a0 a=> ?_
   obtain rfl:=iS a
   exact AS (((IntKind.wrap .u64 (BitVec.toNat (BitVec.ofInt (IntKind.bits .u64) (Int.fdiv m (2 ^ (min (Int.toNat (Int.tmod i_1 (64:Int))) (IntKind.bits .u64)))) &&& (BitVec.ofInt (IntKind.bits .u64) (1:Int))):Nat))==(1:Int)),()) rfl ⟨d,e,rfl,(HQ (x0:=(b.1)) c.at1.at1)⟩
  obtain rfl:=iS a
  exact AS (false,()) rfl ⟨d,e,rfl,f⟩
 rintro z1 a1 ⟨o,p,rfl,q⟩
 try dsimp only at hd
 obtain rfl:=iS hd
 exact AB ⟨o,z1.1,p,rfl,rfl,q⟩
noncomputable def Ap (s_0:CP) (i_1:Int):Option (Bool×CP):=
 ((CY s_0 i_1).bind fun t2=>
 cond (!t2)
 (some true)
 ((Cu s_0 i_1).bind fun t3=>
  some t3)).bind fun z1=>
 cond z1
 (some (false,s_0))
 (need ((64:Int) ≠ 0) <|
  (idx s_0.2 (IntKind.wrap .i64 (Int.tdiv i_1 (64:Int)))).bind fun e30=>
  need ((64:Int) ≠ 0) <|
  need (0≤(Int.tmod i_1 (64:Int))) <|
  (Dm s_0.2 (IntKind.wrap .i64 (Int.tdiv i_1 (64:Int))) (IntKind.wrap .u64 (BitVec.toNat (BitVec.ofInt (IntKind.bits .u64) e30 ||| (BitVec.ofInt (IntKind.bits .u64) (IntKind.wrap .u64 ((1:Int) * 2 ^ (min (Int.toNat (Int.tmod i_1 (64:Int))) (IntKind.bits .u64)))))):Nat))).bind fun m45=>
  some (true,((s_0.1),m45)))
theorem B8 {φ:AC} {h:AE} {F:List Chk} {s_0:Option Addr} {b:CP} {i_1:Int} (s0:St φ (cO 239 DC s_0 b::F) h) {r:(Bool×CP)} (hd:Ap b i_1=some r):
 CallsH Tryz.prog 134 [(.pointer s_0),(.int .i64 i_1)] h (Aq fun v h'=> ∃ψ:AC,∃y:Bool,∃d:CP,Sub φ ψ∧v=((.one aB):Sh).val y∧(y,d)=r∧St ψ (cO 239 DC s_0 d::F) h'):=by
 refine AQ mixed Tryz.func134 ?_
 rw [J2]
 unfold G4
 unfold Ap at hd
 obtain ⟨n,a,hd⟩:=bS hd
 refine Ao (fun (y:Bool×Unit) w_ g=> ∃ψ:AC,Sub φ ψ∧y.1=g∧St ψ (cO 239 DC s_0 b::F) w_) (g:=n) ?_ ?_
 ·obtain ⟨a4,o,a⟩:=bS a
  refine AI (Gb s0 o) ?_
  rintro _ a5 ⟨p,t2,e,rfl,rfl,f⟩
  refine ⟨t2,rfl,?_⟩
  refine AK a rfl (fun _ a=> ?_) (fun _ a=> ?_)
  ·obtain rfl:=iS a
   exact AS (true,()) rfl ⟨p,e,rfl,f⟩
  obtain ⟨a6,q,a⟩:=bS a
  refine AI (J7 f q) ?_
  rintro _ a7 ⟨s,t3,t,rfl,rfl,u⟩
  refine ⟨t3,rfl,?_⟩
  obtain rfl:=iS a
  exact AS (t3,()) rfl ⟨s,(e.trans t),rfl,u⟩
 rintro z1 a8 ⟨i,j,rfl,k⟩
 try dsimp only at hd
 refine AK hd rfl (fun _ hd=> ?_) (fun _ hd=> ?_)
 ·obtain rfl:=iS hd
  exact AB ⟨i,false,b,j,rfl,rfl,k⟩
 obtain ⟨a9,w,z,c⟩:=KK k
 obtain rfl:=z
 refine AF _ rfl ?_
 refine AA (x:=w) c.at1 rfl ?_
 refine CV hd id fun aa hd=> ?_
 obtain ⟨ab,a0,hd⟩:=bS hd
 refine IX c a0 ?_
 refine CV hd id fun ac hd=> ?_
 refine CV hd id fun ad hd=> ?_
 obtain ⟨a1,l,hd⟩:=bS hd
 obtain ⟨ae,m,a2⟩:=c.there l
 refine AF _ m (Ac a2 (Ht c l rfl m ?_))
 intro af a3
 obtain rfl:=iS hd
 exact AB ⟨i,true,((b.1),a1),j,rfl,rfl,(HQ (x0:=(b.1)) a3.at1.at1)⟩
noncomputable def Bj (n_0:Int):Option CP:=
 need ((64:Int) ≠ 0) <|
 (E0 (IntKind.wrap .i64 (Int.tdiv (IntKind.wrap .i64 ((IntKind.wrap .i64 ((if (if (1000:Int) <n_0 then (1000:Int) else n_0) >(0:Int) then (if (1000:Int) <n_0 then (1000:Int) else n_0) else (0:Int)) +(64:Int))) - (1:Int))) (64:Int))) (0:Int)).bind fun t1=>
 some ((if (if (1000:Int) <n_0 then (1000:Int) else n_0) >(0:Int) then (if (1000:Int) <n_0 then (1000:Int) else n_0) else (0:Int)),t1)
theorem DU {φ:AC} {h:AE} {F:List Chk} {n_0:Int} (s0:St φ (F) h) {r:CP} (hd:Bj n_0=some r):
 CallsH Tryz.prog 138 [(.int .i64 n_0)] h (Aq fun v h'=> ∃ψ:AC,∃y:Option Addr,∃a:CP,Sub φ ψ∧v=((.one aP):Sh).val y∧a=r∧St ψ (cO 239 DC y a::F) h'):=by
 refine AQ mixed Tryz.func138 ?_
 rw [L7]
 unfold KO
 unfold Bj at hd
 refine CV hd id fun g hd=> ?_
 obtain ⟨b,c,hd⟩:=bS hd
 refine IW (r:=(Ro.int .u64)) (x:=(0:Int)) RY s0 rfl rfl c ?_
 intro t1 i d
 refine AU (vs:= [.int .i64 (if (if (1000:Int) <n_0 then (1000:Int) else n_0) >(0:Int) then (if (1000:Int) <n_0 then (1000:Int) else n_0) else (0:Int)),sv t1]) d fun r2 j e=> ?_
 have f:=HQ (x0:=(if (if (1000:Int) <n_0 then (1000:Int) else n_0) >(0:Int) then (if (1000:Int) <n_0 then (1000:Int) else n_0) else (0:Int))) e.at1.at1.at1
 obtain rfl:=iS hd
 exact AB ⟨φ,(some ⟨r2,0,none⟩),((if (if (1000:Int) <n_0 then (1000:Int) else n_0) >(0:Int) then (if (1000:Int) <n_0 then (1000:Int) else n_0) else (0:Int)),b),(Sub.refl _),rfl,rfl,f⟩
noncomputable def CQ (n_0:Int) (l_1:List Int):Option CP:=
 (Bj n_0).bind fun t1=>
 (forS (σ:=CP) (0:Int) (((List.length l_1):Nat):Int) t1 fun i_z3 z3=>
  (idx l_1 i_z3).bind fun e28=>
  (Ap z3 e28).bind fun t6=>
  some t6.2).bind fun z2=>
 some z2
theorem Dv {φ:AC} {h:AE} {F:List Chk} {n_0:Int} {l_1:Slc} {b:List Int} (d:Ro.SliceIs (Ro.int .i64) φ l_1 b) (s0:St φ (F) h) {r:CP} (hd:CQ n_0 b=some r):
 CallsH Tryz.prog 140 [(.int .i64 n_0),(sv l_1)] h (Aq fun v h'=> ∃ψ:AC,∃y:Option Addr,∃e:CP,Sub φ ψ∧v=((.one aP):Sh).val y∧e=r∧St ψ (cO 239 DC y e::F) h'):=by
 refine AQ mixed Tryz.func140 ?_
 rw [Mu]
 unfold LV
 unfold CQ at hd
 have f:l_1.2.1=List.length b:=d.length
 obtain ⟨ae,p,hd⟩:=bS hd
 refine AI (DU s0 p) ?_
 rintro _ af ⟨c,t1,q,i,rfl,rfl,s⟩
 refine ⟨t1,rfl,?_⟩
 obtain ⟨t,u,hd⟩:=bS hd
 refine AV (fun (y:Int×Unit) w_ g=> ∃ψ:AC,∃j:CP,Sub c ψ∧j=g∧St ψ (cO 239 DC t1 j::F) w_) (g:=t) ?_ ?_
 ·refine BL u (fun w (y:Int×Unit) w_ g=> ∃ψ:AC,∃k:CP,Sub c ψ∧y.1=w∧k=g∧St ψ (cO 239 DC t1 k::F) w_) ((0:Int),()) rfl ⟨c,q,(Sub.refl _),rfl,rfl,s⟩ ?_ ?_
  ·rintro _ z3 ag _ _ ⟨ah,ai,l,rfl,rfl,m⟩ a x n o
   try dsimp only at a x n o
   refine Ag (dT f n) ?_
   obtain ⟨aj,z,a⟩:=bS a
   refine DM d z (Sub.trans (i.trans l) m.sub) ?_
   obtain ⟨ak,a0,a⟩:=bS a
   refine AI (B8 m a0) ?_
   rintro _ al ⟨a1,t6,a2,a3,rfl,rfl,a4⟩
   refine ⟨t6,rfl,?_⟩
   try dsimp only at a
   obtain rfl:=iS a
   exact Af ((wN z3.1),()) _ rfl rfl ⟨a1,a2,(l.trans a3),o,rfl,a4⟩
  ·rintro _ z3 am ⟨a5,a6,a7,rfl,rfl,a8⟩ a9
   refine AY (dF f a9) ?_
   exact AJ (AM (z3.1,()) rfl ⟨a5,a6,a7,rfl,a8⟩)
 rintro z2 an ⟨aa,ab,ac,rfl,ad⟩
 try dsimp only at hd
 obtain rfl:=iS hd
 exact AB ⟨aa,t1,ab,(i.trans ac),rfl,rfl,ad⟩
noncomputable def CF (s_0:CP):Option CP:=
 (Dg.cloneD s_0.2).bind fun t5=>
 some ((s_0.1),t5)
theorem JY {φ:AC} {h:AE} {F:List Chk} {s_0:Option Addr} {a:CP} (s0:St φ (cO 239 DC s_0 a::F) h) {r:CP} (hd:CF a=some r):
 CallsH Tryz.prog 145 [(.pointer s_0)] h (Aq fun v h'=> ∃ψ:AC,∃y:Option Addr,∃d:CP,Sub φ ψ∧v=((.one aP):Sh).val y∧d=r∧St ψ (cO 239 DC y d::cO 239 DC s_0 a::F) h'):=by
 refine AQ mixed Tryz.func145 ?_
 rw [JT]
 unfold GX
 unfold CF at hd
 obtain ⟨f,g,i,c⟩:=KK s0
 obtain rfl:=i
 refine AF _ rfl ?_
 refine AA (x:=(a.1)) c.at1 rfl ?_
 refine AF _ rfl ?_
 refine AA (x:=g) c.at1 rfl ?_
 obtain ⟨p,k,hd⟩:=bS hd
 refine AI (Dg.clone53_own c k) ?_
 rintro _ q ⟨l,t5,m,n,rfl,rfl,e⟩
 refine ⟨t5,rfl,?_⟩
 refine AL (St.cell (b:=f) (j:=0) e.at2 rfl) ?_
 refine AU (vs:= [.int .i64 (a.1),sv t5]) e fun r6 s o=> ?_
 obtain rfl:=iS hd
 exact AB ⟨l,(some ⟨r6,0,none⟩),((a.1),m),n,rfl,rfl,((HQ (x0:=(a.1)) ((HQ (x0:=(a.1)) o.at1.at1.at1).at1).at2.at1).at1)⟩
end Go.Proofs.YteolcjbobmpdiaaGreatDoor
namespace Go.Proofs.YteolcjbobmpdiaaGreatDoor.Dg
open Go Go.Eng
set_option linter.unusedVariables false
theorem Vg {n:Nat} (h:n<18446744073709551616):IntKind.wrap .u64 (n:Int)=(n:Int):=by
 unfold IntKind.wrap
 simp only [IntKind.bits,IntKind.signed]
 have:(n:Int) % 18446744073709551616=(n:Int):=by omega
 simp
 omega
theorem RZ {n:Int} (h0: -9223372036854775808≤n) (h1:n≤9223372036854775807):IntKind.wrap .i64 n=n:=by
 unfold IntKind.wrap
 simp only [IntKind.bits,IntKind.signed]
 simp
 omega
theorem JD {w:Nat} (hw:w<18446744073709551616):(BitVec.ofInt (IntKind.bits .u64) (w:Int)).toNat=w:=by
 rw [BitVec.toNat_ofInt]
 have e:((2 ^ IntKind.bits .u64:Nat):Int)=18446744073709551616:=by decide
 rw [e]
 omega
theorem Sa {k:Nat} (hk:k<64):IntKind.wrap .u64 ((1:Int) * 2 ^ (min k (IntKind.bits .u64)))=((2 ^ k:Nat):Int):=by
 have h1:min k (IntKind.bits .u64)=k:=by simp only [IntKind.bits]; omega
 have h2:(1:Int) * 2 ^ k=((2 ^ k:Nat):Int):=by simp
 rw [h1,h2]
 exact Vg (by
  have:2 ^ k<2 ^ 64:=Nat.pow_lt_pow_right (by decide) hk
  simpa using this)
theorem Oi {k:Nat} (hk:k<64):(2:Nat) ^ k<18446744073709551616:=by
 have:2 ^ k<2 ^ 64:=Nat.pow_lt_pow_right (by decide) hk
 simpa using this
theorem VC {a b:Nat} (ha:a<18446744073709551616) (hb:b<18446744073709551616):a ||| b<18446744073709551616:=by
 have:=Nat.or_lt_two_pow (n:=64) (x:=a) (y:=b) (by simpa using ha) (by simpa using hb)
 simpa using this
theorem Vh {a b:Nat} (ha:a<18446744073709551616):a &&& b<18446744073709551616:=Nat.lt_of_le_of_lt Nat.and_le_left ha
theorem UL {w v:Nat} (hw:w<18446744073709551616) (hv:v<18446744073709551616):
 IntKind.wrap .u64 (BitVec.toNat (BitVec.ofInt (IntKind.bits .u64) (w:Int) ||| (BitVec.ofInt (IntKind.bits .u64) (v:Int))):Nat)=((w ||| v:Nat):Int):=by
 rw [BitVec.toNat_or,JD hw,JD hv]
 exact Vg (VC hw hv)
theorem MD {w v:Nat} (hw:w<18446744073709551616) (hv:v<18446744073709551616):
 IntKind.wrap .u64 (BitVec.toNat (BitVec.ofInt (IntKind.bits .u64) (w:Int) &&& (BitVec.ofInt (IntKind.bits .u64) (v:Int))):Nat)=((w &&& v:Nat):Int):=by
 rw [BitVec.toNat_and,JD hw,JD hv]
 exact Vg (Vh hw)
theorem Oj {w j:Nat} (hw:w<18446744073709551616) (hj:64≤j):w.testBit j=false:=Nat.testBit_lt_two_pow (Nat.lt_of_lt_of_le hw (by
 have:2 ^ 64≤2 ^ j:=Nat.pow_le_pow_right (by decide) hj
 simpa using this))
theorem Sb {w k:Nat} (hw:w<18446744073709551616) (hk:k<64):
 ((IntKind.wrap .u64 (BitVec.toNat (BitVec.ofInt (IntKind.bits .u64) (Int.fdiv (w:Int) (2 ^ (min k (IntKind.bits .u64)))) &&& (BitVec.ofInt (IntKind.bits .u64) (1:Int))):Nat))==(1:Int))=w.testBit k:=by
 have h1:min k (IntKind.bits .u64)=k:=by simp only [IntKind.bits]; omega
 have h2:Int.fdiv (w:Int) (2 ^ k)=((w / 2 ^ k:Nat):Int):=by
  rw [Int.fdiv_eq_ediv_of_nonneg _ (Int.pow_nonneg (by decide))]
  simp
 have h3:(1:Int)=((1:Nat):Int):=rfl
 rw [h1,h2,h3,MD (Nat.lt_of_le_of_lt (Nat.div_le_self _ _) hw) (by decide)]
 have h4:w / 2 ^ k &&& 1=(w / 2 ^ k) % 2:=Nat.and_one_is_mod _
 rw [h4,Nat.testBit_eq_decide_div_mod_eq]
 by_cases h:w / 2 ^ k % 2=1
 ·rw [h]; rfl
 ·have:w / 2 ^ k % 2=0:=by omega
  rw [this]
  rfl
abbrev AT:=Int×List Int
def H9 (ws:List Int) (i:Nat):Bool:=((ws[i / 64]?).getD 0).toNat.testBit (i % 64)
def mem (s:AT) (i:Int):Bool:=decide (0≤i) && H9 s.2 i.toNat
structure OkS (s:AT):Prop where
 lo:0≤s.1
 hi:s.1≤1000
 len:s.2.length=(s.1.toNat+63) / 64
 word: ∀x ∈ s.2,0≤x∧x<18446744073709551616
 top: ∀i:Nat,s.1≤(i:Int)→H9 s.2 i=false
def okB (s:AT):Bool:=decide (0≤s.1) && decide (s.1≤1000) && decide (s.2.length=(s.1.toNat+63) / 64) && s.2.all (fun x=>decide (0≤x) && decide (x<18446744073709551616)) && (List.range (64 * s.2.length - s.1.toNat)).all fun k=> !H9 s.2 (s.1.toNat+k)
theorem UM (s:AT):okB s=true ↔ OkS s:=by
 unfold okB
 simp only [Bool.and_eq_true,decide_eq_true_eq,List.all_eq_true,Bool.not_eq_true',List.mem_range]
 constructor
 ·rintro ⟨⟨⟨⟨h1,h2⟩,h3⟩,h4⟩,h5⟩
  refine ⟨h1,h2,h3,h4,fun i hi=> ?_⟩
  by_cases hl:i<64 * s.2.length
  ·have:=h5 (i - s.1.toNat) (by omega)
   rwa [show s.1.toNat+(i - s.1.toNat)=i by omega] at this
  ·unfold H9
   rw [List.getElem?_eq_none (by omega)]
   simp
 ·rintro ⟨h1,h2,h3,h4,h5⟩
  exact ⟨⟨⟨⟨h1,h2⟩,h3⟩,h4⟩,fun k _=>h5 _ (by omega)⟩
instance (s:AT):Decidable (OkS s):=decidable_of_iff _ (UM s)
theorem OkS.at {s:AT} (H:OkS s) {k:Nat} (hk:(k:Int) <s.1): ∃w:Nat,∃h:k / 64<s.2.length,s.2[k / 64] =(w:Int)∧w<18446744073709551616∧H9 s.2 k=w.testBit (k % 64):=by
 have h1:=H.len
 have h:k / 64<s.2.length:=by omega
 have h2:=H.word _ (List.getElem_mem h)
 refine ⟨s.2[k / 64].toNat,h,by omega,by omega,?_⟩
 unfold H9
 rw [List.getElem?_eq_getElem h]
 rfl
theorem Qk {s:AT} (H:OkS s) {i:Int} (h:i<0∨s.1≤i):mem s i=false:=by
 unfold mem
 rcases h with h | h
 ·rw [decide_eq_false (by omega)]; rfl
 ·rw [H.top i.toNat (by omega),Bool.and_false]
theorem K6 {s:AT} (H:OkS s) {i:Int} (h:mem s i=true):0≤i∧i<s.1:=by
 by_cases h1:i<0∨s.1≤i
 ·rw [Qk H h1] at h; cases h
 ·omega
theorem Ka (s:AT) (k:Nat):mem s (k:Int)=H9 s.2 k:=by
 unfold mem
 rw [decide_eq_true (by omega),Int.toNat_natCast,Bool.true_and]
theorem Sc (k:Nat) (hk:k<1000):IntKind.wrap .i64 (Int.tdiv (k:Int) 64)=((k / 64:Nat):Int):=by
 rw [Int.tdiv_eq_ediv_of_nonneg (by omega),RZ (by omega) (by omega)]
 omega
theorem Sd (k:Nat):Int.tmod (k:Int) 64=((k % 64:Nat):Int):=by
 rw [Int.tmod_eq_emod_of_nonneg (by omega)]
 omega
theorem VD (s:AT) (i:Int):CY s i=some (decide (0≤i∧i<s.1)):=by
 unfold CY
 by_cases h:0≤i
 ·rw [decide_eq_true (show i≥0 from h),cond_true,Option.bind_some]
  by_cases h2:i<s.1
  ·rw [decide_eq_true h2,decide_eq_true ⟨h,h2⟩]
  ·rw [decide_eq_false h2,decide_eq_false fun g=>h2 g.2]
 ·rw [decide_eq_false (show ¬i≥0 from h),cond_false,Option.bind_some,decide_eq_false fun g=>h g.1]
theorem Vi {s:AT} (H:OkS s) (i:Int):Cu s i=some (mem s i):=by
 unfold Cu
 rw [VD,Option.bind_some]
 by_cases h:0≤i∧i<s.1
 ·obtain ⟨k,rfl⟩: ∃k:Nat,i=(k:Int):=⟨i.toNat,by omega⟩
  obtain ⟨w,hk,e1,e2,e3⟩:=H.at h.2
  have:=H.hi
  rw [decide_eq_true h,cond_true,Sc k (by omega),Sd,Es hk,EU (by decide)]
  simp only [Option.bind_some]
  rw [EU (by decide),EU (by omega),e1,Int.toNat_natCast,Sb e2 (Nat.mod_lt _ (by decide)),Ka,e3]
  rfl
 ·rw [decide_eq_false h,Qk H (by omega)]
  rfl
theorem Ql {ws:List Int} {k:Nat} (hk:k / 64<ws.length) (v:Nat) (j:Nat):H9 (ws.set (k / 64) (v:Int)) j=if j / 64=k / 64 then v.testBit (j % 64) else H9 ws j:=by
 unfold H9
 rw [List.getElem?_set]
 by_cases h:j / 64=k / 64
 ·rw [if_pos h.symm,if_pos hk,if_pos h]
  rfl
 ·rw [if_neg fun e=>h e.symm,if_neg h]
theorem Ol {j k:Nat} (h:j / 64=k / 64):(decide (k % 64=j % 64))=decide (j=k):=by
 by_cases e:j=k
 ·subst e; simp
 ·rw [decide_eq_false e,decide_eq_false (by omega)]
theorem OkS.set {s:AT} (H:OkS s) {k v:Nat} (hk:(k:Int) <s.1) (hv:v<18446744073709551616) (ht: ∀j:Nat,s.1≤(j:Int)→j / 64=k / 64→v.testBit (j % 64)=false):OkS (s.1,s.2.set (k / 64) (v:Int)):=by
 obtain ⟨w,h,_⟩:=H.at hk
 refine ⟨H.lo,H.hi,?_,?_,?_⟩
 ·show (s.2.set _ _).length=_
  rw [List.length_set]; exact H.len
 ·intro x hx
  rcases List.mem_or_eq_of_mem_set hx with hx | hx
  ·exact H.word x hx
  ·subst hx; omega
 ·intro j hj
  show H9 (s.2.set _ _) j=false
  rw [Ql h]
  by_cases e:j / 64=k / 64
  ·rw [if_pos e]; exact ht j hj e
  ·rw [if_neg e]; exact H.top j hj
theorem add_ok {s:AT} (H:OkS s) (i:Int): ∃s',Ap s i=some (decide (0≤i∧i<s.1) && !mem s i,s')∧OkS s'∧s'.1=s.1∧ ∀j,mem s' j=(mem s j || decide (j=i∧0≤i∧i<s.1)):=by
 unfold Ap
 rw [VD,Vi H]
 simp only [Option.bind_some]
 by_cases h:0≤i∧i<s.1
 ·rw [decide_eq_true h]
  simp only [Bool.not_true,cond_false,Option.bind_some,Bool.true_and]
  cases hm:mem s i with
  | true=>
   refine ⟨s,rfl,H,rfl,fun j=> ?_⟩
   by_cases hj:j=i
   ·subst hj; rw [hm]; rfl
   ·rw [decide_eq_false fun g=>hj g.1,Bool.or_false]
  | false=>
   obtain ⟨k,rfl⟩: ∃k:Nat,i=(k:Int):=⟨i.toNat,by omega⟩
   obtain ⟨w,hk,e1,e2,e3⟩:=H.at h.2
   have:=H.hi
   have h64:k % 64<64:=Nat.mod_lt _ (by decide)
   have hor:=VC e2 (Oi h64)
   refine ⟨(s.1,s.2.set (k / 64) ((w ||| 2 ^ (k % 64):Nat):Int)),?_,H.set h.2 hor ?_,rfl,fun j=> ?_⟩
   ·rw [cond_false,Sc k (by omega),Sd,Es hk,EU (by decide)]
    simp only [Option.bind_some]
    rw [EU (by decide),EU (by omega),e1,Int.toNat_natCast,Sa h64,UL e2 (Oi h64),Ga (by omega) (by omega),Int.toNat_natCast]
    rfl
   ·intro j hj e
    have ht:=H.top j hj
    have:H9 s.2 j=w.testBit (j % 64):=by
     unfold H9
     rw [e,List.getElem?_eq_getElem hk,e1]
     rfl
    rw [this] at ht
    rw [Nat.testBit_or,ht,Nat.testBit_two_pow,Ol e,decide_eq_false (by omega)]
    rfl
   ·by_cases hj:0≤j
    ·obtain ⟨j,rfl⟩: ∃q:Nat,j=(q:Int):=⟨j.toNat,by omega⟩
     rw [Ka,Ka]
     show H9 (s.2.set _ _) j=_
     rw [Ql hk]
     have ed:decide (((j:Nat):Int)=(k:Int)∧(0:Int) ≤(k:Int)∧(k:Int) <s.1)=decide (j=k):=by
      by_cases e:j=k
      ·rw [decide_eq_true e,decide_eq_true ⟨by omega,h.1,h.2⟩]
      ·rw [decide_eq_false e,decide_eq_false (by omega)]
     rw [ed]
     by_cases e:j / 64=k / 64
     ·rw [if_pos e,Nat.testBit_or,Nat.testBit_two_pow,Ol e]
      unfold H9
      rw [e,List.getElem?_eq_getElem hk,e1]
      rfl
     ·rw [if_neg e,decide_eq_false (by intro g; subst g; exact e rfl),Bool.or_false]
    ·unfold mem
     rw [decide_eq_false hj,decide_eq_false (by omega)]
     rfl
 ·rw [decide_eq_false h]
  refine ⟨s,rfl,H,rfl,fun j=> ?_⟩
  rw [decide_eq_false fun g=>h g.2,Bool.or_false]
theorem Om (n j:Nat):H9 (List.replicate n 0) j=false:=by
 unfold H9
 rw [List.getElem?_replicate]
 split<;>simp
def JZ (n:Int):Int:=if n<0 then 0 else if 1000<n then 1000 else n
theorem new_ok (n:Int): ∃s,Bj n=some s∧OkS s∧s.1=JZ n∧ ∀j,mem s j=false:=by
 have hc:(if (if (1000:Int) <n then (1000:Int) else n) >(0:Int) then (if (1000:Int) <n then (1000:Int) else n) else (0:Int))=JZ n:=by
  unfold JZ
  split<;>split<;>(try split) <;>omega
 have h0:0≤JZ n∧JZ n≤1000:=by
  unfold JZ
  split
  ·omega
  ·split<;>omega
 unfold Bj
 rw [hc]
 obtain ⟨k,hk⟩: ∃k:Nat,JZ n=(k:Int):=⟨(JZ n).toNat,by omega⟩
 rw [hk] at h0 ⊢
 have e1:IntKind.wrap .i64 ((k:Int) +64)=((k+64:Nat):Int):=by rw [RZ (by omega) (by omega)]; omega
 have e2:IntKind.wrap .i64 (((k+64:Nat):Int) - 1)=((k+63:Nat):Int):=by rw [RZ (by omega) (by omega)]; omega
 have e3:IntKind.wrap .i64 (Int.tdiv ((k+63:Nat):Int) 64)=(((k+63) / 64:Nat):Int):=by
  rw [Int.tdiv_eq_ediv_of_nonneg (by omega),RZ (by omega) (by omega)]
  omega
 rw [e1,e2,e3,EU (by decide)]
 have hm:E0 (((k+63) / 64:Nat):Int) (0:Int)=some (List.replicate ((k+63) / 64) 0):=by
  unfold E0
  rw [if_pos ⟨by omega,by omega⟩,Int.toNat_natCast]
 rw [hm]
 refine ⟨_,rfl,⟨h0.1,h0.2,?_,?_,?_⟩,rfl,?_⟩
 ·simp
 ·intro x hx
  have:=List.eq_of_mem_replicate hx
  subst this
  decide
 ·intro i _; exact Om _ _
 ·intro j
  unfold mem
  rw [Om,Bool.and_false]
theorem of_ok (n:Int) (l:List Int) (hl:l.length≤9223372036854775807): ∃s,CQ n l=some s∧OkS s∧s.1=JZ n∧ ∀j,mem s j=(decide (0≤j∧j<JZ n) && l.contains j):=by
 obtain ⟨s0,h1,h2,h3,h4⟩:=new_ok n
 unfold CQ
 rw [h1]
 simp only [Option.bind_some]
 obtain ⟨s,e1,e2,e3,e4⟩:=B6 (σ:=AT) (n:=l.length) (fun k s=>OkS s∧s.1=JZ n∧ ∀j,mem s j=(decide (0≤j∧j<JZ n) && (l.take k).contains j)) hl (s:=s0) (f:=fun i_z3 z3=>
  (idx l i_z3).bind fun e25=>
  (Ap z3 e25).bind fun t8=>
  some t8.2) ⟨h2,h3,fun j=>by rw [h4]; simp⟩ (fun k s hk ⟨i1,i2,i3⟩=>by
   obtain ⟨s',g1,g2,g3,g4⟩:=add_ok i1 l[k]
   refine ⟨s',?_,g2,g3.trans i2,fun j=> ?_⟩
   ·rw [Es hk,Option.bind_some,g1]
    rfl
   ·rw [g4,i3,i2,List.take_add_one,List.getElem?_eq_getElem hk]
    simp only [Option.toList_some,List.contains_append,List.contains_cons,List.contains_nil,Bool.or_false]
    by_cases hj:j=l[k]
    ·rw [← hj]
     simp
     intro a b _
     exact ⟨a,b⟩
    ·have e1:(j==l[k])=false:=by simpa using hj
     have e2:decide (j=l[k] ∧0≤l[k] ∧l[k] <JZ n)=false:=decide_eq_false fun g=>hj g.1
     rw [e1,e2,Bool.or_false,Bool.or_false])
 rw [List.take_length] at e4
 refine ⟨s,?_,e2,e3,e4⟩
 rw [e1]
 rfl
theorem Se: ∀w:Nat,w ≠ 0→ ∃k m,w=2 ^ k * (2 * m+1):=by
 intro w
 induction w using Nat.strongRecOn with
 | ind w ih=>
  intro hw
  by_cases h:w % 2=1
  ·exact ⟨0,w / 2,by rw [Nat.pow_zero,Nat.one_mul]; omega⟩
  ·obtain ⟨k,m,e⟩:=ih (w / 2) (by omega) (by omega)
   refine ⟨k+1,m,?_⟩
   rw [Nat.pow_succ,Nat.mul_comm (2 ^ k) 2,Nat.mul_assoc,← e]
   omega
def FC (w:Nat):List Nat:=(List.range 64).filter w.testBit
theorem ME:FC 0= [] :=by
 unfold FC
 rw [List.filter_eq_nil_iff]
 intro a _
 simp
theorem K7 {w j:Nat} :j ∈ FC w ↔ j<64∧w.testBit j=true:=by
 unfold FC
 rw [List.mem_filter,List.mem_range]
theorem Qm {w:Nat} (hw:w ≠ 0) (hlt:w<18446744073709551616): ∃k,k<64∧w.testBit k=true∧(∀j,j<k→w.testBit j=false)∧(∀j,(w &&& (w - 1)).testBit j=(w.testBit j && !decide (j=k)))∧w &&& (18446744073709551616 - w)=2 ^ k:=by
 obtain ⟨k,m,e⟩:=Se w hw
 have hbit: ∀j,w.testBit j=(decide (k≤j) && (2 * m+1).testBit (j - k)):=fun j=>by rw [e,Nat.testBit_two_pow_mul]
 have hk:w.testBit k=true:=by
  rw [hbit,Nat.sub_self,decide_eq_true (Nat.le_refl k),Bool.true_and,Nat.testBit_zero]
  simp
 have hk64:k<64:=by
  rcases Nat.lt_or_ge k 64 with h | h
  ·exact h
  ·rw [Oj hlt h] at hk; cases hk
 have hlow: ∀j,j<k→w.testBit j=false:=fun j hj=>by rw [hbit,decide_eq_false (by omega),Bool.false_and]
 have hpow:0<2 ^ k:=Nat.two_pow_pos k
 have epred:w - 1=2 ^ (k+1) * m+(2 ^ k - 1):=by
  rw [e,Nat.mul_add,Nat.mul_one,Nat.pow_succ,← Nat.mul_assoc]
  omega
 have hpred: ∀j,(w - 1).testBit j=if j<k then true else if j=k then false else w.testBit j:=fun j=>by
  rw [epred,Nat.testBit_two_pow_mul_add _ (by rw [Nat.pow_succ]; omega),Nat.testBit_two_pow_sub_one]
  by_cases h1:j<k
  ·rw [if_pos (by omega),if_pos h1,decide_eq_true h1]
  ·by_cases h2:j=k
   ·rw [if_pos (by omega),if_neg h1,if_pos h2,decide_eq_false h1]
   ·rw [if_neg (by omega),if_neg h1,if_neg h2,hbit,decide_eq_true (by omega),Bool.true_and,show j - k=(j - (k+1)) +1 by omega,Nat.testBit_succ]
    rw [show (2 * m+1) / 2=m by omega]
 refine ⟨k,hk64,hk,hlow,fun j=> ?_,?_⟩
 ·rw [Nat.testBit_and,hpred]
  by_cases h1:j<k
  ·rw [if_pos h1,hlow j h1]; rfl
  ·rw [if_neg h1]
   by_cases h2:j=k
   ·subst h2; simp
   ·rw [if_neg h2,decide_eq_false h2,Bool.and_self,Bool.not_false,Bool.and_true]
 ·apply Nat.eq_of_testBit_eq
  intro j
  rw [Nat.testBit_and,Nat.testBit_two_pow]
  have e2:18446744073709551616 - w=2 ^ 64 - ((w - 1) +1):=by omega
  rw [e2,Nat.testBit_two_pow_sub_succ (by omega),hpred]
  by_cases hj:j<64
  ·rw [decide_eq_true hj,Bool.true_and]
   by_cases h1:j<k
   ·rw [if_pos h1,hlow j h1,decide_eq_false (by omega)]; rfl
   ·rw [if_neg h1]
    by_cases h2:j=k
    ·rw [if_pos h2,h2,hk]; simp
    ·rw [if_neg h2,decide_eq_false (fun h=>h2 h.symm)]
     cases w.testBit j<;>rfl
  ·rw [Oj hlt (by omega),Bool.false_and]
   exact (decide_eq_false (by omega)).symm
theorem J8 {w k:Nat} (hk:k<64) (h1:w.testBit k=true) (h2: ∀j,j<k→w.testBit j=false) {v:Nat} (hv: ∀j,v.testBit j=(w.testBit j && !decide (j=k))):FC w=k::FC v:=by
 unfold FC
 have er:List.range 64=List.range k++k::List.range' (k+1) (63 - k):=by
  rw [List.range_eq_range',List.range_eq_range']
  have h:List.range' 0 64=List.range' 0 k++List.range' (0+1 * k) (64 - k):=by
   rw [List.range'_append,show k+(64 - k)=64 by omega]
  rw [h,show 64 - k=(63 - k) +1 by omega,List.range'_succ]
  simp
 have e1:(List.range k).filter w.testBit= [] :=by
  rw [List.filter_eq_nil_iff]
  intro j hj
  rw [h2 j (List.mem_range.1 hj)]
  exact Bool.false_ne_true
 have e2:(List.range k).filter v.testBit= [] :=by
  rw [List.filter_eq_nil_iff]
  intro j hj
  rw [hv,h2 j (List.mem_range.1 hj)]
  exact Bool.false_ne_true
 have e3:(List.range' (k+1) (63 - k)).filter w.testBit=(List.range' (k+1) (63 - k)).filter v.testBit:=by
  refine List.filter_congr fun j hj=> ?_
  rw [List.mem_range'_1] at hj
  rw [hv,decide_eq_false (by omega),Bool.not_false,Bool.and_true]
 have e4:v.testBit k=false:=by rw [hv,h1]; simp
 rw [er,List.filter_append,List.filter_append,e1,e2,List.nil_append,List.nil_append,List.filter_cons,List.filter_cons,h1,e4,e3]
 rfl
set_option maxRecDepth 100000
def Glob (φ:AC):Prop:= ∃t f,φ 0=some (.cells (Lib.deBruijn64tab.map fun (z:Nat)=>Value.int .u8 (z:Int)).toArray t f)
theorem Glob.mono {φ ψ:AC} (H:Glob φ) (hs:Sub φ ψ):Glob ψ:=by
 obtain ⟨t,f,h⟩:=H
 exact ⟨t,f,hs _ _ h⟩
def tzN (w:Nat):Nat:=(FC w).headD 64
def tzD (x:Int):Option Int:=if 0≤x∧x<18446744073709551616 then some (tzN x.toNat:Nat) else none
theorem Sf {w:Nat} (h0:w ≠ 0) (h:w<18446744073709551616):IntKind.wrap .u64 (0 - (w:Int))=((18446744073709551616 - w:Nat):Int):=by
 unfold IntKind.wrap
 simp only [IntKind.bits,IntKind.signed]
 have:(0 - (w:Int)) % 18446744073709551616=((18446744073709551616 - w:Nat):Int):=by omega
 simp
 omega
theorem Si (n:Nat):IntKind.wrap .u64 (n:Int)=((n % 18446744073709551616:Nat):Int):=by
 unfold IntKind.wrap
 simp only [IntKind.bits,IntKind.signed]
 simp
theorem Sj {w k:Nat} (h0:w ≠ 0) (h:w<18446744073709551616) (he:w &&& (18446744073709551616 - w)=2 ^ k):
 Int.fdiv (IntKind.wrap .u64 ((IntKind.wrap .u64 (BitVec.toNat (BitVec.ofInt (IntKind.bits .u64) (w:Int) &&& (BitVec.ofInt (IntKind.bits .u64) (IntKind.wrap .u64 (0 - (w:Int))))):Nat)) * (285870213051353865:Int))) (2 ^ (min (Int.toNat (58:Int)) (IntKind.bits .u64)))=((2 ^ k * 285870213051353865 % 18446744073709551616 / 288230376151711744:Nat):Int):=by
 rw [Sf h0 h,MD h (by omega),he]
 have e1:((2 ^ k:Nat):Int) * (285870213051353865:Int)=((2 ^ k * 285870213051353865:Nat):Int):=by
  rw [Int.natCast_mul]
  have:((285870213051353865:Nat):Int)=285870213051353865:=rfl
  rw [this]
 rw [e1,Si]
 have e2:(2:Int) ^ (min (Int.toNat (58:Int)) (IntKind.bits .u64))=((288230376151711744:Nat):Int):=by decide
 rw [e2,Int.fdiv_eq_ediv_of_nonneg _ (by omega)]
 generalize 2 ^ k * 285870213051353865 % 18446744073709551616=q
 omega
theorem Sk {l:List Nat} {i k:Nat} (h:i<l.length) (hk:l.getD i 0=k):l[i]? =some k:=by
 rw [List.getD_eq_getElem?_getD,List.getElem?_eq_getElem h] at hk
 rw [List.getElem?_eq_getElem h]
 exact congrArg some hk
theorem Pz:Lib.deBruijn64tab.length=64:=by decide
theorem Sl {l:List Nat} {φ:AC} {t:TypeId} {f:Nat×Nat} (hg:φ 0=some (.cells (l.map fun (z:Nat)=>Value.int .u8 (z:Int)).toArray t f)) {i k:Nat} (h:l[i]? =some k):DL φ (Addr.add ⟨0,0,none⟩ (Int.toNat (i:Int) * 1))=some (.int .u8 (k:Int)):=by
 rw [Dl,Int.toNat_natCast,Nat.mul_one,Nat.zero_add]
 unfold DL
 rw [hg]
 simp [h]
theorem Vj {φ:AC} {h:AE} {F:List Chk} {x:Int} (gk:Glob φ) (s0:St φ F h) {r:Int} (hd:tzD x=some r):CallsH Tryz.prog 150 [.int .u64 x] h
 (Aq fun v h'=> ∃ψ:AC,∃y:Int,Sub φ ψ∧v=((.one aI):Sh).val y∧y=r∧St ψ F h'):=by
 unfold tzD at hd
 split at hd
 ·rename_i hx
  cases hd
  obtain ⟨w,rfl⟩: ∃w:Nat,x=(w:Int):=⟨x.toNat,by omega⟩
  rw [Int.toNat_natCast]
  refine AQ mixed Tryz.func150 ?_
  rw [E9]
  unfold DD
  refine VT (fun hb=> ?_) (fun hb=> ?_)
  ·have hw:w=0:=by
    have:(w:Int)=0:=by simpa using hb
    omega
   subst hw
   unfold tzN
   rw [ME]
   exact AB ⟨φ,64,Sub.refl _,rfl,rfl,s0⟩
  ·have hw:w ≠ 0:=by
    intro e; subst e; cases hb
   obtain ⟨k,k1,k2,k3,k4,k5⟩:=Qm hw (by omega)
   have hk:tzN w=k:=by
    unfold tzN
    rw [J8 k1 k2 k3 k4]
    rfl
   obtain ⟨d1,d2⟩:=Lib.deBruijn64_at k k1
   rw [Sj hw (by omega) k5,hk]
   generalize 2 ^ k * 285870213051353865 % 18446744073709551616 / 288230376151711744=i at d1 d2
   refine Ac (by decide) (Ac ⟨by omega,by omega⟩ ?_)
   obtain ⟨t,f,hg⟩:=gk
   have hi:i<Lib.deBruijn64tab.length:=by rw [Pz]; exact d1
   have hcell:=Sl hg (Sk hi d2)
   refine AH (x:=(k:Int)) (AD s0.sub hcell) rfl ?_
   rw [RZ (by omega) (by omega)]
   exact AB ⟨φ,(k:Int),Sub.refl _,rfl,rfl,s0⟩
 ·cases hd
end Go.Proofs.YteolcjbobmpdiaaGreatDoor.Dg
namespace Go.Eng
open Go Go.RowKit
def FU (P:Program) (h:AE):Nat→TypeId→List Value→Prop
 | 0,_,_=>False
 | n+1,t,cs=>match P.underlying t with
  | some .bool=> ∃b,cs= [.bool b]
  | some (.int k)=> ∃x,cs= [.int k x] ∧(Lit.int k x).wf=true
  | some .string=> ∃s,cs= [.string s] ∧s.size≤maxLen
  | some (.slice e)=> ∃p len cap,cs= [.slice p len cap] ∧len≤cap∧cap≤maxLen∧(p=none→len=0∧cap=0)∧
   ∀i,i<len→ ∃cs',cs'.length=P.cellsOf e∧(∀j v,cs'[j]? =some v→ ∃a,p=some a∧BF h (a.add (i * P.cellsOf e+j))=some v)∧FU P h n e cs'
  | some (.struct fs)=>cs.length=P.cellsOf t∧ ∀f ∈ fs.toList,FU P h n f.type ((cs.drop f.offset).take (P.cellsOf f.type))
  | _=>True
theorem Mw {α β:Type} {f:α→Option β} : ∀ {l:List α} {r:List β},l.mapM f=some r→ ∀a ∈ l,∃b,f a=some b:=by
 intro l
 induction l with
 | nil=>intro r _ a ha; cases ha
 | cons x l ih=>
  intro r h a ha
  rw [List.mapM_cons] at h
  cases hx:f x with
  | none=>simp [hx] at h
  | some b=>
   cases hl:l.mapM f with
   | none=>simp [hx,hl] at h
   | some bs=>
    rcases List.mem_cons.1 ha with rfl | ha
    ·exact ⟨b,hx⟩
    ·exact ih hl a ha
theorem Mx {H:Type} {enc:TypeId×Value→H} {P:Program} {w:World} {base:Nat} {spare:Nat→Bool} {held:Bool} : ∀(fuel:Nat) (t:TypeId) (cs:List Value) (x:DataW H×List MemPlace),
 DataW.trod enc P w base spare held fuel t cs=some x→FU P w.heap fuel t cs:=by
 intro fuel
 induction fuel with
 | zero=>intro t cs x h; simp [DataW.trod] at h
 | succ n ih=>
  intro t cs x h
  have h0:=h
  rw [DataW.trod_step] at h
  unfold DataW.trodStep at h
  unfold FU
  split<;>rename_i hd<;>try trivial
  ·rw [hd] at h
   split at h<;>first | cases h | skip
   all_goals rename_i h1; first | cases h1 | skip
   all_goals first | exact ⟨_,rfl⟩ | skip
  ·rw [hd] at h
   split at h<;>first | cases h | skip
   all_goals rename_i h1; first | cases h1 | skip
   split at h
   ·rename_i hk; obtain ⟨rfl,hw⟩:=hk; exact ⟨_,rfl,hw⟩
   ·cases h
  ·rw [hd] at h
   split at h<;>first | cases h | skip
   all_goals rename_i h1; first | cases h1 | skip
   split at h
   ·rename_i hs; exact ⟨_,rfl,hs⟩
   ·cases h
  ·rename_i e
   rcases DataW.trod_slice hd h0 with ⟨rfl,_⟩ | ⟨a,len,cap,elems,rest,m,hm,rfl,_,_,hl,hc,hlen,hel,_⟩
   ·exact ⟨none,0,0,rfl,Nat.le_refl _,Nat.zero_le _,fun _=>⟨rfl,rfl⟩,fun i hi=>by omega⟩
   ·cases hm
    refine ⟨some a,len,cap,rfl,hl,hc,(fun h=>by cases h),fun i hi=> ?_⟩
    have h2:=hel i hi
    rw [List.getElem?_eq_getElem (by omega),Option.bind_eq_some_iff] at h2
    obtain ⟨cs',h3,h4⟩:=h2
    obtain ⟨_,h5,h6⟩:=World.cells?_some h3
    refine ⟨cs',h5,fun j v hj=>⟨a,rfl,?_⟩,ih _ _ _ h4⟩
    have hjl:j<P.cellsOf e:=by
     rcases Nat.lt_or_ge j cs'.length with g | g
     ·omega
     ·rw [List.getElem?_eq_none g] at hj; cases hj
    have:=h6 j hjl
    rw [hj,Ad] at this
    exact this
  ·rename_i fs
   rw [hd] at h
   dsimp only at h
   by_cases hlen:cs.length=P.cellsOf t
   ·rw [if_pos hlen,Option.map_eq_some_iff] at h
    obtain ⟨xs,h2,_⟩:=h
    refine ⟨hlen,fun f hf=> ?_⟩
    obtain ⟨y,hy⟩:=Mw h2 f hf
    exact ih _ _ _ hy
   ·rw [if_neg hlen] at h; cases h
theorem reads_of_Trod {H:Type} {enc:TypeId×Value→H} {P:Program} {w:World} {base:Nat} {spare:Nat→Bool} {held:Bool} {t:TypeId} {v:Value} {d:DataW H} {ps:List MemPlace}
 (h:DataW.Trod enc P w base spare held t v d ps): ∃n,FU P w.heap n t v.cells.toList:=by
 obtain ⟨fuel,hf⟩:=h
 exact ⟨fuel,Mx fuel t _ _ hf⟩
def Sm (h:AE) (v:Value) (h':AE):Prop:=v= .bool true∧EG [] h h'
theorem law_walk {P:Program} {f:FuncId} {args:Array Value} {w:World} (H:CallsH P f args.toList w.heap (Aq (Sm w.heap))):
 Calls P f args w fun e w'=>e= .returned (.bool true)∧Below w.heap.size w w':=by
 have:=H w rfl
 rw [Array.toArray_toList] at this
 refine this.mono fun e w' he=> ?_
 obtain ⟨hs,he⟩:=he
 cases e with
 | returned v=>
  obtain ⟨v',hv,rfl,hk⟩:=he
  cases hv
  exact ⟨rfl,hs.os,hs.tape,hs.output,hk.1,fun k hk'=>hk.2 k hk' (by simp)⟩
 | panicked c=>obtain ⟨v',hv,_⟩:=he; cases hv
 | outgrown=>exact he.elim
section
variable {P:Program} {h:AE}
theorem K8 {n:Nat} {t:TypeId} {k:IntKind} {cs:List Value} (ht:P.underlying t=some (.int k)) (H:FU P h n t cs): ∃x,cs= [.int k x] ∧(Lit.int k x).wf=true:=by
 cases n with
 | zero=>exact H.elim
 | succ n=>unfold FU at H; rw [ht] at H; exact H
theorem On {n:Nat} {t e:TypeId} {cs:List Value} (ht:P.underlying t=some (.slice e)) (H:FU P h n t cs):
 ∃m p len cap,cs= [.slice p len cap] ∧len≤cap∧cap≤maxLen∧(p=none→len=0∧cap=0)∧
  ∀i,i<len→ ∃cs',cs'.length=P.cellsOf e∧(∀j v,cs'[j]? =some v→ ∃a,p=some a∧BF h (a.add (i * P.cellsOf e+j))=some v)∧FU P h m e cs':=by
 cases n with
 | zero=>exact H.elim
 | succ n=>
  unfold FU at H
  rw [ht] at H
  obtain ⟨p,len,cap,h1,h2⟩:=H
  exact ⟨n,p,len,cap,h1,h2⟩
theorem Oo {α:Type} {p:Nat→α→Prop} : ∀(n:Nat),(∀i,i<n→ ∃x,p i x)→ ∃l:List α,l.length=n∧ ∀i x,l[i]? =some x→p i x:=by
 intro n
 induction n with
 | zero=>intro _; exact ⟨[],rfl,fun i x hx=>by simp at hx⟩
 | succ n ih=>
  intro H
  obtain ⟨l,hl,hp⟩:=ih fun i hi=>H i (by omega)
  obtain ⟨x,hx⟩:=H n (by omega)
  refine ⟨l++ [x],by simp [hl],fun i y hy=> ?_⟩
  rcases Nat.lt_trichotomy i l.length with g | g | g
  ·rw [List.getElem?_append_left g] at hy; exact hp i y hy
  ·subst g; simp at hy; subst hy; rw [hl]; exact hx
  ·rw [List.getElem?_eq_none (by simp; omega)] at hy; cases hy
end
end Go.Eng
namespace Go.Eng
open Go
def ReadsTo {α:Type} (P:Program) (h:AE) (t:TypeId) (r:Ro α) (G:α→Prop):Prop:= ∀n cs,FU P h n t cs→ ∃x,r.is (BJ h) cs x∧G x
theorem LY {P:Program} {h:AE} {t:TypeId} {k:IntKind} (ht:P.underlying t=some (.int k)):ReadsTo P h t (Ro.int k) fun x=>(Lit.int k x).wf=true:=fun n cs H=>by
 obtain ⟨x,rfl,hx⟩:=K8 ht H
 exact ⟨x,rfl,hx⟩
theorem Gq {α:Type} {P:Program} {h:AE} {t e:TypeId} {r:Ro α} {G:α→Prop} (ht:P.underlying t=some (.slice e)) (hc:P.cellsOf e=r.sz) (he:ReadsTo P h e r G):
 ReadsTo P h t (Ro.list r) fun l=>l.length≤maxLen∧ ∀x ∈ l,G x:=fun n cs H=>by
 obtain ⟨m,p,len,cap,rfl,h1,h2,h3,h4⟩:=On ht H
 obtain ⟨l,hl,hp⟩:=Oo (p:=fun i (x:List Value×α)=>r.is (BJ h) x.1 x.2∧G x.2∧ ∀j v,x.1[j]? =some v→ ∃a,p=some a∧BF h (a.add (i * r.sz+j))=some v) len (fun i hi=>by
  obtain ⟨cs',g1,g2,g3⟩:=h4 i hi
  obtain ⟨x,hx,hG⟩:=he m cs' g3
  exact ⟨(cs',x),hx,hG,fun j v hv=>by have:=g2 j v hv; rw [hc] at this; exact this⟩)
 have key: ∀k,k≤len→ ∃vs,r.All (BJ h) vs ((l.take k).map (·.2))∧vs.length=k * r.sz∧Cs (BJ h) p vs:=fun k=>by
  induction k with
  | zero=>intro _; exact ⟨[], .nil,by simp,fun i v hv=>by simp at hv⟩
  | succ k ih=>
   intro hk
   obtain ⟨vs,a1,a2,a3⟩:=ih (by omega)
   have hkl:k<l.length:=by omega
   obtain ⟨b1,b2,b3⟩:=hp k l[k] (List.getElem?_eq_getElem hkl)
   refine ⟨vs++l[k].1,?_,by rw [List.length_append,a2,r.len b1,Nat.add_mul,Nat.one_mul],fun i v hv=> ?_⟩
   ·rw [List.take_add_one,List.getElem?_eq_getElem hkl,List.map_append]
    exact a1.append (.one b1)
   ·rcases Nat.lt_or_ge i vs.length with g | g
    ·rw [List.getElem?_append_left g] at hv; exact a3 i v hv
    ·rw [List.getElem?_append_right g] at hv
     obtain ⟨a,ha,hcell⟩:=b3 _ v hv
     refine ⟨a,ha,?_⟩
     rw [Ju,show i=k * r.sz+(i - vs.length) by omega]
     exact hcell
 obtain ⟨vs,a1,a2,a3⟩:=key len (Nat.le_refl _)
 rw [List.take_of_length_le (by omega)] at a1
 refine ⟨l.map (·.2),⟨(p,len,cap),rfl,by simp [hl],h1,h2,fun hp0=> ?_,vs,a1,a3⟩,by simp; omega,fun x hx=> ?_⟩
 ·have:=(h3 hp0).1
  have:l= [] :=List.eq_nil_of_length_eq_zero (by omega)
  rw [this]; rfl
 ·obtain ⟨y,hy,rfl⟩:=List.mem_map.1 hx
  obtain ⟨i,hi⟩:=List.getElem?_of_mem hy
  exact (hp i y hi).2.1
theorem St.start (h:AE):St (BJ h) [] h:=Sub.refl _
theorem Sn {P:Program} {f:FuncId} {args:List Value} {h:AE}
 (H:CallsH P f args h (Aq fun v h'=> ∃ψ:AC,∃y:Bool,Sub (BJ h) ψ∧v=((.one (.atom .bool)):Sh).val y∧y=true∧St ψ [] h')):CallsH P f args h (Aq (Sm h)):=by
 refine H.mono fun e h' he=> ?_
 obtain ⟨v,hv,ψ,y,hs,hv2,hy,s1⟩:=he
 subst hy
 refine ⟨v,hv,hv2,?_⟩
 have hs':=hs.trans s1.sub
 refine ⟨?_,fun i hi _=> ?_⟩
 ·rcases Nat.lt_or_ge h'.size h.size with g | g
  ·have h1:BJ h h'.size=some h[h'.size] :=Array.getElem?_eq_getElem g
   have:=As (hs' _ _ h1)
   omega
  ·exact g
 ·have h1:BJ h i=some h[i] :=Array.getElem?_eq_getElem hi
  have h2:h'[i]? =some h[i] :=hs' _ _ h1
  rw [h2,Array.getElem?_eq_getElem hi]
end Go.Eng
namespace Go.Proofs.YteolcjbobmpdiaaGreatDoor.Dg
open Go Go.Eng Go.RowKit Go.Shelf
set_option linter.unusedVariables false
attribute [local go_sem] Oper.semAt_some
def KpL (L:List Nat) (W W':World):Prop:= ∀b ∈ L,∀o,W.heap[b]? =some o→W'.heap[b]? =some o
theorem KpL.refl (L:List Nat) (W:World):KpL L W W:=fun _ _ _ h=>h
theorem KpL.trans {L:List Nat} {A B C:World} (h:KpL L A B) (k:KpL L B C):KpL L A C:=fun b hb o ho=>k b hb o (h b hb o ho)
theorem KpL.cell {L:List Nat} {b off:Nat} {A B:World} (h:KpL L A B) (hb:b ∈ L) {v:Value} (hc:A.cell? ⟨b,off,none⟩=some v):B.cell? ⟨b,off,none⟩=some v:=by
 unfold World.cell? at hc ⊢
 dsimp only at hc ⊢
 cases ho:A.heap[b]? with
 | none=>rw [ho] at hc; cases hc
 | some o=>rw [h b hb o ho]; rw [ho] at hc; exact hc
theorem KpL.glob {L:List Nat} {A B:World} (h:KpL L A B) (hb:0 ∈ L) (gk:Glob (BJ A.heap)):Glob (BJ B.heap):=by
 obtain ⟨t,f,hg⟩:=gk
 exact ⟨t,f,h 0 hb _ hg⟩
theorem KpL.grown {L:List Nat} {A B:World} (h:A.grownBy B none):KpL L A B:=fun b _ o ho=>by
 have hlt:b<A.heap.size:=by
  rcases Nat.lt_or_ge b A.heap.size with g | g
  ·exact g
  ·rw [Array.getElem?_eq_none g] at ho; cases ho
 obtain ⟨_,_,_,_,hk⟩:=h
 rw [hk b hlt (by simp)]
 exact ho
def DE (ws:List Nat) (k:Nat):List Int:=((List.range k).map fun (i:Nat)=>(FC (ws[i]?.getD 0)).map fun (j:Nat)=>((i:Int) * 64+(j:Int))).flatten
theorem MF (ws:List Nat):DE ws 0= [] :=rfl
theorem GA (ws:List Nat) (k:Nat):DE ws (k+1)=DE ws k++(FC (ws[k]?.getD 0)).map fun (j:Nat)=>((k:Int) * 64+(j:Int)):=by
 unfold DE
 rw [List.range_succ,List.map_append,List.flatten_append]
 simp
theorem WL (m:Nat) {W:World} {u:Nat} (gk:Glob (BJ W.heap)) (hu:u<18446744073709551616):CallsIn Fence.wide m Tryz.prog 150 #[.int .u64 (u:Int)] W fun e W'=>e= .returned (.int .i64 ((tzN u:Nat):Int))∧W.grownBy W' none:=by
 refine callsIn_wide.2 ?_
 have h:=Vj (x:=(u:Int)) gk (St.start W.heap) (r:=((tzN u:Nat):Int)) (by unfold tzD; rw [if_pos (by omega),Int.toNat_natCast]) W rfl
 refine h.mono fun e W' ⟨hs,he⟩=> ?_
 cases e with
 | returned v=>
  obtain ⟨v',hv,ψ,y,h1,h2,h3,h4⟩:=he
  cases hv
  refine ⟨by rw [h2,h3]; rfl,hs.os,hs.tape,hs.output,?_,?_⟩
  ·rcases Nat.lt_or_ge W'.heap.size W.heap.size with g | g
   ·have e1:BJ W.heap W'.heap.size=some W.heap[W'.heap.size] :=Array.getElem?_eq_getElem g
    have:=As ((h1.trans h4.sub) _ _ e1)
    omega
   ·exact g
  ·intro k hk _
   have e1:BJ W.heap k=some W.heap[k] :=Array.getElem?_eq_getElem hk
   have e2:W'.heap[k]? =some W.heap[k] :=(h1.trans h4.sub) _ _ e1
   rw [e2,Array.getElem?_eq_getElem hk]
 | panicked c=>obtain ⟨v',hv,_⟩:=he; cases hv
 | outgrown=>exact he.elim
theorem So {a b:Nat} (ha:a<18446744073709551616) (hb:b<18446744073709551616):bits BinOp.and IntKind.u64 (a:Int) (b:Int)=((a &&& b:Nat):Int):=MD ha hb
theorem Sq (ws:List Nat) {k m:Nat} (h:k≤m): ∃r,DE ws m=DE ws k++r:=by
 induction h with
 | refl=>exact ⟨[],by simp⟩
 | step _ ih=>
  obtain ⟨r,e⟩:=ih
  exact ⟨r++_,by rw [Nat.succ_eq_add_one,GA,e,List.append_assoc]⟩
set_option maxRecDepth 100000 in
set_option maxHeartbeats 2000000 in
theorem Sr (n:Nat) (hn:3≤n) (l bx ba off cap:Nat) (ws:List Nat) (hws: ∀w ∈ ws,w<18446744073709551616) (hlen:ws.length≤1000) (J Jx:List Int→World→Prop) (W:World) (gk:Glob (BJ W.heap)) (hJ:AbidesFrom W.heap.size J)
 (hY: ∀pre x W1,J pre W1→pre.length< (DE ws ws.length).length→YieldAt Fence.wide (n - 1) Tryz.prog l #[.int .i64 x] W1 fun e W'=>
  (e= .returned (.bool true)∧J (pre++ [x]) W'∧KpL [bx,ba,0] W1 W')∨(e= .returned (.bool false)∧Jx (pre++ [x]) W'))
 (hbx:W.cell? ⟨bx,0,none⟩=some (.slice (some ⟨ba,off,none⟩) ws.length cap)) (hc: ∀j,j<ws.length→W.cell? ⟨ba,off+j,none⟩=some (.int .u64 ((ws[j]?.getD 0:Nat):Int))) (h0:J [] W):
 CallsIn Fence.wide n Tryz.prog 149 #[.func (.yield l) #[] #[], .pointer (some ⟨bx,0,none⟩)] W fun e W'=>(∃v,e= .returned v)∧
  ((∃xs,xs=DE ws ws.length∧J xs W')∨(∃pre,pre<+:DE ws ws.length∧Jx pre W')):=by
 refine callsIn_of_wp Tryz.func149 rfl trivial ?_ rfl
 simp only [Tryz.ntmps149,List.size_toArray,List.length_cons,List.length_nil,Nat.reduceAdd,Nat.reduceSub,Array.replicate_succ,Array.replicate_zero,List.push_toArray,List.append_toArray,List.nil_append,List.cons_append]
 gi_wp2
 gi_loopw [7] (fun i wr=> ∃k:Nat,k≤ws.length∧i= .int .i64 k∧J (DE ws k) wr∧KpL [bx,ba,0] W wr)
  (fun i _=>ws.length - (intOf i).toNat)
 case atStart=>exact ⟨0,Nat.zero_le _,rfl,h0,KpL.refl _ _⟩
 case round=>
  obtain ⟨k,hk,rfl,hJs,hnx⟩:=hrel
  by_cases hlt:k<ws.length
  ·have hcx:wr.cell? ⟨ba,off+k,none⟩=some (.int .u64 ((ws[k]?.getD 0:Nat):Int)):=hnx.cell (by simp) (hc k hlt)
   obtain ⟨x0,hx0⟩: ∃x0,ws[k]?.getD 0=x0:=⟨_,rfl⟩
   have hw0:x0<18446744073709551616:=by
    rw [← hx0,List.getElem?_eq_getElem hlt]
    exact hws _ (List.getElem_mem hlt)
   have hsucc:=GA ws k
   rw [hx0] at hcx hsucc
   obtain ⟨rest,hrest⟩:=Sq ws (k:=k+1) (m:=ws.length) (by omega)
   gi_wp2
   gi_loopw [4] (fun x wr2=> ∃(u:Nat) (p:List Nat),x= .int .u64 (u:Int)∧u<18446744073709551616∧FC x0=p++FC u∧J (DE ws k++p.map fun (j:Nat)=>((k:Int) * 64+(j:Int))) wr2∧KpL [bx,ba,0] wr wr2)
    (fun x _=>(intOf x).toNat)
   case atStart=>exact ⟨_, [],rfl,hw0,rfl,by simpa using hJs,KpL.refl _ _⟩
   case round=>
    obtain ⟨u,p,rfl,hu,hp,hJ2,hn2⟩:=hrel
    by_cases hu0:u=0
    ·subst hu0
     gi_wp2
     exact ⟨⟨k+1,by omega,rfl,by rw [hsucc,hp,ME,List.append_nil]; exact hJ2,hnx.trans hn2⟩,by simp only [intOf]; omega⟩
    ·obtain ⟨z,z1,z2,z3,z4,z5⟩:=Qm hu0 hu
     have hz:tzN u=z:=by
      unfold tzN
      rw [J8 z1 z2 z3 z4]
      rfl
     have hst:=J8 z1 z2 z3 z4
     have hgk:=(hnx.trans hn2).glob (by simp) gk
     gi_wp2
     refine ⟨trivial,fun _=>by omega,(WL _ hgk hu).mono ?_⟩
     rintro e W1 ⟨rfl,hg⟩
     have hJ3:=hJ _ _ W1 none hJ2 hg (fun r e=>by cases e)
     rw [hz]
     have hlen3:(DE ws k++p.map fun (j:Nat)=>((k:Int) * 64+(j:Int))).length< (DE ws ws.length).length:=by
      rw [hrest,hsucc,hp,hst]
      simp only [List.length_append,List.length_map,List.length_cons]
      omega
     obtain ⟨fn,tmps,assign,body,hy,hR⟩:=hY _ ((k:Int) * 64+(z:Int)) W1 hJ3 hlen3
     gi_wp2
     refine ⟨fun _=>by omega,hR.mono ?_⟩
     rintro e W3 (⟨rfl,hJ4,hk4⟩ | ⟨rfl,hx4⟩)
     ·gi_wp2
      have hu1:(u:Int) - 1=((u - 1:Nat):Int):=by omega
      have hle:u &&& (u - 1) ≤u - 1:=Nat.and_le_right
      have hJ5:J (DE ws k++(p++ [z]).map fun (j:Nat)=>((k:Int) * 64+(j:Int))) W3:=by
       rw [List.map_append,← List.append_assoc]
       exact hJ4
      rw [hu1,So hu (by omega)]
      exact ⟨⟨_,p++ [z],rfl,by omega,by rw [hp,hst,List.append_assoc]; rfl,hJ5,(hn2.trans (KpL.grown hg)).trans hk4⟩,by simp only [intOf]; omega⟩
     ·gi_wp2
      refine bodyPost_ret (results_none rfl _ _ _) rfl ?_
      refine ⟨⟨_,rfl⟩, .inr ⟨_,?_,hx4⟩⟩
      rw [hrest,hsucc,hp,hst,List.map_append,List.map_cons]
      exact ⟨((FC (u &&& (u - 1))).map fun (j:Nat)=>((k:Int) * 64+(j:Int))) ++rest,by simp⟩
  ·obtain rfl:k=ws.length:=by omega
   gi_wp2
   go_end0
   exact ⟨⟨_,rfl⟩, .inl ⟨_,rfl,hJs⟩⟩
attribute [local go_sem] Oper.semAt_some
theorem KpL.of_below {L:List Nat} {n₀:Nat} (hL: ∀b ∈ L,b<n₀) {A B:World} (h:Below n₀ A B):KpL L A B:=fun b hb o ho=>(h.block b (hL b hb)).trans ho
theorem KpL.putObj {L:List Nat} {n₀:Nat} (hL: ∀b ∈ L,b<n₀) (W:World) (l:Nat) (o o':Obj) (hl:n₀≤l) (h:W.heap[l]? =some o) (h1:o.isCells=false) (h2:o.isWalk=false):KpL L W (W.putObj l o'):=fun b hb q hq=>by
 have:=hL b hb
 rw [World.putObj_heap_other (by omega)]
 exact hq
theorem UN:(Tryz.prog.info? 3).map (fun i=>(i.zero,i.size,i.bytes))=some (some (.int .i64 0),1,8):=by kernel_rfl
abbrev UO (x:Int):Array Value:= #[.int .i64 x]
set_option maxRecDepth 100000 in
set_option maxHeartbeats 2000000 in
theorem Nx (n:Nat) (hn:3≤n) (g:Nat) (lb:Array Value) (eg: ∀args w,(callFunc g args).run Tryz.prog w= .ok (.enter g args) w) (L:List Nat) (xs:List Int) (Sp:List Int→Prop) (hlen:xs.length≤1000000) (w:World) (hL: ∀b ∈ L,b<w.heap.size)
 (hseq:SeqStopsK Fence.wide (n - 1) Tryz.prog g lb UO (KpL L) (fun ys=>ys=xs) Sp xs.length w):
 CallsIn Fence.wide n Tryz.prog 147 #[.slice none 0 0, .func (.func g) #[] lb] w fun e W'=> ∃v,e= .returned v∧W'.ownsRow w.heap.size 3 1 v xs.length (xs.map (Value.int .i64))∧(v= .slice none 0 0 ↔ xs= [])∧Below w.heap.size w W':=by
 have h1:1≤n:=by omega
 obtain ⟨i0,hi,hz0,hz1,hz2⟩:=info_parts UN
 refine callsIn_of_wp_marks Tryz.func147 rfl trivial ?_ rfl
 simp only [Tryz.ntmps147,List.size_toArray,List.length_cons,List.length_nil,Nat.reduceAdd,Nat.reduceSub,Array.replicate_succ,Array.replicate_zero,List.push_toArray,List.append_toArray,List.nil_append,List.cons_append]
 gi_wp2
 have bO:=Boxed.new w 30 (.slice none 0 0)
 have hB0:Below w.heap.size w (w.alloc (.cells #[.slice none 0 0] 30)):=(Below.refl _ w).alloc (Nat.le_refl _) _
 refine wpIn_rangeFunc_ownG rfl h1 (gf:=g) (lb:=lb) rfl trivial eg hseq (fun h k=>h.trans k) (KpL.putObj (fun b hb=>by have:=hL b hb; simp; omega)) hB0 (fun _=>rfl)
  (fun pre W=>(∃v,Boxed W w.heap.size 30 v∧W.ownsRow w.heap.size 3 1 v pre.length (pre.map (Value.int .i64))∧(v= .slice none 0 0 ↔ pre= []))∧Below w.heap.size w W)
  (fun _ _ _=>False)
  (OwnFrom.and (Own.from (holdsRow_own w.heap.size w.heap.size 30 3 1 (fun pre=>pre.length) (fun pre=>pre.map (Value.int .i64)) (fun pre v=>v= .slice none 0 0 ↔ pre= [])) _) (ownFrom_below (Nat.le_refl _) (by simp)))
  (fun _ _ _ _ _ hs _ _=>hs)
  ⟨⟨_,bO,World.ownsRow_nil _ _ _ _,by simp⟩,hB0⟩
  (fun x=> {tmps:= #[.slice none 0 0, .func (.func g) #[] lb, .pointer (some ⟨w.heap.size,0,none⟩),undef, .slice none 0 0, .int .i64 x, .func (.func g) #[] lb, .int .i64 x,undef,undef,undef,undef,undef],defers:= [] }) ?assign ?body ?done ?stop
 case assign=>
  intro l x W K hK
  gi_wp2
  exact hK
 case body=>
  rintro l pre x W ⟨⟨v,hv,hrow,hnil⟩,hB⟩ hlt
  have hc:=hv.cell
  gi_wp2_with (gi_at_builtin; refine wpListIn_append_own _ rfl _ _ 30 rfl w.heap.size 3 i0 (.int .i64 0) 1 8 Tryz.underlying30 hi hz0 hz1 hz2 rfl (by decide) _ _ _ rfl (hrow.alloc _) ⟨W.heap.size,0,none⟩ 1 1 [.int .i64 x] rfl rfl (cell_one_new _ _ _) (by simp [Value.oneCell']) (by unfold maxLen; omega) (by omega) (by have:=hB.size; simp; omega) ?_; intro v' w1 hown' hgrow _; obtain ⟨g',cap',rfl⟩:=ownsRow_succ hown'; obtain ⟨hv1,hv2,hr2,hk2,hb2⟩:=hv.appended (by decide) hrow hB.size (Nat.le_refl _) hown' hgrow; have hc1:=hv1.cell; have hf1:=hv1.frozen)
  exact ⟨hk2.from _,KpL.of_below hL hb2,⟨_,hv2,by simpa using hr2,by simp⟩,hB.trans hb2⟩
 case done=>
  rintro D ys W hD rfl ⟨⟨v,hv,hrow,hnil⟩,hB⟩ hK
  have hc:=hv.cell
  gi_wp2
  refine ⟨by simp, .inl ⟨_,_,rfl,run_takeDeferred hK,?_⟩⟩
  exact ⟨_,results_tmp rfl _ _ _,v,rfl,ownsRow_putObj hrow _ hK rfl,hnil,hB.trans (belowK_b (w:=w) (Nat.le_refl _) W D _ _ (by simp at hD; omega) hK rfl rfl)⟩
 case stop=>
  rintro D c pre W _ _ h _
  exact h.elim
set_option maxHeartbeats 2000000 in
theorem P0 (n:Nat) (hn:4≤n) (g:Nat) (lb:Array Value) (eg: ∀args w,(callFunc g args).run Tryz.prog w= .ok (.enter g args) w) (L:List Nat) (xs:List Int) (Sp:List Int→Prop) (hlen:xs.length≤1000000) (w:World) (hL: ∀b ∈ L,b<w.heap.size)
 (hseq:SeqStopsK Fence.wide (n - 1 - 1) Tryz.prog g lb UO (KpL L) (fun ys=>ys=xs) Sp xs.length w):
 CallsIn Fence.wide n Tryz.prog 113 #[.func (.func g) #[] lb] w fun e W'=> ∃v,e= .returned v∧W'.ownsRow w.heap.size 3 1 v xs.length (xs.map (Value.int .i64))∧(v= .slice none 0 0 ↔ xs= [])∧Below w.heap.size w W':=by
 refine callsIn_of_wp Tryz.func113 rfl trivial ?_ rfl
 simp only [Tryz.ntmps113,List.size_toArray,List.length_cons,List.length_nil,Nat.reduceAdd,Nat.reduceSub,Array.replicate_succ,Array.replicate_zero,List.push_toArray,List.append_toArray,List.nil_append,List.cons_append]
 gi_wp2
 refine ⟨trivial,fun _=>by omega,(Nx (n - 1) (by omega) g lb eg L xs Sp hlen w hL hseq).mono ?_⟩
 rintro e W' ⟨v,rfl,h1,h2,h3⟩
 gi_wp2
 go_ret
 exact ⟨v,rfl,h1,h2,h3⟩
attribute [local go_sem] Oper.semAt_some
set_option maxRecDepth 100000
theorem St.ofOwns {α:Type} {φ:AC} {Γ:List Chk} {w W':World} {e:TypeId} {r:Ro α} {v:Value} {l:List α} {vs:List Value} (H:St φ Γ w.heap) (hB:Below w.heap.size w W') (ho:W'.ownsRow w.heap.size e 1 v l.length vs) (ha:r.All φ vs l) (hsz:r.sz=1):
 ∃t:Slc,v= .slice t.1 t.2.1 t.2.2∧St φ (⟨Rep.row e r, [.slice t.1 t.2.1 t.2.2],l⟩::Γ) W'.heap:=by
 have hs:=H.sub
 have hs':Sub φ (BJ W'.heap):=fun k o hk=>by
  have h1:=hs k o hk
  have:=As h1
  show W'.heap[k]? =some o
  rw [hB.block k this]; exact h1
 have H1:StX φ w.heap Γ fun k=>w.heap.size≤k:=StX.more H fun k hk=> .inl hk
 have H2:StX φ W'.heap Γ fun k=>w.heap.size≤k:=StX.heap H1 (fun k hk _=>hB.block k hk) hs'
 obtain ⟨hl,⟨rfl,hn⟩ | ⟨g,cap,cur,rfl,hg,hcur,hc1,hc2,hc3,hc4⟩⟩:=ho
 ·have:l= [] :=List.eq_nil_of_length_eq_zero hn
  subst this
  exact ⟨(none,0,0),rfl,St.nil _ _ (H2.less fun k hk=>hk.elim)⟩
 ·refine ⟨(some ⟨g,0,none⟩,l.length,cap),rfl,fun k=>k=g,⟨some ⟨g,0,none⟩,l.length,cap,vs,rfl,rfl,hc2,?_, .inr ⟨g,0,cur,rfl,hcur,?_,hc1,?_,fun i u hu=> ?_⟩,ha,fun i=>by simp [blk]⟩,fun k hk=>⟨?_,fun q=>q⟩,H2.less fun k hk=> ?_⟩
  ·intro b off s q
   cases q
   exact ⟨rfl,fun arr ty f harr=>by rw [hcur] at harr; cases harr; rw [hsz]; exact hc3⟩
  ·rw [hsz]; omega
  ·rw [hsz]; omega
  ·rw [← hc4,List.getElem?_take] at hu
   split at hu
   ·rw [Nat.zero_add]; simpa using hu
   ·cases hu
  ·subst hk
   cases hφ:φ k with
   | none=>rfl
   | some o=>have:=As (hs k o hφ); omega
  ·rcases hk with hk | hk
   ·exact hk.elim
   ·subst hk; exact hg
set_option maxHeartbeats 1000000 in
theorem Ny (n:Nat) (l bx:Nat) (p:Option Addr) (cap:Nat) (J:List Int→World→Prop) (W:World) (hbx:W.cell? ⟨bx,0,none⟩=some (.slice p 0 cap)) (h0:J [] W):
 CallsIn Fence.wide n Tryz.prog 149 #[.func (.yield l) #[] #[], .pointer (some ⟨bx,0,none⟩)] W fun e W'=>(∃v,e= .returned v)∧J [] W':=by
 refine callsIn_of_wp Tryz.func149 rfl trivial ?_ rfl
 simp only [Tryz.ntmps149,List.size_toArray,List.length_cons,List.length_nil,Nat.reduceAdd,Nat.reduceSub,Array.replicate_succ,Array.replicate_zero,List.push_toArray,List.append_toArray,List.nil_append,List.cons_append]
 gi_wp2
 gi_loopw [7] (fun i wr=>i= .int .i64 0∧J [] wr) (fun _ _=>0)
 case atStart=>exact ⟨rfl,h0⟩
 case round=>
  obtain ⟨rfl,hJs⟩:=hrel
  gi_wp2
  go_end0
  exact ⟨⟨_,rfl⟩,hJs⟩
theorem MG (n:Nat) (hn:3≤n) {w:World} {bx:Nat} {t:Slc} {l:List Int} (gk:Glob (BJ w.heap)) (hws: ∀x ∈ l,0≤x∧x<18446744073709551616) (hlen:l.length≤1000)
 (hbx:w.cell? ⟨bx,0,none⟩=some (.slice t.1 t.2.1 t.2.2)) (hl:l.length=t.2.1) (hc:BC w.heap t.1 (l.map (BS.int .u64).val)) (hpl: ∀a,t.1=some a→a.spot=none) (hlt:bx<w.heap.size) (hg0:0<w.heap.size):
 ∃L:List Nat,(∀b ∈ L,b<w.heap.size∧(b=bx∨b=0∨ ∃a,t.1=some a∧b=a.block))∧SeqStopsK Fence.wide n Tryz.prog 149 #[.pointer (some ⟨bx,0,none⟩)] UO (KpL L) (fun ys=>ys=DE (l.map Int.toNat) l.length) (fun pre=>pre<+:DE (l.map Int.toNat) l.length) (DE (l.map Int.toNat) l.length).length w:=by
 cases l with
 | nil=>
  refine ⟨[],(fun b hb=>by cases hb),fun q J Jx W hW hJ hJx hY h0=> ?_⟩
  have h1:=(hW.cell (p:=⟨bx,0,none⟩) hlt).trans hbx
  have hz:t.2.1=0:=hl.symm
  rw [hz] at h1
  exact (Ny n q bx t.1 t.2.2 J W h1 h0).mono fun e W' ⟨he,hj⟩=>⟨he, .inl ⟨[],rfl,hj⟩⟩
 | cons x l=>
  obtain ⟨a,ha,_⟩:=hc 0 ((BS.int .u64).val x) rfl
  obtain ⟨ba,off,sp⟩:=a
  have:sp=none:=hpl _ ha
  subst this
  have hcell: ∀j v,(((x::l).map (BS.int .u64).val))[j]? =some v→w.cell? ⟨ba,off+j,none⟩=some v:=fun j v hv=>by
   obtain ⟨a',ha',hc'⟩:=hc j v hv
   rw [ha] at ha'
   cases ha'
   rw [Dl] at hc'
   exact hc'
  have hba:ba<w.heap.size:=by
   have:=hcell 0 _ rfl
   unfold World.cell? at this
   dsimp only at this
   cases ho:w.heap[ba]? with
   | none=>rw [ho] at this; cases this
   | some o=>exact As ho
  refine ⟨[bx,ba,0],fun b hb=> ?_,fun q J Jx W hW hJ hJx hY h0=> ?_⟩
  ·simp only [List.mem_cons,List.not_mem_nil,or_false] at hb
   rcases hb with rfl | rfl | rfl
   ·exact ⟨hlt, .inl rfl⟩
   ·exact ⟨hba, .inr (.inr ⟨_,ha,rfl⟩)⟩
   ·exact ⟨hg0, .inr (.inl rfl)⟩
  ·have h1:=(hW.cell (p:=⟨bx,0,none⟩) hlt).trans hbx
   have hn':((x::l).map Int.toNat).length=t.2.1:=by rw [List.length_map]; exact hl
   have hl1:((x::l).map Int.toNat).length=(x::l).length:=List.length_map _
   have h2:=Sr n hn q bx ba off t.2.2 ((x::l).map Int.toNat) (fun u hu=>by
    obtain ⟨y,hy,rfl⟩:=List.mem_map.1 hu
    have:=hws y hy
    omega) (by rw [hl1]; exact hlen) J Jx W (KpL.glob (L:= [0]) (KpL.of_below (fun b hb=>by simp at hb; omega) hW) (by simp) gk) hJ (by rw [hl1]; exact hY) (by rw [hn',← ha]; exact h1) (fun j hj=>by
    rw [hl1] at hj
    have hv:((x::l).map (BS.int .u64).val)[j]? =some (.int .u64 (x::l)[j]):=by
     rw [List.getElem?_map,List.getElem?_eq_getElem hj]
     rfl
    have h3:=(hW.cell (p:=⟨ba,off+j,none⟩) hba).trans (hcell j _ hv)
    have h4:=hws _ (List.getElem_mem hj)
    have h5:((((x::l).map Int.toNat)[j]?.getD 0:Nat):Int)=(x::l)[j] :=by
     rw [List.getElem?_map,List.getElem?_eq_getElem hj]
     show (((x::l)[j].toNat:Nat):Int)=_
     omega
    rw [h5]
    exact h3) h0
   rw [hl1] at h2
   exact h2
def Hw (s:AT):Option (List Int):=if s.2.length≤1000∧ ∀x ∈ s.2,0≤x∧x<18446744073709551616 then some (DE (s.2.map Int.toNat) s.2.length) else none
theorem Ra (w:Nat):(FC w).length≤64:=by
 unfold FC
 have:=List.length_filter_le w.testBit (List.range 64)
 simpa using this
theorem NE (ws:List Nat) (k:Nat):(DE ws k).length≤64 * k:=by
 induction k with
 | zero=>exact Nat.le_refl _
 | succ k ih=>
  rw [GA,List.length_append,List.length_map]
  have:=Ra (ws[k]?.getD 0)
  omega
abbrev BN (p:Option Addr) (x:AT):Chk:=⟨Rep.obj 239 (Rep.prod (Rep.ro (Ro.int .i64)) (Rep.row 237 (Ro.int .u64))), [.pointer p],x⟩
theorem Oq {φ:AC} {h:AE} {F:List Chk} {p:Option Addr} {s:AT} (s0:St φ (BN p s::F) h) (hb:s.2.length≤1073741824):CallsH Tryz.prog 114 [.pointer p] h
 (Aq fun v h'=> ∃ψ:AC,∃r:Nat,∃y:Slc,Sub φ ψ∧v= .func (.func 149) #[] #[.pointer (some ⟨r,0,none⟩)] ∧St ψ (⟨Rep.raw 235, [.pointer (some ⟨r,0,none⟩)], [.slice y.1 y.2.1 y.2.2]⟩::⟨Rep.row 237 (Ro.int .u64), [.slice y.1 y.2.1 y.2.2],s.2⟩::BN p s::F) h'):=by
 refine AQ mixed Tryz.func114 ?_
 rw [JS]
 unfold GW
 obtain ⟨b2,vs3,e4,hl5,s6⟩:=s0.open
 obtain rfl:p=some ⟨b2,0,none⟩:=by simpa using e4
 clear e4
 have s7:=s6.at1
 obtain ⟨v8,w9,rfl,hl11,s10⟩:=s7.pair
 obtain ⟨g12,s13⟩:=s10.ro
 subst g12
 obtain ⟨t15,e16⟩:=s13.rowCs
 subst e16
 have s18:St φ (⟨Rep.row 237 (Ro.int .u64), [.slice t15.1 t15.2.1 t15.2.2],s.2⟩::⟨Rep.raw 239, [.pointer (some ⟨b2,0,none⟩)], [.int .i64 s.1, .slice t15.1 t15.2.1 t15.2.2]⟩::F) _:=s13
 refine AF _ rfl ?_
 refine AA (b:=b2) (j:=1) (x:=t15) s18.at1 rfl ?_
 refine AI (clone53_own s18 (r:=s.2) (by unfold cloneD; rw [if_pos hb])) ?_
 rintro _ h1 ⟨ψ,y,l1,le1,rfl,rfl,s23⟩
 refine ⟨y,rfl,?_⟩
 refine AU (vs:= [.slice none 0 0]) s23 ?_
 intro r h2 s27
 refine CI (b:=r) (j:=0) (v:= .slice y.1 y.2.1 y.2.2) s27 rfl (by decide) ?_
 intro h3 s28
 have s34:=s28.at 2
 have s36:=St.unro (r:=(Ro.int .i64)) (cs:= [.int .i64 s.1]) (x:=s.1) s34 rfl
 have s37:=St.unpair s36
 have s38:St ψ (BN (some ⟨b2,0,none⟩) (s.1,s.2)::⟨Rep.raw 235, [.pointer (some ⟨r,0,none⟩)], [.slice y.1 y.2.1 y.2.2]⟩::⟨Rep.row 237 (Ro.int .u64), [.slice y.1 y.2.1 y.2.2],s.2⟩::F) h3:=St.shut (s37.at 3)
 exact AB ⟨ψ,r,y,le1,rfl,(s38.at 2).at 2⟩
theorem Os {φ:AC} {h:AE} {F:List Chk} {k:IntKind} {ty:TypeId} {t:Slc} {l:List Int} (s:St φ (⟨Rep.row ty (Ro.int k), [.slice t.1 t.2.1 t.2.2],l⟩::F) h): ∀a,t.1=some a→a.spot=none:=by
 intro a ha
 obtain ⟨F,⟨p,n,c,vs,e,hn,hc,hfu,ho,hall,hF⟩,h2,H⟩:=s
 simp only [List.cons.injEq,Value.slice.injEq,and_true] at e
 rw [ha] at e
 rcases ho with ⟨hp,_⟩ | ⟨b,off,arr,hp,_⟩
 ·rw [hp] at e; cases e.1
 ·rw [hp] at e; cases e.1; rfl
theorem Su {φ:AC} {h:AE} {F:List Chk} {p:Option Addr} {s:AT} (gk:Glob φ) (s0:St φ (BN p s::F) h) {r:List Int} (hd:Hw s=some r):CallsH Tryz.prog 70 [.pointer p] h
 (Aq fun v h'=> ∃ψ:AC,∃y:Slc,∃l1:List Int,Sub φ ψ∧v=((.one aS):Sh).val y∧l1=r∧St ψ (⟨Rep.row 3 (Ro.int .i64), [.slice y.1 y.2.1 y.2.2],l1⟩::BN p s::F) h'):=by
 unfold Hw at hd
 split at hd
 ·rename_i hg
  cases hd
  obtain ⟨hlen,hws⟩:=hg
  refine AQ mixed Tryz.func70 ?_
  rw [JR]
  unfold GV
  refine AI (Oq s0 (by omega)) ?_
  rintro _ h1 ⟨ψ,bx,y,le1,rfl,s1⟩
  refine ⟨some (.func 149,#[],#[.pointer (some ⟨bx,0,none⟩)]),rfl,?_⟩
  have gk1:=(gk.mono le1).mono s1.sub
  have hbox:BF h1 ⟨bx,0,none⟩=some (.slice y.1 y.2.1 y.2.2):=s1.cell rfl
  have hlt:bx<h1.size:=by
   unfold BF C9 World.cell? at hbox
   dsimp only at hbox
   cases ho:h1[bx]? with
   | none=>rw [ho] at hbox; cases hbox
   | some o=>exact As ho
  have hg0:0<h1.size:=by
   obtain ⟨t,f,hg⟩:=gk1
   exact As hg
  have hcol:CallsH Tryz.prog 113 [.func (.func 149) #[] #[.pointer (some ⟨bx,0,none⟩)]] h1 (Aq fun v h'=> ∃t:Slc,v=((.one aS):Sh).val t∧
   St ψ (⟨Rep.row 3 (Ro.int .i64), [.slice t.1 t.2.1 t.2.2],DE (s.2.map Int.toNat) s.2.length⟩::⟨Rep.raw 235, [.pointer (some ⟨bx,0,none⟩)], [.slice y.1 y.2.1 y.2.2]⟩::⟨Rep.row 237 (Ro.int .u64), [.slice y.1 y.2.1 y.2.2],s.2⟩::BN p s::F) h'):=by
   intro w hw
   subst hw
   obtain ⟨L,hL,hseq⟩:=MG 8 (by decide) gk1 hws hlen hbox (s1.at 1).rowLen.symm (K5 (s1.at 1)) (Os (s1.at 1)) hlt hg0
   have hbl:=NE (s.2.map Int.toNat) s.2.length
   have hc:=callsIn_wide.1 (P0 10 (by decide) 149 #[.pointer (some ⟨bx,0,none⟩)] (enters_of Tryz.func149 (by kernel_rfl) rfl) L (DE (s.2.map Int.toNat) s.2.length) _ (by omega) w (fun b hb=>(hL b hb).1) hseq)
   refine hc.mono ?_
   rintro e W' ⟨v,rfl,hown,_,hB⟩
   obtain ⟨t,hv,s2⟩:=St.ofOwns s1 hB hown (EW (k:= .i64) _) rfl
   exact ⟨⟨hB.os,hB.tape,hB.output,hB.size⟩,v,rfl,t,hv,s2⟩
  refine AI hcol ?_
  rintro _ h2 ⟨t,rfl,s2⟩
  refine ⟨t,rfl,?_⟩
  have s3:=(s2.at 1).tail
  have s4:=(s3.at 1).tail
  exact AB ⟨ψ,t,_,le1,rfl,rfl,s4⟩
 ·cases hd
end Go.Proofs.YteolcjbobmpdiaaGreatDoor.Dg
namespace Go.Proofs.YteolcjbobmpdiaaGreatDoor.Dg
open Go Go.Eng
set_option linter.unusedVariables false
def Nz (c:Chk):Prop:=(∀φ φ' h F,c.on φ h F→c.on φ' h F)∧ ∀φ h F,c.on φ h F→ ∀k,F k→ ∃cs ty f,h[k]? =some (.cells cs ty f)
theorem Ot (ty:TypeId) (b:Nat) (vs:List Value):Nz ⟨Rep.raw ty, [.pointer (some ⟨b,0,none⟩)],vs⟩:=by
 refine ⟨fun φ φ' h F H=>H,fun φ h F H k hk=> ?_⟩
 obtain ⟨b',e,hb,hF⟩:=H
 have hkb:=(hF k).1 hk
 subst hkb
 exact ⟨_,_,_,hb⟩
theorem UP {k:IntKind} {φ φ':AC} {vs:List Value} {l:List Int} (h:(Ro.int k).All φ vs l):(Ro.int k).All φ' vs l:=by
 rw [Cb h]
 exact EW l
theorem Rb (p:Option Addr) (s:AT):Nz (BN p s):=by
 constructor
 ·rintro φ φ' h F ⟨b,vs,G,e,hb,⟨a,c,A,B,e2,ha,hc,g1,g2⟩,hG,hF⟩
  refine ⟨b,vs,G,e,hb,⟨a,c,A,B,e2,ha,?_,g1,g2⟩,hG,hF⟩
  obtain ⟨q,n,cp,us,e3,h1,h2,h3,h4,h5,h6⟩:=hc
  exact ⟨q,n,cp,us,e3,h1,h2,h3,h4,UP h5,h6⟩
 ·rintro φ h F ⟨b,vs,G,e,hb,⟨a,c,A,B,e2,ha,hc,g1,g2⟩,hG,hF⟩ k hk
  rcases (hF k).1 hk with rfl | hk
  ·exact ⟨_,_,_,hb⟩
  ·rcases (g2 k).1 hk with hk | hk
   ·exact absurd hk (ha.1 k)
   ·obtain ⟨q,n,cp,us,e3,h1,h2,h3,h4,h5,h6⟩:=hc
    obtain ⟨arr,harr⟩:=h4.ty k ((h6 k).1 hk)
    exact ⟨_,_,_,harr⟩
theorem StX.frame {ψ:AC} {h:AE} : ∀ {Γ Δ:List Chk} {X:D4},StX ψ h (Γ++Δ) X→ ∃Y:D4,(∀k,Y k→ψ k=none∧ ¬X k∧k<h.size)∧StX ψ h Δ (fun k=>X k∨Y k)∧
 ∀Δ' (h':AE),Sub ψ (BJ h')→(∀k,Y k→h'[k]? =h[k]?)→StX ψ h' Δ' (fun k=>X k∨Y k)→StX ψ h' (Γ++Δ') X:=by
 intro Γ
 induction Γ with
 | nil=>intro Δ X H; exact ⟨fun _=>False,fun k hk=>hk.elim,H.less fun k hk=>hk.elim id False.elim,fun Δ' h' _ _ H'=>H'.less fun k hk=> .inl hk⟩
 | cons c Γ ih=>
  intro Δ X ⟨F,h1,h2,H⟩
  obtain ⟨Y,y1,y2,y3⟩:=ih H
  refine ⟨fun k=>F k∨Y k,fun k hk=> ?_,y2.less fun k hk=> ?_,fun Δ' h' hs hy H'=>⟨F,c.R.loc (fun i hi=>hy i (.inl hi)) h1,h2,y3 Δ' h' hs (fun k hk=>hy k (.inr hk)) (H'.less fun k hk=> ?_)⟩⟩
  ·rcases hk with hk | hk
   ·exact ⟨(h2 k hk).1,(h2 k hk).2,c.R.lt h1 k hk⟩
   ·exact ⟨(y1 k hk).1,fun g=>(y1 k hk).2.1 (.inl g),(y1 k hk).2.2⟩
  ·rcases hk with hk | hk | hk
   ·exact .inl (.inl hk)
   ·exact .inl (.inr hk)
   ·exact .inr hk
  ·rcases hk with (hk | hk) | hk
   ·exact .inl hk
   ·exact .inr (.inl hk)
   ·exact .inr (.inr hk)
theorem StX.alone {ψ:AC} {h:AE} : ∀ {Δ:List Chk} {X:D4},(∀c ∈ Δ,Nz c)→StX ψ h Δ X→ ∃Z:D4,(∀k,Z k→ψ k=none∧ ¬X k)∧(∀k,Z k→ ∃cs ty f,h[k]? =some (.cells cs ty f))∧ ∀(φ0:AC) (X0:D4),(∀k,Z k→φ0 k=none∧ ¬X0 k)→Sub φ0 (BJ h)→StX φ0 h Δ X0:=by
 intro Δ
 induction Δ with
 | nil=>intro X _ H; exact ⟨fun _=>False,fun k hk=>hk.elim,fun k hk=>hk.elim,fun φ0 X0 _ hs=>hs⟩
 | cons c Δ ih=>
  intro X hf ⟨F,h1,h2,H⟩
  obtain ⟨Z,z1,z3,z2⟩:=ih (fun c hc=>hf c (by simp [hc])) H
  refine ⟨fun k=>F k∨Z k,fun k hk=> ?_,fun k hk=>hk.elim (fun g=>(hf c (by simp)).2 _ _ _ h1 k g) (z3 k),fun φ0 X0 hz hs=>⟨F,(hf c (by simp)).1 _ _ _ _ h1,fun k hk=>hz k (.inl hk),z2 φ0 _ (fun k hk=>⟨(hz k (.inr hk)).1,fun g=> ?_⟩) hs⟩⟩
  ·rcases hk with hk | hk
   ·exact h2 k hk
   ·exact ⟨(z1 k hk).1,fun g=>(z1 k hk).2 (.inl g)⟩
  ·rcases g with g | g
   ·exact (hz k (.inr hk)).2 g
   ·exact (z1 k hk).2 (.inr g)
theorem St.apart {ψ:AC} {h:AE} {Γ Δ:List Chk} (H:St ψ (Γ++Δ) h) (hf: ∀c ∈ Δ,Nz c): ∃φ0:AC,(∀k,φ0 k ≠ none→k<h.size)∧St φ0 Δ h∧Sub ψ φ0∧(∀k o,h[k]? =some o→φ0 k=some o∨ ∃cs ty f,o= .cells cs ty f)∧
 ∀Δ' (h':AE),(∀c ∈ Δ',Nz c)→St φ0 Δ' h'→St ψ (Γ++Δ') h':=by
 classical
 have hs:Sub ψ (BJ h):=H.sub
 obtain ⟨Y,y1,y2,y3⟩:=StX.frame H
 obtain ⟨Z,z1,z3,z2⟩:=StX.alone hf y2
 have hdef: ∀k,¬Z k→(fun k=>if Z k then none else h[k]? :AC) k=h[k]? :=fun k hk=>if_neg hk
 refine ⟨fun k=>if Z k then none else h[k]?,fun k hk=> ?_,z2 _ _ (fun k hk=>⟨if_pos hk,fun g=>g⟩) (fun k o ho=> ?_),fun k o ho=> ?_,fun k o ho=> ?_,fun Δ' h' hf' H'=> ?_⟩
 ·rcases Nat.lt_or_ge k h.size with g | g
  ·exact g
  ·exfalso; apply hk
   show (if Z k then none else h[k]?)=none
   split
   ·rfl
   ·exact Array.getElem?_eq_none g
 ·have ho:(if Z k then none else h[k]?)=some o:=ho
  split at ho
  ·cases ho
  ·exact ho
 ·show (if Z k then none else h[k]?)=some o
  rw [if_neg]
  ·exact hs k o ho
  ·intro hz; rw [(z1 k hz).1] at ho; cases ho
 ·by_cases hz:Z k
  ·obtain ⟨cs,ty,f,e⟩:=z3 k hz
   rw [ho] at e
   exact .inr ⟨cs,ty,f,Option.some.inj e⟩
  ·exact .inl (by show (if Z k then none else h[k]?)=some o; rw [if_neg hz]; exact ho)
 ·obtain ⟨Z',w1,_,w2⟩:=StX.alone hf' H'
  have hs':=H'.sub
  have hno: ∀k,Z' k→ψ k=none∧ ¬Y k:=fun k hk=>by
   have h0:(if Z k then none else h[k]?)=none:=(w1 k hk).1
   split at h0
   ·rename_i hz
    exact ⟨(z1 k hz).1,fun g=>(z1 k hz).2 (.inr g)⟩
   ·constructor
    ·cases hψ:ψ k with
     | none=>rfl
     | some o=>have:=hs k o hψ; rw [show BJ h k=h[k]? from rfl,h0] at this; cases this
    ·intro g
     have:=(y1 k g).2.2
     rw [Array.getElem?_eq_getElem this] at h0
     cases h0
  have hsψ:Sub ψ (BJ h'):=fun k o ho=>hs' k o (by
   show (if Z k then none else h[k]?)=some o
   rw [if_neg]
   ·exact hs k o ho
   ·intro hz; rw [(z1 k hz).1] at ho; cases ho)
  refine y3 Δ' h' hsψ (fun k hk=> ?_) (w2 ψ _ (fun k hk=>⟨(hno k hk).1,fun g=>g.elim id (hno k hk).2⟩) hsψ)
  have hlt:=(y1 k hk).2.2
  have:(if Z k then none else h[k]?)=some h[k] :=by
   rw [if_neg]
   ·exact Array.getElem?_eq_getElem hlt
   ·intro hz; exact (z1 k hz).2 (.inr hk)
  rw [show h'[k]? =some h[k] from hs' k _ this,Array.getElem?_eq_getElem hlt]
theorem St.abide {φ0:AC} {h h':AE} : ∀ {Δ:List Chk} {X:D4},(∀c ∈ Δ,Nz c)→StX φ0 h Δ X→(∀k,k<h.size→(∃cs ty f,h[k]? =some (.cells cs ty f))→h'[k]? =h[k]?)→Sub φ0 (BJ h')→StX φ0 h' Δ X:=by
 intro Δ
 induction Δ with
 | nil=>intro X _ _ _ hs; exact hs
 | cons c Δ ih=>
  intro X hf ⟨F,h1,h2,H⟩ hk hs
  exact ⟨F,c.R.loc (fun i hi=>hk i (c.R.lt h1 i hi) ((hf c (by simp)).2 _ _ _ h1 i hi)) h1,h2,ih (fun c hc=>hf c (by simp [hc])) H hk hs⟩
theorem St.back {φ ψ:AC} {h:AE} {Δ:List Chk} (hf: ∀c ∈ Δ,Nz c) (le:Sub φ ψ) (H:St ψ Δ h):St φ Δ h:=by
 obtain ⟨Z,z1,_,z2⟩:=StX.alone hf H
 have hn: ∀k,Z k→φ k=none:=fun k hk=>by
  cases hφ:φ k with
  | none=>rfl
  | some o=>have:=le k o hφ; rw [(z1 k hk).1] at this; cases this
 exact z2 φ _ (fun k hk=>⟨hn k hk,fun g=>g⟩) fun k o ho=>H.sub k o (le k o ho)
theorem St.hide {φ:AC} {h:AE} {c:Chk} {Γ:List Chk} (H:St φ (c::Γ) h): ∃(ψ:AC) (F:D4),Sub φ ψ∧c.on φ h F∧(∀k,F k→ψ k=h[k]?)∧St ψ Γ h:=by
 classical
 obtain ⟨F,h1,h2,H⟩:=H
 have hs:=H.sub
 have le:Sub φ (fun i=>if F i then h[i]? else φ i):=fun i o ho=>by
  show (if F i then h[i]? else φ i)=some o
  rw [if_neg]
  ·exact ho
  ·intro hF; have e:=(h2 i hF).1; rw [e] at ho; cases ho
 refine ⟨fun i=>if F i then h[i]? else φ i,F,le,h1,fun i hi=>if_pos hi,?_⟩
 refine StX.less (StX.grow H le (fun i o ho=> ?_) fun k hk hn=> ?_) fun k hk=>hk.elim
 ·split at ho
  ·exact ho
  ·exact hs i o ho
 ·split at hk
  ·exact .inr (by assumption)
  ·exact absurd hn hk
theorem Vk {φ:AC} {h:AE} {p:Option Addr} {s:AT} {F:List Chk} (H:St φ (BN p s::F) h): ∃b,p=some ⟨b,0,none⟩∧BF h ⟨b,0,none⟩=some (.int .i64 s.1):=by
 obtain ⟨b,vs,e,hl,s1⟩:=St.open H
 obtain ⟨c,d,rfl,hc,s2⟩:=St.pair (s1.at1)
 obtain ⟨hr,_⟩:=St.ro s2
 cases hr
 refine ⟨b,by cases e; rfl,s1.cell rfl⟩
end Go.Proofs.YteolcjbobmpdiaaGreatDoor.Dg
namespace Go.Proofs.YteolcjbobmpdiaaGreatDoor.Dg
open Go Go.Eng Go.RowKit Go.Shelf
set_option linter.unusedVariables false
attribute [local go_sem] Oper.semAt_some
set_option maxRecDepth 100000
noncomputable def G8 (a:AT×Bool) (i:Int):AT×Bool:=if a.2 then a else if a.1.1≤i then (a.1,true) else (((Ap a.1 i).getD (false,a.1)).2,false)
noncomputable def WM (s:AT) (l:List Int):AT×Bool:=l.foldl G8 (s,false)
def DF (s:AT):List Int:=DE (s.2.map Int.toNat) s.2.length
noncomputable def BB (s o:AT):AT:=(WM s (DF o)).1
noncomputable def stepG (a:AT×Bool×Bool) (i:Int):AT×Bool×Bool:=if a.2.1 then a else if a.1.1≤i then (a.1,true,a.2.2) else (((Ap a.1 i).getD (false,a.1)).2,false,((Ap a.1 i).getD (false,a.1)).1 || a.2.2)
noncomputable def IA (s:AT) (l:List Int):AT×Bool×Bool:=l.foldl stepG (s,false,false)
noncomputable def EY (s o:AT):Bool:=(IA s (DF o)).2.2
theorem NF (s:AT) (l:List Int) (i:Int):IA s (l++ [i])=stepG (IA s l) i:=by simp [IA]
theorem UQ (l:List Int): ∀(a:AT×Bool×Bool),((l.foldl stepG a).1,(l.foldl stepG a).2.1)=l.foldl G8 (a.1,a.2.1):=by
 induction l with
 | nil=>intro a; rfl
 | cons i l ih=>
  intro a
  rw [List.foldl_cons,List.foldl_cons,ih]
  congr 1
  unfold stepG G8
  dsimp only
  by_cases h:a.2.1=true
  ·rw [if_pos h,if_pos h]
  ·rw [if_neg h,if_neg h]
   by_cases h2:a.1.1≤i
   ·rw [if_pos h2,if_pos h2]
   ·rw [if_neg h2,if_neg h2]
theorem Vl (s:AT) (l:List Int):((IA s l).1,(IA s l).2.1)=WM s l:=UQ l (s,false,false)
theorem Sv (l:List Int) {a:AT×Bool×Bool} (h:a.2.1=true):l.foldl stepG a=a:=by
 induction l with
 | nil=>rfl
 | cons i l ih=>
  rw [List.foldl_cons]
  have:stepG a i=a:=if_pos h
  rw [this,ih]
theorem Vm {s:AT} {l pre:List Int} (hp:pre<+:l) (h:(IA s pre).2.1=true):IA s l=IA s pre:=by
 obtain ⟨r,rfl⟩:=hp
 unfold IA at h ⊢
 rw [List.foldl_append,Sv r h]
theorem Sw (s o:AT):(IA s (DF o)).1=BB s o:=(Prod.mk.inj (Vl s (DF o))).1
theorem Vn (l:List Int) {a:AT×Bool} (h:a.2=true):l.foldl G8 a=a:=by
 induction l with
 | nil=>rfl
 | cons i l ih=>
  rw [List.foldl_cons]
  have:G8 a i=a:=if_pos h
  rw [this,ih]
abbrev Gc (bs bg:Nat) (p:Option Addr) (g:Bool) (s:AT):List Chk:= [⟨Rep.raw 139, [.pointer (some ⟨bs,0,none⟩)], [.pointer p]⟩,⟨Rep.raw 4, [.pointer (some ⟨bg,0,none⟩)], [.bool g]⟩,BN p s]
theorem C1 (bs bg:Nat) (p:Option Addr) (g:Bool) (s:AT): ∀c ∈ Gc bs bg p g s,Nz c:=by
 intro c hc
 simp only [List.mem_cons,List.not_mem_nil,or_false] at hc
 rcases hc with rfl | rfl | rfl
 ·exact Ot _ _ _
 ·exact Ot _ _ _
 ·exact Rb _ _
theorem JE {φ0:AC} {B:Nat} {W W':World} {row:Option Nat} {Δ:List Chk} (hB: ∀k,φ0 k ≠ none→k<B) (hf: ∀c ∈ Δ,Nz c) (H:St φ0 Δ W.heap) (hg:W.grownBy W' row) (hr: ∀r,row=some r→B≤r∧ ∃o:Obj,W.heap[r]? =some o∧o.isCells=false):St φ0 Δ W'.heap:=by
 obtain ⟨_,_,_,hsz,hk⟩:=hg
 refine St.abide hf H (fun k hk' ⟨cs,ty,f,hc⟩=>hk k hk' fun e=> ?_) fun k o ho=> ?_
 ·obtain ⟨_,o,h1,h2⟩:=hr k e.symm
  rw [hc] at h1
  cases h1
  cases h2
 ·have h1:=H.sub k o ho
  have:=As h1
  show W'.heap[k]? =some o
  rw [hk k this fun e=>by have:=hB k (by rw [ho]; simp); have:=(hr k e.symm).1; omega]
  exact h1
theorem Vo {φ0:AC} {bs bg:Nat} {p:Option Addr} {g:Bool} {s:AT} {x:Int} {W:World} (H:OkS s) (h0:St φ0 (Gc bs bg p g s) W.heap):
 Calls Tryz.prog 134 #[.pointer p, .int .i64 x] W fun e W'=>Bi W W'∧W.heap.size≤W'.heap.size∧(∀(k:Nat) (o:Obj),W.heap[k]? =some o→o.isCells=false→W'.heap[k]? =some o)∧
  ∃y:Bool,e= .returned (.bool y)∧y=((Ap s x).getD (false,s)).1∧St φ0 (Gc bs bg p g ((Ap s x).getD (false,s)).2) W'.heap∧OkS ((Ap s x).getD (false,s)).2∧((Ap s x).getD (false,s)).2.1=s.1:=by
 obtain ⟨s',hd,h1,h2,_⟩:=add_ok H x
 rw [hd]
 obtain ⟨φ1,_,k2,k3,k4,k5⟩:=St.apart (Γ:= []) h0 (C1 bs bg p g s)
 have hc:=B8 (k2.at 2) hd W rfl
 refine (show Calls Tryz.prog 134 #[.pointer p, .int .i64 x] W _ from hc).mono ?_
 rintro e W' ⟨hs,he⟩
 cases e with
 | returned v=>
  obtain ⟨v',hv,ψ,y,l,le,rfl,hr,s3⟩:=he
  cases hv
  obtain ⟨rfl,rfl⟩:=Prod.mk.inj hr
  refine ⟨hs,hs.size,fun k o hk ho=> ?_,_,rfl,rfl,?_,h1,h2⟩
  ·rcases k4 k o hk with g | ⟨cs,ty,f,rfl⟩
   ·exact s3.sub k o (le k o g)
   ·cases ho
  ·have s4:St ψ (Gc bs bg p g l) W'.heap:=(s3.at 2).at 2
   exact k5 _ _ (C1 _ _ _ _ _) (St.back (C1 _ _ _ _ _) le s4)
 | panicked c=>obtain ⟨v',hv,_⟩:=he; cases hv
 | outgrown=>exact he.elim
theorem UR {φ:AC} {W:World} {F:List Chk} {q:Option Addr} {o:AT} (s0:St φ (BN q o::F) W.heap) (hb:o.2.length≤1073741824):
 Calls Tryz.prog 114 #[.pointer q] W fun e W'=>Bi W W'∧ ∃(ψ:AC) (r:Nat) (y:Slc),Sub φ ψ∧e= .returned (.func (.func 149) #[] #[.pointer (some ⟨r,0,none⟩)])∧
  St ψ (⟨Rep.raw 235, [.pointer (some ⟨r,0,none⟩)], [.slice y.1 y.2.1 y.2.2]⟩::⟨Rep.row 237 (Ro.int .u64), [.slice y.1 y.2.1 y.2.2],o.2⟩::BN q o::F) W'.heap:=by
 refine (show Calls Tryz.prog 114 #[.pointer q] W _ from Oq s0 hb W rfl).mono ?_
 rintro e W' ⟨hs,he⟩
 cases e with
 | returned v=>
  obtain ⟨v',hv,ψ,r,y,h1,h2,h3⟩:=he
  cases hv
  exact ⟨hs,ψ,r,y,h1,by rw [h2],h3⟩
 | panicked c=>obtain ⟨v',hv,_⟩:=he; cases hv
 | outgrown=>exact he.elim
theorem LZ {h:AE} {b:Nat} {j:Nat} {v:Value} (hc:BF h ⟨b,j,none⟩=some v):b<h.size:=by
 unfold BF C9 World.cell? at hc
 dsimp only at hc
 cases ho:h[b]? with
 | none=>rw [ho] at hc; cases hc
 | some o=>exact As ho
theorem ready (n:Nat) (hn:3≤n) {ψ:AC} {W:World} {bx bs bg:Nat} {y:Slc} {p q:Option Addr} {s o:AT} {G G':List Chk} (gk:Glob ψ) (ho:OkS o) (hp:(BN p s::G).Perm (BN q o::G'))
 (s1:St ψ (⟨Rep.raw 235, [.pointer (some ⟨bx,0,none⟩)], [.slice y.1 y.2.1 y.2.2]⟩::⟨Rep.row 237 (Ro.int .u64), [.slice y.1 y.2.1 y.2.2],o.2⟩::BN q o::⟨Rep.raw 139, [.pointer (some ⟨bs,0,none⟩)], [.pointer p]⟩::⟨Rep.raw 4, [.pointer (some ⟨bg,0,none⟩)], [.bool false]⟩::G') W.heap):
 ∃(ψ2 φ0:AC) (L:List Nat),Sub ψ ψ2∧(∀k,φ0 k ≠ none→k<W.heap.size)∧(∀b ∈ L,φ0 b ≠ none)∧St φ0 (Gc bs bg p false s) W.heap∧
  SeqStopsK Fence.wide n Tryz.prog 149 #[.pointer (some ⟨bx,0,none⟩)] UO (KpL L) (fun ys=>ys=DF o) (fun pre=>pre<+:DF o) (DF o).length W∧
  ∀s' g (h':AE),St φ0 (Gc bs bg p g s') h'→St ψ2 (BN p s'::G) h':=by
 have gk1:=gk.mono s1.sub
 have hbox:BF W.heap ⟨bx,0,none⟩=some (.slice y.1 y.2.1 y.2.2):=s1.cell rfl
 have hg0:0<W.heap.size:=by
  obtain ⟨t,f,hg⟩:=gk1
  exact As hg
 have h1:=ho.len
 have h2:=ho.hi
 obtain ⟨L,hL,hseq⟩:=MG n hn gk1 ho.word (by omega) hbox (s1.at 1).rowLen.symm (K5 (s1.at 1)) (Os (s1.at 1)) (LZ hbox) hg0
 obtain ⟨ψa,F1,le1,⟨b1,e1,hb1,hF1⟩,k1,s2⟩:=St.hide s1
 cases e1
 obtain ⟨ψb,F2,le2,hrow,k2,s3⟩:=St.hide s2
 have hpm:(BN q o::⟨Rep.raw 139, [.pointer (some ⟨bs,0,none⟩)], [.pointer p]⟩::⟨Rep.raw 4, [.pointer (some ⟨bg,0,none⟩)], [.bool false]⟩::G').Perm (G++Gc bs bg p false s):=by
  refine (Ay 1 _).trans ?_
  refine (List.Perm.cons _ (Ay 1 _)).trans ?_
  exact (List.Perm.cons _ (List.Perm.cons _ hp.symm)).trans (List.perm_append_comm (l₁:=Gc bs bg p false s) (l₂:=G))
 obtain ⟨φ0,d1,d2,d3,d4,d5⟩:=St.apart (s3.perm hpm) (C1 bs bg p false s)
 refine ⟨ψb,φ0,L,le1.trans le2,d1,fun b hb=> ?_,d2,hseq,fun s' g h' H=> ?_⟩
 ·have key: ∃ob,ψb b=some ob:=by
   rcases (hL b hb).2 with rfl | rfl | ⟨a,ha,rfl⟩
   ·exact ⟨_,le2 _ _ ((k1 b ((hF1 b).2 rfl)).trans hb1)⟩
   ·obtain ⟨t,f,hg⟩:=gk
    exact ⟨_,le2 _ _ (le1 _ _ hg)⟩
   ·obtain ⟨p',n',c',vs,e3,h3,h4,h5,h6,h7,h8⟩:=hrow
    simp only [List.cons.injEq,Value.slice.injEq,and_true] at e3
    have hlt:=(hL _ hb).1
    refine ⟨_,(k2 a.block ((h8 _).2 ?_)).trans (Array.getElem?_eq_getElem hlt)⟩
    rw [← e3.1,ha]
    simp [blk]
  obtain ⟨ob,hob⟩:=key
  rw [d3 _ _ hob]
  simp
 ·have H2:=d5 _ _ (C1 bs bg p g s') H
  have H3:St ψb (Gc bs bg p g s'++G) h':=H2.perm List.perm_append_comm
  exact H3.tail.tail
theorem WN {φ0:AC} {L:List Nat} {A B:World} (hL: ∀b ∈ L,φ0 b ≠ none) (ha:Sub φ0 (BJ A.heap)) (hb:Sub φ0 (BJ B.heap)):KpL L A B:=fun b hb' o ho=>by
 cases hφ:φ0 b with
 | none=>exact absurd hφ (hL b hb')
 | some o'=>
  have h1:=ha b o' hφ
  have h2:=hb b o' hφ
  rw [show BJ A.heap b=A.heap[b]? from rfl,ho] at h1
  cases h1
  exact h2
set_option maxHeartbeats 4000000 in
theorem Sx {φ:AC} {w:World} {p q:Option Addr} {s o:AT} {G G':List Chk} (gk:Glob φ) (hs:OkS s) (ho:OkS o) (hp:(BN p s::G).Perm (BN q o::G')) (s0:St φ (BN p s::G) w.heap):
 Calls Tryz.prog 139 #[.pointer p, .pointer q] w fun e W'=>Bi w W'∧ ∃(ψ:AC),Sub φ ψ∧e= .returned (.bool (EY s o))∧St ψ (BN p (BB s o)::G) W'.heap:=by
 refine (callsIn_wide (n:=12)).1 ?_
 refine callsIn_of_wp_marks Tryz.func139 rfl trivial ?_ rfl
 simp only [Tryz.ntmps139,List.size_toArray,List.length_cons,List.length_nil,Nat.reduceAdd,Nat.reduceSub,Array.replicate_succ,Array.replicate_zero,List.push_toArray,List.append_toArray,List.nil_append,List.cons_append]
 gi_wp2
 have hlen:o.2.length≤1000:=by have h1:=ho.len; have h2:=ho.hi; omega
 have sA:St φ (BN q o::⟨Rep.raw 139, [.pointer (some ⟨w.heap.size,0,none⟩)], [.pointer p]⟩::⟨Rep.raw 4, [.pointer (some ⟨w.heap.size+1,0,none⟩)], [.bool false]⟩::G') ((w.alloc (.cells #[.pointer p] 139)).alloc (.cells #[.bool false] 4)).heap:=by
  have h1:=St.new (ty:=139) [.pointer p] s0
  have h2:=St.new (ty:=4) [.bool false] h1
  rw [Array.size_push] at h2
  refine h2.perm ?_
  exact (List.Perm.swap _ _ _).trans ((List.Perm.cons _ (List.Perm.cons _ hp)).trans ((Ay 2 _)))
 refine ⟨trivial,(callsIn_wide.2 (UR sA (by omega))).mono ?_⟩
 rintro e W1 ⟨hsame1,ψ,bx,y,le1,rfl,s1⟩
 obtain ⟨ψ2,φ0,L,le2,hB,hL,hst0,hseq,hback⟩:=ready 11 (by decide) (gk.mono le1) ho hp s1
 have hsame0:Bi w W1:=Bi.trans (b:=(w.alloc (.cells #[.pointer p] 139)).alloc (.cells #[.bool false] 4)) ⟨rfl,rfl,rfl,by simp; omega⟩ hsame1
 have hfin: ∀(g:Bool) (s':AT) (W':World),Bi w W'→IA s (DF o)=(s',true,g)∨IA s (DF o)=(s',false,g)→St φ0 (Gc w.heap.size (w.heap.size+1) p g s') W'.heap→Bi w W'∧ ∃(ψ:AC),Sub φ ψ∧Ending.returned (Value.bool g)= .returned (.bool (EY s o))∧St ψ (BN p (BB s o)::G) W'.heap:=by
  rintro g s' W' h1 h2' h2
  have e1:BB s o=s':=by rw [← Sw]; rcases h2' with h | h<;>rw [h]
  have e2:EY s o=g:=by unfold EY; rcases h2' with h | h<;>rw [h]
  rw [e1,e2]
  exact ⟨h1,ψ2,le1.trans le2,rfl,hback _ _ _ h2⟩
 have hgrow: ∀ {A B:World} {row:Option Nat},Bi w A→A.grownBy B row→Bi w B:=fun h ⟨g1,g2,g3,g4,_⟩=>h.trans ⟨g1,g2,g3,g4⟩
 gi_wp2
 refine wpIn_rangeFunc_ownG rfl (by decide) (gf:=149) (lb:= #[.pointer (some ⟨bx,0,none⟩)]) rfl trivial (enters_of Tryz.func149 (by kernel_rfl) rfl) hseq (fun h k=>h.trans k)
  (fun W l o o' hl h h1 h2=>KpL.putObj (n₀:=W1.heap.size) (fun b hb=>hB b (hL b hb)) W l o o' hl h h1 h2) (Below.refl _ _) (fun _=>rfl)
  (fun pre W=>Bi w W∧ ∃(s':AT) (g:Bool),OkS s'∧IA s pre=(s',false,g)∧St φ0 (Gc w.heap.size (w.heap.size+1) p g s') W.heap)
  (fun c pre W=>c= .exit 0∧Bi w W∧ ∃(s':AT) (g:Bool),IA s pre=(s',true,g)∧St φ0 (Gc w.heap.size (w.heap.size+1) p g s') W.heap)
  (fun pre A B row ⟨h1,s',g,h2,h3,h4⟩ hg hr=>⟨hgrow h1 hg,s',g,h2,h3,JE hB (C1 _ _ _ _ _) h4 hg hr⟩)
  (fun c pre A B row ⟨h0,h1,s',g,h2,h4⟩ hg hr=>⟨h0,hgrow h1 hg,s',g,h2,JE hB (C1 _ _ _ _ _) h4 hg hr⟩)
  ⟨hsame0,s,false,hs,rfl,hst0⟩
  (fun x=> {tmps:= #[.pointer p, .pointer q, .pointer (some ⟨w.heap.size,0,none⟩),undef, .bool false, .pointer (some ⟨w.heap.size+1,0,none⟩), .int .i64 x, .pointer q, .func (.func 149) #[] #[.pointer (some ⟨bx,0,none⟩)], .int .i64 x,undef,undef,undef,undef,undef,undef,undef,undef,undef,undef,undef,undef,undef],defers:= [] }) ?assign ?body ?done ?stop
 case assign=>
  intro l x W K hK
  gi_wp2
  exact hK
 case body=>
  rintro l pre x W ⟨hsame,s',g,hok,hrun,hst⟩ hlt
  have hbox:W.cell? ⟨w.heap.size,0,none⟩=some (.pointer p):=hst.cell rfl
  obtain ⟨bp,rfl,hn⟩:=Vk (hst.at 2)
  have hn':W.cell? ⟨bp,0,none⟩=some (.int .i64 s'.1):=hn
  gi_wp2
  ·have hx:s'.1≤x:=by assumption
   have hr:IA s (pre++ [x])=(s',true,g):=by
    rw [NF,hrun]
    unfold stepG
    rw [if_neg (by simp),if_pos hx]
   exact ⟨KeepsFrom.refl _ _,rfl,hsame,s',g,hr,hst⟩
  ·have hx: ¬s'.1≤x:=by omega
   refine ⟨trivial,(CallsIn.inRound l (callsIn_wide.2 (Vo (x:=x) hok hst))).mono ?_⟩
   obtain ⟨s3,hs3⟩: ∃s3,((Ap s' x).getD (false,s')).2=s3:=⟨_,rfl⟩
   rw [hs3]
   rintro e W3 ⟨hsame3,hsz3,hk3,y,rfl,hy,hst3,hok3,hn3⟩
   have hr:IA s (pre++ [x])=(s3,false,y || g):=by
    rw [NF,hrun]
    unfold stepG
    rw [if_neg (by simp),if_neg hx]
    dsimp only
    rw [hs3,← hy]
   have hg3:W3.cell? ⟨w.heap.size+1,0,none⟩=some (.bool g):=(hst3.at 1).cell rfl
   have hf3:W3.frozen? ⟨w.heap.size+1,0,none⟩=false:=(St.put (j:=0) (.bool true) (hst3.at 1) (Nat.lt_succ_self 0)).2.1
   have hend: ∀v:Bool,v=(y || g)→KeepsFrom W1.heap.size W (W3.setCell ⟨w.heap.size+1,0,none⟩ (.bool v))∧KpL L W (W3.setCell ⟨w.heap.size+1,0,none⟩ (.bool v))∧Bi w (W3.setCell ⟨w.heap.size+1,0,none⟩ (.bool v))∧ ∃(s':AT) (g:Bool),OkS s'∧IA s (pre++ [x])=(s',false,g)∧St φ0 (Gc w.heap.size (w.heap.size+1) (some ⟨bp,0,none⟩) g s') (W3.setCell ⟨w.heap.size+1,0,none⟩ (.bool v)).heap:=by
    intro v hv
    rw [← hv] at hr
    have h1:=(St.put (j:=0) (.bool v) (hst3.at 1) (Nat.lt_succ_self 0)).2.2
    have h2:St φ0 (Gc w.heap.size (w.heap.size+1) (some ⟨bp,0,none⟩) v s3) (W3.setCell ⟨w.heap.size+1,0,none⟩ (.bool v)).heap:=h1.at 1
    have h3:KeepsFrom W1.heap.size W W3:=⟨hsz3,fun k o _ hk ho=>hk3 k o hk ho⟩
    exact ⟨h3.trans ((KeepsOthers.setCell _ _ _).from _),WN hL hst.sub h2.sub,(hsame.trans hsame3).trans (Bi.setCell _ _ _),s3,v,hok3,hr,h2⟩
   clear hy hr
   cases y
   all_goals gi_wp2
   all_goals exact hend _ rfl
 case done=>
  rintro D xs W hD rfl ⟨hsame,s',g,hok,hrun,hst⟩ hK
  have hg:W.cell? ⟨w.heap.size+1,0,none⟩=some (.bool g):=(hst.at 1).cell rfl
  gi_wp2
  refine ⟨by simp, .inl ⟨_,_,rfl,run_takeDeferred hK,?_⟩⟩
  refine ⟨_,results_tmp rfl _ _ _,hfin g s' _ (hgrow hsame (grownBy_putObj' W D _)) (.inr hrun) ?_⟩
  exact JE hB (C1 _ _ _ _ _) hst (grownBy_putObj' W D _) (fun r e=>by cases e; exact ⟨hD,_,hK,rfl⟩)
 case stop=>
  rintro D c pre W hD hpre ⟨rfl,hsame,s',g,hrun,hst⟩ hK
  have hg:W.cell? ⟨w.heap.size+1,0,none⟩=some (.bool g):=(hst.at 1).cell rfl
  gi_wp2
  refine ⟨by simp, .inl ⟨_,_,rfl,run_takeDeferred hK,?_⟩⟩
  refine ⟨_,results_tmp rfl _ _ _,hfin g s' _ (hgrow hsame (grownBy_putObj' W D _)) (.inl ((Vm hpre (by rw [hrun])).trans hrun)) ?_⟩
  exact JE hB (C1 _ _ _ _ _) hst (grownBy_putObj' W D _) (fun r e=>by cases e; exact ⟨hD,_,hK,rfl⟩)
theorem HY {φ:AC} {h:AE} {p q:Option Addr} {s o:AT} {G G':List Chk} (gk:Glob φ) (hs:OkS s) (ho:OkS o) (hp:(BN p s::G).Perm (BN q o::G')) (s0:St φ (BN p s::G) h):
 CallsH Tryz.prog 139 [.pointer p, .pointer q] h (Aq fun v h'=> ∃(ψ:AC),Sub φ ψ∧v=((.one aB):Sh).val (EY s o)∧St ψ (BN p (BB s o)::G) h'):=by
 intro w hw
 subst hw
 refine (show Calls Tryz.prog 139 #[.pointer p, .pointer q] w _ from Sx gk hs ho hp s0).mono ?_
 rintro e W' ⟨h1,ψ,h2,rfl,h3⟩
 exact ⟨h1,_,rfl,ψ,h2,rfl,h3⟩
theorem Rc {φ:AC} {h:AE} {p q:Option Addr} {s o:AT} {G G':List Chk} (gk:Glob φ) (hs:OkS s) (ho:OkS o) (hp:(BN p s::G).Perm (BN q o::G')) (s0:St φ (BN p s::G) h):
 CallsH Tryz.prog 139 [.pointer p, .pointer q] h (Aq fun v h'=> ∃(ψ:AC) (g:Bool),Sub φ ψ∧v=((.one aB):Sh).val g∧St ψ (BN p (BB s o)::G) h'):=by
 refine (HY gk hs ho hp s0).mono ?_
 rintro e h' ⟨u,rfl,ψ,le,rfl,s4⟩
 exact ⟨_,rfl,ψ,_,le,rfl,s4⟩
end Go.Proofs.YteolcjbobmpdiaaGreatDoor.Dg
namespace Go.Proofs.YteolcjbobmpdiaaGreatDoor.Dg
open Go Go.Eng Go.RowKit Go.Shelf Go.Sort
set_option linter.unusedVariables false
attribute [local go_sem] Oper.semAt_some
set_option maxRecDepth 100000
theorem VE {W:World} {b:Nat} {n x:Int} (hc:W.cell? ⟨b,0,none⟩=some (.int .i64 n)):FnGives Tryz.prog 191 #[.pointer (some ⟨b,0,none⟩)] #[.int .i64 x] (.bool (Io n x)) W:=by
 refine (callsIn_wide (n:=3)).1 ?_
 refine callsIn_of_wp Tryz.func191 rfl trivial ?_ rfl
 simp only [Tryz.ntmps191,List.size_toArray,List.length_cons,List.length_nil,Nat.reduceAdd,Nat.reduceSub,Array.replicate_succ,Array.replicate_zero,List.push_toArray,List.append_toArray,List.nil_append,List.cons_append]
 have hmx:Tryz.prog.follows .mixedOrders=true:=mixed
 by_cases h0:x<0
 ·have e:Io n x=true:=by unfold Io; rw [decide_eq_true h0]; rfl
  rw [e]
  gi_wp2
  go_ret
  exact ⟨rfl,0,rfl⟩
 ·have e:Io n x=decide (n≤x):=by unfold Io; rw [decide_eq_false h0]; rfl
  rw [e]
  gi_wp2
  go_ret
  exact ⟨rfl,0,rfl⟩
theorem P1 (n:Nat) (p:Option Addr) (cap:Nat) (fv:Value) (W:World):CallsIn Fence.wide n Tryz.prog 204 #[.slice p 0 cap,fv] W fun e W'=>e= .returned (.int .i64 (-1))∧W'=W:=by
 refine callsIn_of_wp Tryz.func204 rfl trivial ?_ rfl
 simp only [Tryz.ntmps204,List.size_toArray,List.length_cons,List.length_nil,Nat.reduceAdd,Nat.reduceSub,Array.replicate_succ,Array.replicate_zero,List.push_toArray,List.append_toArray,List.nil_append,List.cons_append]
 gi_wp2
 refine wpIn_loop_rounds 1 ?_
 rw [roundsIn_succ]
 gi_wp2
 go_ret
 exact ⟨rfl,rfl⟩
theorem P2 (n:Nat) (hn:1≤n) (p:Option Addr) (cap:Nat) (fv:Value) (W:World):CallsIn Fence.wide n Tryz.prog 190 #[.slice p 0 cap,fv] W fun e W'=>e= .returned (.slice p 0 cap)∧W'=W:=by
 refine callsIn_of_wp Tryz.func190 rfl trivial ?_ rfl
 simp only [Tryz.ntmps190,List.size_toArray,List.length_cons,List.length_nil,Nat.reduceAdd,Nat.reduceSub,Array.replicate_succ,Array.replicate_zero,List.push_toArray,List.append_toArray,List.nil_append,List.cons_append]
 gi_wp2
 refine ⟨trivial,(P1 (n - 1) p cap fv W).mono ?_⟩
 rintro e W' ⟨rfl,rfl⟩
 gi_wp2
 go_ret
 exact ⟨rfl,rfl⟩
theorem WO {φ:AC} {h:AE} {F:List Chk} {t:Slc} {l:List Int} {b:Nat} {n:Int} (s0:St φ (⟨Rep.row 3 (Ro.int .i64), [.slice t.1 t.2.1 t.2.2],l⟩::⟨Rep.raw 3, [.pointer (some ⟨b,0,none⟩)], [.int .i64 n]⟩::F) h):
 CallsH Tryz.prog 190 [.slice t.1 t.2.1 t.2.2, .func (.func 191) #[] #[.pointer (some ⟨b,0,none⟩)]] h (Aq fun v h'=> ∃(ψ:AC) (y:Slc),Sub φ ψ∧v=((.one aS):Sh).val y∧Ro.SliceIs (Ro.int .i64) ψ y (l.filter fun x=> !Io n x)∧St ψ F h'):=by
 intro w hw
 subst hw
 have hcn:w.cell? ⟨b,0,none⟩=some (.int .i64 n):=(s0.at 1).cell rfl
 rcases s0.rowHolds rfl (Value.int .i64) (fun vs ha=>⟨l,Cb ha⟩) with ⟨hl,hn⟩ | ⟨bb,off,bs,ht,hall,hn,hlen,hlt,hfit,hH⟩
 ·subst hl
  rw [hn]
  have hc:=(callsIn_wide (n:=3)).1 (P2 3 (by decide) t.1 t.2.2 (.func (.func 191) #[] #[.pointer (some ⟨b,0,none⟩)]) w)
  refine (show Calls Tryz.prog 190 #[.slice t.1 0 t.2.2,_] w _ from hc).mono ?_
  rintro e w' ⟨rfl,rfl⟩
  obtain ⟨ψ,le,hsl,s1⟩:=s0.freezeRow
  refine ⟨Bi.refl _,_,rfl,ψ,t,le,by rw [← hn]; rfl,hsl,s1.tail⟩
 ·have hbl:bs=l:=Nv (Cb hall)
  subst hbl
  rw [ht,hn]
  have hmax:=s0.rowMax
  have hcap:bs.length≤t.2.2:=by
   obtain ⟨_,_,hsl,_⟩:=s0.freezeRow
   have:=hsl.2.1
   omega
  have hc:=AnyE.slices_DeleteFunc MB (Value.int .i64) (fun x=>rfl) (Io n) 191 #[.pointer (some ⟨b,0,none⟩)] (enters_of Tryz.func191 (by kernel_rfl) rfl) 0 (Tryz.zeroValue3) bb off t.2.2 bs.toArray w
   (fun W x hW=>VE ((hW.cell (p:=⟨b,0,none⟩) (LZ hcn)).trans hcn))
   (fun m os dk x hdk=>VE (((s0.rowSorted ht (Value.int .i64) dk.toList (EW _) (by simpa using hdk) (by simpa using hdk) hfit m os).at 1).cell rfl)) hH (by unfold maxLen at hmax; simp; omega) (by simpa using hcap)
  obtain ⟨fl,hfl⟩: ∃fl,(bs.filter fun x=> !Io n x)=fl:=⟨_,rfl⟩
  have hfle:fl.length≤bs.length:=by rw [← hfl]; exact List.length_filter_le _ _
  have hsz:bs.toArray.size=bs.length:=by simp
  have htl:bs.toArray.toList=bs:=rfl
  rw [hsz,htl,hfl] at hc
  refine (show Calls Tryz.prog 190 #[.slice (some ⟨bb,off,none⟩) bs.length t.2.2,_] w _ from hc).mono ?_
  rintro e w' ⟨rfl,q,rfl⟩
  have hln:(fl++List.replicate (bs.length - fl.length) (0:Int)).length=bs.length:=by simp; omega
  have s1:=s0.rowSorted ht (Value.int .i64) (fl++List.replicate (bs.length - fl.length) (0:Int)) (EW _) hln hln hfit q #[]
  rw [grow_empty] at s1
  obtain ⟨ψ,le,hsl,s2⟩:=s1.freezeRow
  have hct:=Ro.SliceIs.cut (a:=0) (b:=(fl.length:Int)) (m:=fl) hsl (by
   unfold cut
   rw [if_pos ⟨by omega,by omega,by rw [hln]; omega⟩]
   simp) (sz:=1) rfl
  refine ⟨⟨rfl,rfl,rfl,by rw [size_putRow]; exact Nat.le_refl _⟩,_,rfl,ψ,(some ⟨bb,off,none⟩,fl.length,t.2.2),le,rfl,?_,s2.tail⟩
  rw [hfl]
  have h3:=hct.2
  rw [ht] at h3
  have h4:(if t.2.2=Int.toNat 0 then some (⟨bb,off,none⟩:Addr) else Option.map (fun x=>Addr.add x (Int.toNat 0 * 1)) (some ⟨bb,off,none⟩))=some ⟨bb,off,none⟩:=by
   split
   ·rfl
   ·rfl
  rw [h4] at h3
  exact h3
theorem Sz {φ:AC} {h:AE} {F:List Chk} {t:Slc} {ll:List (List Int)} {x n:Int} (k:Ro.SliceIs (Ro.list (Ro.int .i64)) φ t ll) (s0:St φ F h) (h0:0≤x) (hb: ∀l ∈ ll,l.length≤1073741824):
 CallsH Tryz.prog 165 [.slice t.1 t.2.1 t.2.2, .int .i64 x, .int .i64 n] h (Aq fun v h'=> ∃(ψ:AC) (y:Slc),Sub φ ψ∧v=((.one aS):Sh).val y∧Ro.SliceIs (Ro.int .i64) ψ y (CW ll x n)∧St ψ F h'):=by
 refine AQ mixed Tryz.func165 ?_
 rw [K2]
 unfold Ih
 refine AU (vs:= [.int .i64 n]) s0 ?_
 intro r h1 s1
 have hlen:=k.length
 by_cases hx:x≥ ((t.2.1:Nat):Int)
 ·rw [decide_eq_true hx,cond_true]
  refine AB ⟨φ,(none,0,0),Sub.refl _,rfl,?_,s1.tail⟩
  unfold CW
  rw [if_pos (by omega)]
  exact Ro.SliceIs.nil _ _
 ·rw [decide_eq_false hx,cond_false]
  have hlt:x.toNat<ll.length:=by omega
  have hix:idx ll x=some ll[x.toNat] :=by
   unfold idx
   rw [if_pos h0,List.getElem?_eq_getElem hlt]
  obtain ⟨a,cs,ha,hi,⟨t1,e1,k1⟩,hcs⟩:=k.get hix
  subst e1
  refine AF _ ha (Ac hi ?_)
  refine AH (x:=t1) (by
   have h3:=Ak s1.sub (hcs 0 _ rfl)
   exact h3) rfl ?_
  refine AI (Py k1 s1 (r:=ll[x.toNat]) (by unfold cloneD; rw [if_pos (hb _ (List.getElem_mem _))])) ?_
  rintro _ h2 ⟨ψ1,y1,l1,le1,rfl,rfl,s2⟩
  refine ⟨y1,rfl,?_⟩
  refine AI (WO s2) ?_
  rintro _ h3 ⟨ψ2,y2,le2,rfl,k2,s3⟩
  refine ⟨y2,rfl,?_⟩
  refine AB ⟨ψ2,y2,le1.trans le2,rfl,?_,s3⟩
  unfold CW
  rw [if_neg (by omega),List.getElem?_eq_getElem hlt]
  exact k2
end Go.Proofs.YteolcjbobmpdiaaGreatDoor.Dg
namespace Go.Proofs.YteolcjbobmpdiaaGreatDoor.Dg
open Go Go.Eng Go.RowKit
set_option linter.unusedVariables false
set_option maxRecDepth 100000
theorem US {P:Program} {Q:Be→AE→Prop} {h:AE} {f:FuncId} {fn:Func} {first cap args:Array Value} {sh:Sh} {k:Value→T} (hf:P.funcs[f]? =some fn) (hn:(fn.name== "runtime.NumGoroutine")=false) (hb:fn.body.isNone=false) (hsh:QY P fn=sh)
 (H:(T.call f ((first++args) ++cap).toList sh fun x=>k (sh.val x)).wp P Q h):(IK false P (.func (.func f) first cap) args k).wp P Q h:=by
 subst hsh
 unfold IK
 simp only [hf,hn,hb]
 exact H
theorem St.rowTake {α:Type} {φ:AC} {h:AE} {Γ:List Chk} {ty:TypeId} {r:Ro α} {t:Slc} {l:List α} (H:St φ (⟨Rep.row ty r, [.slice t.1 t.2.1 t.2.2],l⟩::Γ) h) {k:Nat} (hk:k≤l.length):
 St φ (⟨Rep.row ty r, [.slice t.1 k t.2.2],l.take k⟩::Γ) h:=by
 obtain ⟨F,⟨p,n,c,vs,e,hn,hc,hfu,ho,hall,hF⟩,h2,H⟩:=H
 have hn:l.length=n:=hn
 simp only [List.cons.injEq,Value.slice.injEq,and_true] at e
 obtain ⟨e1,e2,e3⟩:=e
 refine ⟨F,⟨p,k,c,vs.take (k * r.sz),by rw [e1,e3],by rw [List.length_take]; omega,hc,hfu,?_,hall.take k,hF⟩,h2,H⟩
 rcases ho with ⟨hp,hn0,hc0,hv0⟩ | ⟨b,off,arr,hp,hb0,g1,g2,g3,g4⟩
 ·exact .inl ⟨hp,by omega,hc0,by rw [hv0]; exact List.take_nil⟩
 ·refine .inr ⟨b,off,arr,hp,hb0,?_,by omega,g3,fun i v hv=> ?_⟩
  ·rw [List.length_take,g1]
   exact Nat.min_eq_left (Nat.mul_le_mul_right _ (by omega))
  ·rw [List.getElem?_take] at hv
   split at hv
   ·exact g4 i v hv
   ·cases hv
abbrev GB (c1 c2:Nat) (s o:Slc) (stk low:List Int):List Chk:= [⟨Rep.raw 30, [.pointer (some ⟨c1,0,none⟩)], [.slice s.1 s.2.1 s.2.2]⟩,⟨Rep.row 3 (Ro.int .i64), [.slice s.1 s.2.1 s.2.2],stk⟩,⟨Rep.raw 30, [.pointer (some ⟨c2,0,none⟩)], [.slice o.1 o.2.1 o.2.2]⟩,⟨Rep.row 3 (Ro.int .i64), [.slice o.1 o.2.1 o.2.2],low⟩]
section
variable {X A:Type} (K:X→List Chk) (al:X→A) (ledA:A→Int→Int→Option A) (partA:A→List Int→Option A) (gl gp:Nat) (bl bp:Array Value)
def S1:Prop:= ∀ {φ:AC} {h:AE} {F:List Chk} {v:X} {x to:Int} {a':A},ledA (al v) x to=some a'→St φ (K v++F) h→
 CallsH Tryz.prog gl (((#[] :Array Value) ++ #[Value.int .i64 x,Value.int .i64 to]) ++bl).toList h (Aq fun u h'=>u= .tuple #[] ∧ ∃(ψ:AC) (v':X),Sub φ ψ∧al v'=a'∧St ψ (K v'++F) h')
def P3:Prop:= ∀ {φ:AC} {h:AE} {F:List Chk} {v:X} {t:Slc} {l:List Int} {a':A},partA (al v) l=some a'→St φ (⟨Rep.row 3 (Ro.int .i64), [.slice t.1 t.2.1 t.2.2],l⟩::(K v++F)) h→
 CallsH Tryz.prog gp (((#[] :Array Value) ++ #[Value.slice t.1 t.2.1 t.2.2]) ++bp).toList h (Aq fun u h'=>u= .tuple #[] ∧ ∃(ψ:AC) (v':X),Sub φ ψ∧al v'=a'∧St ψ (K v'++F) h')
abbrev Fk (c1 c2 c3 c4 c5 c6 c7:Nat):Array Value:= #[.pointer (some ⟨c1,0,none⟩), .pointer (some ⟨c2,0,none⟩), .pointer (some ⟨c3,0,none⟩), .pointer (some ⟨c4,0,none⟩), .pointer (some ⟨c5,0,none⟩), .pointer (some ⟨c6,0,none⟩), .pointer (some ⟨c7,0,none⟩)]
structure MH (φ:AC) (t:Slc) (n:Int) (c1 c2 c3 c4 c5 c6 c7:Nat):Prop where
 edges:DL φ ⟨c3,0,none⟩=some (.slice t.1 t.2.1 t.2.2)
 num:DL φ ⟨c4,0,none⟩=some (.int .i64 n)
 visit:DL φ ⟨c5,0,none⟩=some (.func (.func 164) #[] (Fk c1 c2 c3 c4 c5 c6 c7))
 led:DL φ ⟨c6,0,none⟩=some (.func (.func gl) #[] bl)
 part:DL φ ⟨c7,0,none⟩=some (.func (.func gp) #[] bp)
theorem MH.mono {φ ψ:AC} {t:Slc} {n:Int} {c1 c2 c3 c4 c5 c6 c7:Nat} (H:MH gl gp bl bp φ t n c1 c2 c3 c4 c5 c6 c7) (hs:Sub φ ψ):MH gl gp bl bp ψ t n c1 c2 c3 c4 c5 c6 c7:=
 ⟨Ak hs H.edges,Ak hs H.num,Ak hs H.visit,Ak hs H.led,Ak hs H.part⟩
def N0 (rec:C7 A→Int→Option (C7 A)) (ll:List (List Int)) (n:Int) (t:Slc) (c1 c2 c3 c4 c5 c6 c7:Nat):Prop:=
 ∀ {φ:AC} {h:AE} {F:List Chk} {v:X} {s o:Slc} {stk low stk' low':List Int} {x:Int} {a':A},MH gl gp bl bp φ t n c1 c2 c3 c4 c5 c6 c7→Ro.SliceIs (Ro.list (Ro.int .i64)) φ t ll→
  rec (low,stk,al v) x=some (low',stk',a')→St φ (GB c1 c2 s o stk low++(K v++F)) h→
  CallsH Tryz.prog 164 (((#[] :Array Value) ++ #[Value.int .i64 x]) ++Fk c1 c2 c3 c4 c5 c6 c7).toList h (Aq fun u h'=>u= .tuple #[] ∧ ∃(ψ:AC) (v':X) (s':Slc),Sub φ ψ∧al v'=a'∧St ψ (GB c1 c2 s' o stk' low'++(K v'++F)) h')
def D7 (g:FuncId):Prop:= ∃fn,Tryz.prog.funcs[g]? =some fn∧(fn.name== "runtime.NumGoroutine")=false∧fn.body.isNone=false∧QY Tryz.prog fn= .tuple []
theorem Ou:D7 164:=⟨Tryz.f164,Tryz.func164,by decide,by kernel_rfl,by kernel_rfl⟩
theorem D7.call {P':Be→AE→Prop} {h:AE} {g:FuncId} {cap args:Array Value} {k:Value→T} (H:D7 g) {S:Value→AE→Prop} (hc:CallsH Tryz.prog g (((#[] :Array Value) ++args) ++cap).toList h (Aq S)) (hk: ∀h',S (.tuple #[]) h'→(k (.tuple #[])).wp Tryz.prog P' h') (hu: ∀v h',S v h'→v= .tuple #[]):
 (IK false Tryz.prog (.func (.func g) #[] cap) args k).wp Tryz.prog P' h:=by
 obtain ⟨fn,h1,h2,h3,h4⟩:=H
 refine US h1 h2 h3 h4 ?_
 refine AI hc ?_
 intro v h' hS
 have:=hu v h' hS
 subst this
 exact ⟨(),rfl,hk h' hS⟩
abbrev NG (K:X→List Chk) (al:X→A) (c1 c2:Nat) (o:Slc) (F:List Chk) (ψ0:AC) (w:AE) (g:C7 A):Prop:= ∃(ψ:AC) (v:X) (s:Slc),Sub ψ0 ψ∧al v=g.2.2∧St ψ (GB c1 c2 s o g.2.1 g.1++(K v++F)) w
set_option maxHeartbeats 2000000 in
theorem P4 {ll:List (List Int)} {n:Int} {t:Slc} {c1 c2 c3 c4 c5 c6 c7:Nat} {rec:C7 A→Int→Option (C7 A)} (hl:S1 K al ledA gl bl) (hp:P3 K al partA gp bp) (cl:D7 gl) (cp:D7 gp)
 (ih:N0 K al gl gp bl bp rec ll n t c1 c2 c3 c4 c5 c6 c7):N0 K al gl gp bl bp (MC ll n ledA partA rec) ll n t c1 c2 c3 c4 c5 c6 c7:=by
 intro φ h F v s o stk low stk' low' x a' B k hd s0
 refine AQ mixed Tryz.func164 ?_
 rw [show Ab Tryz.prog Tryz.f164 (((#[] :Array Value) ++ #[Value.int .i64 x]) ++Fk c1 c2 c3 c4 c5 c6 c7).toList=_ from J5 x c1 c2 c3 c4 c5 c6 c7]
 unfold G6
 unfold MC at hd
 obtain ⟨stk1,e1,hd⟩:=Option.bind_eq_some_iff.1 hd
 obtain ⟨low1,e2,hd⟩:=Option.bind_eq_some_iff.1 hd
 obtain ⟨hb,hd⟩:=Bw hd
 obtain ⟨st3,e3,hd⟩:=Option.bind_eq_some_iff.1 hd
 refine AA (b:=c1) (j:=0) (x:=s) s0 rfl ?_
 refine AU (vs:= [.int .i64 x]) s0 ?_
 intro r2 h1 s1
 have cw:=St.cells s1
 have s2:=s1.tail.at1
 refine Am (r:=Ro.int .i64) (ms:= [x]) SY s2 rfl cw (.cons (a:= [_]) rfl .nil) rfl e1 ?_
 intro s' h2 s3
 refine CI (b:=c1) (j:=0) (v:= .slice s'.1 s'.2.1 s'.2.2) s3.at1 rfl (Nat.lt_succ_self 0) ?_
 intro h3 s4
 refine AA (b:=c1) (j:=0) (x:=s') s4 rfl ?_
 refine AA (b:=c2) (j:=0) (x:=o) s4.at2 rfl ?_
 have hsl:s'.2.1=stk1.length:=s4.at1.rowLen
 have s5:=s4.at3
 obtain ⟨a5,ea5,q5⟩:=s5.there e2
 rw [hsl]
 refine AF _ ea5 (Ac q5 (Ht s5 e2 rfl ea5 ?_))
 intro h4 s6
 have s7:St φ (GB c1 c2 s' o stk1 low1++(K v++F)) h4:=s6.perm (Ay 3 (GB c1 c2 s' o stk1 low1++(K v++F))).symm
 refine AH (x:=t) (Ak s7.sub B.edges) rfl ?_
 refine AH (x:=n) (Ak s7.sub B.num) rfl ?_
 have hx0:0≤x:=(Dc e2).1
 refine AI (Sz k s7 hx0 hb) ?_
 rintro _ h5 ⟨ψ1,y,le1,rfl,k1,s8⟩
 refine ⟨y,rfl,?_⟩
 have ny:=k1.length
 refine AV (fun (z:Int×Unit) w g=>NG K al c1 c2 o F ψ1 w g) (g:=st3) ?_ ?_
 ·refine BL e3 (fun i (z:Int×Unit) w g=>z.1=i∧NG K al c1 c2 o F ψ1 w g) ((0:Int),()) rfl ⟨rfl,ψ1,v,s',Sub.refl _,rfl,s8⟩ ?_ ?_
  ·rintro i z w g e ⟨hz,ψ,v',s'',le,hal,st⟩ he h0 hlt hw
   subst hz
   refine Ag (by rw [ny]; exact decide_eq_true hlt) ?_
   obtain ⟨to,hto,he⟩:=Option.bind_eq_some_iff.1 he
   unfold toD at he
   obtain ⟨e0,he0,he⟩:=Option.bind_eq_some_iff.1 he
   obtain ⟨g1,hg1,he⟩:=Option.bind_eq_some_iff.1 he
   obtain ⟨p1,hp1,he⟩:=Option.bind_eq_some_iff.1 he
   obtain ⟨q1,hq1,he⟩:=Option.bind_eq_some_iff.1 he
   obtain ⟨low2,hlow2,he⟩:=Option.bind_eq_some_iff.1 he
   obtain ⟨a2,ha2,he⟩:=Option.bind_eq_some_iff.1 he
   obtain rfl:=Option.some.inj he
   obtain ⟨A1,cs1,ea1,hi1,r1,cl1⟩:=(k1.mono le).get hto
   refine AF _ ea1 (Ac hi1 ?_)
   obtain rfl:=r1
   refine AH (x:=to) (Ak st.sub (cl1 0 _ rfl)) rfl ?_
   refine AA (b:=c2) (j:=0) (x:=o) st.at2 rfl ?_
   obtain ⟨A2,cs2,ea2,hi2,r2,cl2⟩:=St.get (st.at3) he0
   refine AF _ ea2 (Ac hi2 ?_)
   obtain rfl:=r2
   refine AH (x:=e0) (cl2 0 _ rfl) rfl ?_
   refine Ao (fun (_:Unit) w g=>NG K al c1 c2 o F ψ1 w g) (g:=g1) ?_ ?_
   ·refine AK hg1 rfl (fun _ hg=> ?_) (fun _ hg=> ?_)
    ·refine AH (x:=some (.func 164,#[],Fk c1 c2 c3 c4 c5 c6 c7)) (Ak st.sub (Ak (le1.trans le) B.visit)) rfl ?_
     obtain ⟨gl1,gs1,ga1⟩:=g1
     obtain ⟨gl0,gs0,ga0⟩:=g
     dsimp only at hal
     subst hal
     refine D7.call Ou (ih (MH.mono gl gp bl bp B (le1.trans le)) (k.mono (le1.trans le)) hg st) ?_ (fun _ _ hS=>hS.1)
     rintro h6 ⟨_,ψ2,v2,s2',le2,hal2,st2⟩
     exact AS () rfl ⟨ψ2,v2,s2',le.trans le2,hal2,st2⟩
    ·obtain rfl:=Option.some.inj hg
     exact AS () rfl ⟨ψ,v',s'',le,hal,st⟩
   ·rintro _ h6 ⟨ψ2,v2,s2',le2,hal2,st2⟩
    refine AA (b:=c2) (j:=0) (x:=o) st2.at2 rfl ?_
    refine AA (b:=c2) (j:=0) (x:=o) st2.at2 rfl ?_
    obtain ⟨A3,cs3,ea3,hi3,r3,cl3⟩:=St.get (st2.at3) hp1
    refine AF _ ea3 (Ac hi3 ?_)
    obtain rfl:=r3
    refine AH (x:=p1) (cl3 0 _ rfl) rfl ?_
    refine AA (b:=c2) (j:=0) (x:=o) st2.at2 rfl ?_
    obtain ⟨A4,cs4,ea4,hi4,r4,cl4⟩:=St.get (st2.at3) hq1
    refine AF _ ea4 (Ac hi4 ?_)
    obtain rfl:=r4
    refine AH (x:=q1) (cl4 0 _ rfl) rfl ?_
    obtain ⟨A5,ea6,q6⟩:=St.there (st2.at3) hlow2
    refine AF _ ea6 (Ac q6 (Ht (st2.at3) hlow2 rfl ea6 ?_))
    intro h7 s9
    have s10:St ψ2 (GB c1 c2 s2' o g1.2.1 low2++(K v2++F)) h7:=s9.perm (Ay 3 (GB c1 c2 s2' o g1.2.1 low2++(K v2++F))).symm
    refine AH (x:=some (.func gl,#[],bl)) (Ak s10.sub (Ak (le1.trans le2) B.led)) rfl ?_
    rw [← hal2] at ha2
    refine D7.call cl (hl ha2 (F:=F++GB c1 c2 s2' o g1.2.1 low2) (s10.perm (List.perm_append_comm.trans (by rw [List.append_assoc])))) ?_ (fun _ _ hS=>hS.1)
    rintro h8 ⟨_,ψ3,v3,le3,hal3,st3'⟩
    refine Af (IntKind.wrap .i64 (z.1+(1:Int)),()) _ rfl rfl ⟨hw,ψ3,v3,s2',le2.trans le3,hal3,?_⟩
    exact st3'.perm (by rw [← List.append_assoc]; exact List.perm_append_comm)
  ·rintro i z w ⟨hz,ψ,v',s'',le,hal,st⟩ hge
   subst hz
   refine AY (by rw [ny]; exact decide_eq_false (Int.not_lt.2 hge)) ?_
   exact AJ (AM (z.1,()) rfl ⟨ψ,v',s'',le,hal,st⟩)
 ·rintro z h6 ⟨ψ,v',s'',le,hal,st⟩
  unfold SX at hd
  obtain ⟨e,he,hd⟩:=Option.bind_eq_some_iff.1 hd
  refine AA (b:=c2) (j:=0) (x:=o) st.at2 rfl ?_
  obtain ⟨A6,cs6,ea6,hi6,r6,cl6⟩:=St.get (st.at3) he
  refine AF _ ea6 (Ac hi6 ?_)
  obtain rfl:=r6
  refine AH (x:=e) (cl6 0 _ rfl) rfl ?_
  refine AK hd rfl (fun _ hd=> ?_) (fun _ hd=> ?_)
  ·obtain rfl:=Option.some.inj hd
   exact AB ⟨rfl,ψ,v',s'',le1.trans le,hal,st⟩
  ·obtain ⟨⟨hd1,hd2,hd3⟩,hd⟩:=Bw hd
   obtain ⟨low4,e4,hd⟩:=Option.bind_eq_some_iff.1 hd
   obtain ⟨a4,ha4,hd⟩:=Option.bind_eq_some_iff.1 hd
   obtain ⟨rfl,hd4⟩:=Prod.mk.inj (Option.some.inj hd)
   obtain ⟨rfl,rfl⟩:=Prod.mk.inj hd4
   obtain ⟨dp,hdp⟩: ∃dp:Nat,stk1.length=dp+1:=⟨stk1.length - 1,by omega⟩
   have hsub:stk1.length - 1=dp:=by omega
   rw [hsub] at hd2 e4 ha4
   rw [hsub]
   have hw1:IntKind.wrap .i64 (((stk1.length:Nat):Int) - (1:Int))=((dp:Nat):Int):=by
    have:stk1.length≤1073741825:=by omega
    rw [RZ (by omega) (by omega)]
    omega
   rw [hw1]
   have hlen'':s''.2.1=st3.2.1.length:=st.at1.rowLen
   have hcap:s''.2.1≤s''.2.2:=by
    obtain ⟨_,_,hsl2,_⟩:=(st.at1).freezeRow
    exact hsl2.2.1
   refine AA (b:=c1) (j:=0) (x:=s'') st rfl ?_
   refine Ac ⟨by omega,by omega,by omega⟩ ?_
   have hcut:cut st3.2.1 ((dp:Nat):Int) ((s''.2.1:Nat):Int)=some (st3.2.1.drop dp):=by
    unfold cut
    rw [if_pos ⟨by omega,by omega,by omega⟩,Int.toNat_natCast,Int.toNat_natCast,hlen'',List.take_length]
   have hpart: ∀h',St ψ (GB c1 c2 s'' o st3.2.1 st3.1++(K v'++F)) h'→ ∃ψ',Sub ψ ψ'∧Sub ψ' (BJ h')∧Ro.SliceIs (Ro.int .i64) ψ' ((if s''.2.2=Int.toNat ((dp:Nat):Int) then s''.1 else Option.map (fun x=>Addr.add x (Int.toNat ((dp:Nat):Int) * 1)) s''.1),Int.toNat ((s''.2.1:Nat):Int) - Int.toNat ((dp:Nat):Int),s''.2.2 - Int.toNat ((dp:Nat):Int)) (st3.2.1.drop dp):=fun h' H=>by
    obtain ⟨ψ',le',sl,H2⟩:=(H.at1).freezeRow
    exact ⟨ψ',le',H2.sub,(sl.cut hcut (sz:=1) rfl).2⟩
   obtain ⟨_,_,_,hsl0⟩:=hpart _ st
   have hcl:=KZ (t:=((if s''.2.2=Int.toNat ((dp:Nat):Int) then s''.1 else Option.map (fun x=>Addr.add x (Int.toNat ((dp:Nat):Int) * 1)) s''.1),Int.toNat ((s''.2.1:Nat):Int) - Int.toNat ((dp:Nat):Int),s''.2.2 - Int.toNat ((dp:Nat):Int))) st hsl0.1 (fun h' H=>by
    obtain ⟨ψ',_,hs',sl⟩:=hpart h' H
    obtain ⟨vs,ha,hc⟩:=sl.heap hs'
    rw [Cb ha] at hc
    exact hc) hsl0.2.2.2.1 (by rw [List.length_drop]; omega)
   dsimp only at hcl
   refine AI hcl ?_
   rintro _ h7 ⟨y2,rfl,s9⟩
   refine ⟨y2,rfl,?_⟩
   have ny2:y2.2.1=(st3.2.1.drop dp).length:=s9.rowLen
   refine AA (b:=c1) (j:=0) (x:=s'') s9.at1 rfl ?_
   refine Ac ⟨by omega,by omega,by omega⟩ ?_
   have hzero:(if s''.2.2=Int.toNat (0:Int) then s''.1 else Option.map (fun x=>Addr.add x (Int.toNat (0:Int) * 1)) s''.1)=s''.1:=by
    split
    ·rfl
    ·cases s''.1 with
     | none=>rfl
     | some a=>cases a; rfl
   rw [hzero]
   refine CI (b:=c1) (j:=0) (v:= .slice s''.1 (Int.toNat ((dp:Nat):Int) - Int.toNat 0) (s''.2.2 - Int.toNat 0)) s9.at1 rfl (Nat.lt_succ_self 0) ?_
   intro h8 s10
   have s11:=St.rowTake (s10.at2) (k:=dp) (by omega)
   have s12:St ψ (⟨Rep.row 3 (Ro.int .i64), [.slice y2.1 y2.2.1 y2.2.2],st3.2.1.drop dp⟩::(GB c1 c2 (s''.1,dp,s''.2.2) o (st3.2.1.take dp) st3.1++(K v'++F))) h8:=s11.perm ((Ay 2 _).trans (List.Perm.cons _ (List.Perm.swap _ _ _)))
   refine AV (fun (z:Int×Unit) w g=>St ψ (⟨Rep.row 3 (Ro.int .i64), [.slice y2.1 y2.2.1 y2.2.2],st3.2.1.drop dp⟩::(GB c1 c2 (s''.1,dp,s''.2.2) o (st3.2.1.take dp) g++(K v'++F))) w) (g:=low4) ?_ ?_
   ·refine BL e4 (fun i (z:Int×Unit) w g=>z.1=i∧St ψ (⟨Rep.row 3 (Ro.int .i64), [.slice y2.1 y2.2.1 y2.2.2],st3.2.1.drop dp⟩::(GB c1 c2 (s''.1,dp,s''.2.2) o (st3.2.1.take dp) g++(K v'++F))) w) ((0:Int),()) rfl ⟨rfl,s12⟩ ?_ ?_
    ·rintro i z w g e' ⟨hz,st4⟩ he' h0 hlt hw
     subst hz
     refine Ag (by rw [ny2]; exact decide_eq_true hlt) ?_
     obtain ⟨y3,hy3,he'⟩:=Option.bind_eq_some_iff.1 he'
     obtain ⟨A7,cs7,ea7,hi7,r7,cl7⟩:=St.get st4 hy3
     refine AF _ ea7 (Ac hi7 ?_)
     obtain rfl:=r7
     refine AH (x:=y3) (cl7 0 _ rfl) rfl ?_
     refine AA (b:=c2) (j:=0) (x:=o) st4.at3 rfl ?_
     obtain ⟨A8,ea8,q8⟩:=St.there (st4.at4) he'
     refine AF _ ea8 (Ac q8 (Ht (st4.at4) he' rfl ea8 ?_))
     intro h9 s13
     refine Af (IntKind.wrap .i64 (z.1+(1:Int)),()) _ rfl rfl ⟨hw,s13.perm (Ay 4 (⟨Rep.row 3 (Ro.int .i64), [.slice y2.1 y2.2.1 y2.2.2],st3.2.1.drop dp⟩::(GB c1 c2 (s''.1,dp,s''.2.2) o (st3.2.1.take dp) e'++(K v'++F)))).symm⟩
    ·rintro i z w ⟨hz,st4⟩ hge
     subst hz
     refine AY (by rw [ny2]; exact decide_eq_false (Int.not_lt.2 hge)) ?_
     exact AJ (AM (z.1,()) rfl st4)
   ·rintro z2 h9 st5
    refine AH (x:=some (.func gp,#[],bp)) (Ak st5.sub (Ak (le1.trans le) B.part)) rfl ?_
    rw [← hal] at ha4
    refine D7.call cp (hp ha4 (F:=F++GB c1 c2 (s''.1,dp,s''.2.2) o (st3.2.1.take dp) low4) (st5.perm (List.Perm.cons _ (List.perm_append_comm.trans (by rw [List.append_assoc]))))) ?_ (fun _ _ hS=>hS.1)
    rintro h10 ⟨_,ψ3,v3,le3,hal3,st6⟩
    exact AB ⟨rfl,ψ3,v3,(s''.1,dp,s''.2.2),(le1.trans le).trans le3,hal3,st6.perm (by rw [← List.append_assoc]; exact List.perm_append_comm)⟩
theorem Ov {ll:List (List Int)} {n:Int} {t:Slc} {c1 c2 c3 c4 c5 c6 c7:Nat} (hl:S1 K al ledA gl bl) (hp:P3 K al partA gp bp) (cl:D7 gl) (cp:D7 gp): ∀f:Nat,N0 K al gl gp bl bp (Ip ll n ledA partA f) ll n t c1 c2 c3 c4 c5 c6 c7
 | 0=>fun _ _ hd _=>by cases hd
 | f+1=>P4 K al ledA partA gl gp bl bp hl hp cl cp (Ov hl hp cl cp f)
end
end Go.Proofs.YteolcjbobmpdiaaGreatDoor.Dg
namespace Go.Proofs.YteolcjbobmpdiaaGreatDoor.Dg
open Go Go.Eng
set_option linter.unusedVariables false
theorem NH {ws:List Nat} {x:Int} : ∀ {k:Nat},x ∈ DE ws k ↔ ∃i j:Nat,i<k∧j ∈ FC (ws[i]?.getD 0)∧x=(i:Int) * 64+(j:Int):=by
 intro k
 induction k with
 | zero=>rw [MF]; simp
 | succ k ih=>
  rw [GA,List.mem_append,ih,List.mem_map]
  constructor
  ·rintro (⟨i,j,h1,h2,h3⟩ | ⟨j,h1,h2⟩)
   ·exact ⟨i,j,by omega,h2,h3⟩
   ·exact ⟨k,j,by omega,h1,h2.symm⟩
  ·rintro ⟨i,j,h1,h2,h3⟩
   by_cases e:i=k
   ·subst e; exact .inr ⟨j,h2,h3.symm⟩
   ·exact .inl ⟨i,j,by omega,h2,h3⟩
theorem S2 (w:Nat):(FC w).Pairwise (· < ·):=List.pairwise_lt_range.filter _
theorem S5 (ws:List Nat): ∀k:Nat,(DE ws k).Pairwise (· < ·):=by
 intro k
 induction k with
 | zero=>rw [MF]; exact .nil
 | succ k ih=>
  rw [GA,List.pairwise_append]
  refine ⟨ih,?_,?_⟩
  ·rw [List.pairwise_map]
   exact (S2 _).imp fun h=>by omega
  ·intro a ha b hb
   obtain ⟨i,j,h1,h2,rfl⟩:=NH.1 ha
   obtain ⟨j',h3,rfl⟩:=List.mem_map.1 hb
   have:=(K7.1 h2).1
   omega
theorem S6 (s:AT):(DF s).Pairwise (· < ·):=S5 _ _
theorem ED {s:AT} (H:OkS s) (x:Int):x ∈ DF s ↔ mem s x=true:=by
 unfold DF
 rw [NH]
 have hget: ∀i:Nat,(s.2.map Int.toNat)[i]?.getD 0=(s.2[i]?.getD 0).toNat:=fun i=>by
  rw [List.getElem?_map]
  cases s.2[i]? <;>rfl
 constructor
 ·rintro ⟨i,j,h1,h2,rfl⟩
  rw [hget] at h2
  obtain ⟨h3,h4⟩:=K7.1 h2
  rw [show (i:Int) * 64+(j:Int)=((i * 64+j:Nat):Int) by omega,Ka]
  unfold H9
  rw [show (i * 64+j) / 64=i by omega,show (i * 64+j) % 64=j by omega]
  exact h4
 ·intro h
  obtain ⟨h0,h1⟩:=K6 H h
  obtain ⟨k,rfl⟩: ∃k:Nat,x=(k:Int):=⟨x.toNat,by omega⟩
  rw [Ka] at h
  have hl:=H.len
  refine ⟨k / 64,k % 64,by omega,?_,by omega⟩
  rw [hget]
  exact K7.2 ⟨Nat.mod_lt _ (by decide),h⟩
theorem Iq {s:AT} (H:OkS s):Hw s=some (DF s):=by
 unfold Hw DF
 have h1:=H.len
 have h2:=H.hi
 rw [if_pos ⟨by omega,H.word⟩]
theorem Ir {s:AT} (H:OkS s) {x:Int} (h:x ∈ DF s):0≤x∧x<s.1:=K6 H ((ED H x).1 h)
theorem Vp: ∀(l:List Int) {s:AT},OkS s→l.Pairwise (· < ·)→(∀i ∈ l,0≤i)→
 OkS (l.foldl G8 (s,false)).1∧(l.foldl G8 (s,false)).1.1=s.1∧ ∀j,mem (l.foldl G8 (s,false)).1 j=(mem s j || (l.contains j && decide (j<s.1))):=by
 intro l
 induction l with
 | nil=>intro s H _ _; exact ⟨H,rfl,fun j=>by simp⟩
 | cons i l ih=>
  intro s H hp h0
  rw [List.foldl_cons]
  have hp':=List.pairwise_cons.1 hp
  by_cases hi:s.1≤i
  ·have e:G8 (s,false) i=(s,true):=by unfold G8; rw [if_neg (by simp),if_pos hi]
   rw [e,Vn l rfl]
   refine ⟨H,rfl,fun j=> ?_⟩
   have:((i::l).contains j && decide (j<s.1))=false:=by
    by_cases hj:j<s.1
    ·have hne:j ∉ i::l:=by
      intro hm
      rcases List.mem_cons.1 hm with h | h
      ·omega
      ·have:=hp'.1 j h; omega
     have:(i::l).contains j=false:=by
      rw [Bool.eq_false_iff]
      intro hc
      exact hne (List.contains_iff_mem.1 hc)
     rw [this]; rfl
    ·rw [decide_eq_false hj,Bool.and_false]
   rw [this,Bool.or_false]
  ·obtain ⟨s',hd,h1,h2,h3⟩:=add_ok H i
   have e:G8 (s,false) i=(s',false):=by unfold G8; rw [if_neg (by simp),if_neg hi,hd]; rfl
   rw [e]
   obtain ⟨g1,g2,g3⟩:=ih h1 hp'.2 fun i hi=>h0 i (List.mem_cons_of_mem _ hi)
   have hi0:=h0 i (by simp)
   refine ⟨g1,g2.trans h2,fun j=> ?_⟩
   rw [g3,h3,h2,List.contains_cons]
   by_cases hj:j=i
   ·subst hj
    rw [decide_eq_true (show j=j∧0≤j∧j<s.1 by omega),decide_eq_true (show j<s.1 by omega)]
    simp
   ·rw [decide_eq_false fun g=>hj g.1,Bool.or_false,show (j==i)=false by simpa using hj,Bool.false_or]
theorem Kb {s o:AT} (H:OkS s) (K:OkS o):OkS (BB s o)∧(BB s o).1=s.1∧ ∀j,mem (BB s o) j=(mem s j || (mem o j && decide (j<s.1))):=by
 obtain ⟨h1,h2,h3⟩:=Vp (DF o) H (S6 o) fun i hi=>(Ir K hi).1
 refine ⟨h1,h2,fun j=> ?_⟩
 show mem (List.foldl G8 (s,false) (DF o)).1 j=_
 rw [h3]
 have:(DF o).contains j=mem o j:=by
  rw [Bool.eq_iff_iff,List.contains_iff_mem,ED K]
 rw [this]
set_option maxRecDepth 100000
abbrev AN (ps:List (Option Addr)) (ss:List AT):List Chk:=List.zipWith BN ps ss
theorem HZ: ∀ {ps:List (Option Addr)} {ss:List AT} {i:Nat} {p:Option Addr} {s:AT},ps[i]? =some p→ss[i]? =some s→
 ∃rest,(AN ps ss).Perm (BN p s::rest)∧ ∀p' s',(AN (ps.set i p') (ss.set i s')).Perm (BN p' s'::rest):=by
 intro ps
 induction ps with
 | nil=>intro ss i p s h; simp at h
 | cons q ps ih=>
  intro ss i p s hp hs
  cases ss with
  | nil=>simp at hs
  | cons t ss=>
   cases i with
   | zero=>
    simp only [List.getElem?_cons_zero,Option.some.injEq] at hp hs
    subst hp hs
    exact ⟨AN ps ss,List.Perm.refl _,fun p' s'=>List.Perm.refl _⟩
   | succ i=>
    obtain ⟨rest,h1,h2⟩:=ih (by simpa using hp) (by simpa using hs)
    exact ⟨BN q t::rest,(List.Perm.cons _ h1).trans (List.Perm.swap _ _ _),fun p' s'=>(List.Perm.cons _ (h2 p' s')).trans (List.Perm.swap _ _ _)⟩
theorem Dw {ps:List (Option Addr)} {ss:List AT} {i:Nat} {p:Option Addr} {s:AT} (hp:ps[i]? =some p) (hs:ss[i]? =some s):
 ∃rest,(AN ps ss).Perm (BN p s::rest)∧ ∀s',(AN ps (ss.set i s')).Perm (BN p s'::rest):=by
 obtain ⟨rest,h1,h2⟩:=HZ hp hs
 refine ⟨rest,h1,fun s'=> ?_⟩
 have:=h2 p s'
 have e:ps.set i p=ps:=List.ext_getElem? fun k=>by
  rw [List.getElem?_set]
  split
  ·rename_i h
   subst h
   rw [hp]
   split
   ·rfl
   ·rename_i h; rw [List.getElem?_eq_none (by omega)] at hp; cases hp
  ·rfl
 rwa [e] at this
theorem JF {ps:List (Option Addr)} {ss:List AT} (hl:ps.length=ss.length) (p:Option Addr) (s:AT):AN (ps++ [p]) (ss++ [s])=AN ps ss++ [BN p s] :=by
 unfold AN
 rw [List.zipWith_append hl]
 rfl
def Vq:Ro Unit where
 sz:=0
 is φ cs _:=cs= [] ∧Glob φ
 len h:=by rw [h.1]; rfl
 mono hs h:=⟨h.1,h.2.mono hs⟩
 plain h v hv:=by rw [h.1] at hv; cases hv
abbrev S7:Chk:=⟨Rep.ro Vq, [],()⟩
theorem G9 {φ:AC} {h:AE} {F:List Chk} (s:St φ (S7::F) h):Glob φ∧St φ F h:=⟨(St.ro s).1.2,(St.ro s).2⟩
theorem MI {φ:AC} {h:AE} {F:List Chk} (g:Glob φ) (s:St φ F h):St φ (S7::F) h:=St.unro s ⟨rfl,g⟩
structure Kc where
 o:Slc
 ps:List (Option Addr)
 ss:List AT
 eq:ps.length=ss.length
abbrev Kd (c:Nat) (v:Kc):List Chk:=S7::⟨Rep.raw 195, [.pointer (some ⟨c,0,none⟩)], [.slice v.o.1 v.o.2.1 v.o.2.2]⟩::⟨Rep.row 139 Ro.pt, [.slice v.o.1 v.o.2.1 v.o.2.2],v.ps⟩::AN v.ps v.ss
noncomputable def MJ (a:List AT) (x to:Int):Option (List AT):=
 (idx a x).bind fun s=>(idx a to).bind fun o=>need (OkS s∧OkS o) <| Dm a x (BB s o)
noncomputable def La (a:List AT) (l:List Int):Option (List AT):=
 (idx l 0).bind fun l0=>
 (forS 0 (((l.drop 1).length:Nat):Int) a fun i a=>(idx (l.drop 1) i).bind fun y=>MJ a l0 y).bind fun a=>
 forS 0 (((l.drop 1).length:Nat):Int) a fun i a=>(idx (l.drop 1) i).bind fun y=>(idx a l0).bind fun s=>(CF s).bind fun s=>Dm a y s
theorem Ha {α β:Type} {ps:List α} {ss:List β} (hl:ps.length=ss.length) {i:Int} {s:β} (h:idx ss i=some s):0≤i∧ss[i.toNat]? =some s∧ ∃p,ps[i.toNat]? =some p∧idx ps i=some p:=by
 obtain ⟨h0,h1,h2⟩:=Ct h
 have hlt:i.toNat<ps.length:=by omega
 exact ⟨h0,h2,ps[i.toNat],List.getElem?_eq_getElem hlt,by rw [JC h0 hlt]⟩
theorem Ow {φ:AC} {h:AE} {F:List Chk} {c:Nat} {v:Kc} {x to:Int} {s o:AT} {p q:Option Addr} (hs:v.ss[x.toNat]? =some s) (ho:v.ss[to.toNat]? =some o) (hp:v.ps[x.toNat]? =some p) (hq:v.ps[to.toNat]? =some q) (ks:OkS s) (ko:OkS o)
 (s0:St φ (Kd c v++F) h):CallsH Tryz.prog 139 [.pointer p, .pointer q] h (Aq fun u h'=> ∃(ψ:AC) (g:Bool),Sub φ ψ∧u=((.one aB):Sh).val g∧
  ∀v':Kc,v'.o=v.o→v'.ps=v.ps→v'.ss=v.ss.set x.toNat (BB s o)→St ψ (Kd c v'++F) h'):=by
 obtain ⟨g,s1⟩:=G9 s0
 obtain ⟨r1,a1,a2⟩:=Dw hp hs
 obtain ⟨r2,b1,_⟩:=Dw hq ho
 obtain ⟨B,hB⟩: ∃B:List Chk,B= [⟨Rep.raw 195, [.pointer (some ⟨c,0,none⟩)], [.slice v.o.1 v.o.2.1 v.o.2.2]⟩,⟨Rep.row 139 Ro.pt, [.slice v.o.1 v.o.2.1 v.o.2.2],v.ps⟩] :=⟨_,rfl⟩
 have s2:St φ (B++(AN v.ps v.ss++F)) h:=by rw [hB]; exact s1
 have mv: ∀(p:Option Addr) (s:AT) (r:List Chk) (L:List Chk),L.Perm (BN p s::r)→(B++(L++F)).Perm (BN p s::(B++(r++F))):=fun p s r L hL=>((List.Perm.append_left B (List.Perm.append_right F hL)).trans List.perm_middle)
 have s3:=s2.perm (mv p s r1 _ a1)
 have hpm:=(mv p s r1 _ a1).symm.trans (mv q o r2 _ b1)
 refine (Rc g ks ko hpm s3).mono ?_
 rintro e h' ⟨u,rfl,ψ,gr,le,rfl,s4⟩
 refine ⟨_,rfl,ψ,gr,le,rfl,?_⟩
 rintro ⟨o',ps',ss',eq'⟩ rfl rfl rfl
 refine MI (g.mono le) ?_
 have s5:=s4.perm (mv p (BB s o) r1 _ (a2 _)).symm
 rw [hB] at s5
 exact s5
theorem P5 {φ:AC} {h:AE} {F:List Chk} {c:Nat} {v:Kc} {x to:Int} {a':List AT} (hd:MJ v.ss x to=some a') (s0:St φ (Kd c v++F) h):
 CallsH Tryz.prog 142 [.int .i64 x, .int .i64 to, .pointer (some ⟨c,0,none⟩)] h (Aq fun u h'=>u= .tuple #[] ∧ ∃(ψ:AC) (v':Kc),Sub φ ψ∧v'.ss=a'∧St ψ (Kd c v'++F) h'):=by
 unfold MJ at hd
 obtain ⟨s,hs,hd⟩:=Option.bind_eq_some_iff.1 hd
 obtain ⟨o,ho,hd⟩:=Option.bind_eq_some_iff.1 hd
 obtain ⟨⟨ks,ko⟩,hd⟩:=Bw hd
 obtain ⟨_,hs1,p,hp,hp'⟩:=Ha v.eq hs
 obtain ⟨_,ho1,q,hq,hq'⟩:=Ha v.eq ho
 refine AQ mixed Tryz.func142 ?_
 rw [JU]
 unfold GY
 have s1:=(G9 s0).2
 refine AA (b:=c) (j:=0) (x:=v.o) s1 rfl ?_
 obtain ⟨A1,cs1,ea1,hi1,r1,cl1⟩:=St.get (s1.at1) hp'
 refine AF _ ea1 (Ac hi1 ?_)
 obtain rfl:=r1
 refine AH (x:=p) (cl1 0 _ rfl) rfl ?_
 refine AA (b:=c) (j:=0) (x:=v.o) s1 rfl ?_
 obtain ⟨A2,cs2,ea2,hi2,r2,cl2⟩:=St.get (s1.at1) hq'
 refine AF _ ea2 (Ac hi2 ?_)
 obtain rfl:=r2
 refine AH (x:=q) (cl2 0 _ rfl) rfl ?_
 refine AI (Ow hs1 ho1 hp hq ks ko s0) ?_
 rintro _ h1 ⟨ψ,g,le,rfl,H⟩
 refine ⟨g,rfl,?_⟩
 obtain ⟨h0,h1',rfl⟩:=Dc hd
 exact AB ⟨rfl,ψ,⟨v.o,v.ps,v.ss.set x.toNat (BB s o),by rw [List.length_set]; exact v.eq⟩,le,rfl,H _ rfl rfl rfl⟩
set_option maxHeartbeats 1000000 in
theorem P6 {φ:AC} {h:AE} {F:List Chk} {c:Nat} {v:Kc} {t:Slc} {l:List Int} {a':List AT} (hd:La v.ss l=some a') (s0:St φ (⟨Rep.row 3 (Ro.int .i64), [.slice t.1 t.2.1 t.2.2],l⟩::(Kd c v++F)) h):
 CallsH Tryz.prog 144 [.slice t.1 t.2.1 t.2.2, .pointer (some ⟨c,0,none⟩)] h (Aq fun u h'=>u= .tuple #[] ∧ ∃(ψ:AC) (v':Kc),Sub φ ψ∧v'.ss=a'∧St ψ (Kd c v'++F) h'):=by
 unfold La at hd
 obtain ⟨l0,hl0,hd⟩:=Option.bind_eq_some_iff.1 hd
 obtain ⟨a1,ha1,hd⟩:=Option.bind_eq_some_iff.1 hd
 obtain ⟨ψ0,le0,k0,s1⟩:=s0.freezeRow
 have hlen:=k0.length
 obtain ⟨_,hl1,_⟩:=Ct hl0
 have hcut:cut l 1 (t.2.1:Int)=some (l.drop 1):=by
  unfold cut
  rw [if_pos ⟨by omega,by omega,by omega⟩,Int.toNat_natCast,hlen,List.take_length]
  rfl
 obtain ⟨q1,kt⟩:=k0.cut hcut (sz:=1) rfl
 refine AQ mixed Tryz.func144 ?_
 rw [JV]
 unfold GZ
 refine Ac q1 ?_
 have ntl:=kt.length
 dsimp only at ntl
 refine AV (fun (z:Int×Unit) w (g:List AT)=> ∃(ψ:AC) (v':Kc),Sub ψ0 ψ∧v'.ss=g∧St ψ (Kd c v'++F) w) (g:=a1) ?_ ?_
 ·refine BL ha1 (fun i (z:Int×Unit) w g=>z.1=i∧ ∃(ψ:AC) (v':Kc),Sub ψ0 ψ∧v'.ss=g∧St ψ (Kd c v'++F) w) ((0:Int),()) rfl ⟨rfl,ψ0,v,Sub.refl _,rfl,s1⟩ ?_ ?_
  ·rintro i z w g e ⟨hz,ψ,v',le,hal,st⟩ he h0 hlt hw
   subst hz
   subst hal
   refine Ag (by rw [ntl]; exact decide_eq_true hlt) ?_
   obtain ⟨y,hy,he⟩:=Option.bind_eq_some_iff.1 he
   obtain ⟨A1,cs1,ea1,hi1,r1,cl1⟩:=(kt.mono le).get hy
   refine AF _ ea1 (Ac hi1 ?_)
   obtain rfl:=r1
   refine AH (x:=y) (Ak st.sub (cl1 0 _ rfl)) rfl ?_
   unfold MJ at he
   obtain ⟨s,hs,he⟩:=Option.bind_eq_some_iff.1 he
   obtain ⟨o,ho,he⟩:=Option.bind_eq_some_iff.1 he
   obtain ⟨⟨ks,ko⟩,he⟩:=Bw he
   obtain ⟨_,hs1,p,hp,hp'⟩:=Ha v'.eq hs
   obtain ⟨_,ho1,q,hq,hq'⟩:=Ha v'.eq ho
   have st1:=(G9 st).2
   refine AA (b:=c) (j:=0) (x:=v'.o) st1 rfl ?_
   obtain ⟨A0,cs0,ea0,hi0,r0,cl0⟩:=(k0.mono le).get hl0
   refine AF _ ea0 (Ac hi0 ?_)
   obtain rfl:=r0
   refine AH (x:=l0) (Ak st.sub (cl0 0 _ rfl)) rfl ?_
   obtain ⟨A2,cs2,ea2,hi2,r2,cl2⟩:=St.get (st1.at1) hp'
   refine AF _ ea2 (Ac hi2 ?_)
   obtain rfl:=r2
   refine AH (x:=p) (cl2 0 _ rfl) rfl ?_
   refine AA (b:=c) (j:=0) (x:=v'.o) st1 rfl ?_
   obtain ⟨A3,cs3,ea3,hi3,r3,cl3⟩:=St.get (st1.at1) hq'
   refine AF _ ea3 (Ac hi3 ?_)
   obtain rfl:=r3
   refine AH (x:=q) (cl3 0 _ rfl) rfl ?_
   refine AI (Ow hs1 ho1 hp hq ks ko st) ?_
   rintro _ h1 ⟨ψ2,g2,le2,rfl,H⟩
   refine ⟨g2,rfl,?_⟩
   obtain ⟨h0',h1',rfl⟩:=Dc he
   exact Af (IntKind.wrap .i64 (z.1+(1:Int)),()) _ rfl rfl ⟨hw,ψ2,⟨v'.o,v'.ps,v'.ss.set l0.toNat (BB s o),by rw [List.length_set]; exact v'.eq⟩,le.trans le2,rfl,H _ rfl rfl rfl⟩
  ·rintro i z w ⟨hz,H⟩ hge
   subst hz
   refine AY (by rw [ntl]; exact decide_eq_false (Int.not_lt.2 hge)) ?_
   exact AJ (AM (z.1,()) rfl H)
 ·rintro _ h2 ⟨ψ1,v1,le1,rfl,st1⟩
  refine Ac q1 ?_
  refine AV (fun (z:Int×Unit) w (g:List AT)=> ∃(ψ:AC) (v':Kc),Sub ψ1 ψ∧v'.ss=g∧St ψ (Kd c v'++F) w) (g:=a') ?_ ?_
  ·refine BL hd (fun i (z:Int×Unit) w g=>z.1=i∧ ∃(ψ:AC) (v':Kc),Sub ψ1 ψ∧v'.ss=g∧St ψ (Kd c v'++F) w) ((0:Int),()) rfl ⟨rfl,ψ1,v1,Sub.refl _,rfl,st1⟩ ?_ ?_
   ·rintro i z w g e ⟨hz,ψ,v',le',hal,st⟩ he h0 hlt hw
    have le:=le1.trans le'
    subst hz
    subst hal
    refine Ag (by rw [ntl]; exact decide_eq_true hlt) ?_
    obtain ⟨y,hy,he⟩:=Option.bind_eq_some_iff.1 he
    obtain ⟨A1,cs1,ea1,hi1,r1,cl1⟩:=(kt.mono le).get hy
    refine AF _ ea1 (Ac hi1 ?_)
    obtain rfl:=r1
    refine AH (x:=y) (Ak st.sub (cl1 0 _ rfl)) rfl ?_
    obtain ⟨s,hs,he⟩:=Option.bind_eq_some_iff.1 he
    obtain ⟨s',hs',he⟩:=Option.bind_eq_some_iff.1 he
    obtain ⟨_,hs1,p,hp,hp'⟩:=Ha v'.eq hs
    obtain ⟨g0,st2⟩:=G9 st
    refine AA (b:=c) (j:=0) (x:=v'.o) st2 rfl ?_
    refine AA (b:=c) (j:=0) (x:=v'.o) st2 rfl ?_
    obtain ⟨A0,cs0,ea0,hi0,r0,cl0⟩:=(k0.mono le).get hl0
    refine AF _ ea0 (Ac hi0 ?_)
    obtain rfl:=r0
    refine AH (x:=l0) (Ak st.sub (cl0 0 _ rfl)) rfl ?_
    obtain ⟨A2,cs2,ea2,hi2,r2,cl2⟩:=St.get (st2.at1) hp'
    refine AF _ ea2 (Ac hi2 ?_)
    obtain rfl:=r2
    refine AH (x:=p) (cl2 0 _ rfl) rfl ?_
    obtain ⟨rr,a1',a2'⟩:=Dw hp hs1
    obtain ⟨B,hB⟩: ∃B:List Chk,B= [⟨Rep.raw 195, [.pointer (some ⟨c,0,none⟩)], [.slice v'.o.1 v'.o.2.1 v'.o.2.2]⟩,⟨Rep.row 139 Ro.pt, [.slice v'.o.1 v'.o.2.1 v'.o.2.2],v'.ps⟩] :=⟨_,rfl⟩
    have st3:St ψ (B++(AN v'.ps v'.ss++F)) w:=by rw [hB]; exact st2
    have mv:(B++(AN v'.ps v'.ss++F)).Perm (BN p s::(B++(rr++F))):=(List.Perm.append_left B (List.Perm.append_right F a1')).trans List.perm_middle
    refine AI (JY (st3.perm mv) hs') ?_
    rintro _ h3 ⟨ψ2,p2,s2,le2,rfl,rfl,st4⟩
    refine ⟨p2,rfl,?_⟩
    have st5:St ψ2 (BN p2 s2::(B++(AN v'.ps v'.ss++F))) h3:=st4.perm (List.Perm.cons _ mv.symm)
    have st6:St ψ2 (⟨Rep.raw 195, [.pointer (some ⟨c,0,none⟩)], [.slice v'.o.1 v'.o.2.1 v'.o.2.2]⟩::⟨Rep.row 139 Ro.pt, [.slice v'.o.1 v'.o.2.1 v'.o.2.2],v'.ps⟩::BN p2 s2::(AN v'.ps v'.ss++F)) h3:=by
     rw [hB] at st5
     exact st5.perm ((List.Perm.swap _ _ _).trans (List.Perm.cons _ (List.Perm.swap _ _ _)))
    refine AL (st6.cell rfl) ?_
    obtain ⟨y0,y1,rfl⟩:=Dc he
    have hyl:y.toNat<v'.ps.length:=by have:=v'.eq; omega
    have hset:Dm v'.ps y p2=some (v'.ps.set y.toNat p2):=by unfold Dm; rw [if_pos ⟨y0,by have:=v'.eq; omega⟩]
    obtain ⟨A4,ea4,q4⟩:=St.there (st6.at1) hset
    refine AF _ ea4 (Ac q4 (Ht (st6.at1) hset (v:= .pointer p2) rfl ea4 ?_))
    intro h4 st7
    have hyp:v'.ps[y.toNat]? =some v'.ps[y.toNat] :=List.getElem?_eq_getElem hyl
    have hys:v'.ss[y.toNat]? =some (v'.ss[y.toNat]'(by have:=v'.eq; omega)):=List.getElem?_eq_getElem _
    obtain ⟨r3,c1,c2⟩:=HZ hyp hys
    refine Af (IntKind.wrap .i64 (z.1+(1:Int)),()) _ rfl rfl ⟨hw,ψ2,⟨v'.o,v'.ps.set y.toNat p2,v'.ss.set y.toNat s2,by rw [List.length_set,List.length_set]; exact v'.eq⟩,le'.trans le2,rfl,?_⟩
    refine MI (g0.mono le2) ?_
    have st8:St ψ2 (BN p2 s2::(AN v'.ps v'.ss++(⟨Rep.raw 195, [.pointer (some ⟨c,0,none⟩)], [.slice v'.o.1 v'.o.2.1 v'.o.2.2]⟩::⟨Rep.row 139 Ro.pt, [.slice v'.o.1 v'.o.2.1 v'.o.2.2],v'.ps.set y.toNat p2⟩::F))) h4:=by
     refine st7.perm ?_
     refine ((List.Perm.cons _ (List.Perm.swap _ _ _)).trans (List.Perm.swap _ _ _)).trans (List.Perm.cons _ ?_)
     refine (List.Perm.trans ?_ (List.perm_middle (l₁:=AN v'.ps v'.ss)).symm)
     refine (List.Perm.trans (List.Perm.swap _ _ _) (List.Perm.cons _ ?_))
     exact (List.perm_middle (l₁:=AN v'.ps v'.ss)).symm
    have st9:=st8.perm (List.Perm.cons _ (List.Perm.append_right _ c1))
    have st10:=(st9.at 1).tail
    have st11:=st10.perm (((List.Perm.append_right _ (c2 p2 s2)).symm:(BN p2 s2::r3++_).Perm _))
    refine st11.perm ?_
    exact (List.perm_middle (l₁:=AN _ _)).trans (List.Perm.cons _ (List.perm_middle (l₁:=AN _ _)))
   ·rintro i z w ⟨hz,H⟩ hge
    subst hz
    refine AY (by rw [ntl]; exact decide_eq_false (Int.not_lt.2 hge)) ?_
    exact AJ (AM (z.1,()) rfl H)
  ·rintro _ h3 ⟨ψ2,v2,le2,hal2,st3⟩
   exact AB ⟨rfl,ψ2,v2,(le0.trans le1).trans le2,hal2,st3⟩
theorem St.box {φ:AC} {h:AE} {Γ:List Chk} {ty:TypeId} {b:Nat} {v:Value} (H:St φ (⟨Rep.raw ty, [.pointer (some ⟨b,0,none⟩)], [v]⟩::Γ) h): ∃ψ,Sub φ ψ∧DL ψ ⟨b,0,none⟩=some v∧St ψ Γ h:=by
 obtain ⟨ψ,F,le,⟨b',e,hb,hF⟩,hk,s⟩:=St.hide H
 cases e
 refine ⟨ψ,le,?_,s⟩
 have:=hk b ((hF b).2 rfl)
 unfold DL
 dsimp only
 rw [this,hb]
 rfl
noncomputable def VF (vl vp:Value) (edges_0_p:Option Addr) (edges_0_n edges_0_c:Nat) (n_1:Int):T:=
 T.new (.cells #[(.slice edges_0_p edges_0_n edges_0_c)] 97 (0,0)) fun r1=>
 T.new (.cells #[(.int .i64 n_1)] 3 (0,0)) fun r2=>
 T.new (.cells #[vl] 228 (0,0)) fun r3=>
 T.new (.cells #[vp] 217 (0,0)) fun r4=>
 T.load (.int .i64) ⟨r2,0,none⟩ fun (t5:Int)=>
 T.sem (Instr.makeSlice 30 (.int .i64 t5) (.int .i64 t5)) (.one aS) fun (t6:Slc)=>
 T.new (.cells #[(.slice none 0 0)] 30 (0,0)) fun r7=>
 T.store ⟨r7,0,none⟩ (.slice t6.1 t6.2.1 t6.2.2) <|
 T.new (.cells #[(.slice none 0 0)] 30 (0,0)) fun r8=>
 T.new (.cells #[.nilFunc] 249 (0,0)) fun r9=>
 T.store ⟨r9,0,none⟩ (.func (.func 164) #[] #[(.pointer (some ⟨r8,0,none⟩)),(.pointer (some ⟨r7,0,none⟩)),(.pointer (some ⟨r1,0,none⟩)),(.pointer (some ⟨r2,0,none⟩)),(.pointer (some ⟨r9,0,none⟩)),(.pointer (some ⟨r3,0,none⟩)),(.pointer (some ⟨r4,0,none⟩))]) <|
 T.load (.int .i64) ⟨r2,0,none⟩ fun (t10:Int)=>
 T.block 0 [aI]
 (T.loop [aI] [(.int .i64 (0:Int))] fun (z12:Int×Unit)=>
 cond (decide (z12.1<t10))
 (T.load .slice ⟨r7,0,none⟩ fun (t13:Slc)=>
 deref t13.1 fun a14=>
 chk (0≤z12.1∧z12.1< (t13.2.1:Nat)) <|
 T.load (.int .i64) (a14.add (Int.toNat z12.1 * 1)) fun (t15:Int)=>
 T.join []
 (cond (t15==(0:Int))
 (T.load .func ⟨r9,0,none⟩ fun (t17:Option (Fn×Array Value×Array Value))=>
 IK false Tryz.prog (BS.val .func t17) #[(.int .i64 z12.1)] fun (t18:Value)=>
 T.out [])
 (T.out [])) fun (z16:Unit)=>
 T.out [(.int .i64 (IntKind.wrap .i64 (z12.1+(1:Int))))])
 (T.brk 0 [(.int .i64 z12.1)])) fun (z11:Int×Unit)=>
 T.ret (.tuple #[])
theorem WP:NA Tryz.prog 30 3 (.int .i64 0):=⟨Tryz.underlying30,⟨Tryz.t3,by kernel_rfl,rfl,⟨_,rfl,rfl⟩,by decide⟩⟩
section
variable {X A:Type} (K:X→List Chk) (al:X→A) (ledA:A→Int→Int→Option A) (partA:A→List Int→Option A) (gl gp:Nat) (bl bp:Array Value)
set_option maxHeartbeats 1000000 in
theorem S8 {φ:AC} {h:AE} {F:List Chk} {ll:List (List Int)} {n:Int} {t:Slc} {fuel:Nat} {v:X} {st':C7 A} (hl:S1 K al ledA gl bl) (hp:P3 K al partA gp bp) (cl:D7 gl) (cp:D7 gp)
 (hden:Ab Tryz.prog Tryz.f143 [.slice t.1 t.2.1 t.2.2, .int .i64 n, .func (.func gl) #[] bl, .func (.func gp) #[] bp] =VF (.func (.func gl) #[] bl) (.func (.func gp) #[] bp) t.1 t.2.1 t.2.2 n)
 (k:Ro.SliceIs (Ro.list (Ro.int .i64)) φ t ll) (hd:ND ll n ledA partA fuel (al v)=some st') (s0:St φ (K v++F) h):
 CallsH Tryz.prog 143 [.slice t.1 t.2.1 t.2.2, .int .i64 n, .func (.func gl) #[] bl, .func (.func gp) #[] bp] h (Aq fun u h'=>u= .tuple #[] ∧ ∃(ψ:AC) (v':X),Sub φ ψ∧al v'=st'.2.2∧St ψ (K v'++F) h'):=by
 refine AQ mixed Tryz.func143 ?_
 rw [hden]
 unfold VF
 unfold ND at hd
 obtain ⟨⟨hn0,hn1⟩,hd⟩:=Bw hd
 refine AU (vs:= [.slice t.1 t.2.1 t.2.2]) s0 ?_
 intro r1 h1 s1
 obtain ⟨φ1,le1,c1,s1⟩:=St.box s1
 refine AU (vs:= [.int .i64 n]) s1 ?_
 intro r2 h2 s2
 obtain ⟨φ2,le2,c2,s2⟩:=St.box s2
 refine AU (vs:= [.func (.func gl) #[] bl]) s2 ?_
 intro r3 h3 s3
 obtain ⟨φ3,le3,c3,s3⟩:=St.box s3
 refine AU (vs:= [.func (.func gp) #[] bp]) s3 ?_
 intro r4 h4 s4
 obtain ⟨φ4,le4,c4,s4⟩:=St.box s4
 refine AH (x:=n) (Ak s4.sub (Ak (le3.trans le4) c2)) rfl ?_
 refine IW (r:=Ro.int .i64) (x:=(0:Int)) (l:=List.replicate n.toNat 0) WP s4 rfl rfl (by unfold E0; rw [if_pos ⟨hn0,hn1⟩]) ?_
 intro o h5 s5
 refine AU (vs:= [.slice none 0 0]) s5 ?_
 intro r7 h6 s6
 refine CI (b:=r7) (j:=0) (v:= .slice o.1 o.2.1 o.2.2) s6 rfl (Nat.lt_succ_self 0) ?_
 intro h7 s7
 refine AU (vs:= [.slice none 0 0]) s7 ?_
 intro r8 h8 s8
 refine AU (vs:= [.nilFunc]) s8 ?_
 intro r9 h9 s9
 refine CI (b:=r9) (j:=0) (v:= .func (.func 164) #[] (Fk r8 r7 r1 r2 r9 r3 r4)) s9 rfl (Nat.lt_succ_self 0) ?_
 intro h10 s10
 obtain ⟨φ5,le5,c9,s11⟩:=St.box s10
 have B:MH gl gp bl bp φ5 t n r8 r7 r1 r2 r9 r3 r4:=⟨Ak (((le2.trans le3).trans le4).trans le5) c1,Ak ((le3.trans le4).trans le5) c2,c9,Ak (le4.trans le5) c3,Ak le5 c4⟩
 have le0:Sub φ φ5:=(((le1.trans le2).trans le3).trans le4).trans le5
 have s12:St φ5 (GB r8 r7 (none,0,0) o [] (List.replicate n.toNat 0) ++(K v++F)) h10:=by
  have:=St.nil 3 (Ro.int .i64) s11
  exact this.at1
 refine AH (x:=n) (Ak s12.sub B.num) rfl ?_
 refine AV (fun (z:Int×Unit) w g=>NG K al r8 r7 o F φ5 w g) (g:=st') ?_ ?_
 ·refine BL hd (fun i (z:Int×Unit) w g=>z.1=i∧NG K al r8 r7 o F φ5 w g) ((0:Int),()) rfl ⟨rfl,φ5,v,(none,0,0),Sub.refl _,rfl,s12⟩ ?_ ?_
  ·rintro i z w g e ⟨hz,ψ,v',s'',le,hal,st⟩ he h0 hlt hw
   subst hz
   refine Ag (decide_eq_true hlt) ?_
   obtain ⟨e0,he0,he⟩:=Option.bind_eq_some_iff.1 he
   refine AA (b:=r7) (j:=0) (x:=o) st.at2 rfl ?_
   obtain ⟨A2,cs2,ea2,hi2,q2,cl2⟩:=St.get (st.at3) he0
   refine AF _ ea2 (Ac hi2 ?_)
   obtain rfl:=q2
   refine AH (x:=e0) (cl2 0 _ rfl) rfl ?_
   refine Ao (fun (_:Unit) w g=>NG K al r8 r7 o F φ5 w g) (g:=e) ?_ ?_
   ·refine AK he rfl (fun _ hg=> ?_) (fun _ hg=> ?_)
    ·refine AH (x:=some (.func 164,#[],Fk r8 r7 r1 r2 r9 r3 r4)) (Ak st.sub (Ak le B.visit)) rfl ?_
     obtain ⟨gl1,gs1,ga1⟩:=e
     obtain ⟨gl0,gs0,ga0⟩:=g
     dsimp only at hal
     subst hal
     refine D7.call Ou (Ov K al ledA partA gl gp bl bp hl hp cl cp fuel (MH.mono gl gp bl bp B le) (k.mono (le0.trans le)) hg st) ?_ (fun _ _ hS=>hS.1)
     rintro h6 ⟨_,ψ2,v2,s2',le2,hal2,st2⟩
     exact AS () rfl ⟨ψ2,v2,s2',le.trans le2,hal2,st2⟩
    ·obtain rfl:=Option.some.inj hg
     exact AS () rfl ⟨ψ,v',s'',le,hal,st⟩
   ·rintro _ h6 H
    exact Af (IntKind.wrap .i64 (z.1+(1:Int)),()) _ rfl rfl ⟨hw,H⟩
  ·rintro i z w ⟨hz,H⟩ hge
   subst hz
   refine AY (decide_eq_false (Int.not_lt.2 hge)) ?_
   exact AJ (AM (z.1,()) rfl H)
 ·rintro z h11 ⟨ψ,v',s'',le,hal,st⟩
  exact AB ⟨rfl,ψ,v',le0.trans le,hal,st.tail.tail.tail.tail⟩
end
theorem S9:D7 142:=⟨Tryz.f142,Tryz.func142,by decide,by kernel_rfl,by kernel_rfl⟩
theorem TA:D7 144:=⟨Tryz.f144,Tryz.func144,by decide,by kernel_rfl,by kernel_rfl⟩
theorem Rd {φ:AC} {h:AE} {F:List Chk} {ll:List (List Int)} {n:Int} {t:Slc} {fuel:Nat} {c:Nat} {v:Kc} {st':C7 (List AT)} (k:Ro.SliceIs (Ro.list (Ro.int .i64)) φ t ll) (hd:ND ll n MJ La fuel v.ss=some st') (s0:St φ (Kd c v++F) h):
 CallsH Tryz.prog 143 [.slice t.1 t.2.1 t.2.2, .int .i64 n, .func (.func 142) #[] #[.pointer (some ⟨c,0,none⟩)], .func (.func 144) #[] #[.pointer (some ⟨c,0,none⟩)]] h (Aq fun u h'=>u= .tuple #[] ∧ ∃(ψ:AC) (v':Kc),Sub φ ψ∧v'.ss=st'.2.2∧St ψ (Kd c v'++F) h'):=
 S8 (Kd c) Kc.ss MJ La 142 144 #[.pointer (some ⟨c,0,none⟩)] #[.pointer (some ⟨c,0,none⟩)] (fun hd s=>P5 hd s) (fun hd s=>P6 hd s) S9 TA (J4 _ _ _ _ _ _) k hd s0
end Go.Proofs.YteolcjbobmpdiaaGreatDoor.Dg
namespace Go.Proofs.YteolcjbobmpdiaaGreatDoor
open Go Go.Eng
set_option linter.unusedVariables false
set_option maxRecDepth 100000
noncomputable def GC (s_0:CP):Option Int:=
 some (s_0.1)
theorem FD {φ:AC} {h:AE} {F:List Chk} {s_0:Option Addr} {a:CP} (s0:St φ (cO 239 DC s_0 a::F) h) {r:Int} (hd:GC a=some r):
 CallsH Tryz.prog 141 [(.pointer s_0)] h (Aq fun v h'=> ∃ψ:AC,∃y:Int,Sub φ ψ∧v=((.one aI):Sh).val y∧y=r∧St ψ (cO 239 DC s_0 a::F) h'):=by
 refine AQ mixed Tryz.func141 ?_
 rw [Ig]
 unfold F5
 unfold GC at hd
 obtain ⟨d,e,c,b⟩:=KK s0
 obtain rfl:=c
 refine AF _ rfl ?_
 refine AA (x:=(a.1)) b.at1 rfl ?_
 obtain rfl:=iS hd
 exact AB ⟨φ,(a.1),(Sub.refl _),rfl,rfl,(HQ (x0:=(a.1)) b.at1.at1)⟩
end Go.Proofs.YteolcjbobmpdiaaGreatDoor
namespace Go.Proofs.YteolcjbobmpdiaaGreatDoor.Dg
open Go Go.Eng
set_option linter.unusedVariables false
set_option maxRecDepth 100000
theorem NI:Gu Tryz.prog 195 195 139 1:=⟨Tryz.underlying195, .inl Tryz.underlying195,⟨Tryz.t139,by kernel_rfl,rfl,⟨_,rfl,rfl⟩,by decide,by decide⟩,by decide⟩
theorem Qn:Gu Tryz.prog 97 97 30 1:=⟨Tryz.underlying97, .inl Tryz.underlying97,⟨Tryz.t30,by kernel_rfl,rfl,⟨_,rfl,rfl⟩,by decide,by decide⟩,by decide⟩
abbrev EH (t:Slc) (ps:List (Option Addr)):Chk:=⟨Rep.row 139 Ro.pt, [.slice t.1 t.2.1 t.2.2],ps⟩
abbrev P7 (t:Slc) (ls:List (List Int)):Chk:=⟨Rep.row 30 (Ro.list (Ro.int .i64)), [.slice t.1 t.2.1 t.2.2],ls⟩
theorem Ke {α β:Type} {l l':List α} {x:α} (h:app l [x] =some l') {m:List β} (hm:m.length=l.length) (y:β):app m [y] =some (m++ [y])∧l'=l++ [x] :=by
 obtain ⟨h1,h2⟩:=Lz h
 refine ⟨?_,h2⟩
 unfold app
 simp at h1 ⊢
 omega
theorem MK {φ:AC} {h:AE} {F:List Chk} {ps:List (Option Addr)} {ss:List AT} {t:Slc} {p:Option Addr} {s:AT} (hl:ps.length=ss.length) (H:St φ (EH t (ps++ [p])::BN p s::(AN ps ss++F)) h):St φ (EH t (ps++ [p])::(AN (ps++ [p]) (ss++ [s]) ++F)) h:=by
 rw [JF hl,List.append_assoc]
 exact H.perm (List.Perm.cons _ (List.perm_middle (l₁:=AN ps ss)).symm)
theorem GD {φ:AC} {h:AE} {F:List Chk} {ps:List (Option Addr)} {ss:List AT} {i:Nat} {p:Option Addr} {s:AT} (hp:ps[i]? =some p) (hs:ss[i]? =some s) (H:St φ (AN ps ss++F) h):
 ∃r,St φ (BN p s::(r++F)) h∧ ∀(ψ:AC) (h':AE) (Γ:List Chk),St ψ (Γ++BN p s::(r++F)) h'→St ψ (Γ++(AN ps ss++F)) h':=by
 obtain ⟨r,a1,_⟩:=Dw hp hs
 exact ⟨r,H.perm (List.Perm.append_right F a1),fun ψ h' Γ H'=>H'.perm (List.Perm.append_left Γ (List.Perm.append_right F a1).symm)⟩
theorem VG (A B C:List Chk):(A++(B++C)).Perm (B++(A++C)):=by
 rw [← List.append_assoc,← List.append_assoc]
 exact List.Perm.append_right _ List.perm_append_comm
theorem Kf {φ:AC} {h:AE} {F:List Chk} {p:Option Addr} {s:AT} (gk:Glob φ) (s0:St φ (BN p s::F) h) {r:List Int} (hd:Hw s=some r):
 CallsH Tryz.prog 70 [.pointer p] h (Aq fun v h'=> ∃(ψ:AC) (y:Slc),Sub φ ψ∧v=((.one aS):Sh).val y∧Ro.SliceIs (Ro.int .i64) ψ y r∧St ψ (BN p s::F) h'):=by
 refine (Su gk s0 hd).mono ?_
 rintro e h' ⟨v,rfl,ψ,y,l,le,rfl,rfl,s1⟩
 obtain ⟨ψ2,le2,k2,s2⟩:=s1.freezeRow
 exact ⟨_,rfl,ψ2,y,le.trans le2,rfl,k2,s2⟩
noncomputable def Gs (ll:List (List Int)) (B:List AT):Option (List AT):=
 (forS 0 (B.length:Int) (0:Int) fun i w=>(idx B i).bind fun s=>some (if s.1>w then s.1 else w)).bind fun wide=>
 (forS 0 (B.length:Int) ([] :List AT) fun i acc=>(idx B i).bind fun s=>(Hw s).bind fun l=>(CQ wide l).bind fun s'=>app acc [s']).bind fun all=>
 (ND ll (B.length:Int) MJ La B.length all).bind fun st=>
 forS 0 (B.length:Int) ([] :List AT) fun i acc=>(idx B i).bind fun s=>(idx st.2.2 i).bind fun a=>(Hw a).bind fun l=>(CQ s.1 l).bind fun s'=>app acc [s']
set_option maxHeartbeats 1000000 in
theorem NJ {φ:AC} {h:AE} {F:List Chk} {t b:Slc} {ll:List (List Int)} {B:List AT} {ps:List (Option Addr)} (gk:Glob φ) (k:Ro.SliceIs (Ro.list (Ro.int .i64)) φ t ll) (kb:Ro.SliceIs Ro.pt φ b ps) (hl:ps.length=B.length) (s0:St φ (AN ps B++F) h) {r:List AT} (hd:Gs ll B=some r):
 CallsH Tryz.prog 111 [.slice t.1 t.2.1 t.2.2, .slice b.1 b.2.1 b.2.2] h (Aq fun v h'=> ∃(ψ:AC) (y:Slc) (qs:List (Option Addr)),Sub φ ψ∧v=((.one aS):Sh).val y∧qs.length=r.length∧St ψ (EH y qs::(AN qs r++(AN ps B++F))) h'):=by
 refine AQ mixed Tryz.func111 ?_
 rw [KQ]
 unfold Hv
 unfold Gs at hd
 obtain ⟨wide,hw1,hd1⟩:=Option.bind_eq_some_iff.1 hd
 clear hd
 obtain ⟨all,ha1,hd2⟩:=Option.bind_eq_some_iff.1 hd1
 clear hd1
 obtain ⟨st',hk1,hd3⟩:=Option.bind_eq_some_iff.1 hd2
 clear hd2
 have nb:b.2.1=B.length:=kb.length.trans hl
 refine AV (fun (z:Int×Int×Unit) w (g:Int)=>z.2.1=g∧ ∃ψ,Sub φ ψ∧St ψ (AN ps B++F) w) (g:=wide) ?_ ?_
 ·refine BL hw1 (fun i (z:Int×Int×Unit) w (g:Int)=>z.1=i∧z.2.1=g∧ ∃ψ,Sub φ ψ∧St ψ (AN ps B++F) w) ((0:Int),(0:Int),()) rfl ⟨rfl,rfl,φ,Sub.refl _,s0⟩ ?_ ?_
  ·rintro i z w g e ⟨hz,hg,ψ,le,st⟩ he h0 hlt hw
   subst hz
   subst hg
   refine Ag (by rw [nb]; exact decide_eq_true hlt) ?_
   obtain ⟨s,hs,he⟩:=Option.bind_eq_some_iff.1 he
   obtain rfl:=Option.some.inj he
   obtain ⟨_,hs1,p,hp,hp'⟩:=Ha hl hs
   obtain ⟨A1,cs1,ea1,hi1,r1,cl1⟩:=(kb.mono le).get hp'
   refine AF _ ea1 (Ac hi1 ?_)
   obtain rfl:=r1
   refine AH (x:=p) (Ak st.sub (cl1 0 _ rfl)) rfl ?_
   obtain ⟨rr,q1,q2⟩:=GD hp hs1 st
   refine AI (FD q1 (r:=s.1) rfl) ?_
   rintro _ h1 ⟨ψ1,y,le1,rfl,rfl,st1⟩
   refine ⟨s.1,rfl,?_⟩
   exact Af (IntKind.wrap .i64 (z.1+(1:Int)),(if s.1>z.2.1 then s.1 else z.2.1),()) _ rfl rfl ⟨hw,rfl,ψ1,le.trans le1,q2 ψ1 h1 [] st1⟩
  ·rintro i z w ⟨hz,H⟩ hge
   subst hz
   refine AY (by rw [nb]; exact decide_eq_false (Int.not_lt.2 hge)) ?_
   exact AJ (AM z rfl H)
 ·rintro z1 h1 ⟨rfl,ψ1,le1,s1⟩
  refine AU (vs:= [.slice none 0 0]) s1 ?_
  intro r6 h2 s2
  refine AV (fun (z:Int×Unit) w (g:List AT)=> ∃(ψ:AC) (o:Slc) (qs:List (Option Addr)),Sub φ ψ∧qs.length=g.length∧St ψ (⟨Rep.raw 195, [.pointer (some ⟨r6,0,none⟩)], [.slice o.1 o.2.1 o.2.2]⟩::EH o qs::(AN qs g++(AN ps B++F))) w) (g:=all) ?_ ?_
  ·refine BL ha1 (fun i (z:Int×Unit) w (g:List AT)=>z.1=i∧ ∃(ψ:AC) (o:Slc) (qs:List (Option Addr)),Sub φ ψ∧qs.length=g.length∧St ψ (⟨Rep.raw 195, [.pointer (some ⟨r6,0,none⟩)], [.slice o.1 o.2.1 o.2.2]⟩::EH o qs::(AN qs g++(AN ps B++F))) w) ((0:Int),()) rfl ⟨rfl,ψ1,(none,0,0), [],le1,rfl,(St.nil 139 Ro.pt s2).at1⟩ ?_ ?_
   ·rintro i z w g e ⟨hz,ψ,o,qs,le,hlq,st⟩ he h0 hlt hw
    subst hz
    refine Ag (by rw [nb]; exact decide_eq_true hlt) ?_
    obtain ⟨s,hs,he⟩:=Option.bind_eq_some_iff.1 he
    obtain ⟨l,hls,he⟩:=Option.bind_eq_some_iff.1 he
    obtain ⟨s',hs',he⟩:=Option.bind_eq_some_iff.1 he
    obtain ⟨_,hs1,p,hp,hp'⟩:=Ha hl hs
    obtain ⟨A1,cs1,ea1,hi1,r1,cl1⟩:=(kb.mono le).get hp'
    refine AF _ ea1 (Ac hi1 ?_)
    obtain rfl:=r1
    refine AH (x:=p) (Ak st.sub (cl1 0 _ rfl)) rfl ?_
    refine AA (b:=r6) (j:=0) (x:=o) st rfl ?_
    obtain ⟨Γ,hΓ⟩: ∃Γ:List Chk,Γ=(⟨Rep.raw 195, [.pointer (some ⟨r6,0,none⟩)], [.slice o.1 o.2.1 o.2.2]⟩::EH o qs::AN qs g):=⟨_,rfl⟩
    have st1:St ψ (AN ps B++(Γ++F)) w:=by
     have:St ψ (Γ++(AN ps B++F)) w:=by rw [hΓ]; exact st
     refine this.perm ?_
     rw [← List.append_assoc,← List.append_assoc]
     exact List.Perm.append_right F List.perm_append_comm
    obtain ⟨rr,q1,q2⟩:=GD hp hs1 st1
    refine AI (Kf (gk.mono le) q1 hls) ?_
    rintro _ h3 ⟨ψ2,y,le2,rfl,k2,st2⟩
    refine ⟨y,rfl,?_⟩
    have back: ∀ {ψ:AC} {h':AE} (Δ:List Chk),St ψ (Δ++(AN ps B++(Γ++F))) h'→St ψ (⟨Rep.raw 195, [.pointer (some ⟨r6,0,none⟩)], [.slice o.1 o.2.1 o.2.2]⟩::EH o qs::(Δ++(AN qs g++(AN ps B++F)))) h':=fun {ψ h'} Δ H=>by
     rw [hΓ] at H
     refine H.perm ?_
     refine List.Perm.trans (l₂:=Δ++((⟨Rep.raw 195, [.pointer (some ⟨r6,0,none⟩)], [.slice o.1 o.2.1 o.2.2]⟩::EH o qs::AN qs g) ++(AN ps B++F))) (List.Perm.append_left Δ ?_) ?_
     ·rw [← List.append_assoc,← List.append_assoc]
      exact List.Perm.append_right _ List.perm_append_comm
     ·exact (List.perm_middle (l₁:=Δ)).trans (List.Perm.cons _ (List.perm_middle (l₁:=Δ)))
    have st3:=back [] (q2 ψ2 h3 [] st2)
    refine AL (st3.cell rfl) ?_
    refine AI (Dv k2 st3 hs') ?_
    rintro _ h4 ⟨ψ3,p',l3,le3,rfl,rfl,st4⟩
    refine ⟨p',rfl,?_⟩
    refine AL (st4.at1.cell rfl) ?_
    refine AU (vs:= [.pointer p']) st4 ?_
    intro r14 h5 st5
    have cw:=St.cells st5
    refine AL (st5.at2.cell rfl) ?_
    obtain ⟨hap,rfl⟩:=Ke he hlq p'
    refine Am (r:=Ro.pt) (ms:= [p']) NI (st5.tail.at2) rfl cw (.cons (a:= [_]) rfl .nil) rfl hap ?_
    intro t15 h6 st6
    refine CI (b:=r6) (j:=0) (v:= .slice t15.1 t15.2.1 t15.2.2) (st6.at2) rfl (Nat.lt_succ_self 0) ?_
    intro h7 st7
    exact Af (IntKind.wrap .i64 (z.1+(1:Int)),()) _ rfl rfl ⟨hw,ψ3,t15,qs++ [p'],(le.trans le2).trans le3,by simp [hlq],(MK hlq (st7.tail) |>fun H=>by
     rw [JF hlq,List.append_assoc]
     refine st7.perm (List.Perm.cons _ (List.Perm.cons _ ?_))
     exact (List.perm_middle (l₁:=AN qs g)).symm)⟩
   ·rintro i z w ⟨hz,H⟩ hge
    subst hz
    refine AY (by rw [nb]; exact decide_eq_false (Int.not_lt.2 hge)) ?_
    exact AJ (AM z rfl H)
  ·rintro z7 h3 ⟨ψ2,o,qs,le2,hlq,s3⟩
   rw [← nb] at hk1
   have s4:St ψ2 (Kd r6 ⟨o,qs,all,hlq⟩ ++(AN ps B++F)) h3:=MI (gk.mono le2) s3
   refine AI (Rd (v:=⟨o,qs,all,hlq⟩) (k.mono le2) hk1 s4) ?_
   rintro _ h4 ⟨rfl,ψ3,v',le3,hal,s5⟩
   refine ⟨(),rfl,?_⟩
   obtain ⟨o',qs',all',hlq'⟩:=v'
   dsimp only at hal s5
   subst hal
   obtain ⟨gk3,s6⟩:=G9 s5
   have le03:=le2.trans le3
   refine AV (fun (z:Int×Slc×Unit) w (g:List AT)=> ∃(ψ:AC) (us:List (Option Addr)),Sub ψ3 ψ∧us.length=g.length∧St ψ (EH z.2.1 us::(AN us g++(⟨Rep.raw 195, [.pointer (some ⟨r6,0,none⟩)], [.slice o'.1 o'.2.1 o'.2.2]⟩::EH o' qs'::(AN qs' st'.2.2++(AN ps B++F))))) w) (g:=r) ?_ ?_
   ·refine BL hd3 (fun i (z:Int×Slc×Unit) w (g:List AT)=>z.1=i∧ ∃(ψ:AC) (us:List (Option Addr)),Sub ψ3 ψ∧us.length=g.length∧St ψ (EH z.2.1 us::(AN us g++(⟨Rep.raw 195, [.pointer (some ⟨r6,0,none⟩)], [.slice o'.1 o'.2.1 o'.2.2]⟩::EH o' qs'::(AN qs' st'.2.2++(AN ps B++F))))) w) ((0:Int),((none,0,0):Slc),()) rfl ⟨rfl,ψ3, [],Sub.refl _,rfl,St.nil _ _ s6⟩ ?_ ?_
    ·rintro i z w g e ⟨hz,ψ,us,le,hlu,st⟩ he h0 hlt hw
     subst hz
     refine Ag (by rw [nb]; exact decide_eq_true hlt) ?_
     obtain ⟨s,hs,he⟩:=Option.bind_eq_some_iff.1 he
     obtain ⟨a,ha,he⟩:=Option.bind_eq_some_iff.1 he
     obtain ⟨l,hls,he⟩:=Option.bind_eq_some_iff.1 he
     obtain ⟨s',hs',he⟩:=Option.bind_eq_some_iff.1 he
     obtain ⟨_,hs1,p,hp,hp'⟩:=Ha hl hs
     obtain ⟨_,ha1,q,hq,hq'⟩:=Ha hlq' ha
     obtain ⟨A1,cs1,ea1,hi1,r1,cl1⟩:=(kb.mono (le03.trans le)).get hp'
     refine AF _ ea1 (Ac hi1 ?_)
     obtain rfl:=r1
     refine AH (x:=p) (Ak st.sub (cl1 0 _ rfl)) rfl ?_
     obtain ⟨X1,hX1⟩: ∃X1:List Chk,X1=EH z.2.1 us::AN us g:=⟨_,rfl⟩
     have st1:St ψ (⟨Rep.raw 195, [.pointer (some ⟨r6,0,none⟩)], [.slice o'.1 o'.2.1 o'.2.2]⟩::EH o' qs'::(AN qs' st'.2.2++(AN ps B++(F++X1)))) w:=by
      have:St ψ (X1++(⟨Rep.raw 195, [.pointer (some ⟨r6,0,none⟩)], [.slice o'.1 o'.2.1 o'.2.2]⟩::EH o' qs'::(AN qs' st'.2.2++(AN ps B++F)))) w:=by rw [hX1]; exact st
      have h2:=this.perm List.perm_append_comm
      simp only [List.cons_append,List.append_assoc] at h2
      exact h2
     refine AA (b:=r6) (j:=0) (x:=o') st1 rfl ?_
     obtain ⟨A2,cs2,ea2,hi2,r2,cl2⟩:=St.get (st1.at1) hq'
     refine AF _ ea2 (Ac hi2 ?_)
     obtain rfl:=r2
     refine AH (x:=q) (cl2 0 _ rfl) rfl ?_
     obtain ⟨Y1,hY1⟩: ∃Y1:List Chk,Y1=(⟨Rep.raw 195, [.pointer (some ⟨r6,0,none⟩)], [.slice o'.1 o'.2.1 o'.2.2]⟩::EH o' qs'::AN qs' st'.2.2):=⟨_,rfl⟩
     have st2:St ψ (AN ps B++(Y1++(F++X1))) w:=by
      have:St ψ (Y1++(AN ps B++(F++X1))) w:=by rw [hY1]; exact st1
      exact this.perm (VG _ _ _)
     obtain ⟨rr,q1,q2⟩:=GD hp hs1 st2
     refine AI (FD q1 (r:=s.1) rfl) ?_
     rintro _ h5 ⟨ψ4,y4,le4,rfl,rfl,st3⟩
     refine ⟨s.1,rfl,?_⟩
     have st4:St ψ4 (⟨Rep.raw 195, [.pointer (some ⟨r6,0,none⟩)], [.slice o'.1 o'.2.1 o'.2.2]⟩::EH o' qs'::(AN qs' st'.2.2++(AN ps B++(F++X1)))) h5:=by
      have h1:=q2 ψ4 h5 [] st3
      have h2:St ψ4 (Y1++(AN ps B++(F++X1))) h5:=by
       exact St.perm h1 (VG (AN ps B) Y1 (F++X1))
      rw [hY1] at h2
      exact h2
     obtain ⟨A3,cs3,ea3,hi3,r3,cl3⟩:=St.get (st4.at1) hq'
     obtain rfl:=r3
     have e12:A3=A2:=Option.some.inj (ea3.symm.trans ea2)
     subst e12
     refine AL (cl3 0 _ rfl) (AL (st4.cell rfl) ?_)
     obtain ⟨Z1,hZ1⟩: ∃Z1:List Chk,Z1= [(⟨Rep.raw 195, [.pointer (some ⟨r6,0,none⟩)], [.slice o'.1 o'.2.1 o'.2.2]⟩:Chk),EH o' qs'] :=⟨_,rfl⟩
     have st5:St ψ4 (AN qs' st'.2.2++(Z1++(AN ps B++(F++X1)))) h5:=by
      have:St ψ4 (Z1++(AN qs' st'.2.2++(AN ps B++(F++X1)))) h5:=by rw [hZ1]; exact st4
      refine this.perm ?_
      rw [← List.append_assoc,← List.append_assoc (AN qs' st'.2.2)]
      exact List.Perm.append_right _ List.perm_append_comm
     obtain ⟨rr2,w1,w2⟩:=GD hq ha1 st5
     refine AI (Kf (gk3.mono (le.trans le4)) w1 hls) ?_
     rintro _ h6 ⟨ψ5,y5,le5,rfl,k5,st6⟩
     refine ⟨y5,rfl,?_⟩
     have st7:St ψ5 (EH z.2.1 us::(AN us g++(⟨Rep.raw 195, [.pointer (some ⟨r6,0,none⟩)], [.slice o'.1 o'.2.1 o'.2.2]⟩::EH o' qs'::(AN qs' st'.2.2++(AN ps B++F))))) h6:=by
      have h1:=w2 ψ5 h6 [] st6
      have h2:St ψ5 (X1++(Z1++(AN qs' st'.2.2++(AN ps B++F)))) h6:=by
       refine St.perm h1 ?_
       show (AN qs' st'.2.2++(Z1++(AN ps B++(F++X1)))).Perm _
       refine List.Perm.trans ?_ (List.perm_append_comm (l₁:=Z1++(AN qs' st'.2.2++(AN ps B++F))) (l₂:=X1))
       simp only [List.append_assoc]
       rw [← List.append_assoc,← List.append_assoc Z1]
       exact List.Perm.append_right _ List.perm_append_comm
      rw [hX1,hZ1] at h2
      exact h2
     refine AI (Dv k5 st7 hs') ?_
     rintro _ h7 ⟨ψ6,p',l3,le6,rfl,rfl,st8⟩
     refine ⟨p',rfl,?_⟩
     refine AU (vs:= [.pointer p']) st8 ?_
     intro r27 h8 st9
     have cw:=St.cells st9
     obtain ⟨hap,rfl⟩:=Ke he hlu p'
     refine Am (r:=Ro.pt) (ms:= [p']) NI (st9.tail.at1) rfl cw (.cons (a:= [_]) rfl .nil) rfl hap ?_
     intro t28 h9 st10
     exact Af (IntKind.wrap .i64 (z.1+(1:Int)),t28,()) _ rfl rfl ⟨hw,ψ6,us++ [p'],((le.trans le4).trans le5).trans le6,by simp [hlu],MK hlu st10⟩
    ·rintro i z w ⟨hz,H⟩ hge
     subst hz
     refine AY (by rw [nb]; exact decide_eq_false (Int.not_lt.2 hge)) ?_
     exact AJ (AM z rfl H)
   ·rintro z h5 ⟨ψ,us,le,hlu,st⟩
    refine AB ⟨ψ,z.2.1,us,le03.trans le,rfl,hlu,?_⟩
    obtain ⟨X1,hX1⟩: ∃X1:List Chk,X1=EH z.2.1 us::AN us r:=⟨_,rfl⟩
    have h1:St ψ (X1++(⟨Rep.raw 195, [.pointer (some ⟨r6,0,none⟩)], [.slice o'.1 o'.2.1 o'.2.2]⟩::EH o' qs'::(AN qs' st'.2.2++(AN ps B++F)))) h5:=by rw [hX1]; exact st
    have h2:=(h1.perm (List.perm_append_comm)).tail.tail
    have h3:St ψ (AN qs' st'.2.2++((AN ps B++F) ++X1)) h5:=by rw [← List.append_assoc]; exact h2
    have h4: ∀(L:List Chk) {M:List Chk},St ψ (L++M) h5→St ψ M h5:=fun L=>by
     induction L with
     | nil=>intro M H; exact H
     | cons c L ih=>intro M H; exact ih H.tail
    have h6:=(h4 _ h3).perm List.perm_append_comm
    rw [hX1] at h6
    exact h6
end Go.Proofs.YteolcjbobmpdiaaGreatDoor.Dg
namespace Go.Proofs.YteolcjbobmpdiaaGreatDoor
open Go Go.Shelf Go.Proofs
set_option maxRecDepth 100000
def Do:Ren:=⟨fun x=>bif Nat.beq x 129 then 179 else bif Nat.beq x 176 then 125 else bif Nat.beq x 249 then 154 else bif Nat.beq x 283 then 192 else bif Nat.beq x 284 then 193 else bif Nat.beq x 285 then 194 else bif Nat.beq x 286 then 195 else bif Nat.beq x 288 then 169 else bif Nat.beq x 317 then 205 else bif Nat.beq x 318 then 206 else bif Nat.beq x 319 then 207 else bif Nat.beq x 320 then 208 else bif Nat.beq x 337 then 211 else bif Nat.beq x 338 then 150 else 0,fun x=>bif Nat.beq x 0 then 0 else bif Nat.beq x 2 then 2 else bif Nat.beq x 3 then 3 else bif Nat.beq x 4 then 4 else bif Nat.beq x 5 then 5 else bif Nat.beq x 9 then 9 else bif Nat.beq x 20 then 20 else bif Nat.beq x 37 then 22 else bif Nat.beq x 46 then 244 else bif Nat.beq x 51 then 263 else bif Nat.beq x 53 then 237 else bif Nat.beq x 171 then 271 else bif Nat.beq x 173 then 273 else bif Nat.beq x 212 then 285 else bif Nat.beq x 213 then 286 else bif Nat.beq x 232 then 291 else bif Nat.beq x 233 then 251 else 0,fun x=>bif Nat.beq x 17 then 1 else bif Nat.beq x 18 then 2 else bif Nat.beq x 19 then 0 else 0⟩
theorem UT:Lays.n176 Tryz.prog Do where
 mixed:=by kernel_rfl
 f129:=(Tryz.func179).trans (congrArg some (show Tryz.f179=Body.n129 Do by kernel_rfl))
 f176:=(Tryz.func125).trans (congrArg some (show Tryz.f125=Body.n176 Do by kernel_rfl))
 f249:=(Tryz.func154).trans (congrArg some (show Tryz.f154=Body.n249 Do by kernel_rfl))
 f283:=(Tryz.func192).trans (congrArg some (show Tryz.f192=Body.n283 Do by kernel_rfl))
 f284:=(Tryz.func193).trans (congrArg some (show Tryz.f193=Body.n284 Do by kernel_rfl))
 f285:=(Tryz.func194).trans (congrArg some (show Tryz.f194=Body.n285 Do by kernel_rfl))
 f286:=(Tryz.func195).trans (congrArg some (show Tryz.f195=Body.n286 Do by kernel_rfl))
 f288:=(Tryz.func169).trans (congrArg some (show Tryz.f169=Body.n288 Do by kernel_rfl))
 f317:=(Tryz.func205).trans (congrArg some (show Tryz.f205=Body.n317 Do by kernel_rfl))
 f318:=(Tryz.func206).trans (congrArg some (show Tryz.f206=Body.n318 Do by kernel_rfl))
 f319:=(Tryz.func207).trans (congrArg some (show Tryz.f207=Body.n319 Do by kernel_rfl))
 f320:=(Tryz.func208).trans (congrArg some (show Tryz.f208=Body.n320 Do by kernel_rfl))
 f337:=(Tryz.func211).trans (congrArg some (show Tryz.f211=Body.n337 Do by kernel_rfl))
 f338:=(Tryz.func150).trans (congrArg some (show Tryz.f150=Body.n338 Do by kernel_rfl))
 t0:=Tryz.underlying0
 a0:=Tryz.isAgg0
 z0:=Tryz.sizeOf0
 v0:=Tryz.zeroValue0
 t2:=Tryz.underlying2
 a2:=Tryz.isAgg2
 z2:=Tryz.sizeOf2
 v2:=Tryz.zeroValue2
 t3:=Tryz.underlying3
 a3:=Tryz.isAgg3
 z3:=Tryz.sizeOf3
 v3:=Tryz.zeroValue3
 t4:=Tryz.underlying4
 a4:=Tryz.isAgg4
 z4:=Tryz.sizeOf4
 v4:=Tryz.zeroValue4
 t5:=Tryz.underlying5
 a5:=Tryz.isAgg5
 z5:=Tryz.sizeOf5
 v5:=Tryz.zeroValue5
 t9:=Tryz.underlying9
 a9:=Tryz.isAgg9
 z9:=Tryz.sizeOf9
 v9:=Tryz.zeroValue9
 t20:=Tryz.underlying20
 a20:=Tryz.isAgg20
 z20:=Tryz.sizeOf20
 v20:=Tryz.zeroValue20
 t37:=Tryz.underlying22
 a37:=Tryz.isAgg22
 z37:=Tryz.sizeOf22
 v37:=Tryz.zeroValue22
 t46:=Tryz.underlying244
 a46:=Tryz.isAgg244
 z46:=Tryz.sizeOf244
 v46:=Tryz.zeroValue244
 t51:=Tryz.underlying263
 a51:=Tryz.isAgg263
 z51:=Tryz.sizeOf263
 v51:=Tryz.zeroValue263
 t53:=Tryz.underlying237
 a53:=Tryz.isAgg237
 z53:=Tryz.sizeOf237
 v53:=Tryz.zeroValue237
 t171:=Tryz.underlying271
 a171:=Tryz.isAgg271
 z171:=Tryz.sizeOf271
 v171:=Tryz.zeroValue271
 t173:=Tryz.underlying273
 a173:=Tryz.isAgg273
 z173:=Tryz.sizeOf273
 v173:=Tryz.zeroValue273
 t212:=Tryz.underlying285
 a212:=Tryz.isAgg285
 z212:=Tryz.sizeOf285
 v212:=Tryz.zeroValue285
 t213:=Tryz.underlying286
 a213:=Tryz.isAgg286
 z213:=Tryz.sizeOf286
 t232:=Tryz.underlying291
 a232:=Tryz.isAgg291
 z232:=Tryz.sizeOf291
 v232:=Tryz.zeroValue291
 t233:=Tryz.underlying251
 a233:=Tryz.isAgg251
 z233:=Tryz.sizeOf251
 v233:=Tryz.zeroValue251
 g17:=by kernel_rfl
 g18:=by kernel_rfl
 g19:=by kernel_rfl
theorem TB:LaysM.n176 Tryz.prog Do:= {UT with
 i0:=by kernel_rfl
 i2:=by kernel_rfl
 i3:=by kernel_rfl
 i4:=by kernel_rfl
 i5:=by kernel_rfl
 i9:=by kernel_rfl
 i20:=by kernel_rfl
 i37:=by kernel_rfl
 i46:=by kernel_rfl
 i51:=by kernel_rfl
 i53:=by kernel_rfl
 i171:=by kernel_rfl
 i173:=by kernel_rfl
 i212:=by kernel_rfl
 i232:=by kernel_rfl
 i233:=by kernel_rfl
 m17:=by kernel_rfl
 m18:=by kernel_rfl
 m19:=by kernel_rfl
 }
end Go.Proofs.YteolcjbobmpdiaaGreatDoor
namespace Go.Proofs.YteolcjbobmpdiaaGreatDoor
open Go Go.Eng Go.RowKit
set_option linter.unusedVariables false
set_option maxRecDepth 100000
def Glob (φ:AC):Prop:= ∃g t f,Tryz.prog.globalNamed "internal/strconv.uint64pow10" =some g∧φ g=some (.cells (Lib.pow10Tab.map fun z=>Value.int .u64 z).toArray t f)
theorem Glob.mono {φ ψ:AC} (H:Glob φ) (hs:Sub φ ψ):Glob ψ:=by
 obtain ⟨g,t,f,h1,h2⟩:=H
 exact ⟨g,t,f,h1,hs _ _ h2⟩
def CM (i:Int):List Int:=(Lib.itoa i).map fun b=>(b.toNat:Int)
def DV (l:List Int) (i b:Int):Option (List Int):=if b=10∧ -9223372036854775808≤i∧i≤9223372036854775807∧l.length≤1000000 then some (l++CM i) else none
theorem N1 (i:Int):Lib.byteCells (Lib.itoa i)=(CM i).map (BS.int .u8).val:=by
 unfold Lib.byteCells CM
 rw [List.map_map]
 rfl
class UU (G:List Chk):Prop where
 off: ∀c ∈ G,∀φ h F,Chk.on φ h F c→ ∀k,F k→ ∃o:Obj,h[k]? =some o∧ ∀cs f,o ≠ .cells cs 5 f
instance We:UU [] :=⟨fun c hc=>by cases hc⟩
instance WQ {b:Nat} {vs:List Value} {G:List Chk} [H:UU G] :UU (⟨Rep.raw 70, [.pointer (some ⟨b,0,none⟩)],vs⟩::G):=⟨fun c hc φ h F hon k hk=>by
 rcases List.mem_cons.1 hc with rfl | hc
 ·obtain ⟨b',e,hb,hF⟩:=hon
  have hkb:=(hF k).1 hk
  subst hkb
  exact ⟨_,hb,fun cs f e=>by cases e⟩
 ·exact H.off c hc φ h F hon k hk⟩
theorem Ox {φ:AC} {h h':AE} {X X':D4} (hk: ∀(k:Nat) (o:Obj),h[k]? =some o→(∀cs f,o ≠ .cells cs 5 f)→h'[k]? =some o) (hX: ∀k,X' k→ ∃cs f,h'[k]? =some (.cells cs 5 f)) (hs:Sub φ (BJ h')):
 ∀ {G:List Chk} {Y:D4},(∀c ∈ G,∀φ h F,Chk.on φ h F c→ ∀k,F k→ ∃o:Obj,h[k]? =some o∧ ∀cs f,o ≠ .cells cs 5 f)→StX φ h G (fun k=>X k∨Y k)→StX φ h' G (fun k=>X' k∨Y k):=by
 intro G
 induction G with
 | nil=>intro Y _ _; exact hs
 | cons c G ih=>
  intro Y hG ⟨F,h1,h2,H⟩
  have hoff:=hG c (by simp) φ h F h1
  refine ⟨F,c.R.loc (fun k hF=> ?_) h1,fun k hF=>⟨(h2 k hF).1,fun g=> ?_⟩,(ih (Y:=fun k=>Y k∨F k) (fun c hc=>hG c (by simp [hc])) (H.less fun k hk=> ?_)).less fun k hk=> ?_⟩
  ·obtain ⟨o,ho,hno⟩:=hoff k hF
   rw [ho]; exact hk k o ho hno
  ·rcases g with g | g
   ·obtain ⟨o,ho,hno⟩:=hoff k hF
    obtain ⟨cs,f,hc⟩:=hX k g
    rw [hk k o ho hno] at hc
    exact hno cs f (Option.some.inj hc)
   ·exact (h2 k hF).2 (.inr g)
  ·rcases hk with hk | hk | hk
   ·exact .inl (.inl hk)
   ·exact .inl (.inr hk)
   ·exact .inr hk
  ·rcases hk with (hk | hk) | hk
   ·exact .inl hk
   ·exact .inr (.inl hk)
   ·exact .inr (.inr hk)
theorem Jm {h0 h:AE} {G:List Chk} [hG:UU G] {t:Slc} {l:List Int} {i b:Int} (gk:Glob (BJ h0)) (s0:St (BJ h0) (⟨Rep.row 5 (Ro.int .u8), [.slice t.1 t.2.1 t.2.2],l⟩::G) h) {r:List Int} (hd:DV l i b=some r):
 CallsH Tryz.prog 125 [(.slice t.1 t.2.1 t.2.2),(.int .i64 i),(.int .i64 b)] h (Aq fun v h'=> ∃ψ:AC,∃y:Slc,∃l':List Int,Sub (BJ h0) ψ∧ψ=BJ h0∧v=((.one aS):Sh).val y∧l'=r∧St ψ (⟨Rep.row 5 (Ro.int .u8), [.slice y.1 y.2.1 y.2.2],l'⟩::G) h'):=by
 unfold DV at hd
 split at hd
 ·rename_i hg
  obtain ⟨rfl,h1,h2,hlen⟩:=hg
  cases hd
  obtain ⟨F,⟨p,n,c,vs,e,hn,hc,hf,ho,ha,hF⟩,hX,H⟩:=s0
  have hn:l.length=n:=hn
  have ha':vs=l.map (BS.int .u8).val:=Cb ha
  simp only [List.cons.injEq,Value.slice.injEq,and_true] at e
  obtain ⟨e1,e2,e3⟩:=e
  rw [e1,e2,e3]
  have hs:Sub (BJ h0) (BJ h):=H.sub
  have hB:h0.size≤h.size:=by
   rcases Nat.lt_or_ge h.size h0.size with g | g
   ·have h1:BJ h0 h.size=some h0[h.size] :=Array.getElem?_eq_getElem g
    have:=As (hs _ _ h1)
    omega
   ·exact g
  have hold: ∀k,k<h0.size→(BJ h0) k ≠ none:=fun k hk g=>by
   have h1:BJ h0 k=some h0[k] :=Array.getElem?_eq_getElem hk
   rw [h1] at g; cases g
  have own:World.ownsRow (C9 h) h0.size 5 1 (.slice p n c) n vs:=by
   refine ⟨by rw [ha',List.length_map,hn,Nat.mul_one],?_⟩
   rcases ho with ⟨rfl,rfl,rfl,rfl⟩ | ⟨b,off,arr,rfl,hb,g1,g2,g3,g4⟩
   ·exact .inl ⟨rfl,rfl⟩
   ·obtain ⟨q1,q2⟩:=hf _ _ _ rfl
    subst q1
    have hsz:=q2 _ _ _ hb
    have hsz:arr.size=c * 1:=hsz
    have g1:vs.length=n * 1:=g1
    refine .inr ⟨b,c,arr,rfl,?_,hb,g2,hc,hsz,?_⟩
    ·rcases Nat.lt_or_ge b h0.size with g | g
     ·exact absurd (hX b ((hF b).2 (by simp [blk]))).1 (hold b g)
     ·exact g
    ·refine List.ext_getElem? fun i=> ?_
     rw [List.getElem?_take]
     split
     ·rename_i hi
      have hi':i<vs.length:=by omega
      have:=g4 i vs[i] (List.getElem?_eq_getElem hi')
      rw [List.getElem?_eq_getElem hi']
      simpa using this
     ·rw [List.getElem?_eq_none (by omega)]
  intro w hw
  subst hw
  refine (Any.strconv_AppendInt_10 TB h0.size n i h1 h2 (.slice p n c) vs w own hB (by omega) (fun w' hb=> ?_)).mono ?_
  ·obtain ⟨g,t',f,g1,g2⟩:=gk
   have hg:w.heap[g]? =some (.cells (Lib.pow10Tab.map fun z=>Value.int .u64 z).toArray t' f):=hs _ _ g2
   have hlt:=As (h:=h0) g2
   show (Tryz.prog.globalNamed _).bind _=_
   rw [g1]
   show (match w'.heap[g]? with | some (.cells cs _ _)=>some cs | _=>none)=_
   rw [hb.block g hlt,hg]
  ·rintro e w' ⟨v',rfl,hown,hb,hoth⟩
   have hkeep: ∀(k:Nat) (o:Obj),w.heap[k]? =some o→(∀cs f,o ≠ .cells cs 5 f)→w'.heap[k]? =some o:=fun k o ho hno=>hoth k o ho (by simp) hno
   refine ⟨⟨hb.os,hb.tape,hb.output,hb.size⟩,v',rfl,BJ h0,?_⟩
   obtain ⟨k1,k2⟩:=hown
   have hsub:Sub (BJ h0) (BJ w'.heap):=fun i o ho=>by
    have hlt:=As (h:=h0) ho
    show w'.heap[i]? =some o
    rw [hb.block i hlt]
    exact hs i o ho
   have hvs:vs++Lib.byteCells (Lib.itoa i)=(l++CM i).map (BS.int .u8).val:=by rw [List.map_append,ha',N1]
   have hdl:(CM i).length=(Lib.itoa i).length:=by unfold CM; simp
   have hall: ∀(l:List Int),(Ro.int .u8).All (BJ h0) (l.map (BS.int .u8).val) l:=fun l=>by
    induction l with
    | nil=>exact .nil
    | cons x l ih=>exact .cons (a:= [_]) rfl ih
   rcases k2 with ⟨rfl,hz⟩ | ⟨g,cap,cur,rfl,hBg,hg,hle,hm,hcs,hcur⟩
   ·refine ⟨(none,0,0),l++CM i,Sub.refl _,rfl,rfl,rfl,fun _=>False,⟨none,0,0, [],rfl,(by rw [List.length_append,hdl,hn]; exact hz),Nat.zero_le _,(fun _ _ _ h=>by cases h), .inl ⟨rfl,rfl,rfl,rfl⟩,?_,fun i=>by simp [blk]⟩,fun _ hk=>hk.elim,(Ox (X:=F) (X':=fun _=>False) (Y:=fun _=>False) hkeep (fun _ g=>g.elim) hsub hG.off (H.less fun k hk=>hk.elim .inr .inl)).less fun k hk=>hk.elim (fun g=> .inl g) (fun g=> .inl g)⟩
    have:l++CM i= [] :=List.eq_nil_of_length_eq_zero (by rw [List.length_append,hdl,hn]; exact hz)
    show (Ro.int .u8).All (BJ h0) [] (l++CM i)
    rw [this]; exact .nil
   ·refine ⟨(some ⟨g,0,none⟩,n+(Lib.itoa i).length,cap),l++CM i,Sub.refl _,rfl,rfl,rfl,fun k=>k=g,⟨_,_,cap,(l++CM i).map (BS.int .u8).val,rfl,by simp; omega,hm,(fun b' off s e=>by cases e; exact ⟨rfl,fun arr ty f harr=>by
     rw [hg] at harr; cases harr; exact hcs⟩), .inr ⟨g,0,cur,rfl,hg,by show _=_ * 1; simp; omega,hle,by show 0+cap * 1≤_; omega,fun j v hv=> ?_⟩,hall _,fun k=>by simp [blk]⟩,fun k hk=>⟨?_,fun g=>g⟩,(Ox (X:=F) (X':=fun k=>k=g) (Y:=fun _=>False) hkeep (fun k hk=>by subst hk; exact ⟨_,_,hg⟩) hsub hG.off (H.less fun k hk=>hk.elim .inr .inl)).less fun k hk=>hk.elim (fun g=> .inr g) (fun g=> .inl g)⟩
    ·rw [← hvs,← hcur,List.getElem?_take] at hv
     split at hv
     ·simpa using hv
     ·cases hv
    ·subst hk
     exact Array.getElem?_eq_none hBg
 ·cases hd
end Go.Proofs.YteolcjbobmpdiaaGreatDoor
namespace Go.Proofs.YteolcjbobmpdiaaGreatDoor
open Go Go.Eng Dg
set_option linter.unusedVariables false
set_option maxRecDepth 100000
structure Lb (φ:AC):Prop where
 a:Glob φ
 b:Dg.Glob φ
theorem Lb.mono {φ ψ:AC} (H:Lb φ) (hs:Sub φ ψ):Lb ψ:=⟨H.a.mono hs,H.b.mono hs⟩
noncomputable def N2 (s o:AT):Option (Bool×AT):=need (OkS s∧OkS o) <| some (EY s o,BB s o)
noncomputable def NK (s:AT):Option (List Int):=Hw s
section
variable {φ:AC} {h:AE} {F:List Chk}
theorem P8 {s_0 o_1:Option Addr} {b a:AT} (gk:Dg.Glob φ) (s0:St φ (BN s_0 b::BN o_1 a::F) h) {r:Bool×AT} (hd:N2 b a=some r):
 CallsH Tryz.prog 139 [.pointer s_0, .pointer o_1] h (Aq fun v h'=> ∃ψ:AC,∃y:Bool,∃l:AT,Sub φ ψ∧v=((.one aB):Sh).val y∧(y,l)=r∧St ψ (BN s_0 l::BN o_1 a::F) h'):=by
 obtain ⟨⟨h1,h2⟩,hd⟩:=Bw hd
 obtain rfl:=Option.some.inj hd
 refine (HY gk h1 h2 (List.Perm.swap _ _ _) s0).mono ?_
 rintro e h' ⟨u,rfl,ψ,le,rfl,s4⟩
 exact ⟨_,rfl,ψ,_,_,le,rfl,rfl,s4⟩
theorem K9 {s_0:Option Addr} {a:AT} (gk:Dg.Glob φ) (s0:St φ (BN s_0 a::F) h) {r:List Int} (hd:NK a=some r):
 CallsH Tryz.prog 70 [.pointer s_0] h (Aq fun v h'=> ∃ψ:AC,∃y:Slc,∃l:List Int,Sub φ ψ∧v=((.one aS):Sh).val y∧l=r∧Ro.SliceIs (Ro.int .i64) ψ y l∧St ψ (BN s_0 a::F) h'):=by
 refine (Kf gk s0 hd).mono ?_
 rintro e h' ⟨u,rfl,ψ,y,le,rfl,k,s4⟩
 exact ⟨_,rfl,ψ,_,_,le,rfl,rfl,k,s4⟩
theorem Qo {ps:List (Option Addr)} {ss:List AT} {x y:Nat} {p q:Option Addr} {s o:AT} (gk:Dg.Glob φ) (hs:ss[x]? =some s) (ho:ss[y]? =some o) (hp:ps[x]? =some p) (hq:ps[y]? =some q) (k:OkS s∧OkS o) (s0:St φ (AN ps ss++F) h):
 CallsH Tryz.prog 139 [.pointer p, .pointer q] h (Aq fun v h'=> ∃ψ:AC,Sub φ ψ∧v=((.one aB):Sh).val (EY s o)∧St ψ (AN ps (ss.set x (BB s o)) ++F) h'):=by
 obtain ⟨r1,a1,a2⟩:=Dw hp hs
 obtain ⟨r2,b1,_⟩:=Dw hq ho
 have mv: ∀(p:Option Addr) (s:AT) (r:List Chk) (L:List Chk),L.Perm (BN p s::r)→(L++F).Perm (BN p s::(r++F)):=fun p s r L hL=>List.Perm.append_right F hL
 have hpm:=(mv p s r1 _ a1).symm.trans (mv q o r2 _ b1)
 refine (HY gk k.1 k.2 hpm (s0.perm (mv p s r1 _ a1))).mono ?_
 rintro e h' ⟨u,rfl,ψ,le,rfl,s4⟩
 exact ⟨_,rfl,ψ,le,rfl,s4.perm (mv p _ r1 _ (a2 _)).symm⟩
theorem Oy {ps:List (Option Addr)} {ss:List AT} {x:Nat} {p q:Option Addr} {s o:AT} (gk:Dg.Glob φ) (hs:ss[x]? =some s) (hp:ps[x]? =some p) (k:OkS s∧OkS o) (s0:St φ (BN q o::(AN ps ss++F)) h):
 CallsH Tryz.prog 139 [.pointer p, .pointer q] h (Aq fun v h'=> ∃ψ:AC,Sub φ ψ∧v=((.one aB):Sh).val (EY s o)∧St ψ (BN q o::(AN ps (ss.set x (BB s o)) ++F)) h'):=by
 obtain ⟨r1,a1,a2⟩:=Dw hp hs
 have mv: ∀(s:AT) (L:List Chk),L.Perm (BN p s::r1)→(BN q o::(L++F)).Perm (BN p s::(BN q o::(r1++F))):=fun s L hL=>(List.Perm.cons _ (List.Perm.append_right F hL)).trans (List.Perm.swap _ _ _)
 refine (HY gk k.1 k.2 (List.Perm.swap _ _ _) (s0.perm (mv s _ a1))).mono ?_
 rintro e h' ⟨u,rfl,ψ,le,rfl,s4⟩
 exact ⟨_,rfl,ψ,le,rfl,s4.perm (mv _ _ (a2 _)).symm⟩
end
end Go.Proofs.YteolcjbobmpdiaaGreatDoor
