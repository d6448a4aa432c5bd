/-
  SimVa, R1, LawsE, put together.
  Conditions: none; each part tells its own.
-/
import Derived.Test.YteolcjbobmpdiaaGreatDoorKr2
import Derived.Test.YteolcjbobmpdiaaGreatDoorKr5
import Derived.KernelRfl
import Derived.Test.YteolcjbobmpdiaaGreatDoorKr3
namespace Go.Proofs.YteolcjbobmpdiaaGreatDoor
open Go Go.Eng
set_option linter.unusedVariables false
set_option maxRecDepth 100000
noncomputable def Bd (t_0:Int) (r_1:Int) (assoc_2:Int) (shift_3:Int):Option Bool:=
 (B5).bind fun t1=>
 need ((3:Int) ≠ 0) <|
 need ((3:Int) ≠ 0) <|
 need ((3:Int) ≠ 0) <|
 need ((3:Int) ≠ 0) <|
 need ((3:Int) ≠ 0) <|
 (Ba (([{data:= #[36,101,110,100] },{data:= #[97] }] :List ByteArray),([{data:= #[83] }] :List ByteArray),([((3:Int),([(2:Int)] :List Int),(0:Int)),((2:Int),([(1:Int)] :List Int),(IntKind.wrap .i64 ((1:Int) +(Int.tmod (IntKind.wrap .i64 r_1) (3:Int)))))] :List BV),([(0:Int),(IntKind.wrap .i64 ((1:Int) +(Int.tmod (IntKind.wrap .i64 t_0) (3:Int))))] :List Int),([(0:Int),(IntKind.wrap .i64 ((1:Int) +(Int.tmod (IntKind.wrap .i64 assoc_2) (3:Int)))),(IntKind.wrap .i64 ((1:Int) +(Int.tmod (IntKind.wrap .i64 assoc_2) (3:Int)))),(IntKind.wrap .i64 ((1:Int) +(Int.tmod (IntKind.wrap .i64 assoc_2) (3:Int))))] :List Int),([{data:= #[] },{data:= #[] }] :List ByteArray)) (1:Int) (IntKind.wrap .i64 shift_3) ([(1:Int)] :List Int)).bind fun t18=>
 (need ((3:Int) ≠ 0) <|
 need ((3:Int) ≠ 0) <|
 cond (decide ((Int.tmod r_1 (3:Int)) >(Int.tmod t_0 (3:Int))))
 (some true)
 (need ((3:Int) ≠ 0) <|
  need ((3:Int) ≠ 0) <|
  cond ((Int.tmod r_1 (3:Int))==(Int.tmod t_0 (3:Int)))
  (need ((3:Int) ≠ 0) <|
   some ((Int.tmod assoc_2 (3:Int))==(0:Int)))
  (some false))).bind fun z21=>
 (cond z21
 (some ((2:Int),(1:Int)))
 (some ((1:Int),(IntKind.wrap .i64 shift_3)))).bind fun z22=>
 (need ((3:Int) ≠ 0) <|
 need ((3:Int) ≠ 0) <|
 cond ((Int.tmod r_1 (3:Int))==(Int.tmod t_0 (3:Int)))
 (need ((3:Int) ≠ 0) <|
  some ((Int.tmod assoc_2 (3:Int))==(2:Int)))
 (some false)).bind fun z23=>
 (cond z23
 (some ((0:Int),(0:Int)))
 (some z22)).bind fun z24=>
 (cond t1
 (cond ((t18.1==(z24.1)) && ((t18.2.1==(z24.2)) && true))
  (some (!t18.2.2))
  (some false))
 (some false)).bind fun z25=>
 some z25
theorem Et {φ:AC} {h:AF} {F:List Chk} {t_0:Int} {r_1:Int} {assoc_2:Int} {shift_3:Int} (gk:JX φ) (s0:St φ (F) h) {r:Bool} (hd:Bd t_0 r_1 assoc_2 shift_3=some r):
 CallsH Tryz.prog 11 [(.int .u8 t_0),(.int .u8 r_1),(.int .u8 assoc_2),(.int .u8 shift_3)] h (Ai fun v h'=> ∃ψ:AC,∃y:Bool,Sub φ ψ∧v=((.one aB):Sh).val y∧y=r∧St ψ (F) h'):=by
 refine AN mixed Tryz.func11 ?_
 rw [Er]
 unfold C1
 unfold Bd at hd
 obtain ⟨cs,ad,hd⟩:=bS hd
 refine AJ (EV gk s0 ad) ?_
 rintro _ ct ⟨cu,t1,ae,rfl,rfl,af⟩
 refine ⟨t1,rfl,?_⟩
 refine AR (vs:= [.string ({data:= #[36,101,110,100] }), .string ({data:= #[97] })]) af fun r2 cv ag=> ?_
 refine AR (vs:= [.string ({data:= #[83] })]) ag fun r3 cw ah=> ?_
 refine BX hd id fun cx hd=> ?_
 refine AR (vs:= [.int .i64 (0:Int), .int .i64 (IntKind.wrap .i64 ((1:Int) +(Int.tmod (IntKind.wrap .i64 t_0) (3:Int))))]) ah fun r4 cy ai=> ?_
 refine AR (vs:= [.int .i64 (2:Int)]) ai fun r5 cz aj=> ?_
 refine AR (vs:= [.int .i64 (1:Int)]) aj fun r6 d0 ak=> ?_
 refine BX hd id fun d1 hd=> ?_
 refine AR (vs:= [.int .i64 (3:Int), .slice (some ⟨r5,0,none⟩) 1 1, .int .i64 (0:Int), .int .i64 (2:Int), .slice (some ⟨r6,0,none⟩) 1 1, .int .i64 (IntKind.wrap .i64 ((1:Int) +(Int.tmod (IntKind.wrap .i64 r_1) (3:Int))))]) ak fun r7 d2 al=> ?_
 refine BX hd id fun d3 hd=> ?_
 refine BX hd id fun d4 hd=> ?_
 refine BX hd id fun d5 hd=> ?_
 refine AR (vs:= [.int .i64 (0:Int), .int .i64 (IntKind.wrap .i64 ((1:Int) +(Int.tmod (IntKind.wrap .i64 assoc_2) (3:Int)))), .int .i64 (IntKind.wrap .i64 ((1:Int) +(Int.tmod (IntKind.wrap .i64 assoc_2) (3:Int)))), .int .i64 (IntKind.wrap .i64 ((1:Int) +(Int.tmod (IntKind.wrap .i64 assoc_2) (3:Int))))]) al fun r8 d6 am=> ?_
 refine AR (vs:= [.string ({data:= #[] }), .string ({data:= #[] })]) am fun r9 d7 an=> ?_
 refine AR (vs:= [.slice none 0 0, .slice none 0 0, .slice none 0 0, .slice none 0 0, .slice none 0 0, .slice none 0 0]) an fun r10 d8 ao=> ?_
 refine AH ao rfl rfl fun d9 ap=> ?_
 refine AH ap rfl rfl fun da aq=> ?_
 refine AH aq rfl rfl fun db ar=> ?_
 refine AH ar rfl rfl fun dc au=> ?_
 refine AH au rfl rfl fun dd av=> ?_
 refine AH av rfl rfl fun de e=> ?_
 refine AA (x:=((some ⟨r2,0,none⟩,2,2):Slc)) e rfl ?_
 refine AA (x:=((some ⟨r3,0,none⟩,1,1):Slc)) e rfl ?_
 refine AA (x:=((some ⟨r7,0,none⟩,2,2):Slc)) e rfl ?_
 refine AA (x:=((some ⟨r4,0,none⟩,2,2):Slc)) e rfl ?_
 refine AA (x:=((some ⟨r8,0,none⟩,4,4):Slc)) e rfl ?_
 refine AA (x:=((some ⟨r9,0,none⟩,2,2):Slc)) e rfl ?_
 refine AR (vs:= [.int .i64 (1:Int)]) e fun r17 df aw=> ?_
 have ax:=St.lit (r:=Ro.str) (l:=([{data:= #[36,101,110,100] },{data:= #[97] }] :List ByteArray)) (n:=2) aw.at9 (.cons (a:= [_]) rfl (.cons (a:= [_]) rfl .nil)) rfl (by decide)
 obtain ⟨dg,ay,az,b0⟩:=St.freezeRow (t:=((some ⟨r2,0,none⟩,2,2):Slc)) ax
 have b1:=St.lit (r:=Ro.str) (l:=([{data:= #[83] }] :List ByteArray)) (n:=1) b0.at8 (.cons (a:= [_]) rfl .nil) rfl (by decide)
 obtain ⟨dh,a6,b2,b3⟩:=St.freezeRow (t:=((some ⟨r3,0,none⟩,1,1):Slc)) b1
 have b4:=St.lit (r:=(Ro.int .i64)) (l:=([(2:Int)] :List Int)) (n:=1) b3.at6 (.cons (a:= [_]) rfl .nil) rfl (by decide)
 obtain ⟨di,a0,b5,b6⟩:=St.freezeRow (t:=((some ⟨r5,0,none⟩,1,1):Slc)) b4
 have b7:=St.lit (r:=(Ro.int .i64)) (l:=([(1:Int)] :List Int)) (n:=1) b6.at5 (.cons (a:= [_]) rfl .nil) rfl (by decide)
 obtain ⟨dj,p,b8,b9⟩:=St.freezeRow (t:=((some ⟨r6,0,none⟩,1,1):Slc)) b7
 have ba:=St.lit (r:=BS) (l:=([((3:Int),([(2:Int)] :List Int),(0:Int)),((2:Int),([(1:Int)] :List Int),(IntKind.wrap .i64 ((1:Int) +(Int.tmod (IntKind.wrap .i64 r_1) (3:Int)))))] :List BV)) (n:=2) b9.at4 (.cons (a:= [_,_,_]) ⟨[_],_,rfl,rfl,⟨[_],_,rfl,⟨((some ⟨r5,0,none⟩,1,1):Slc),rfl,(b5.mono p)⟩,rfl⟩⟩ (.cons (a:= [_,_,_]) ⟨[_],_,rfl,rfl,⟨[_],_,rfl,⟨((some ⟨r6,0,none⟩,1,1):Slc),rfl,b8⟩,rfl⟩⟩ .nil)) rfl (by decide)
 obtain ⟨dk,a1,bb,bc⟩:=St.freezeRow (t:=((some ⟨r7,0,none⟩,2,2):Slc)) ba
 have bd:=St.lit (r:=(Ro.int .i64)) (l:=([(0:Int),(IntKind.wrap .i64 ((1:Int) +(Int.tmod (IntKind.wrap .i64 t_0) (3:Int))))] :List Int)) (n:=2) bc.at4 (.cons (a:= [_]) rfl (.cons (a:= [_]) rfl .nil)) rfl (by decide)
 obtain ⟨dl,q,be,bf⟩:=St.freezeRow (t:=((some ⟨r4,0,none⟩,2,2):Slc)) bd
 have bg:=St.lit (r:=(Ro.int .i64)) (l:=([(0:Int),(IntKind.wrap .i64 ((1:Int) +(Int.tmod (IntKind.wrap .i64 assoc_2) (3:Int)))),(IntKind.wrap .i64 ((1:Int) +(Int.tmod (IntKind.wrap .i64 assoc_2) (3:Int)))),(IntKind.wrap .i64 ((1:Int) +(Int.tmod (IntKind.wrap .i64 assoc_2) (3:Int))))] :List Int)) (n:=4) bf.at3 (.cons (a:= [_]) rfl (.cons (a:= [_]) rfl (.cons (a:= [_]) rfl (.cons (a:= [_]) rfl .nil)))) rfl (by decide)
 obtain ⟨dm,k,bh,bi⟩:=St.freezeRow (t:=((some ⟨r8,0,none⟩,4,4):Slc)) bg
 have bj:=St.lit (r:=Ro.str) (l:=([{data:= #[] },{data:= #[] }] :List ByteArray)) (n:=2) bi.at2 (.cons (a:= [_]) rfl (.cons (a:= [_]) rfl .nil)) rfl (by decide)
 obtain ⟨dn,j,bk,bl⟩:=St.freezeRow (t:=((some ⟨r9,0,none⟩,2,2):Slc)) bj
 have bm:=St.lit (r:=(Ro.int .i64)) (l:=([(1:Int)] :List Int)) (n:=1) bl (.cons (a:= [_]) rfl .nil) rfl (by decide)
 obtain ⟨dp,f,bn,bo⟩:=St.freezeRow (t:=((some ⟨r17,0,none⟩,1,1):Slc)) bm
 obtain ⟨dq,bp,hd⟩:=bS hd
 refine AJ (Es (p_0:=(((some ⟨r2,0,none⟩,2,2):Slc),((some ⟨r3,0,none⟩,1,1):Slc),((some ⟨r7,0,none⟩,2,2):Slc),((some ⟨r4,0,none⟩,2,2):Slc),((some ⟨r8,0,none⟩,4,4):Slc),((some ⟨r9,0,none⟩,2,2):Slc),())) (az.mono (((((((a6.trans a0).trans p).trans a1).trans q).trans k).trans j).trans f)) (b2.mono ((((((a0.trans p).trans a1).trans q).trans k).trans j).trans f)) (bb.mono (((q.trans k).trans j).trans f)) (be.mono ((k.trans j).trans f)) (bh.mono (j.trans f)) (bk.mono f) bn bo bp) ?_
 rintro _ dr ⟨s,t18,bq,rfl,rfl,br⟩
 refine ⟨t18,rfl,?_⟩
 try dsimp only at hd
 refine AR (vs:= [.int .i64 (0:Int), .int .i64 (0:Int)]) br fun r19 ds bs=> ?_
 refine AH bs rfl rfl fun dt bt=> ?_
 refine AH bt rfl rfl fun du bu=> ?_
 refine AR (vs:= [.int .i64 (0:Int), .int .i64 (0:Int)]) bu fun r20 dv bv=> ?_
 refine AH bv rfl rfl fun dw bw=> ?_
 refine AH bw rfl rfl fun dx a2=> ?_
 obtain ⟨bx,b,hd⟩:=bS hd
 refine AX (fun (y:Bool×Unit) w_ g=> ∃ψ:AC,Sub s ψ∧y.1=g∧St ψ (cW 77 r20 [.int .i64 (1:Int), .int .i64 (IntKind.wrap .i64 shift_3)] ::cW 77 r19 [.int .i64 t18.1.1, .int .i64 t18.1.2.1] ::cW 32 r10 [.slice (some ⟨r2,0,none⟩) 2 2, .slice (some ⟨r3,0,none⟩) 1 1, .slice (some ⟨r7,0,none⟩) 2 2, .slice (some ⟨r4,0,none⟩) 2 2, .slice (some ⟨r8,0,none⟩) 4 4, .slice (some ⟨r9,0,none⟩) 2 2] ::F) w_) (g:=bx) ?_ ?_
 ·refine BX b id fun dy b=> ?_
  refine BX b id fun dz b=> ?_
  refine AI b rfl (fun _ b=> ?_) (fun _ b=> ?_)
  ·have bz:=a2.at2
   obtain rfl:=iS b
   exact AM (true,()) rfl ⟨s,(Sub.refl _),rfl,bz.at2.at2⟩
  refine BX b id fun e0 b=> ?_
  refine BX b id fun e1 b=> ?_
  refine AI b rfl (fun _ b=> ?_) (fun _ b=> ?_)
  ·refine BX b id fun e2 b=> ?_
   obtain rfl:=iS b
   exact AM (((Int.tmod assoc_2 (3:Int))==(0:Int)),()) rfl ⟨s,(Sub.refl _),rfl,a2.at2.at2.at2⟩
  obtain rfl:=iS b
  exact AM (false,()) rfl ⟨s,(Sub.refl _),rfl,a2.at2.at2.at2⟩
 rintro z21 e3 ⟨a3,c0,rfl,c1⟩
 try dsimp only at hd
 have a7:=St.shutR (r:=CR) (x:=((1:Int),(IntKind.wrap .i64 shift_3))) c1 ⟨[_],_,rfl,rfl,rfl⟩
 obtain ⟨c2,m,hd⟩:=bS hd
 refine AX (fun (y:Unit) w_ g=> ∃ψ:AC,∃a8:DZ,Sub a3 ψ∧a8=g∧St ψ (cO 77 (Rep.ro CR) (some ⟨r20,0,none⟩) a8::cW 77 r19 [.int .i64 t18.1.1, .int .i64 t18.1.2.1] ::cW 32 r10 [.slice (some ⟨r2,0,none⟩) 2 2, .slice (some ⟨r3,0,none⟩) 1 1, .slice (some ⟨r7,0,none⟩) 2 2, .slice (some ⟨r4,0,none⟩) 2 2, .slice (some ⟨r8,0,none⟩) 4 4, .slice (some ⟨r9,0,none⟩) 2 2] ::F) w_) (g:=c2) ?_ ?_
 ·refine AI m rfl (fun _ m=> ?_) (fun _ m=> ?_)
  ·obtain ⟨c3,e4,c4,⟨_,_,rfl,rfl,rfl⟩,c5⟩:=St.openR a7
   obtain rfl:r20=c3:=by simpa using c4
   refine AH c5 rfl rfl fun e5 c6=> ?_
   refine AH c6 rfl rfl fun e6 c7=> ?_
   have c8:=(((St.shutR (r:=CR) (x:=((2:Int),(1:Int))) c7 ⟨[_],_,rfl,rfl,rfl⟩).at2).at2).at2
   obtain rfl:=iS m
   exact AM (()) rfl ⟨a3,((2:Int),(1:Int)),(Sub.refl _),rfl,c8⟩
  obtain rfl:=iS m
  exact AM (()) rfl ⟨a3,((1:Int),(IntKind.wrap .i64 shift_3)),(Sub.refl _),rfl,a7.at2.at2.at2⟩
 rintro z22 e7 ⟨a4,a9,c9,rfl,aa⟩
 try dsimp only at hd
 obtain ⟨ca,c,hd⟩:=bS hd
 refine AX (fun (y:Bool×Unit) w_ g=> ∃ψ:AC,Sub a4 ψ∧y.1=g∧St ψ (cO 77 (Rep.ro CR) (some ⟨r20,0,none⟩) a9::cW 77 r19 [.int .i64 t18.1.1, .int .i64 t18.1.2.1] ::cW 32 r10 [.slice (some ⟨r2,0,none⟩) 2 2, .slice (some ⟨r3,0,none⟩) 1 1, .slice (some ⟨r7,0,none⟩) 2 2, .slice (some ⟨r4,0,none⟩) 2 2, .slice (some ⟨r8,0,none⟩) 4 4, .slice (some ⟨r9,0,none⟩) 2 2] ::F) w_) (g:=ca) ?_ ?_
 ·refine BX c id fun e8 c=> ?_
  refine BX c id fun e9 c=> ?_
  refine AI c rfl (fun _ c=> ?_) (fun _ c=> ?_)
  ·refine BX c id fun ea c=> ?_
   obtain rfl:=iS c
   exact AM (((Int.tmod assoc_2 (3:Int))==(2:Int)),()) rfl ⟨a4,(Sub.refl _),rfl,aa.at2.at2.at2⟩
  obtain rfl:=iS c
  exact AM (false,()) rfl ⟨a4,(Sub.refl _),rfl,aa.at2.at2.at2⟩
 rintro z23 eb ⟨a5,cb,rfl,ab⟩
 try dsimp only at hd
 obtain ⟨cc,o,hd⟩:=bS hd
 refine AX (fun (y:Unit) w_ g=> ∃ψ:AC,∃ac:DZ,Sub a5 ψ∧ac=g∧St ψ (cO 77 (Rep.ro CR) (some ⟨r20,0,none⟩) ac::cW 77 r19 [.int .i64 t18.1.1, .int .i64 t18.1.2.1] ::cW 32 r10 [.slice (some ⟨r2,0,none⟩) 2 2, .slice (some ⟨r3,0,none⟩) 1 1, .slice (some ⟨r7,0,none⟩) 2 2, .slice (some ⟨r4,0,none⟩) 2 2, .slice (some ⟨r8,0,none⟩) 4 4, .slice (some ⟨r9,0,none⟩) 2 2] ::F) w_) (g:=cc) ?_ ?_
 ·refine AI o rfl (fun _ o=> ?_) (fun _ o=> ?_)
  ·obtain ⟨cd,ec,ce,⟨_,_,rfl,rfl,rfl⟩,cf⟩:=St.openR ab
   obtain rfl:r20=cd:=by simpa using ce
   refine AH cf rfl rfl fun ed cg=> ?_
   refine AH cg rfl rfl fun ee ch=> ?_
   have ci:=(((St.shutR (r:=CR) (x:=((0:Int),(0:Int))) ch ⟨[_],_,rfl,rfl,rfl⟩).at2).at2).at2
   obtain rfl:=iS o
   exact AM (()) rfl ⟨a5,((0:Int),(0:Int)),(Sub.refl _),rfl,ci⟩
  obtain rfl:=iS o
  exact AM (()) rfl ⟨a5,a9,(Sub.refl _),rfl,ab.at2.at2.at2⟩
 rintro z24 ef ⟨u,i,cj,rfl,w⟩
 try dsimp only at hd
 obtain ⟨ck,d,hd⟩:=bS hd
 refine AX (fun (y:Bool×Unit) w_ g=> ∃ψ:AC,Sub u ψ∧y.1=g∧St ψ (cO 77 (Rep.ro CR) (some ⟨r20,0,none⟩) i::cW 77 r19 [.int .i64 t18.1.1, .int .i64 t18.1.2.1] ::cW 32 r10 [.slice (some ⟨r2,0,none⟩) 2 2, .slice (some ⟨r3,0,none⟩) 1 1, .slice (some ⟨r7,0,none⟩) 2 2, .slice (some ⟨r4,0,none⟩) 2 2, .slice (some ⟨r8,0,none⟩) 4 4, .slice (some ⟨r9,0,none⟩) 2 2] ::F) w_) (g:=ck) ?_ ?_
 ·refine AI d rfl (fun _ d=> ?_) (fun _ d=> ?_)
  ·refine AA (x:=t18.1.1) w.at1 rfl ?_
   refine AA (x:=t18.1.2.1) w.at1 rfl ?_
   obtain ⟨cl,eg,cm,⟨_,_,rfl,rfl,rfl⟩,z⟩:=St.openR w
   obtain rfl:r20=cl:=by simpa using cm
   refine AA (x:=(i.1)) z rfl ?_
   refine AA (x:=(i.2)) z rfl ?_
   refine AI d rfl (fun _ d=> ?_) (fun _ d=> ?_)
   ·have cn:=St.shutR (r:=CR) (x:=((i.1),(i.2))) z ⟨[_],_,rfl,rfl,rfl⟩
    obtain rfl:=iS d
    exact AM ((!t18.2.1),()) rfl ⟨u,(Sub.refl _),rfl,cn.at2.at2.at2⟩
   have co:=(((St.shutR (r:=CR) (x:=((i.1),(i.2))) z ⟨[_],_,rfl,rfl,rfl⟩).at2).at2).at2
   obtain rfl:=iS d
   exact AM (false,()) rfl ⟨u,(Sub.refl _),rfl,co⟩
  obtain rfl:=iS d
  exact AM (false,()) rfl ⟨u,(Sub.refl _),rfl,w.at2.at2.at2⟩
 rintro z25 eh ⟨cp,cq,rfl,cr⟩
 try dsimp only at hd
 obtain rfl:=iS hd
 exact AB ⟨cp,z25.1,(((((((((((((((ae.trans ay).trans a6).trans a0).trans p).trans a1).trans q).trans k).trans j).trans f).trans bq).trans c0).trans c9).trans cb).trans cj).trans cq),rfl,rfl,cr.tail.tail.tail⟩
theorem Rs (p:BJ) (term s k:Int) (hs:0≤s):Ba p term s [k] =(Bg k).bind fun t=>(DU p term ((1:Int),s) t).bind fun t=>some t:=by
 unfold Ba
 have e1:((((List.length [k]):Nat):Int)==(0:Int))=false:=rfl
 have e2:((((List.length [k]):Nat):Int)==(1:Int))=true:=rfl
 have e3:decide (s< (0:Int))=false:=decide_eq_false (by omega)
 have e4:idx [k] (0:Int)=some k:=rfl
 simp only [e1,e2,e3,e4,cond_true,cond_false,Option.bind_some]
theorem PH {t r a s:Int} (ht:0≤t∧t<3) (hr:0≤r∧r<3) (ha:0≤a∧a<3) (hs:0≤s):
 (Ba (([{data:= #[36,101,110,100] },{data:= #[97] }] :List ByteArray),([{data:= #[83] }] :List ByteArray),([((3:Int),([(2:Int)] :List Int),(0:Int)),((2:Int),([(1:Int)] :List Int),(1:Int) +r)] :List BV),([(0:Int),(1:Int) +t] :List Int),([(0:Int),(1:Int) +a,(1:Int) +a,(1:Int) +a] :List Int),([{data:= #[] },{data:= #[] }] :List ByteArray)) (1:Int) s ([(1:Int)] :List Int))=
  some (if r=t∧a=2 then ((0:Int),(0:Int),false) else if t<r∨(r=t∧a=0) then ((2:Int),(1:Int),false) else ((1:Int),s,false)):=by
 rw [Rs _ _ _ _ hs]
 have h3: ∀x:Int,0≤x∧x<3→x=0∨x=1∨x=2:=fun x h=>by omega
 rcases h3 t ht with rfl | rfl | rfl<;>rcases h3 r hr with rfl | rfl | rfl<;>rcases h3 a ha with rfl | rfl | rfl<;>rfl
theorem tm3 {x:Int} (h:0≤x):0≤Int.tmod x 3∧Int.tmod x 3<3:=by
 rw [Int.tmod_eq_emod_of_nonneg h]
 omega
theorem PI {t r a s:Int} (ht:0≤t∧t<256) (hr:0≤r∧r<256) (ha:0≤a∧a<256) (hs:0≤s∧s<256):Bd t r a s=some true:=by
 refine Ok.eq ?_
 unfold Bd
 rw [w64 (n:=s) (by omega) (by omega),w64 (n:=r) (by omega) (by omega),w64 (n:=t) (by omega) (by omega),w64 (n:=a) (by omega) (by omega)]
 have t3:=tm3 ht.1
 have r3:=tm3 hr.1
 have a3:=tm3 ha.1
 generalize Int.tmod t 3=t' at *
 generalize Int.tmod r 3=r' at *
 generalize Int.tmod a 3=a' at *
 rw [w64 (n:=1+r') (by omega) (by omega),w64 (n:=1+t') (by omega) (by omega),w64 (n:=1+a') (by omega) (by omega)]
 have n3:(3:Int) ≠ 0:=by decide
 refine BG L8 (BE n3 (BE n3 (BE n3 (BE n3 (BE n3 (BG (PH t3 r3 a3 hs.1) ?_))))))
 refine Ae (Q:=fun c=>c=decide (t'<r'∨(r'=t'∧a'=0))) (BE n3 (BE n3 (Am (fun h=>AP ?_) fun h=>BE n3 (BE n3 (Am (fun h2=>BE n3 (AP ?_)) fun h2=>AP ?_))))) fun c hc=> ?_
 ·have:=of_decide_eq_true h
  exact (decide_eq_true (.inl (by omega))).symm
 ·have h1:=of_decide_eq_false h
  have h2:r'=t':=eq_of_beq h2
  rw [Bool.eq_iff_iff,beq_iff_eq,decide_eq_true_eq]
  omega
 ·have h1:=of_decide_eq_false h
  have h2:r' ≠ t':=by simpa using h2
  exact (decide_eq_false (by omega)).symm
 refine Ae (Q:=fun x=>x=if t'<r'∨(r'=t'∧a'=0) then ((2:Int),(1:Int)) else ((1:Int),s)) (Am (fun h=>AP ?_) fun h=>AP ?_) fun x hx=> ?_
 ·rw [hc,decide_eq_true_eq] at h; rw [if_pos h]
 ·rw [hc,decide_eq_false_iff_not] at h; rw [if_neg h]
 refine Ae (Q:=fun c=>c=decide (r'=t'∧a'=2)) (BE n3 (BE n3 (Am (fun h2=>BE n3 (AP ?_)) fun h2=>AP ?_))) fun c2 hc2=> ?_
 ·have h2:r'=t':=eq_of_beq h2
  rw [Bool.eq_iff_iff,beq_iff_eq,decide_eq_true_eq]
  exact ⟨fun h=>⟨h2,h⟩,fun h=>h.2⟩
 ·have h2:r' ≠ t':=by simpa using h2
  exact (decide_eq_false (by omega)).symm
 refine Ae (Q:=fun y=>y=if r'=t'∧a'=2 then ((0:Int),(0:Int)) else x) (Am (fun h=>AP ?_) fun h=>AP ?_) fun y hy=> ?_
 ·rw [hc2,decide_eq_true_eq] at h; rw [if_pos h]
 ·rw [hc2,decide_eq_false_iff_not] at h; rw [if_neg h]
 refine Ae (Q:=fun b=>b=true) (Cp rfl ?_) fun b hb=>AP hb
 subst hx
 by_cases h1:r'=t'∧a'=2
 ·rw [if_pos h1] at hy
  rw [if_pos h1]
  subst hy
  exact Cp rfl (AP rfl)
 ·rw [if_neg h1] at hy
  rw [if_neg h1]
  by_cases h2:t'<r'∨(r'=t'∧a'=0)
  ·rw [if_pos h2] at hy ⊢
   subst hy
   exact Cp rfl (AP rfl)
  ·rw [if_neg h2] at hy ⊢
   subst hy
   exact Cp (by simp) (AP rfl)
section
variable {h:AF}
theorem resolveAssocs {a b c d:Int} (gk:JX (BB h)) (ha:(Lit.int .u8 a).wf=true) (hb:(Lit.int .u8 b).wf=true) (hc:(Lit.int .u8 c).wf=true) (hd:(Lit.int .u8 d).wf=true):CallsH Tryz.prog 11 [.int .u8 a, .int .u8 b, .int .u8 c, .int .u8 d] h (Ai (PX h)):=
 Ny (Et gk (St.start h) (PI (wf8 ha) (wf8 hb) (wf8 hc) (wf8 hd)))
end
end Go.Proofs.YteolcjbobmpdiaaGreatDoor
