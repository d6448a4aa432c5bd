/-
  SimR, ResMin, SimV, Aw14, G3, G4, put together.
  Conditions: none; each part tells its own.
-/
import Derived.Test.YteolcjbobmpdiaaGreatDoorKr2
import Derived.Test.YteolcjbobmpdiaaGreatDoorKr3
import Derived.Test.YteolcjbobmpdiaaGreatDoorKr4
import Derived.KernelRfl
namespace Go.Proofs.YteolcjbobmpdiaaGreatDoor
open Go Go.Eng
set_option linter.unusedVariables false
set_option maxRecDepth 100000
theorem OG:MT Tryz.prog 60 4 (.bool false):=⟨Tryz.underlying60,⟨Tryz.t4,by kernel_rfl,rfl,⟨_,rfl,rfl⟩,by decide⟩⟩
noncomputable def BR (p_0:BJ):Option Int:=
 some (IntKind.wrap .i64 ((IntKind.wrap .i64 ((((List.length p_0.1):Nat):Int) +(((List.length p_0.2.1):Nat):Int))) +(1:Int)))
theorem Bm {φ:AC} {h:AF} {F:List Chk} {p_0:Pl6} {a:List ByteArray} {b:List ByteArray} {d:List BV} {e:List Int} {f:List Int} {g:List ByteArray} (i:Ro.SliceIs Ro.str φ p_0.1 a) (j:Ro.SliceIs Ro.str φ p_0.2.1 b) (n:Ro.SliceIs BS φ p_0.2.2.1 d) (o:Ro.SliceIs (Ro.int .i64) φ p_0.2.2.2.1 e) (p:Ro.SliceIs (Ro.int .i64) φ p_0.2.2.2.2.1 f) (q:Ro.SliceIs Ro.str φ p_0.2.2.2.2.2.1 g) (s0:St φ (F) h) {r:Int} (hd:BR (a,b,d,e,f,g)=some r):
 CallsH Tryz.prog 59 [(aG p_0)] h (Ai fun v h'=> ∃ψ:AC,∃y:Int,Sub φ ψ∧v=((.one aI):Sh).val y∧y=r∧St ψ (F) h'):=by
 refine AN mixed Tryz.func59 ?_
 rw [Hh]
 unfold FL
 unfold BR at hd
 have k:p_0.1.2.1=List.length a:=i.length
 have l:p_0.2.1.2.1=List.length b:=j.length
 refine AR (vs:= [sv p_0.1,sv p_0.2.1,sv p_0.2.2.1,sv p_0.2.2.2.1,sv p_0.2.2.2.2.1,sv p_0.2.2.2.2.2.1]) s0 fun r1 s c=> ?_
 refine AA (x:=p_0.1) c rfl ?_
 refine AA (x:=p_0.2.1) c rfl ?_
 obtain rfl:=iS hd
 have m:=c.tail
 exact AB ⟨φ,(IntKind.wrap .i64 ((IntKind.wrap .i64 (((p_0.1.2.1:Nat):Int) +((p_0.2.1.2.1:Nat):Int))) +(1:Int))),(Sub.refl _),rfl,(by rw [k,l]),m⟩
noncomputable def DQ (p_0:BJ):Option (List Bool):=
 (BR (p_0.1,p_0.2.1,p_0.2.2.1,p_0.2.2.2.1,p_0.2.2.2.2.1,p_0.2.2.2.2.2)).bind fun t8=>
 (Gq t8 false).bind fun t9=>
 (forS (σ:=List Bool) (0:Int) (((List.length p_0.1):Nat):Int) t9 fun i_z11 z11=>
  (EE z11 i_z11 true).bind fun m57=>
  some m57).bind fun z10=>
 (loop (σ:=(Bool×List Bool)) (β:=List Bool) (true,z10) fun z15=>
  cond z15.1
  ((forS (σ:=(Bool×List Bool)) (0:Int) (((List.length p_0.2.2.1):Nat):Int) (false,z15.2) fun i_z17 z17=>
   (loop (σ:=(Int×Bool)) (β:=Bool) ((0:Int),true) fun z20=>
    (idx p_0.2.2.1 i_z17).bind fun e128=>
    cond (decide (z20.1< (((List.length e128.2.1):Nat):Int)))
    ((cond z20.2
     ((idx p_0.2.2.1 i_z17).bind fun e146=>
      (idx e146.2.1 z20.1).bind fun e156=>
      (idx z17.2 e156).bind fun e159=>
      some e159)
     (some false)).bind fun z24=>
     some (AY.next ((IntKind.wrap .i64 (z20.1+(1:Int))),z24)))
    (some (AY.done z20.2))).bind fun z19=>
   (cond z19
   ((idx p_0.2.2.1 i_z17).bind fun e189=>
    (idx z17.2 e189.1).bind fun e199=>
    some (!e199))
   (some false)).bind fun z32=>
   (cond z32
   ((idx p_0.2.2.1 i_z17).bind fun e220=>
    (EE z17.2 e220.1 true).bind fun m240=>
    some (true,m240))
   (some (z17.1,z17.2))).bind fun z38=>
   some (z38.1,z38.2)).bind fun z16=>
   some (AY.next (z16.1,z16.2)))
  (some (AY.done z15.2))).bind fun z14=>
 some z14
theorem Hi {φ:AC} {h:AF} {F:List Chk} {p_0:Pl6} {a1:List ByteArray} {aa:List ByteArray} {a2:List BV} {ab:List Int} {ac:List Int} {ad:List ByteArray} (ae:Ro.SliceIs Ro.str φ p_0.1 a1) (b5:Ro.SliceIs Ro.str φ p_0.2.1 aa) (k:Ro.SliceIs BS φ p_0.2.2.1 a2) (b6:Ro.SliceIs (Ro.int .i64) φ p_0.2.2.2.1 ab) (b7:Ro.SliceIs (Ro.int .i64) φ p_0.2.2.2.2.1 ac) (b8:Ro.SliceIs Ro.str φ p_0.2.2.2.2.2.1 ad) (s0:St φ (F) h) {r:(List Bool)} (hd:DQ (a1,aa,a2,ab,ac,ad)=some r):
 CallsH Tryz.prog 57 [(aG p_0)] h (Ai fun v h'=> ∃ψ:AC,∃y:Slc,∃af:List Bool,Sub φ ψ∧v=((.one aS):Sh).val y∧af=r∧Ro.SliceIs Ro.bool ψ y af∧St ψ (F) h'):=by
 refine AN mixed Tryz.func57 ?_
 rw [Hg]
 unfold FK
 unfold DQ at hd
 have ag:p_0.1.2.1=List.length a1:=ae.length
 have ah:p_0.2.2.1.2.1=List.length a2:=k.length
 refine AR (vs:= [sv p_0.1,sv p_0.2.1,sv p_0.2.2.1,sv p_0.2.2.2.1,sv p_0.2.2.2.2.1,sv p_0.2.2.2.2.2.1]) s0 fun r1 ea j=> ?_
 refine AA (x:=p_0.1) j rfl ?_
 refine AA (x:=p_0.2.1) j rfl ?_
 refine AA (x:=p_0.2.2.1) j rfl ?_
 refine AA (x:=p_0.2.2.2.1) j rfl ?_
 refine AA (x:=p_0.2.2.2.2.1) j rfl ?_
 refine AA (x:=p_0.2.2.2.2.2.1) j rfl ?_
 obtain ⟨eb,b9,hd⟩:=bS hd
 refine AJ (Bm (p_0:=(p_0.1,p_0.2.1,p_0.2.2.1,p_0.2.2.2.1,p_0.2.2.2.2.1,p_0.2.2.2.2.2.1,())) ae b5 k b6 b7 b8 j b9) ?_
 rintro _ ec ⟨a3,t8,m,rfl,rfl,ba⟩
 refine ⟨t8,rfl,?_⟩
 obtain ⟨bb,bc,hd⟩:=bS hd
 refine IQ (r:=Ro.bool) (x:=false) OG ba rfl rfl bc ?_
 intro t9 ed bd
 obtain ⟨be,bf,hd⟩:=bS hd
 refine AS (fun (y:Int×Unit) w_ g=> ∃ψ:AC,∃ai:List Bool,Sub a3 ψ∧ai=g∧St ψ (cR 4 Ro.bool t9 ai::Wq2 r1 p_0::F) w_) (g:=be) ?_ ?_
 ·refine Ax bf (fun bg (y:Int×Unit) w_ g=> ∃ψ:AC,∃aj:List Bool,Sub a3 ψ∧y.1=bg∧aj=g∧St ψ (cR 4 Ro.bool t9 aj::Wq2 r1 p_0::F) w_) ((0:Int),()) rfl ⟨a3,bb,(Sub.refl _),rfl,rfl,bd.at1.at1⟩ ?_ ?_
  ·rintro _ z11 ee _ _ ⟨bh,ef,bi,rfl,rfl,a4⟩ u bj ak al
   try dsimp only at u bj ak al
   refine AA (x:=p_0.1) a4.at1 rfl ?_
   refine Ad (dT ag ak) ?_
   obtain ⟨bk,am,u⟩:=bS u
   obtain ⟨eg,an,bl⟩:=a4.there am
   refine AG _ an (Aa bl (Ho a4 am rfl an ?_))
   intro eh bm
   obtain rfl:=iS u
   exact Ac ((wN z11.1),()) _ rfl rfl ⟨bh,bk,bi,al,rfl,bm.at1.at1⟩
  ·rintro _ z11 ei ⟨bn,bo,bp,rfl,rfl,ao⟩ bq
   refine AA (x:=p_0.1) ao.at1 rfl ?_
   refine AU (dF ag bq) ?_
   exact AL (AO (z11.1,()) rfl ⟨bn,bo,bp,rfl,ao.at1.at1⟩)
 rintro z10 ej ⟨a5,br,n,rfl,bs⟩
 try dsimp only at hd
 obtain ⟨bt,bu,hd⟩:=bS hd
 refine AS (fun (y:Bool×Unit) w_ g=> ∃ψ:AC,∃ap:List Bool,Sub a5 ψ∧ap=g∧St ψ (cR 4 Ro.bool t9 ap::Wq2 r1 p_0::F) w_) (g:=bt) ?_ ?_
 ·refine Ej bu (fun (y:Bool×Unit) w_ g=> ∃ψ:AC,∃aq:List Bool,Sub a5 ψ∧(y.1,aq)=g∧St ψ (cR 4 Ro.bool t9 aq::Wq2 r1 p_0::F) w_) (true,()) rfl ⟨a5,br,(Sub.refl _),rfl,bs.at1.at1⟩ ?_
  ·rintro z15 ek _ _ ⟨w,ar,l,rfl,au⟩ d bv
   try dsimp only at d
   refine AI d rfl (fun _ d=> ?_) (fun _ d=> ?_)
   ·have bw:=au.at1
    obtain ⟨bx,bz,d⟩:=bS d
    refine AS (fun (y:Int×Bool×Unit) w_ g=> ∃ψ:AC,∃av:List Bool,Sub w ψ∧(y.2.1,av)=g∧St ψ (cR 4 Ro.bool t9 av::Wq2 r1 p_0::F) w_) (g:=bx) ?_ ?_
    ·refine Ax bz (fun c0 (y:Int×Bool×Unit) w_ g=> ∃ψ:AC,∃aw:List Bool,Sub w ψ∧y.1=c0∧(y.2.1,aw)=g∧St ψ (cR 4 Ro.bool t9 aw::Wq2 r1 p_0::F) w_) ((0:Int),false,()) rfl ⟨w,ar,(Sub.refl _),rfl,rfl,bw.at1⟩ ?_ ?_
     ·rintro _ z17 el _ _ ⟨a6,o,p,rfl,rfl,ax⟩ a c1 ay az
      try dsimp only at a c1 ay az
      refine AA (x:=p_0.2.2.1) ax.at1 rfl ?_
      refine Ad (dT ah ay) ?_
      obtain ⟨c2,c3,a⟩:=bS a
      refine AS (fun (y:Int×Bool×Unit) w_ g=> ∃ψ:AC,Sub a6 ψ∧y.2.1=g∧St ψ (cR 4 Ro.bool t9 o::Wq2 r1 p_0::F) w_) (g:=c2) ?_ ?_
      ·refine Ej c3 (fun (y:Int×Bool×Unit) w_ g=> ∃ψ:AC,Sub a6 ψ∧(y.1,y.2.1)=g∧St ψ (cR 4 Ro.bool t9 o::Wq2 r1 p_0::F) w_) ((0:Int),true,()) rfl ⟨a6,(Sub.refl _),rfl,ax.at1.at1⟩ ?_
       ·rintro z20 em _ _ ⟨z,a0,rfl,e⟩ b c4
        try dsimp only at b
        refine AA (x:=p_0.2.2.1) e.at1 rfl ?_
        obtain ⟨en,c5,b⟩:=bS b
        obtain ⟨eo,ep,c6,c7,c8,c9⟩:=(k.mono ((((m.trans n).trans l).trans p).trans a0)).get c5
        refine AG _ c6 (Aa c7 ?_)
        obtain ⟨_,_,rfl,ca,cb⟩:=c8
        obtain rfl:=ca
        obtain ⟨_,_,rfl,cc,cd⟩:=cb
        obtain ⟨ce,rfl,cf⟩:=cc
        have cg:=cf.length
        obtain rfl:=cd
        refine AE (x:=ce) (by rw [AV]; exact (AD e.sub (c9 1 _ rfl))) rfl ?_
        refine AI b (by rw [cg] <;>rfl) (fun _ b=> ?_) (fun _ b=> ?_)
        ·obtain ⟨ch,c,b⟩:=bS b
         refine AX (fun (y:Bool×Unit) w_ g=> ∃ψ:AC,Sub z ψ∧y.1=g∧St ψ (cR 4 Ro.bool t9 o::Wq2 r1 p_0::F) w_) (g:=ch) ?_ ?_
         ·refine AI c rfl (fun _ c=> ?_) (fun _ c=> ?_)
          ·refine AA (x:=p_0.2.2.1) e.at1 rfl ?_
           obtain ⟨er,ci,c⟩:=bS c
           obtain ⟨es,eu,cj,ck,cl,cm⟩:=(k.mono ((((m.trans n).trans l).trans p).trans a0)).get ci
           refine AG _ cj (Aa ck ?_)
           obtain ⟨_,_,rfl,cn,co⟩:=cl
           obtain rfl:=cn
           obtain ⟨_,_,rfl,cp,cq⟩:=co
           obtain ⟨cr,rfl,cs⟩:=cp
           obtain rfl:=cq
           refine AE (x:=cr) (by rw [AV]; exact (AD e.sub (cm 1 _ rfl))) rfl ?_
           obtain ⟨ev,ct,c⟩:=bS c
           refine CB cs ct e.sub ?_
           obtain ⟨cu,cv,c⟩:=bS c
           refine IT e cv ?_
           obtain rfl:=iS c
           exact AM (cu,()) rfl ⟨z,(Sub.refl _),rfl,e.at1.at1⟩
          obtain rfl:=iS c
          exact AM (false,()) rfl ⟨z,(Sub.refl _),rfl,e.at1.at1⟩
         rintro z24 ew ⟨cw,cx,rfl,cy⟩
         try dsimp only at b
         obtain rfl:=iS b
         exact Ac ((wN z20.1),z24.1,()) _ rfl rfl ⟨cw,(a0.trans cx),rfl,cy.at1.at1⟩
        obtain rfl:=iS b
        obtain rfl:=c4 _ rfl
        exact AL (AO (z20.1,z20.2.1,()) rfl ⟨z,a0,rfl,e.at1.at1⟩)
      rintro z19 ex ⟨a7,a8,rfl,q⟩
      try dsimp only at a
      obtain ⟨cz,f,a⟩:=bS a
      refine AX (fun (y:Bool×Unit) w_ g=> ∃ψ:AC,Sub a7 ψ∧y.1=g∧St ψ (cR 4 Ro.bool t9 o::Wq2 r1 p_0::F) w_) (g:=cz) ?_ ?_
      ·refine AI f rfl (fun _ f=> ?_) (fun _ f=> ?_)
       ·refine AA (x:=p_0.2.2.1) q.at1 rfl ?_
        obtain ⟨d0,d1,f⟩:=bS f
        obtain ⟨ey,ez,d2,d3,d4,d5⟩:=(k.mono ((((m.trans n).trans l).trans p).trans a8)).get d1
        refine AG _ d2 (Aa d3 ?_)
        obtain ⟨_,_,rfl,d6,d7⟩:=d4
        obtain rfl:=d6
        obtain ⟨_,_,rfl,d8,d9⟩:=d7
        obtain ⟨f0,rfl,f1⟩:=d8
        obtain rfl:=d9
        refine AE (x:=d0.1) (AD q.sub (d5 0 _ rfl)) rfl ?_
        obtain ⟨da,db,f⟩:=bS f
        refine IT q db ?_
        obtain rfl:=iS f
        exact AM ((!da),()) rfl ⟨a7,(Sub.refl _),rfl,q.at1.at1⟩
       obtain rfl:=iS f
       exact AM (false,()) rfl ⟨a7,(Sub.refl _),rfl,q.at1.at1⟩
      rintro z32 f2 ⟨a9,b0,rfl,s⟩
      try dsimp only at a
      obtain ⟨dc,i,a⟩:=bS a
      refine AX (fun (y:Bool×Unit) w_ g=> ∃ψ:AC,∃b1:List Bool,Sub a9 ψ∧(y.1,b1)=g∧St ψ (cR 4 Ro.bool t9 b1::Wq2 r1 p_0::F) w_) (g:=dc) ?_ ?_
      ·refine AI i rfl (fun _ i=> ?_) (fun _ i=> ?_)
       ·refine AA (x:=p_0.2.2.1) s.at1 rfl ?_
        obtain ⟨dd,de,i⟩:=bS i
        obtain ⟨f3,f4,df,dg,dh,di⟩:=(k.mono (((((m.trans n).trans l).trans p).trans a8).trans b0)).get de
        refine AG _ df (Aa dg ?_)
        obtain ⟨_,_,rfl,dj,dk⟩:=dh
        obtain rfl:=dj
        obtain ⟨_,_,rfl,dl,dm⟩:=dk
        obtain ⟨f5,rfl,f6⟩:=dl
        obtain rfl:=dm
        refine AE (x:=dd.1) (AD s.sub (di 0 _ rfl)) rfl ?_
        obtain ⟨dn,b2,i⟩:=bS i
        obtain ⟨f7,b3,dp⟩:=s.there b2
        refine AG _ b3 (Aa dp (Ho s b2 rfl b3 ?_))
        intro f8 dq
        obtain rfl:=iS i
        exact AM (true,()) rfl ⟨a9,dn,(Sub.refl _),rfl,dq.at1.at1⟩
       obtain rfl:=iS i
       exact AM (z17.2.1,()) rfl ⟨a9,o,(Sub.refl _),rfl,s.at1.at1⟩
      rintro z38 f9 ⟨dr,ds,dt,rfl,du⟩
      try dsimp only at a
      obtain rfl:=iS a
      exact Ac ((wN z17.1),z38.1,()) _ rfl rfl ⟨dr,ds,(((p.trans a8).trans b0).trans dt),az,rfl,du.at1.at1⟩
     ·rintro _ z17 fa ⟨dv,dw,dx,rfl,rfl,b4⟩ dy
      refine AA (x:=p_0.2.2.1) b4.at1 rfl ?_
      refine AU (dF ah dy) ?_
      exact AL (AO (z17.1,z17.2.1,()) rfl ⟨dv,dw,dx,rfl,b4.at1.at1⟩)
    rintro z16 fb ⟨dz,e0,e1,rfl,e2⟩
    try dsimp only at d
    obtain rfl:=iS d
    exact Ac (z16.2.1,()) _ rfl rfl ⟨dz,e0,(l.trans e1),rfl,e2.at1.at1⟩
   obtain rfl:=iS d
   obtain rfl:=bv _ rfl
   exact AL (AO (z15.1,()) rfl ⟨w,ar,l,rfl,au.at1.at1⟩)
 rintro z14 fc ⟨fd,e3,e4,rfl,e5⟩
 try dsimp only at hd
 obtain ⟨e6,e7,e8,e9⟩:=St.freezeRow (t:=t9) e5
 obtain rfl:=iS hd
 exact AB ⟨e6,t9,e3,(((m.trans n).trans e4).trans e7),rfl,rfl,e8,e9.tail⟩
noncomputable def Dd (p_0:BJ):Option (List Bool):=
 (BR (p_0.1,p_0.2.1,p_0.2.2.1,p_0.2.2.2.1,p_0.2.2.2.2.1,p_0.2.2.2.2.2)).bind fun t8=>
 (Gq t8 false).bind fun t9=>
 (BR (p_0.1,p_0.2.1,p_0.2.2.1,p_0.2.2.2.1,p_0.2.2.2.2.1,p_0.2.2.2.2.2)).bind fun t16=>
 (EE t9 (IntKind.wrap .i64 (t16 - (1:Int))) true).bind fun m45=>
 (loop (σ:=(Bool×List Bool)) (β:=List Bool) (true,m45) fun z19=>
  cond z19.1
  ((forS (σ:=(Bool×List Bool)) (0:Int) (((List.length p_0.2.2.1):Nat):Int) (false,z19.2) fun i_z21 z21=>
   (loop (σ:=(Int×Bool×List Bool)) (β:=(Bool×List Bool)) ((0:Int),z21.1,z21.2) fun z24=>
    (idx p_0.2.2.1 i_z21).bind fun e101=>
    cond (decide (z24.1< (((List.length e101.2.1):Nat):Int)))
    (((idx p_0.2.2.1 i_z21).bind fun e119=>
     (idx z24.2.2 e119.1).bind fun e129=>
     cond e129
     ((idx p_0.2.2.1 i_z21).bind fun e138=>
      (idx e138.2.1 z24.1).bind fun e148=>
      (idx z24.2.2 e148).bind fun e151=>
      some (!e151))
     (some false)).bind fun z28=>
     (cond z28
     ((idx p_0.2.2.1 i_z21).bind fun e172=>
      (idx e172.2.1 z24.1).bind fun e182=>
      (EE z24.2.2 e182 true).bind fun m195=>
      some (true,m195))
     (some (z24.2.1,z24.2.2))).bind fun z41=>
     some (AY.next ((IntKind.wrap .i64 (z24.1+(1:Int))),z41.1,z41.2)))
    (some (AY.done (z24.2.1,z24.2.2)))).bind fun z23=>
   some (z23.1,z23.2)).bind fun z20=>
   some (AY.next (z20.1,z20.2)))
  (some (AY.done z19.2))).bind fun z18=>
 some z18
theorem IA {φ:AC} {h:AF} {F:List Chk} {p_0:Pl6} {a3:List ByteArray} {a4:List ByteArray} {w:List BV} {a5:List Int} {a6:List Int} {a7:List ByteArray} (a8:Ro.SliceIs Ro.str φ p_0.1 a3) (a9:Ro.SliceIs Ro.str φ p_0.2.1 a4) (i:Ro.SliceIs BS φ p_0.2.2.1 w) (aa:Ro.SliceIs (Ro.int .i64) φ p_0.2.2.2.1 a5) (ab:Ro.SliceIs (Ro.int .i64) φ p_0.2.2.2.2.1 a6) (ac:Ro.SliceIs Ro.str φ p_0.2.2.2.2.2.1 a7) (s0:St φ (F) h) {r:(List Bool)} (hd:Dd (a3,a4,w,a5,a6,a7)=some r):
 CallsH Tryz.prog 58 [(aG p_0)] h (Ai fun v h'=> ∃ψ:AC,∃y:Slc,∃ad:List Bool,Sub φ ψ∧v=((.one aS):Sh).val y∧ad=r∧Ro.SliceIs Ro.bool ψ y ad∧St ψ (F) h'):=by
 refine AN mixed Tryz.func58 ?_
 rw [H9]
 unfold FY
 unfold Dd at hd
 have ae:p_0.2.2.1.2.1=List.length w:=i.length
 refine AR (vs:= [sv p_0.1,sv p_0.2.1,sv p_0.2.2.1,sv p_0.2.2.2.1,sv p_0.2.2.2.2.1,sv p_0.2.2.2.2.2.1]) s0 fun r1 dq j=> ?_
 refine AA (x:=p_0.1) j rfl ?_
 refine AA (x:=p_0.2.1) j rfl ?_
 refine AA (x:=p_0.2.2.1) j rfl ?_
 refine AA (x:=p_0.2.2.2.1) j rfl ?_
 refine AA (x:=p_0.2.2.2.2.1) j rfl ?_
 refine AA (x:=p_0.2.2.2.2.2.1) j rfl ?_
 obtain ⟨dr,b0,hd⟩:=bS hd
 refine AJ (Bm (p_0:=(p_0.1,p_0.2.1,p_0.2.2.1,p_0.2.2.2.1,p_0.2.2.2.2.1,p_0.2.2.2.2.2.1,())) a8 a9 i aa ab ac j b0) ?_
 rintro _ ds ⟨dt,t8,d,rfl,rfl,b1⟩
 refine ⟨t8,rfl,?_⟩
 obtain ⟨du,b2,hd⟩:=bS hd
 refine IQ (r:=Ro.bool) (x:=false) OG b1 rfl rfl b2 ?_
 intro t9 dv k
 refine AA (x:=p_0.1) k.at1 rfl ?_
 refine AA (x:=p_0.2.1) k.at1 rfl ?_
 refine AA (x:=p_0.2.2.1) k.at1 rfl ?_
 refine AA (x:=p_0.2.2.2.1) k.at1 rfl ?_
 refine AA (x:=p_0.2.2.2.2.1) k.at1 rfl ?_
 refine AA (x:=p_0.2.2.2.2.2.1) k.at1 rfl ?_
 obtain ⟨dw,b3,hd⟩:=bS hd
 refine AJ (Bm (p_0:=(p_0.1,p_0.2.1,p_0.2.2.1,p_0.2.2.2.1,p_0.2.2.2.2.1,p_0.2.2.2.2.2.1,())) (a8.mono d) (a9.mono d) (i.mono d) (aa.mono d) (ab.mono d) (ac.mono d) k b3) ?_
 rintro _ dx ⟨z,t16,o,rfl,rfl,af⟩
 refine ⟨t16,rfl,?_⟩
 obtain ⟨b4,ag,hd⟩:=bS hd
 obtain ⟨dy,ah,b5⟩:=af.there ag
 refine AG _ ah (Aa b5 (Ho af ag rfl ah ?_))
 intro dz b6
 obtain ⟨b7,b8,hd⟩:=bS hd
 refine AS (fun (y:Bool×Unit) w_ g=> ∃ψ:AC,∃ai:List Bool,Sub z ψ∧ai=g∧St ψ (cR 4 Ro.bool t9 ai::Wq2 r1 p_0::F) w_) (g:=b7) ?_ ?_
 ·refine Ej b8 (fun (y:Bool×Unit) w_ g=> ∃ψ:AC,∃aj:List Bool,Sub z ψ∧(y.1,aj)=g∧St ψ (cR 4 Ro.bool t9 aj::Wq2 r1 p_0::F) w_) (true,()) rfl ⟨z,b4,(Sub.refl _),rfl,b6.at1.at1⟩ ?_
  ·rintro z19 e0 _ _ ⟨s,ak,l,rfl,al⟩ f b9
   try dsimp only at f
   refine AI f rfl (fun _ f=> ?_) (fun _ f=> ?_)
   ·have ba:=al.at1
    obtain ⟨bb,bc,f⟩:=bS f
    refine AS (fun (y:Int×Bool×Unit) w_ g=> ∃ψ:AC,∃am:List Bool,Sub s ψ∧(y.2.1,am)=g∧St ψ (cR 4 Ro.bool t9 am::Wq2 r1 p_0::F) w_) (g:=bb) ?_ ?_
    ·refine Ax bc (fun bd (y:Int×Bool×Unit) w_ g=> ∃ψ:AC,∃an:List Bool,Sub s ψ∧y.1=bd∧(y.2.1,an)=g∧St ψ (cR 4 Ro.bool t9 an::Wq2 r1 p_0::F) w_) ((0:Int),false,()) rfl ⟨s,ak,(Sub.refl _),rfl,rfl,ba.at1⟩ ?_ ?_
     ·rintro _ z21 e1 _ _ ⟨a0,be,p,rfl,rfl,ao⟩ q bf ap aq
      try dsimp only at q bf ap aq
      refine AA (x:=p_0.2.2.1) ao.at1 rfl ?_
      refine Ad (dT ae ap) ?_
      obtain ⟨bg,bh,q⟩:=bS q
      refine AS (fun (y:Int×Bool×Unit) w_ g=> ∃ψ:AC,∃ar:List Bool,Sub a0 ψ∧(y.2.1,ar)=g∧St ψ (cR 4 Ro.bool t9 ar::Wq2 r1 p_0::F) w_) (g:=bg) ?_ ?_
      ·refine Ej bh (fun (y:Int×Bool×Unit) w_ g=> ∃ψ:AC,∃au:List Bool,Sub a0 ψ∧(y.1,y.2.1,au)=g∧St ψ (cR 4 Ro.bool t9 au::Wq2 r1 p_0::F) w_) ((0:Int),z21.2.1,()) rfl ⟨a0,be,(Sub.refl _),rfl,ao.at1.at1⟩ ?_
       ·rintro z24 e2 _ _ ⟨u,a1,m,rfl,c⟩ b bi
        try dsimp only at b
        refine AA (x:=p_0.2.2.1) c.at1 rfl ?_
        obtain ⟨e3,bj,b⟩:=bS b
        obtain ⟨e4,e5,bk,bl,bm,bn⟩:=(i.mono ((((d.trans o).trans l).trans p).trans m)).get bj
        refine AG _ bk (Aa bl ?_)
        obtain ⟨_,_,rfl,bo,bp⟩:=bm
        obtain rfl:=bo
        obtain ⟨_,_,rfl,bq,br⟩:=bp
        obtain ⟨bs,rfl,bt⟩:=bq
        have bu:=bt.length
        obtain rfl:=br
        refine AE (x:=bs) (by rw [AV]; exact (AD c.sub (bn 1 _ rfl))) rfl ?_
        refine AI b (by rw [bu] <;>rfl) (fun _ b=> ?_) (fun _ b=> ?_)
        ·obtain ⟨bv,a,b⟩:=bS b
         refine AX (fun (y:Bool×Unit) w_ g=> ∃ψ:AC,Sub u ψ∧y.1=g∧St ψ (cR 4 Ro.bool t9 a1::Wq2 r1 p_0::F) w_) (g:=bv) ?_ ?_
         ·refine AA (x:=p_0.2.2.1) c.at1 rfl ?_
          obtain ⟨bw,bx,a⟩:=bS a
          obtain ⟨e6,e7,bz,c0,c1,c2⟩:=(i.mono ((((d.trans o).trans l).trans p).trans m)).get bx
          refine AG _ bz (Aa c0 ?_)
          obtain ⟨_,_,rfl,c3,c4⟩:=c1
          obtain rfl:=c3
          obtain ⟨_,_,rfl,c5,c6⟩:=c4
          obtain ⟨e8,rfl,e9⟩:=c5
          obtain rfl:=c6
          refine AE (x:=bw.1) (AD c.sub (c2 0 _ rfl)) rfl ?_
          obtain ⟨ea,c7,a⟩:=bS a
          refine IT c c7 ?_
          refine AI a rfl (fun _ a=> ?_) (fun _ a=> ?_)
          ·refine AA (x:=p_0.2.2.1) c.at1 rfl ?_
           obtain ⟨eb,c8,a⟩:=bS a
           obtain ⟨ec,ed,c9,ca,cb,cc⟩:=(i.mono ((((d.trans o).trans l).trans p).trans m)).get c8
           refine AG _ c9 (Aa ca ?_)
           obtain ⟨_,_,rfl,cd,ce⟩:=cb
           obtain rfl:=cd
           obtain ⟨_,_,rfl,cf,cg⟩:=ce
           obtain ⟨ch,rfl,ci⟩:=cf
           obtain rfl:=cg
           refine AE (x:=ch) (by rw [AV]; exact (AD c.sub (cc 1 _ rfl))) rfl ?_
           obtain ⟨ee,cj,a⟩:=bS a
           refine CB ci cj c.sub ?_
           obtain ⟨ck,cl,a⟩:=bS a
           refine IT c cl ?_
           obtain rfl:=iS a
           exact AM ((!ck),()) rfl ⟨u,(Sub.refl _),rfl,c.at1.at1⟩
          obtain rfl:=iS a
          exact AM (false,()) rfl ⟨u,(Sub.refl _),rfl,c.at1.at1⟩
         rintro z28 ef ⟨a2,av,rfl,n⟩
         try dsimp only at b
         obtain ⟨cm,e,b⟩:=bS b
         refine AX (fun (y:Bool×Unit) w_ g=> ∃ψ:AC,∃aw:List Bool,Sub a2 ψ∧(y.1,aw)=g∧St ψ (cR 4 Ro.bool t9 aw::Wq2 r1 p_0::F) w_) (g:=cm) ?_ ?_
         ·refine AI e rfl (fun _ e=> ?_) (fun _ e=> ?_)
          ·refine AA (x:=p_0.2.2.1) n.at1 rfl ?_
           obtain ⟨eg,cn,e⟩:=bS e
           obtain ⟨eh,ei,co,cp,cq,cr⟩:=(i.mono (((((d.trans o).trans l).trans p).trans m).trans av)).get cn
           refine AG _ co (Aa cp ?_)
           obtain ⟨_,_,rfl,cs,ct⟩:=cq
           obtain rfl:=cs
           obtain ⟨_,_,rfl,cu,cv⟩:=ct
           obtain ⟨cw,rfl,cx⟩:=cu
           obtain rfl:=cv
           refine AE (x:=cw) (by rw [AV]; exact (AD n.sub (cr 1 _ rfl))) rfl ?_
           obtain ⟨ej,cy,e⟩:=bS e
           refine CB cx cy n.sub ?_
           obtain ⟨cz,ax,e⟩:=bS e
           obtain ⟨ek,ay,d0⟩:=n.there ax
           refine AG _ ay (Aa d0 (Ho n ax rfl ay ?_))
           intro el d1
           obtain rfl:=iS e
           exact AM (true,()) rfl ⟨a2,cz,(Sub.refl _),rfl,d1.at1.at1⟩
          obtain rfl:=iS e
          exact AM (z24.2.1,()) rfl ⟨a2,a1,(Sub.refl _),rfl,n.at1.at1⟩
         rintro z41 em ⟨d2,d3,d4,rfl,d5⟩
         try dsimp only at b
         obtain rfl:=iS b
         exact Ac ((wN z24.1),z41.1,()) _ rfl rfl ⟨d2,d3,((m.trans av).trans d4),rfl,d5.at1.at1⟩
        obtain rfl:=iS b
        obtain rfl:=bi _ rfl
        exact AL (AO (z24.1,z24.2.1,()) rfl ⟨u,a1,m,rfl,c.at1.at1⟩)
      rintro z23 en ⟨d6,d7,d8,rfl,d9⟩
      try dsimp only at q
      obtain rfl:=iS q
      exact Ac ((wN z21.1),z23.2.1,()) _ rfl rfl ⟨d6,d7,(p.trans d8),aq,rfl,d9.at1.at1⟩
     ·rintro _ z21 eo ⟨da,db,dc,rfl,rfl,az⟩ dd
      refine AA (x:=p_0.2.2.1) az.at1 rfl ?_
      refine AU (dF ae dd) ?_
      exact AL (AO (z21.1,z21.2.1,()) rfl ⟨da,db,dc,rfl,az.at1.at1⟩)
    rintro z20 ep ⟨de,df,dg,rfl,dh⟩
    try dsimp only at f
    obtain rfl:=iS f
    exact Ac (z20.2.1,()) _ rfl rfl ⟨de,df,(l.trans dg),rfl,dh.at1.at1⟩
   obtain rfl:=iS f
   obtain rfl:=b9 _ rfl
   exact AL (AO (z19.1,()) rfl ⟨s,ak,l,rfl,al.at1.at1⟩)
 rintro z18 er ⟨es,di,dj,rfl,dk⟩
 try dsimp only at hd
 obtain ⟨dl,dm,dn,dp⟩:=St.freezeRow (t:=t9) dk
 obtain rfl:=iS hd
 exact AB ⟨dl,t9,di,(((d.trans o).trans dj).trans dm),rfl,rfl,dn,dp.tail⟩
noncomputable def DR (p_0:BJ):Option (Int×Int):=
 (DQ (p_0.1,p_0.2.1,p_0.2.2.1,p_0.2.2.2.1,p_0.2.2.2.2.1,p_0.2.2.2.2.2)).bind fun t8=>
 (Dd (p_0.1,p_0.2.1,p_0.2.2.1,p_0.2.2.2.1,p_0.2.2.2.2.1,p_0.2.2.2.2.2)).bind fun t15=>
 (loop (σ:=Int) (β:=AY Unit (Int×Int)) (((List.length p_0.1):Nat):Int) fun z18=>
  (BR (p_0.1,p_0.2.1,p_0.2.2.1,p_0.2.2.2.1,p_0.2.2.2.2.1,p_0.2.2.2.2.2)).bind fun t25=>
  cond (decide (z18< (IntKind.wrap .i64 (t25 - (1:Int)))))
  ((idx t8 z18).bind fun e49=>
   cond (!e49)
   (some (AY.done (AY.done (z18,(18:Int)))))
   (some (AY.next (IntKind.wrap .i64 (z18+(1:Int))))))
  (some (AY.done (AY.next ())))).bind fun e_z17=>match e_z17 with
 | .next z17=>
  (loop (σ:=Int) (β:=AY Unit (Int×Int)) (((List.length p_0.1):Nat):Int) fun z30=>
   (BR (p_0.1,p_0.2.1,p_0.2.2.1,p_0.2.2.2.1,p_0.2.2.2.2.1,p_0.2.2.2.2.2)).bind fun t37=>
   cond (decide (z30< (IntKind.wrap .i64 (t37 - (1:Int)))))
   ((idx t15 z30).bind fun e74=>
    cond (!e74)
    (some (AY.done (AY.done (z30,(17:Int)))))
    (some (AY.next (IntKind.wrap .i64 (z30+(1:Int))))))
   (some (AY.done (AY.next ())))).bind fun e_z29=>match e_z29 with
  | .next z29=>
   some ((0:Int),(0:Int))
  | .done q84=>some q84
 | .done q85=>some q85
theorem Hk {φ:AC} {h:AF} {F:List Chk} {p_0:Pl6} {a1:List ByteArray} {a6:List ByteArray} {a7:List BV} {a8:List Int} {a9:List Int} {aa:List ByteArray} (n:Ro.SliceIs Ro.str φ p_0.1 a1) (o:Ro.SliceIs Ro.str φ p_0.2.1 a6) (p:Ro.SliceIs BS φ p_0.2.2.1 a7) (q:Ro.SliceIs (Ro.int .i64) φ p_0.2.2.2.1 a8) (s:Ro.SliceIs (Ro.int .i64) φ p_0.2.2.2.2.1 a9) (t:Ro.SliceIs Ro.str φ p_0.2.2.2.2.2.1 aa) (s0:St φ (F) h) {r:(Int×Int)} (hd:DR (a1,a6,a7,a8,a9,aa)=some r):
 CallsH Tryz.prog 16 [(aG p_0)] h (Ai fun v h'=> ∃ψ:AC,∃y:Int×Int×Unit,Sub φ ψ∧v=((.tuple [aI,aI]):Sh).val y∧(y.1,y.2.1)=r∧St ψ (F) h'):=by
 refine AN mixed Tryz.func16 ?_
 rw [Hf]
 unfold FJ
 unfold DR at hd
 have ab:p_0.1.2.1=List.length a1:=n.length
 refine AR (vs:= [sv p_0.1,sv p_0.2.1,sv p_0.2.2.1,sv p_0.2.2.2.1,sv p_0.2.2.2.2.1,sv p_0.2.2.2.2.2.1]) s0 fun r1 ax j=> ?_
 refine AA (x:=p_0.1) j rfl ?_
 refine AA (x:=p_0.2.1) j rfl ?_
 refine AA (x:=p_0.2.2.1) j rfl ?_
 refine AA (x:=p_0.2.2.2.1) j rfl ?_
 refine AA (x:=p_0.2.2.2.2.1) j rfl ?_
 refine AA (x:=p_0.2.2.2.2.2.1) j rfl ?_
 obtain ⟨ay,ag,hd⟩:=bS hd
 refine AJ (Hi (p_0:=(p_0.1,p_0.2.1,p_0.2.2.1,p_0.2.2.2.1,p_0.2.2.2.2.1,p_0.2.2.2.2.2.1,())) n o p q s t j ag) ?_
 rintro _ az ⟨b0,t8,b1,a,rfl,rfl,ah,k⟩
 refine ⟨t8,rfl,?_⟩
 refine AA (x:=p_0.1) k rfl ?_
 refine AA (x:=p_0.2.1) k rfl ?_
 refine AA (x:=p_0.2.2.1) k rfl ?_
 refine AA (x:=p_0.2.2.2.1) k rfl ?_
 refine AA (x:=p_0.2.2.2.2.1) k rfl ?_
 refine AA (x:=p_0.2.2.2.2.2.1) k rfl ?_
 obtain ⟨b2,ai,hd⟩:=bS hd
 refine AJ (IA (p_0:=(p_0.1,p_0.2.1,p_0.2.2.1,p_0.2.2.2.1,p_0.2.2.2.2.1,p_0.2.2.2.2.2.1,())) (n.mono a) (o.mono a) (p.mono a) (q.mono a) (s.mono a) (t.mono a) k ai) ?_
 rintro _ b3 ⟨a2,t15,b4,b,rfl,rfl,aj,ac⟩
 refine ⟨t15,rfl,?_⟩
 refine AA (x:=p_0.1) ac rfl ?_
 obtain ⟨ak,al,hd⟩:=bS hd
 refine AS (fun (y:Int×Int×Int×Unit) w_ g=> ∃ψ:AC,Sub a2 ψ∧AY.next ()=g∧St ψ (Wq2 r1 p_0::F) w_) (g:=ak) ?_ ?_
 ·refine Ej al (fun (y:Int×Int×Int×Unit) w_ g=> ∃ψ:AC,Sub a2 ψ∧y.1=g∧St ψ (Wq2 r1 p_0::F) w_) (((p_0.1.2.1:Nat):Int),(0:Int),(0:Int),()) rfl ⟨a2,(Sub.refl _),(by rw [ab]),ac⟩ ?_
  ·rintro z18 b5 _ _ ⟨b6,e,rfl,l⟩ c ad
   try dsimp only at c
   refine AA (x:=p_0.1) l rfl ?_
   refine AA (x:=p_0.2.1) l rfl ?_
   refine AA (x:=p_0.2.2.1) l rfl ?_
   refine AA (x:=p_0.2.2.2.1) l rfl ?_
   refine AA (x:=p_0.2.2.2.2.1) l rfl ?_
   refine AA (x:=p_0.2.2.2.2.2.1) l rfl ?_
   obtain ⟨b7,am,c⟩:=bS c
   refine AJ (Bm (p_0:=(p_0.1,p_0.2.1,p_0.2.2.1,p_0.2.2.2.1,p_0.2.2.2.2.1,p_0.2.2.2.2.2.1,())) (n.mono ((a.trans b).trans e)) (o.mono ((a.trans b).trans e)) (p.mono ((a.trans b).trans e)) (q.mono ((a.trans b).trans e)) (s.mono ((a.trans b).trans e)) (t.mono ((a.trans b).trans e)) l am) ?_
   rintro _ b8 ⟨a3,t25,u,rfl,rfl,w⟩
   refine ⟨t25,rfl,?_⟩
   refine AI c rfl (fun _ c=> ?_) (fun _ c=> ?_)
   ·obtain ⟨b9,an,c⟩:=bS c
    refine CB ah an (Sub.trans ((b.trans e).trans u) w.sub) ?_
    refine AI c rfl (fun _ c=> ?_) (fun _ c=> ?_)
    ·obtain rfl:=iS c
     obtain rfl:=ad _ rfl
     try dsimp only at hd
     obtain rfl:=iS hd
     exact Al (Aj (AB ⟨a3,(z18.1,(18:Int),()),(((a.trans b).trans e).trans u),rfl,rfl,w.tail⟩))
    obtain rfl:=iS c
    exact Ac ((wN z18.1),z18.2.1,z18.2.2.1,()) _ rfl rfl ⟨a3,(e.trans u),rfl,w⟩
   obtain rfl:=iS c
   obtain rfl:=ad _ rfl
   exact AL (AO (z18.1,z18.2.1,z18.2.2.1,()) rfl ⟨a3,(e.trans u),rfl,w⟩)
 rintro z17 ba ⟨a4,i,rfl,ae⟩
 try dsimp only at hd
 refine AA (x:=p_0.1) ae rfl ?_
 obtain ⟨ao,ap,hd⟩:=bS hd
 refine AS (fun (y:Int×Int×Int×Unit) w_ g=> ∃ψ:AC,Sub a4 ψ∧AY.next ()=g∧St ψ (Wq2 r1 p_0::F) w_) (g:=ao) ?_ ?_
 ·refine Ej ap (fun (y:Int×Int×Int×Unit) w_ g=> ∃ψ:AC,Sub a4 ψ∧y.1=g∧St ψ (Wq2 r1 p_0::F) w_) (((p_0.1.2.1:Nat):Int),z17.2.1,z17.2.2.1,()) rfl ⟨a4,(Sub.refl _),(by rw [ab]),ae⟩ ?_
  ·rintro z30 bb _ _ ⟨bc,f,rfl,m⟩ d af
   try dsimp only at d
   refine AA (x:=p_0.1) m rfl ?_
   refine AA (x:=p_0.2.1) m rfl ?_
   refine AA (x:=p_0.2.2.1) m rfl ?_
   refine AA (x:=p_0.2.2.2.1) m rfl ?_
   refine AA (x:=p_0.2.2.2.2.1) m rfl ?_
   refine AA (x:=p_0.2.2.2.2.2.1) m rfl ?_
   obtain ⟨bd,aq,d⟩:=bS d
   refine AJ (Bm (p_0:=(p_0.1,p_0.2.1,p_0.2.2.1,p_0.2.2.2.1,p_0.2.2.2.2.1,p_0.2.2.2.2.2.1,())) (n.mono (((a.trans b).trans i).trans f)) (o.mono (((a.trans b).trans i).trans f)) (p.mono (((a.trans b).trans i).trans f)) (q.mono (((a.trans b).trans i).trans f)) (s.mono (((a.trans b).trans i).trans f)) (t.mono (((a.trans b).trans i).trans f)) m aq) ?_
   rintro _ be ⟨a5,t37,z,rfl,rfl,a0⟩
   refine ⟨t37,rfl,?_⟩
   refine AI d rfl (fun _ d=> ?_) (fun _ d=> ?_)
   ·obtain ⟨bf,ar,d⟩:=bS d
    refine CB aj ar (Sub.trans ((i.trans f).trans z) a0.sub) ?_
    refine AI d rfl (fun _ d=> ?_) (fun _ d=> ?_)
    ·obtain rfl:=iS d
     obtain rfl:=af _ rfl
     try dsimp only at hd
     obtain rfl:=iS hd
     exact Al (Aj (AB ⟨a5,(z30.1,(17:Int),()),((((a.trans b).trans i).trans f).trans z),rfl,rfl,a0.tail⟩))
    obtain rfl:=iS d
    exact Ac ((wN z30.1),z30.2.1,z30.2.2.1,()) _ rfl rfl ⟨a5,(f.trans z),rfl,a0⟩
   obtain rfl:=iS d
   obtain rfl:=af _ rfl
   exact AL (AO (z30.1,z30.2.1,z30.2.2.1,()) rfl ⟨a5,(f.trans z),rfl,a0⟩)
 rintro z29 bg ⟨au,av,rfl,aw⟩
 try dsimp only at hd
 obtain rfl:=iS hd
 exact AB ⟨au,((0:Int),(0:Int),()),(((a.trans b).trans i).trans av),rfl,rfl,aw.tail⟩
noncomputable def Rr (l:List Int):Option Int:=
 (idx l 0).bind fun a=>forS (σ:=Int) (1:Int) ((l.length:Nat):Int) a fun i z=>(idx l i).bind fun x=>some (if x<z then x else z)
theorem SV {φ:AC} {h:AF} {F:List Chk} {x_0:Slc} {l:List Int} (k:Ro.SliceIs (Ro.int .i64) φ x_0 l) (s0:St φ F h) {r:Int} (hd:Rr l=some r):
 CallsH Tryz.prog 82 [.slice x_0.1 x_0.2.1 x_0.2.2] h (Ai fun v h'=> ∃ψ:AC,∃y:Int,Sub φ ψ∧v=((.one aI):Sh).val y∧y=r∧St ψ F h'):=by
 refine AN mixed Tryz.func82 ?_
 rw [He]
 unfold FI
 unfold Rr at hd
 obtain ⟨a,ha,hd⟩:=bS hd
 have n:=k.length
 obtain ⟨_,h1,_⟩:=CO ha
 refine AX (fun (_:Unit) w (_:Unit)=>w=h) (g:=()) ?_ ?_
 ·refine AU (decide_eq_false (by omega)) ?_
  exact AM () rfl rfl
 ·rintro _ w rfl
  refine CB k ha s0.sub ?_
  refine AS (fun (y:Int×Int×Unit) w (g:Int)=>y.2.1=g∧St φ F w) (g:=r) ?_ ?_
  ·refine Ax hd (fun i (y:Int×Int×Unit) w (g:Int)=>y.1=i∧y.2.1=g∧St φ F w) ((1:Int),a,()) rfl ⟨rfl,rfl,s0⟩ ?_ ?_
   ·rintro i z w g e ⟨rfl,rfl,st⟩ he h0 hlt hw
    refine Ad (by rw [n]; exact decide_eq_true hlt) ?_
    obtain ⟨x,hx,he⟩:=bS he
    refine CB k hx st.sub ?_
    obtain rfl:=iS he
    exact Ac (IntKind.wrap .i64 (z.1+(1:Int)),(if x<z.2.1 then x else z.2.1),()) _ rfl rfl ⟨hw,rfl,st⟩
   ·rintro i z w ⟨rfl,H⟩ hge
    refine AU (by rw [n]; exact decide_eq_false (Int.not_lt.2 hge)) ?_
    exact AL (AO z rfl H)
  ·rintro y w ⟨rfl,st⟩
   exact AB ⟨φ,y.2.1,Sub.refl _,rfl,rfl,st⟩
theorem L4:Fo Tryz.prog 84 84 89 7:=⟨Tryz.underlying84, .inl Tryz.underlying84,⟨Tryz.t89,by kernel_rfl,rfl,⟨_,rfl,rfl⟩,by decide,by decide⟩,by decide⟩
theorem Jz:Fo Tryz.prog 97 97 30 1:=⟨Tryz.underlying97, .inl Tryz.underlying97,⟨Tryz.t30,by kernel_rfl,rfl,⟨_,rfl,rfl⟩,by decide,by decide⟩,by decide⟩
theorem Hl:Fo Tryz.prog 157 157 163 1:=⟨Tryz.underlying157, .inl Tryz.underlying157,⟨Tryz.t163,by kernel_rfl,rfl,⟨_,rfl,rfl⟩,by decide,by decide⟩,by decide⟩
theorem NK:Fo Tryz.prog 163 163 77 2:=⟨Tryz.underlying163, .inl Tryz.underlying163,⟨Tryz.t77,by kernel_rfl,rfl,⟨_,rfl,rfl⟩,by decide,by decide⟩,by decide⟩
noncomputable def C2 (p_0:BJ) (term_1:Int):Option Int:=
 (cond (decide (term_1< (0:Int)))
 (some true)
 (some (decide (term_1≥ (((List.length p_0.2.2.2.1):Nat):Int))))).bind fun z2=>
 cond z2
 (some (0:Int))
 ((idx p_0.2.2.2.1 term_1).bind fun e25=>
  some e25)
theorem Kb {φ:AC} {h:AF} {F:List Chk} {p_0:Pl6} {f:List ByteArray} {i:List ByteArray} {j:List BV} {c:List Int} {k:List Int} {l:List ByteArray} {term_1:Int} (t:Ro.SliceIs Ro.str φ p_0.1 f) (u:Ro.SliceIs Ro.str φ p_0.2.1 i) (w:Ro.SliceIs BS φ p_0.2.2.1 j) (m:Ro.SliceIs (Ro.int .i64) φ p_0.2.2.2.1 c) (z:Ro.SliceIs (Ro.int .i64) φ p_0.2.2.2.2.1 k) (a0:Ro.SliceIs Ro.str φ p_0.2.2.2.2.2.1 l) (s0:St φ (F) h) {r:Int} (hd:C2 (f,i,j,c,k,l) term_1=some r):
 CallsH Tryz.prog 116 [(aG p_0),(.int .i64 term_1)] h (Ai fun v h'=> ∃ψ:AC,∃y:Int,Sub φ ψ∧v=((.one aI):Sh).val y∧y=r∧St ψ (F) h'):=by
 refine AN mixed Tryz.func116 ?_
 rw [Ka]
 unfold Ht
 unfold C2 at hd
 have o:p_0.2.2.2.1.2.1=List.length c:=m.length
 refine AR (vs:= [sv p_0.1,sv p_0.2.1,sv p_0.2.2.1,sv p_0.2.2.2.1,sv p_0.2.2.2.2.1,sv p_0.2.2.2.2.2.1]) s0 fun r1 a1 d=> ?_
 obtain ⟨p,a,hd⟩:=bS hd
 refine AX (fun (y:Bool×Unit) w_ g=> ∃ψ:AC,Sub φ ψ∧y.1=g∧St ψ (Wq2 r1 p_0::F) w_) (g:=p) ?_ ?_
 ·refine AI a rfl (fun _ a=> ?_) (fun _ a=> ?_)
  ·obtain rfl:=iS a
   exact AM (true,()) rfl ⟨φ,(Sub.refl _),rfl,d⟩
  refine AA (x:=p_0.2.2.2.1) d rfl ?_
  obtain rfl:=iS a
  exact AM ((decide (term_1≥ ((p_0.2.2.2.1.2.1:Nat):Int))),()) rfl ⟨φ,(Sub.refl _),(by rw [o]),d⟩
 rintro z2 a2 ⟨n,e,rfl,b⟩
 try dsimp only at hd
 refine AI hd rfl (fun _ hd=> ?_) (fun _ hd=> ?_)
 ·obtain rfl:=iS hd
  exact AB ⟨n,(0:Int),e,rfl,rfl,b.tail⟩
 refine AA (x:=p_0.2.2.2.1) b rfl ?_
 obtain ⟨q,s,hd⟩:=bS hd
 refine CB m s (Sub.trans e b.sub) ?_
 obtain rfl:=iS hd
 exact AB ⟨n,q,e,rfl,rfl,b.tail⟩
noncomputable def Cj (p_0:BJ) (rule_1:Int):Option Int:=
 (cond (decide (rule_1< (0:Int)))
 (some true)
 (some (decide (rule_1≥ (((List.length p_0.2.2.1):Nat):Int))))).bind fun z2=>
 cond z2
 (some (0:Int))
 ((idx p_0.2.2.1 rule_1).bind fun e31=>
  some e31.2.2)
theorem J0 {φ:AC} {h:AF} {F:List Chk} {p_0:Pl6} {f:List ByteArray} {i:List ByteArray} {c:List BV} {j:List Int} {k:List Int} {l:List ByteArray} {rule_1:Int} (a4:Ro.SliceIs Ro.str φ p_0.1 f) (a5:Ro.SliceIs Ro.str φ p_0.2.1 i) (m:Ro.SliceIs BS φ p_0.2.2.1 c) (a6:Ro.SliceIs (Ro.int .i64) φ p_0.2.2.2.1 j) (a7:Ro.SliceIs (Ro.int .i64) φ p_0.2.2.2.2.1 k) (a8:Ro.SliceIs Ro.str φ p_0.2.2.2.2.2.1 l) (s0:St φ (F) h) {r:Int} (hd:Cj (f,i,c,j,k,l) rule_1=some r):
 CallsH Tryz.prog 117 [(aG p_0),(.int .i64 rule_1)] h (Ai fun v h'=> ∃ψ:AC,∃y:Int,Sub φ ψ∧v=((.one aI):Sh).val y∧y=r∧St ψ (F) h'):=by
 refine AN mixed Tryz.func117 ?_
 rw [Jy]
 unfold HD
 unfold Cj at hd
 have p:p_0.2.2.1.2.1=List.length c:=m.length
 refine AR (vs:= [sv p_0.1,sv p_0.2.1,sv p_0.2.2.1,sv p_0.2.2.2.1,sv p_0.2.2.2.2.1,sv p_0.2.2.2.2.2.1]) s0 fun r1 a9 d=> ?_
 obtain ⟨q,a,hd⟩:=bS hd
 refine AX (fun (y:Bool×Unit) w_ g=> ∃ψ:AC,Sub φ ψ∧y.1=g∧St ψ (Wq2 r1 p_0::F) w_) (g:=q) ?_ ?_
 ·refine AI a rfl (fun _ a=> ?_) (fun _ a=> ?_)
  ·obtain rfl:=iS a
   exact AM (true,()) rfl ⟨φ,(Sub.refl _),rfl,d⟩
  refine AA (x:=p_0.2.2.1) d rfl ?_
  obtain rfl:=iS a
  exact AM ((decide (rule_1≥ ((p_0.2.2.1.2.1:Nat):Int))),()) rfl ⟨φ,(Sub.refl _),(by rw [p]),d⟩
 rintro z2 aa ⟨n,e,rfl,b⟩
 try dsimp only at hd
 refine AI hd rfl (fun _ hd=> ?_) (fun _ hd=> ?_)
 ·obtain rfl:=iS hd
  exact AB ⟨n,(0:Int),e,rfl,rfl,b.tail⟩
 refine AA (x:=p_0.2.2.1) b rfl ?_
 obtain ⟨o,s,hd⟩:=bS hd
 obtain ⟨ab,ac,t,u,w,z⟩:=(m.mono e).get s
 refine AG _ t (Aa u ?_)
 obtain ⟨_,_,rfl,a0,a1⟩:=w
 obtain rfl:=a0
 obtain ⟨_,_,rfl,a2,a3⟩:=a1
 obtain ⟨ad,rfl,ae⟩:=a2
 obtain rfl:=a3
 refine AE (x:=o.2.2) (by rw [AV]; exact (AD b.sub (z 2 _ rfl))) rfl ?_
 obtain rfl:=iS hd
 exact AB ⟨n,o.2.2,e,rfl,rfl,b.tail⟩
noncomputable def Bg (rule_0:Int):Option (Int×Int):=
 cond (rule_0==(0:Int))
 (some ((3:Int),(0:Int)))
 (some ((2:Int),rule_0))
theorem D4 {φ:AC} {h:AF} {F:List Chk} {rule_0:Int} (s0:St φ (F) h) {r:(Int×Int)} (hd:Bg rule_0=some r):
 CallsH Tryz.prog 80 [(.int .i64 rule_0)] h (Ai fun v h'=> ∃ψ:AC,∃y:Int×Int×Unit,Sub φ ψ∧v=((.one (.agg [(.int .i64),(.int .i64)])):Sh).val y∧(y.1,y.2.1)=r∧St ψ (F) h'):=by
 refine AN mixed Tryz.func80 ?_
 rw [Jw]
 unfold HC
 unfold Bg at hd
 refine AR (vs:= [.int .i64 (0:Int), .int .i64 (0:Int)]) s0 fun r1 f c=> ?_
 refine AI hd rfl (fun _ hd=> ?_) (fun _ hd=> ?_)
 ·refine AH c rfl rfl fun g d=> ?_
  refine AH d rfl rfl fun i a=> ?_
  refine AA (x:=(3:Int)) a rfl ?_
  refine AA (x:=(0:Int)) a rfl ?_
  obtain rfl:=iS hd
  exact AB ⟨φ,((3:Int),(0:Int),()),(Sub.refl _),rfl,rfl,a.tail⟩
 refine AH c rfl rfl fun j e=> ?_
 refine AH e rfl rfl fun k b=> ?_
 refine AA (x:=(2:Int)) b rfl ?_
 refine AA (x:=rule_0) b rfl ?_
 obtain rfl:=iS hd
 exact AB ⟨φ,((2:Int),rule_0,()),(Sub.refl _),rfl,rfl,b.tail⟩
noncomputable def DU (p_0:BJ) (term_1:Int) (shift_2:DZ) (rule_3:DZ):Option (Int×Int×Bool):=
 (C2 (p_0.1,p_0.2.1,p_0.2.2.1,p_0.2.2.2.1,p_0.2.2.2.2.1,p_0.2.2.2.2.2) term_1).bind fun t18=>
 (Cj (p_0.1,p_0.2.1,p_0.2.2.1,p_0.2.2.2.1,p_0.2.2.2.2.1,p_0.2.2.2.2.2) rule_3.2).bind fun t19=>
 (cond (decide (t18≤(0:Int)))
 (some true)
 (some (decide (t19≤(0:Int))))).bind fun z20=>
 cond z20
 (some (shift_2.1,shift_2.2,true))
 ((((((((((cond (t19==t18)
  ((idx p_0.2.2.2.2.1 t18).bind fun e72=>
   some (e72==(3:Int)))
  (some false)).bind fun z29=>
  cond z29
  (some (AY.next ()))
  ((cond (t19==t18)
   ((idx p_0.2.2.2.2.1 t18).bind fun e94=>
    some (e94==(1:Int)))
   (some false)).bind fun z33=>
   cond z33
   (some (AY.done (.inl ((0:Int),(0:Int)))))
   (cond (decide (t19>t18))
    (some (AY.done (.inr (.inl ((0:Int),(0:Int))))))
    (some (AY.done (.inr (.inr ((0:Int),(0:Int))))))))):Option (AY Unit (Sum DZ (Sum DZ DZ)))).bind fun e_z28=>match e_z28 with
  | .next z28=>
   some (AY.done (.inr (.inr ((0:Int),(0:Int),false))))
  | .done q139=>(match q139 with | .inl p=>some (AY.next p) | .inr (.inl p)=>some (AY.done (.inl p)) | .inr (.inr p)=>some (AY.done (.inr (.inl p))))):Option (AY DZ (Sum DZ (Sum DZ (Int×Int×Bool))))).bind fun e_z27=>match e_z27 with
  | .next z27=>
   some (AY.next z27)
  | .done q149=>(match q149 with | .inl p=>some (AY.next p) | .inr (.inl p)=>some (AY.done (.inl p)) | .inr (.inr p)=>some (AY.done (.inr p)))):Option (AY DZ (Sum DZ (Int×Int×Bool)))).bind fun e_z26=>match e_z26 with
  | .next z26=>
   some (AY.done (rule_3.1,rule_3.2,false))
  | .done q167=>(match q167 with | .inl p=>some (AY.next p) | .inr p=>some (AY.done p))):Option (AY DZ (Int×Int×Bool))).bind fun e_z25=>match e_z25 with
  | .next z25=>
   some (shift_2.1,shift_2.2,false)
  | .done q185=>some q185)
theorem L5 {φ:AC} {h:AF} {F:List Chk} {p_0:Pl6} {ab:List ByteArray} {ac:List ByteArray} {ad:List BV} {ae:List Int} {af:List Int} {ag:List ByteArray} {term_1:Int} {shift_2:Int×Int×Unit} {rule_3:Int×Int×Unit} (ah:Ro.SliceIs Ro.str φ p_0.1 ab) (ai:Ro.SliceIs Ro.str φ p_0.2.1 ac) (aj:Ro.SliceIs BS φ p_0.2.2.1 ad) (ak:Ro.SliceIs (Ro.int .i64) φ p_0.2.2.2.1 ae) (u:Ro.SliceIs (Ro.int .i64) φ p_0.2.2.2.2.1 af) (al:Ro.SliceIs Ro.str φ p_0.2.2.2.2.2.1 ag) (s0:St φ (F) h) {r:(Int×Int×Bool)} (hd:DU (ab,ac,ad,ae,af,ag) term_1 (shift_2.1,shift_2.2.1) (rule_3.1,rule_3.2.1)=some r):
 CallsH Tryz.prog 81 [(aG p_0),(.int .i64 term_1),(.agg #[(.int .i64 shift_2.1),(.int .i64 shift_2.2.1)]),(.agg #[(.int .i64 rule_3.1),(.int .i64 rule_3.2.1)])] h (Ai fun v h'=> ∃ψ:AC,∃y:(Int×Int×Unit)×Bool×Unit,Sub φ ψ∧v=((.tuple [(.agg [(.int .i64),(.int .i64)]),aB]):Sh).val y∧(y.1.1,y.1.2.1,y.2.1)=r∧St ψ (F) h'):=by
 refine AN mixed Tryz.func81 ?_
 rw [L0]
 unfold KY
 unfold DU at hd
 refine AR (vs:= [sv p_0.1,sv p_0.2.1,sv p_0.2.2.1,sv p_0.2.2.2.1,sv p_0.2.2.2.2.1,sv p_0.2.2.2.2.2.1]) s0 fun r1 c1 aq=> ?_
 refine AR (vs:= [.int .i64 shift_2.1, .int .i64 shift_2.2.1]) aq fun r2 c2 ar=> ?_
 refine AR (vs:= [.int .i64 rule_3.1, .int .i64 rule_3.2.1]) ar fun r3 c3 au=> ?_
 refine AR (vs:= [.int .i64 (0:Int), .int .i64 (0:Int)]) au fun r4 c4 c=> ?_
 refine AA (x:=p_0.1) c.at3 rfl ?_
 refine AA (x:=p_0.2.1) c.at3 rfl ?_
 refine AA (x:=p_0.2.2.1) c.at3 rfl ?_
 refine AA (x:=p_0.2.2.2.1) c.at3 rfl ?_
 refine AA (x:=p_0.2.2.2.2.1) c.at3 rfl ?_
 refine AA (x:=p_0.2.2.2.2.2.1) c.at3 rfl ?_
 refine AA (x:=p_0.1) c.at3 rfl ?_
 refine AA (x:=p_0.2.1) c.at3 rfl ?_
 refine AA (x:=p_0.2.2.1) c.at3 rfl ?_
 refine AA (x:=p_0.2.2.2.1) c.at3 rfl ?_
 refine AA (x:=p_0.2.2.2.2.1) c.at3 rfl ?_
 refine AA (x:=p_0.2.2.2.2.2.1) c.at3 rfl ?_
 refine AA (x:=rule_3.2.1) c.at1 rfl ?_
 obtain ⟨c5,av,hd⟩:=bS hd
 refine AJ (Kb (p_0:=(p_0.1,p_0.2.1,p_0.2.2.1,p_0.2.2.2.1,p_0.2.2.2.2.1,p_0.2.2.2.2.2.1,())) ah ai aj ak u al c av) ?_
 rintro _ c6 ⟨c7,t18,d,rfl,rfl,i⟩
 refine ⟨t18,rfl,?_⟩
 refine AK (St.cell (b:=r3) (j:=1) i.at1 rfl) ?_
 refine AK (St.cell (b:=r1) (j:=0) i.at3 rfl) ?_
 refine AK (St.cell (b:=r1) (j:=1) i.at3 rfl) ?_
 refine AK (St.cell (b:=r1) (j:=2) i.at3 rfl) ?_
 refine AK (St.cell (b:=r1) (j:=3) i.at3 rfl) ?_
 refine AK (St.cell (b:=r1) (j:=4) i.at3 rfl) ?_
 refine AK (St.cell (b:=r1) (j:=5) i.at3 rfl) ?_
 obtain ⟨c8,aw,hd⟩:=bS hd
 refine AJ (J0 (p_0:=(p_0.1,p_0.2.1,p_0.2.2.1,p_0.2.2.2.1,p_0.2.2.2.2.1,p_0.2.2.2.2.2.1,())) (ah.mono d) (ai.mono d) (aj.mono d) (ak.mono d) (u.mono d) (al.mono d) i aw) ?_
 rintro _ c9 ⟨a1,t19,o,rfl,rfl,am⟩
 refine ⟨t19,rfl,?_⟩
 obtain ⟨ax,q,hd⟩:=bS hd
 refine AX (fun (y:Bool×Unit) w_ g=> ∃ψ:AC,Sub a1 ψ∧y.1=g∧St ψ (Wq8 r4::Wq9 r3 rule_3::Wq9 r2 shift_2::Wq2 r1 p_0::F) w_) (g:=ax) ?_ ?_
 ·refine AI q rfl (fun _ q=> ?_) (fun _ q=> ?_)
  ·have ay:=am.at3
   obtain rfl:=iS q
   exact AM (true,()) rfl ⟨a1,(Sub.refl _),rfl,ay.at3.at3.at3⟩
  obtain rfl:=iS q
  exact AM ((decide (t19≤(0:Int))),()) rfl ⟨a1,(Sub.refl _),rfl,am.at3.at3.at3.at3⟩
 rintro z20 ca ⟨k,p,rfl,w⟩
 try dsimp only at hd
 refine AI hd rfl (fun _ hd=> ?_) (fun _ hd=> ?_)
 ·refine AA (x:=shift_2.1) w.at2 rfl ?_
  refine AA (x:=shift_2.2.1) w.at2 rfl ?_
  refine AH w rfl rfl fun cb az=> ?_
  refine AH az rfl rfl fun cc a2=> ?_
  refine AA (x:=shift_2.1) a2 rfl ?_
  refine AA (x:=shift_2.2.1) a2 rfl ?_
  obtain rfl:=iS hd
  exact AB ⟨k,((shift_2.1,shift_2.2.1,()),true,()),((d.trans o).trans p),rfl,rfl,a2.tail.tail.tail.tail⟩
 have z:=St.shutR (r:=CR) (x:=((0:Int),(0:Int))) w ⟨[_],_,rfl,rfl,rfl⟩
 obtain ⟨b0,l,hd⟩:=bS hd
 refine AS (fun (y:Bool×Unit) w_ g=> ∃ψ:AC,∃an:DZ,Sub k ψ∧AY.next an=g∧St ψ (cO 77 (Rep.ro CR) (some ⟨r4,0,none⟩) an::Wq9 r3 rule_3::Wq9 r2 shift_2::Wq2 r1 p_0::F) w_) (g:=b0) ?_ ?_
 ·obtain ⟨b1,e,l⟩:=bS l
  refine AS (fun (y:Bool×Unit) w_ g=> ∃ψ:AC,∃ao:DZ,Sub k ψ∧AY.next ao=g∧St ψ (cO 77 (Rep.ro CR) (some ⟨r4,0,none⟩) ao::Wq9 r3 rule_3::Wq9 r2 shift_2::Wq2 r1 p_0::F) w_) (g:=b1) ?_ ?_
  ·obtain ⟨b2,f,e⟩:=bS e
   refine AS (fun (y:Bool×Unit) w_ g=> ∃ψ:AC,∃ap:DZ,Sub k ψ∧AY.next ap=g∧St ψ (cO 77 (Rep.ro CR) (some ⟨r4,0,none⟩) ap::Wq9 r3 rule_3::Wq9 r2 shift_2::Wq2 r1 p_0::F) w_) (g:=b2) ?_ ?_
   ·obtain ⟨b3,a,f⟩:=bS f
    refine AS (fun (y:Unit) w_ g=> ∃ψ:AC,Sub k ψ∧AY.next ()=g∧St ψ (cO 77 (Rep.ro CR) (some ⟨r4,0,none⟩) ((0:Int),(0:Int))::Wq9 r3 rule_3::Wq9 r2 shift_2::Wq2 r1 p_0::F) w_) (g:=b3) ?_ ?_
    ·obtain ⟨b4,m,a⟩:=bS a
     refine AX (fun (y:Bool×Unit) w_ g=> ∃ψ:AC,Sub k ψ∧y.1=g∧St ψ (cO 77 (Rep.ro CR) (some ⟨r4,0,none⟩) ((0:Int),(0:Int))::Wq9 r3 rule_3::Wq9 r2 shift_2::Wq2 r1 p_0::F) w_) (g:=b4) ?_ ?_
     ·refine AI m rfl (fun _ m=> ?_) (fun _ m=> ?_)
      ·refine AA (x:=p_0.2.2.2.2.1) z.at3 rfl ?_
       obtain ⟨b5,b6,m⟩:=bS m
       refine CB u b6 (Sub.trans ((d.trans o).trans p) z.sub) ?_
       obtain rfl:=iS m
       exact AM ((b5==(3:Int)),()) rfl ⟨k,(Sub.refl _),rfl,z.at3.at3.at3.at3⟩
      obtain rfl:=iS m
      exact AM (false,()) rfl ⟨k,(Sub.refl _),rfl,z.at3.at3.at3.at3⟩
     rintro z29 cd ⟨a0,s,rfl,t⟩
     try dsimp only at a
     refine AI a rfl (fun _ a=> ?_) (fun _ a=> ?_)
     ·have b7:=t.at3
      obtain rfl:=iS a
      exact AO (()) rfl ⟨a0,s,rfl,b7.at3.at3.at3⟩
     obtain ⟨b8,n,a⟩:=bS a
     refine AX (fun (y:Bool×Unit) w_ g=> ∃ψ:AC,Sub a0 ψ∧y.1=g∧St ψ (cO 77 (Rep.ro CR) (some ⟨r4,0,none⟩) ((0:Int),(0:Int))::Wq9 r3 rule_3::Wq9 r2 shift_2::Wq2 r1 p_0::F) w_) (g:=b8) ?_ ?_
     ·refine AI n rfl (fun _ n=> ?_) (fun _ n=> ?_)
      ·refine AA (x:=p_0.2.2.2.2.1) t.at3 rfl ?_
       obtain ⟨b9,ba,n⟩:=bS n
       refine CB u ba (Sub.trans (((d.trans o).trans p).trans s) t.sub) ?_
       obtain rfl:=iS n
       exact AM ((b9==(1:Int)),()) rfl ⟨a0,(Sub.refl _),rfl,t.at3.at3.at3.at3⟩
      obtain rfl:=iS n
      exact AM (false,()) rfl ⟨a0,(Sub.refl _),rfl,t.at3.at3.at3.at3⟩
     rintro z33 ce ⟨a3,a4,rfl,a5⟩
     try dsimp only at a
     refine AI a rfl (fun _ a=> ?_) (fun _ a=> ?_)
     ·have bb:=a5.at3
      obtain rfl:=iS a
      try dsimp only at f
      obtain rfl:=iS f
      exact D5 rfl (AO (false,()) rfl ⟨a3,((0:Int),(0:Int)),(s.trans a4),rfl,bb.at3.at3.at3⟩)
     refine AI a rfl (fun _ a=> ?_) (fun _ a=> ?_)
     ·have bc:=a5.at3
      obtain rfl:=iS a
      try dsimp only at f
      obtain rfl:=iS f
      try dsimp only at e
      obtain rfl:=iS e
      exact D5 rfl (D5 rfl (AO (false,()) rfl ⟨a3,((0:Int),(0:Int)),(s.trans a4),rfl,bc.at3.at3.at3⟩))
     obtain rfl:=iS a
     try dsimp only at f
     obtain rfl:=iS f
     try dsimp only at e
     obtain rfl:=iS e
     try dsimp only at l
     obtain rfl:=iS l
     exact D5 rfl (D5 rfl (D5 rfl (AO (false,()) rfl ⟨a3,((0:Int),(0:Int)),(s.trans a4),rfl,a5.at3.at3.at3.at3⟩)))
    rintro z28 cf ⟨bd,be,rfl,bf⟩
    try dsimp only at f
    obtain ⟨bg,cg,bh,⟨_,_,rfl,rfl,rfl⟩,bi⟩:=St.openR bf
    obtain rfl:r4=bg:=by simpa using bh
    refine AH bi rfl rfl fun ch bj=> ?_
    refine AH bj rfl rfl fun ci a6=> ?_
    refine AA (x:=(0:Int)) a6 rfl ?_
    refine AA (x:=(0:Int)) a6 rfl ?_
    obtain rfl:=iS f
    try dsimp only at e
    obtain rfl:=iS e
    try dsimp only at l
    obtain rfl:=iS l
    try dsimp only at hd
    obtain rfl:=iS hd
    exact Aj (Aj (Aj (AB ⟨bd,(((0:Int),(0:Int),()),false,()),(((d.trans o).trans p).trans be),rfl,rfl,a6.tail.tail.tail.tail⟩)))
   rintro z27 cj ⟨bk,bl,bm,rfl,bn⟩
   try dsimp only at e
   obtain rfl:=iS e
   exact LV (z27.1,()) rfl ⟨bk,bl,bm,rfl,bn.at3.at3.at3.at3⟩
  rintro z26 ck ⟨bo,cl,bp,rfl,a7⟩
  try dsimp only at l
  refine AA (x:=rule_3.1) a7.at1 rfl ?_
  refine AA (x:=rule_3.2.1) a7.at1 rfl ?_
  obtain ⟨bq,cm,br,⟨_,_,rfl,rfl,rfl⟩,bs⟩:=St.openR a7
  obtain rfl:r4=bq:=by simpa using br
  refine AH bs rfl rfl fun cn bt=> ?_
  refine AH bt rfl rfl fun co a8=> ?_
  refine AA (x:=rule_3.1) a8 rfl ?_
  refine AA (x:=rule_3.2.1) a8 rfl ?_
  obtain rfl:=iS l
  try dsimp only at hd
  obtain rfl:=iS hd
  exact Aj (AB ⟨bo,((rule_3.1,rule_3.2.1,()),false,()),(((d.trans o).trans p).trans bp),rfl,rfl,a8.tail.tail.tail.tail⟩)
 rintro z25 cp ⟨bu,cq,bv,rfl,a9⟩
 try dsimp only at hd
 refine AA (x:=shift_2.1) a9.at2 rfl ?_
 refine AA (x:=shift_2.2.1) a9.at2 rfl ?_
 obtain ⟨bw,cr,bx,⟨_,_,rfl,rfl,rfl⟩,bz⟩:=St.openR a9
 obtain rfl:r4=bw:=by simpa using bx
 refine AH bz rfl rfl fun cs c0=> ?_
 refine AH c0 rfl rfl fun ct aa=> ?_
 refine AA (x:=shift_2.1) aa rfl ?_
 refine AA (x:=shift_2.2.1) aa rfl ?_
 obtain rfl:=iS hd
 exact AB ⟨bu,((shift_2.1,shift_2.2.1,()),false,()),(((d.trans o).trans p).trans bv),rfl,rfl,aa.tail.tail.tail.tail⟩
noncomputable def Ba (p_0:BJ) (term_1:Int) (shift_2:Int) (rules_3:List Int):Option (Int×Int×Bool):=
 (cond ((((List.length rules_3):Nat):Int)==(0:Int))
 (some (decide (shift_2< (0:Int))))
 (some false)).bind fun z4=>
 cond z4
 (some ((0:Int),(0:Int),false))
 (cond ((((List.length rules_3):Nat):Int)==(0:Int))
  (some ((1:Int),shift_2,false))
  ((cond ((((List.length rules_3):Nat):Int)==(1:Int))
   (some (decide (shift_2< (0:Int))))
   (some false)).bind fun z11=>
   cond z11
   ((idx rules_3 (0:Int)).bind fun e67=>
    (Bg e67).bind fun t14=>
    some (t14.1,t14.2,false))
   (cond ((((List.length rules_3):Nat):Int)==(1:Int))
    ((idx rules_3 (0:Int)).bind fun e83=>
     (Bg e83).bind fun t27=>
     (DU (p_0.1,p_0.2.1,p_0.2.2.1,p_0.2.2.2.1,p_0.2.2.2.2.1,p_0.2.2.2.2.2) term_1 ((1:Int),shift_2) (t27.1,t27.2)).bind fun t28=>
     some (t28.1,t28.2.1,t28.2.2))
    (cond (decide (shift_2≥ (0:Int)))
     (some ((1:Int),shift_2,true))
     ((Rr rules_3).bind fun t35=>
      (Bg t35).bind fun t36=>
      some (t36.1,t36.2,true))))))
theorem Es {φ:AC} {h:AF} {F:List Chk} {p_0:Pl6} {a0:List ByteArray} {a1:List ByteArray} {a2:List BV} {a3:List Int} {a4:List Int} {a5:List ByteArray} {term_1:Int} {shift_2:Int} {rules_3:Slc} {p:List Int} (a7:Ro.SliceIs Ro.str φ p_0.1 a0) (a8:Ro.SliceIs Ro.str φ p_0.2.1 a1) (a9:Ro.SliceIs BS φ p_0.2.2.1 a2) (aa:Ro.SliceIs (Ro.int .i64) φ p_0.2.2.2.1 a3) (ab:Ro.SliceIs (Ro.int .i64) φ p_0.2.2.2.2.1 a4) (ac:Ro.SliceIs Ro.str φ p_0.2.2.2.2.2.1 a5) (n:Ro.SliceIs (Ro.int .i64) φ rules_3 p) (s0:St φ (F) h) {r:(Int×Int×Bool)} (hd:Ba (a0,a1,a2,a3,a4,a5) term_1 shift_2 p=some r):
 CallsH Tryz.prog 37 [(aG p_0),(.int .i64 term_1),(.int .i64 shift_2),(sv rules_3)] h (Ai fun v h'=> ∃ψ:AC,∃y:(Int×Int×Unit)×Bool×Unit,Sub φ ψ∧v=((.tuple [(.agg [(.int .i64),(.int .i64)]),aB]):Sh).val y∧(y.1.1,y.1.2.1,y.2.1)=r∧St ψ (F) h'):=by
 refine AN mixed Tryz.func37 ?_
 rw [Kr]
 unfold Iv
 unfold Ba at hd
 have o:rules_3.2.1=List.length p:=n.length
 refine AR (vs:= [sv p_0.1,sv p_0.2.1,sv p_0.2.2.1,sv p_0.2.2.2.1,sv p_0.2.2.2.2.1,sv p_0.2.2.2.2.2.1]) s0 fun r1 bc ad=> ?_
 refine AR (vs:= [.int .i64 (0:Int), .int .i64 (0:Int)]) ad fun r2 bd ae=> ?_
 refine AR (vs:= [.int .i64 (0:Int), .int .i64 (0:Int)]) ae fun r3 be af=> ?_
 refine AH af rfl rfl fun bf ag=> ?_
 refine AH ag rfl rfl fun bg a6=> ?_
 obtain ⟨ah,k,hd⟩:=bS hd
 refine AX (fun (y:Bool×Unit) w_ g=> ∃ψ:AC,Sub φ ψ∧y.1=g∧St ψ (cW 77 r3 [.int .i64 (1:Int), .int .i64 shift_2] ::Wq8 r2::Wq2 r1 p_0::F) w_) (g:=ah) ?_ ?_
 ·refine AI k (by rw [o] <;>rfl) (fun _ k=> ?_) (fun _ k=> ?_)
  ·have ai:=a6.at2
   obtain rfl:=iS k
   exact AM ((decide (shift_2< (0:Int))),()) rfl ⟨φ,(Sub.refl _),rfl,ai.at2.at2⟩
  obtain rfl:=iS k
  exact AM (false,()) rfl ⟨φ,(Sub.refl _),rfl,a6.at2.at2.at2⟩
 rintro z4 bh ⟨l,c,rfl,i⟩
 try dsimp only at hd
 refine AI hd rfl (fun _ hd=> ?_) (fun _ hd=> ?_)
 ·refine AH i.at1 rfl rfl fun bi aj=> ?_
  refine AH aj rfl rfl fun bj q=> ?_
  refine AA (x:=(0:Int)) q rfl ?_
  refine AA (x:=(0:Int)) q rfl ?_
  obtain rfl:=iS hd
  exact AB ⟨l,(((0:Int),(0:Int),()),false,()),c,rfl,rfl,q.tail.tail.tail⟩
 refine AI hd (by rw [o] <;>rfl) (fun _ hd=> ?_) (fun _ hd=> ?_)
 ·refine AA (x:=(1:Int)) i rfl ?_
  refine AA (x:=shift_2) i rfl ?_
  refine AH i.at1 rfl rfl fun bk ak=> ?_
  refine AH ak rfl rfl fun bl s=> ?_
  refine AA (x:=(1:Int)) s rfl ?_
  refine AA (x:=shift_2) s rfl ?_
  obtain rfl:=iS hd
  exact AB ⟨l,(((1:Int),shift_2,()),false,()),c,rfl,rfl,s.tail.tail.tail⟩
 obtain ⟨al,m,hd⟩:=bS hd
 refine AX (fun (y:Bool×Unit) w_ g=> ∃ψ:AC,Sub l ψ∧y.1=g∧St ψ (cW 77 r3 [.int .i64 (1:Int), .int .i64 shift_2] ::Wq8 r2::Wq2 r1 p_0::F) w_) (g:=al) ?_ ?_
 ·refine AI m (by rw [o] <;>rfl) (fun _ m=> ?_) (fun _ m=> ?_)
  ·have am:=i.at2
   obtain rfl:=iS m
   exact AM ((decide (shift_2< (0:Int))),()) rfl ⟨l,(Sub.refl _),rfl,am.at2.at2⟩
  obtain rfl:=iS m
  exact AM (false,()) rfl ⟨l,(Sub.refl _),rfl,i.at2.at2.at2⟩
 rintro z11 bm ⟨an,d,rfl,a⟩
 try dsimp only at hd
 refine AI hd rfl (fun _ hd=> ?_) (fun _ hd=> ?_)
 ·obtain ⟨bn,ao,hd⟩:=bS hd
  refine CB n ao (Sub.trans (c.trans d) a.sub) ?_
  obtain ⟨bo,ap,hd⟩:=bS hd
  refine AJ (D4 a ap) ?_
  rintro _ bp ⟨aq,t14,ar,rfl,rfl,au⟩
  refine ⟨t14,rfl,?_⟩
  try dsimp only at hd
  refine AH au.at1 rfl rfl fun bq av=> ?_
  refine AH av rfl rfl fun br t=> ?_
  refine AA (x:=t14.1) t rfl ?_
  refine AA (x:=t14.2.1) t rfl ?_
  obtain rfl:=iS hd
  exact AB ⟨aq,((t14.1,t14.2.1,()),false,()),((c.trans d).trans ar),rfl,rfl,t.tail.tail.tail⟩
 refine AI hd (by rw [o] <;>rfl) (fun _ hd=> ?_) (fun _ hd=> ?_)
 ·refine AA (x:=p_0.1) a.at2 rfl ?_
  refine AA (x:=p_0.2.1) a.at2 rfl ?_
  refine AA (x:=p_0.2.2.1) a.at2 rfl ?_
  refine AA (x:=p_0.2.2.2.1) a.at2 rfl ?_
  refine AA (x:=p_0.2.2.2.2.1) a.at2 rfl ?_
  refine AA (x:=p_0.2.2.2.2.2.1) a.at2 rfl ?_
  refine AA (x:=(1:Int)) a rfl ?_
  refine AA (x:=shift_2) a rfl ?_
  obtain ⟨bs,aw,hd⟩:=bS hd
  refine CB n aw (Sub.trans (c.trans d) a.sub) ?_
  obtain ⟨bt,ax,hd⟩:=bS hd
  refine AJ (D4 a ax) ?_
  rintro _ bu ⟨bv,t27,f,rfl,rfl,e⟩
  refine ⟨t27,rfl,?_⟩
  try dsimp only at hd
  refine AK (St.cell (b:=r3) (j:=0) e rfl) ?_
  refine AK (St.cell (b:=r3) (j:=1) e rfl) ?_
  refine AK (St.cell (b:=r1) (j:=0) e.at2 rfl) ?_
  refine AK (St.cell (b:=r1) (j:=1) e.at2 rfl) ?_
  refine AK (St.cell (b:=r1) (j:=2) e.at2 rfl) ?_
  refine AK (St.cell (b:=r1) (j:=3) e.at2 rfl) ?_
  refine AK (St.cell (b:=r1) (j:=4) e.at2 rfl) ?_
  refine AK (St.cell (b:=r1) (j:=5) e.at2 rfl) ?_
  obtain ⟨bw,ay,hd⟩:=bS hd
  refine AJ (L5 (p_0:=(p_0.1,p_0.2.1,p_0.2.2.1,p_0.2.2.2.1,p_0.2.2.2.2.1,p_0.2.2.2.2.2.1,())) (shift_2:=((1:Int),shift_2,())) (rule_3:=(t27.1,t27.2.1,())) (a7.mono ((c.trans d).trans f)) (a8.mono ((c.trans d).trans f)) (a9.mono ((c.trans d).trans f)) (aa.mono ((c.trans d).trans f)) (ab.mono ((c.trans d).trans f)) (ac.mono ((c.trans d).trans f)) e ay) ?_
  rintro _ bx ⟨az,t28,b0,rfl,rfl,b1⟩
  refine ⟨t28,rfl,?_⟩
  try dsimp only at hd
  refine AH b1.at1 rfl rfl fun bz b2=> ?_
  refine AH b2 rfl rfl fun c0 u=> ?_
  refine AA (x:=t28.1.1) u rfl ?_
  refine AA (x:=t28.1.2.1) u rfl ?_
  obtain rfl:=iS hd
  exact AB ⟨az,((t28.1.1,t28.1.2.1,()),t28.2.1,()),(((c.trans d).trans f).trans b0),rfl,rfl,u.tail.tail.tail⟩
 refine AI hd rfl (fun _ hd=> ?_) (fun _ hd=> ?_)
 ·refine AA (x:=(1:Int)) a rfl ?_
  refine AA (x:=shift_2) a rfl ?_
  refine AH a.at1 rfl rfl fun c1 b3=> ?_
  refine AH b3 rfl rfl fun c2 w=> ?_
  refine AA (x:=(1:Int)) w rfl ?_
  refine AA (x:=shift_2) w rfl ?_
  obtain rfl:=iS hd
  exact AB ⟨an,(((1:Int),shift_2,()),true,()),(c.trans d),rfl,rfl,w.tail.tail.tail⟩
 obtain ⟨c3,b4,hd⟩:=bS hd
 refine AJ (SV (n.mono (c.trans d)) a b4) ?_
 rintro _ c4 ⟨c5,t35,b5,rfl,rfl,b6⟩
 refine ⟨t35,rfl,?_⟩
 obtain ⟨c6,b7,hd⟩:=bS hd
 refine AJ (D4 b6 b7) ?_
 rintro _ c7 ⟨b8,t36,b9,rfl,rfl,ba⟩
 refine ⟨t36,rfl,?_⟩
 try dsimp only at hd
 refine AH ba.at1 rfl rfl fun c8 bb=> ?_
 refine AH bb rfl rfl fun c9 z=> ?_
 refine AA (x:=t36.1) z rfl ?_
 refine AA (x:=t36.2.1) z rfl ?_
 obtain rfl:=iS hd
 exact AB ⟨b8,((t36.1,t36.2.1,()),true,()),(((c.trans d).trans b5).trans b9),rfl,rfl,z.tail.tail.tail⟩
noncomputable def De (g_0:Cg) (a_1:Cw) (l_2:(Option LkD)) (state_3:Int) (term_4:Int):Option (Int×Int×Cg):=
 (CH a_1 state_3 term_4).bind fun t2=>
 (Pe l_2 state_3).bind fun t3=>
 (forS (σ:=List Int) (0:Int) (((List.length t3):Nat):Int) ([] :List Int) fun i_z5 z5=>
  (idx t3 i_z5).bind fun e46=>
  (Su l_2 state_3 e46).bind fun t8=>
  (CL t8 term_4).bind fun t9=>
  (cond t9
  ((app z5 ([e46] :List Int)).bind fun t12=>
   some t12)
  (some z5)).bind fun z10=>
  some z10).bind fun z4=>
 (Ba (g_0.1,g_0.2.1,g_0.2.2.1,g_0.2.2.2.1,g_0.2.2.2.2.1,g_0.2.2.2.2.2.1) term_4 t2 z4).bind fun t20=>
 (cond (decide ((((List.length z4):Nat):Int) >(1:Int)))
 (some true)
 (cond ((((List.length z4):Nat):Int)==(1:Int))
  (some (decide (t2≥ (0:Int))))
  (some false))).bind fun z22=>
 (cond z22
 ((app (g_0.1,g_0.2.1,g_0.2.2.1,g_0.2.2.2.1,g_0.2.2.2.2.1,g_0.2.2.2.2.2.1,g_0.2.2.2.2.2.2.1,g_0.2.2.2.2.2.2.2.1,g_0.2.2.2.2.2.2.2.2).2.2.2.2.2.2.2.2 ([(state_3,term_4,t2,z4,t20.1,t20.2.1,t20.2.2)] :List GF)).bind fun t29=>
  some ((g_0.1,g_0.2.1,g_0.2.2.1,g_0.2.2.2.1,g_0.2.2.2.2.1,g_0.2.2.2.2.2.1,g_0.2.2.2.2.2.2.1,g_0.2.2.2.2.2.2.2.1,g_0.2.2.2.2.2.2.2.2).1,(g_0.1,g_0.2.1,g_0.2.2.1,g_0.2.2.2.1,g_0.2.2.2.2.1,g_0.2.2.2.2.2.1,g_0.2.2.2.2.2.2.1,g_0.2.2.2.2.2.2.2.1,g_0.2.2.2.2.2.2.2.2).2.1,(g_0.1,g_0.2.1,g_0.2.2.1,g_0.2.2.2.1,g_0.2.2.2.2.1,g_0.2.2.2.2.2.1,g_0.2.2.2.2.2.2.1,g_0.2.2.2.2.2.2.2.1,g_0.2.2.2.2.2.2.2.2).2.2.1,(g_0.1,g_0.2.1,g_0.2.2.1,g_0.2.2.2.1,g_0.2.2.2.2.1,g_0.2.2.2.2.2.1,g_0.2.2.2.2.2.2.1,g_0.2.2.2.2.2.2.2.1,g_0.2.2.2.2.2.2.2.2).2.2.2.1,(g_0.1,g_0.2.1,g_0.2.2.1,g_0.2.2.2.1,g_0.2.2.2.2.1,g_0.2.2.2.2.2.1,g_0.2.2.2.2.2.2.1,g_0.2.2.2.2.2.2.2.1,g_0.2.2.2.2.2.2.2.2).2.2.2.2.1,(g_0.1,g_0.2.1,g_0.2.2.1,g_0.2.2.2.1,g_0.2.2.2.2.1,g_0.2.2.2.2.2.1,g_0.2.2.2.2.2.2.1,g_0.2.2.2.2.2.2.2.1,g_0.2.2.2.2.2.2.2.2).2.2.2.2.2.1,(g_0.1,g_0.2.1,g_0.2.2.1,g_0.2.2.2.1,g_0.2.2.2.2.1,g_0.2.2.2.2.2.1,g_0.2.2.2.2.2.2.1,g_0.2.2.2.2.2.2.2.1,g_0.2.2.2.2.2.2.2.2).2.2.2.2.2.2.1,(g_0.1,g_0.2.1,g_0.2.2.1,g_0.2.2.2.1,g_0.2.2.2.2.1,g_0.2.2.2.2.2.1,g_0.2.2.2.2.2.2.1,g_0.2.2.2.2.2.2.2.1,g_0.2.2.2.2.2.2.2.2).2.2.2.2.2.2.2.1,t29))
 (some (g_0.1,g_0.2.1,g_0.2.2.1,g_0.2.2.2.1,g_0.2.2.2.2.1,g_0.2.2.2.2.2.1,g_0.2.2.2.2.2.2.1,g_0.2.2.2.2.2.2.2.1,g_0.2.2.2.2.2.2.2.2))).bind fun z23=>
 some (t20.1,t20.2.1,z23)
theorem IB {φ:AC} {h:AF} {F:List Chk} {g_0:Option Addr} {c:Cg} {a_1:Option Addr} {al:Cw} {l_2:Option Addr} {e:(Option LkD)} {state_3:Int} {term_4:Int} (gk:Dg.Glob φ) (bp:Pt E1 φ a_1 al) (s0:St φ (cO 159 Rq0 g_0 c::⟨By, [.pointer l_2],e⟩::F) h) {r:(Int×Int×Cg)} (hd:De c al e state_3 term_4=some r):
 CallsH Tryz.prog 118 [(.pointer g_0),(.pointer a_1),(.pointer l_2),(.int .i64 state_3),(.int .i64 term_4)] h (Ai fun v h'=> ∃ψ:AC,∃y:Int×Int×Unit,∃am:Cg,Sub φ ψ∧v=((.one (.agg [(.int .i64),(.int .i64)])):Sh).val y∧(y.1,y.2.1,am)=r∧St ψ (⟨By, [.pointer l_2],e⟩::cO 159 Rq0 g_0 am::F) h'):=by
 refine AN mixed Tryz.func118 ?_
 rw [H8]
 unfold FX
 unfold De at hd
 refine AR (vs:= [.int .i64 (0:Int), .int .i64 (0:Int)]) s0 fun r1 fa bq=> ?_
 obtain ⟨fb,br,hd⟩:=bS hd
 refine AJ (Cs bp bq br) ?_
 rintro _ fc ⟨fd,t2,an,rfl,rfl,bs⟩
 refine ⟨t2,rfl,?_⟩
 obtain ⟨fe,bt,hd⟩:=bS hd
 refine AJ (PD bs.at2 bt) ?_
 rintro _ ff ⟨a7,t3,fg,ao,rfl,rfl,ap,bu⟩
 refine ⟨t3,rfl,?_⟩
 have aq:=ap.length
 obtain ⟨bv,bw,hd⟩:=bS hd
 refine AS (fun (y:Int×Slc×Unit) w_ g=> ∃ψ:AC,∃ar:List Int,Sub a7 ψ∧ar=g∧St ψ (cR 3 (Ro.int .i64) y.2.1 ar::⟨By, [.pointer l_2],e⟩::Wq8 r1::cO 159 Rq0 g_0 c::F) w_) (g:=bv) ?_ ?_
 ·refine Ax bw (fun bx (y:Int×Slc×Unit) w_ g=> ∃ψ:AC,∃au:List Int,Sub a7 ψ∧y.1=bx∧au=g∧St ψ (cR 3 (Ro.int .i64) y.2.1 au::⟨By, [.pointer l_2],e⟩::Wq8 r1::cO 159 Rq0 g_0 c::F) w_) ((0:Int),((none,0,0):Slc),()) rfl ⟨a7,([] :List Int),(Sub.refl _),rfl,rfl,(((((bu.nil 3 (Ro.int .i64)).at3).at3).at3).at3)⟩ ?_ ?_
  ·rintro _ z5 fh _ _ ⟨fi,bz,a8,rfl,rfl,av⟩ f c0 aw ax
   try dsimp only at f c0 aw ax
   refine Ad (dT aq aw) ?_
   obtain ⟨ay,c1,f⟩:=bS f
   refine CB ap c1 (Sub.trans a8 av.sub) ?_
   obtain ⟨fj,c2,f⟩:=bS f
   refine AJ (Rj (gk.mono ((an.trans ao).trans a8)) av.at1 c2) ?_
   rintro _ fk ⟨fl,t8,fm,c3,rfl,rfl,c4,c5⟩
   refine ⟨t8,rfl,?_⟩
   obtain ⟨fn,c6,f⟩:=bS f
   refine AJ (Fh c4 c5 c6) ?_
   rintro _ fo ⟨a9,t9,c7,rfl,rfl,az⟩
   refine ⟨t9,rfl,?_⟩
   obtain ⟨c8,n,f⟩:=bS f
   refine AX (fun (y:Slc×Unit) w_ g=> ∃ψ:AC,∃b0:List Int,Sub a9 ψ∧b0=g∧St ψ (cR 3 (Ro.int .i64) y.1 b0::⟨By, [.pointer l_2],e⟩::Wq8 r1::cO 159 Rq0 g_0 c::F) w_) (g:=c8) ?_ ?_
   ·refine AI n rfl (fun _ n=> ?_) (fun _ n=> ?_)
    ·refine AR (vs:= [.int .i64 ay]) az fun r11 fp b1=> ?_
     obtain ⟨c9,ca,n⟩:=bS n
     refine Ab (r:=(Ro.int .i64)) (ms:=([ay] :List Int)) Dz b1.tail.at1 rfl (St.cells b1) (.cons (a:= [_]) rfl .nil) rfl ca ?_
     intro t12 fq cb
     obtain rfl:=iS n
     exact AM (t12,()) rfl ⟨a9,c9,(Sub.refl _),rfl,cb.at3.at3.at3.at3⟩
    obtain rfl:=iS n
    exact AM (z5.2.1,()) rfl ⟨a9,bz,(Sub.refl _),rfl,az.at1.at3.at3.at3.at3⟩
   rintro z10 fr ⟨cc,cd,ce,rfl,cf⟩
   try dsimp only at f
   obtain rfl:=iS f
   exact Ac ((wN z5.1),z10.1,()) _ rfl rfl ⟨cc,cd,(((a8.trans c3).trans c7).trans ce),ax,rfl,cf.at3.at3.at3.at3⟩
  ·rintro _ z5 fs ⟨cg,ch,ci,rfl,rfl,cj⟩ ck
   refine AU (dF aq ck) ?_
   exact AL (AO (z5.1,z5.2.1,()) rfl ⟨cg,ch,ci,rfl,cj.at3.at3.at3.at3⟩)
 rintro z4 ft ⟨cl,b2,cm,rfl,b3⟩
 try dsimp only at hd
 have b4:=b3.rowLen
 obtain ⟨i,fu,b5,fv,cn⟩:=b3.at3.open
 obtain rfl:g_0=some ⟨i,0,none⟩:=by simpa using b5
 clear b5
 obtain ⟨fw,fx,rfl,fy,co⟩:=cn.at1.pair
 obtain ⟨cp,cq⟩:=co.ro
 obtain ⟨q,cr,b6⟩:=cp
 subst cr
 obtain ⟨fz,g0,rfl,g1,ct⟩:=cq.pair
 obtain ⟨cu,cv⟩:=ct.ro
 obtain ⟨s,cw,b7⟩:=cu
 subst cw
 obtain ⟨g2,g3,rfl,g4,cx⟩:=cv.pair
 obtain ⟨cy,cz⟩:=cx.ro
 obtain ⟨u,d0,b8⟩:=cy
 subst d0
 obtain ⟨g5,g6,rfl,g7,d1⟩:=cz.pair
 obtain ⟨d2,d3⟩:=d1.ro
 obtain ⟨w,d4,b9⟩:=d2
 subst d4
 obtain ⟨g8,g9,rfl,ga,d5⟩:=d3.pair
 obtain ⟨d6,d7⟩:=d5.ro
 obtain ⟨z,d8,ba⟩:=d6
 subst d8
 obtain ⟨gb,gc,rfl,gd,d9⟩:=d7.pair
 obtain ⟨da,db⟩:=d9.ro
 obtain ⟨a0,dc,bb⟩:=da
 subst dc
 obtain ⟨ge,gf,rfl,gg,bc⟩:=db.pair
 obtain ⟨a2,dd⟩:=bc.rowCs
 subst dd
 obtain ⟨gh,gi,rfl,gj,bd⟩:=bc.at1.pair
 obtain ⟨a3,de⟩:=bd.rowCs
 subst de
 have be:=bd.at1
 obtain ⟨a4,df⟩:=be.rowCs
 subst df
 have o:St cl (cR 89 Jj a4 c.2.2.2.2.2.2.2.2::cR 30 (Ro.list (Ro.int .i64)) a3 c.2.2.2.2.2.2.2.1::cR 163 (Ro.list CR) a2 c.2.2.2.2.2.2.1::cW 159 i [sv q,sv s,sv u,sv w,sv z,sv a0,sv a2,sv a3,sv a4] ::cR 3 (Ro.int .i64) z4.2.1 b2::⟨By, [.pointer l_2],e⟩::Wq8 r1::F) _:=be
 refine AG _ rfl ?_
 refine AA (x:=q) o.at3 rfl ?_
 refine AA (x:=s) o.at3 rfl ?_
 refine AA (x:=u) o.at3 rfl ?_
 refine AA (x:=w) o.at3 rfl ?_
 refine AA (x:=z) o.at3 rfl ?_
 refine AA (x:=a0) o.at3 rfl ?_
 obtain ⟨gl,d,bf,dg⟩:=St.freezeRow (t:=z4.2.1) o.at4
 obtain ⟨gm,dh,hd⟩:=bS hd
 refine AJ (Es (p_0:=(q,s,u,w,z,a0,())) (b6.mono d) (b7.mono d) (b8.mono d) (b9.mono d) (ba.mono d) (bb.mono d) bf dg dh) ?_
 rintro _ gn ⟨a5,t20,l,rfl,rfl,di⟩
 refine ⟨t20,rfl,?_⟩
 try dsimp only at hd
 refine AR (vs:= [.int .i64 (0:Int), .int .i64 (0:Int)]) di fun r21 go dj=> ?_
 refine AH dj rfl rfl fun gp dk=> ?_
 refine AH dk rfl rfl fun gq aa=> ?_
 obtain ⟨dl,k,hd⟩:=bS hd
 refine AX (fun (y:Bool×Unit) w_ g=> ∃ψ:AC,Sub a5 ψ∧y.1=g∧St ψ (cW 77 r21 [.int .i64 t20.1.1, .int .i64 t20.1.2.1] ::cR 89 Jj a4 c.2.2.2.2.2.2.2.2::cR 30 (Ro.list (Ro.int .i64)) a3 c.2.2.2.2.2.2.2.1::cR 163 (Ro.list CR) a2 c.2.2.2.2.2.2.1::cW 159 i [sv q,sv s,sv u,sv w,sv z,sv a0,sv a2,sv a3,sv a4] ::⟨By, [.pointer l_2],e⟩::Wq8 r1::F) w_) (g:=dl) ?_ ?_
 ·refine AI k (by rw [b4] <;>rfl) (fun _ k=> ?_) (fun _ k=> ?_)
  ·have dm:=aa.at6
   obtain rfl:=iS k
   exact AM (true,()) rfl ⟨a5,(Sub.refl _),rfl,dm.at6.at6.at6.at6.at6.at6⟩
  refine AI k (by rw [b4] <;>rfl) (fun _ k=> ?_) (fun _ k=> ?_)
  ·have dn:=aa.at6
   obtain rfl:=iS k
   exact AM ((decide (t2≥ (0:Int))),()) rfl ⟨a5,(Sub.refl _),rfl,dn.at6.at6.at6.at6.at6.at6⟩
  obtain rfl:=iS k
  exact AM (false,()) rfl ⟨a5,(Sub.refl _),rfl,aa.at6.at6.at6.at6.at6.at6.at6⟩
 rintro z22 gr ⟨a1,m,rfl,dp⟩
 try dsimp only at hd
 have dq:=St.unro (r:=(Ro.list Ro.str)) (cs:= [sv a0]) (x:=c.2.2.2.2.2.1) (St.unpair ((St.unpair dp.at3.at3.at3.at1).at1)) ⟨a0,rfl,(bb.mono ((d.trans l).trans m))⟩
 have dr:=St.unro (r:=(Ro.list (Ro.int .i64))) (cs:= [sv z]) (x:=c.2.2.2.2.1) (St.unpair dq) ⟨z,rfl,(ba.mono ((d.trans l).trans m))⟩
 have ds:=St.unro (r:=(Ro.list (Ro.int .i64))) (cs:= [sv w]) (x:=c.2.2.2.1) (St.unpair dr) ⟨w,rfl,(b9.mono ((d.trans l).trans m))⟩
 have dt:=St.unro (r:=(Ro.list BS)) (cs:= [sv u]) (x:=c.2.2.1) (St.unpair ds) ⟨u,rfl,(b8.mono ((d.trans l).trans m))⟩
 have du:=St.unro (r:=(Ro.list Ro.str)) (cs:= [sv s]) (x:=c.2.1) (St.unpair dt) ⟨s,rfl,(b7.mono ((d.trans l).trans m))⟩
 have dv:=St.unro (r:=(Ro.list Ro.str)) (cs:= [sv q]) (x:=c.1) (St.unpair du) ⟨q,rfl,(b6.mono ((d.trans l).trans m))⟩
 have bg:St a1 (cO 159 Rq0 (some ⟨i,0,none⟩) (c.1,c.2.1,c.2.2.1,c.2.2.2.1,c.2.2.2.2.1,c.2.2.2.2.2.1,c.2.2.2.2.2.2.1,c.2.2.2.2.2.2.2.1,c.2.2.2.2.2.2.2.2)::cW 77 r21 [.int .i64 t20.1.1, .int .i64 t20.1.2.1] ::⟨By, [.pointer l_2],e⟩::Wq8 r1::F) _:=St.shut (St.unpair dv).at2
 obtain ⟨dw,p,hd⟩:=bS hd
 refine AX (fun (y:Unit) w_ g=> ∃ψ:AC,∃bh:Cg,Sub a1 ψ∧bh=g∧St ψ (cO 159 Rq0 (some ⟨i,0,none⟩) bh::cW 77 r21 [.int .i64 t20.1.1, .int .i64 t20.1.2.1] ::⟨By, [.pointer l_2],e⟩::Wq8 r1::F) w_) (g:=dw) ?_ ?_
 ·refine AI p rfl (fun _ p=> ?_) (fun _ p=> ?_)
  ·obtain ⟨dx,gs,bi,gt,dy⟩:=bg.open
   obtain rfl:i=dx:=by simpa using bi
   clear bi
   obtain ⟨gu,gv,rfl,gw,dz⟩:=dy.at1.pair
   obtain ⟨e0,e1⟩:=dz.ro
   obtain ⟨ab,e2,e3⟩:=e0
   subst e2
   obtain ⟨gx,gy,rfl,gz,e4⟩:=e1.pair
   obtain ⟨e5,e6⟩:=e4.ro
   obtain ⟨ac,e7,e8⟩:=e5
   subst e7
   obtain ⟨h0,h1,rfl,h2,e9⟩:=e6.pair
   obtain ⟨ea,eb⟩:=e9.ro
   obtain ⟨ad,ec,ed⟩:=ea
   subst ec
   obtain ⟨h3,h4,rfl,h5,ee⟩:=eb.pair
   obtain ⟨ef,eg⟩:=ee.ro
   obtain ⟨ae,eh,ei⟩:=ef
   subst eh
   obtain ⟨h6,h7,rfl,h8,ej⟩:=eg.pair
   obtain ⟨ek,el⟩:=ej.ro
   obtain ⟨af,em,en⟩:=ek
   subst em
   obtain ⟨h9,hb,rfl,hc,eo⟩:=el.pair
   obtain ⟨ep,er⟩:=eo.ro
   obtain ⟨ag,es,eu⟩:=ep
   subst es
   obtain ⟨he,hf,rfl,hg,bj⟩:=er.pair
   obtain ⟨bk,ev⟩:=bj.rowCs
   subst ev
   obtain ⟨hh,hi,rfl,hj,bl⟩:=bj.at1.pair
   obtain ⟨bm,ew⟩:=bl.rowCs
   subst ew
   have bn:=bl.at1
   obtain ⟨ah,ex⟩:=bn.rowCs
   subst ex
   have a6:St a1 (cR 89 Jj ah c.2.2.2.2.2.2.2.2::cR 30 (Ro.list (Ro.int .i64)) bm c.2.2.2.2.2.2.2.1::cR 163 (Ro.list CR) bk c.2.2.2.2.2.2.1::cW 159 i [sv ab,sv ac,sv ad,sv ae,sv af,sv ag,sv bk,sv bm,sv ah] ::cW 77 r21 [.int .i64 t20.1.1, .int .i64 t20.1.2.1] ::⟨By, [.pointer l_2],e⟩::Wq8 r1::F) _:=bn
   refine AG _ rfl ?_
   refine AA (x:=ah) a6.at3 rfl ?_
   refine AA (x:=t20.1.1) a6.at4 rfl ?_
   refine AA (x:=t20.1.2.1) a6.at4 rfl ?_
   refine IS a6 fun r28 hk hl ai=> ?_
   refine AK (St.cell (b:=i) (j:=8) ai.at4 rfl) ?_
   obtain ⟨bo,ey,p⟩:=bS p
   refine Ab (r:=Jj) (ms:=([(state_3,term_4,t2,b2,t20.1.1,t20.1.2.1,t20.2.1)] :List GF)) L4 ai.tail rfl (St.cells ai) (.cons (a:= [_,_,_,_,_,_,_]) ⟨[_],_,rfl,rfl,⟨[_],_,rfl,rfl,⟨[_],_,rfl,rfl,⟨[_],_,rfl,⟨z4.2.1,rfl,(bf.mono (l.trans m))⟩,⟨[_],_,rfl,rfl,⟨[_],_,rfl,rfl,rfl⟩⟩⟩⟩⟩⟩ .nil) rfl ey ?_
   intro t29 hm ez
   refine AG _ rfl ?_
   refine AH ez.at3 rfl rfl fun hn f0=> ?_
   have f1:=St.unro (r:=(Ro.list Ro.str)) (cs:= [sv ag]) (x:=c.2.2.2.2.2.1) (St.unpair ((St.unpair f0.at3.at3.at3.at1).at1)) ⟨ag,rfl,eu⟩
   have f2:=St.unpair (St.unro (r:=(Ro.list (Ro.int .i64))) (cs:= [sv af]) (x:=c.2.2.2.2.1) (St.unpair f1) ⟨af,rfl,en⟩)
   have f3:=St.unro (r:=(Ro.list BS)) (cs:= [sv ad]) (x:=c.2.2.1) (St.unpair (St.unro (r:=(Ro.list (Ro.int .i64))) (cs:= [sv ae]) (x:=c.2.2.2.1) f2 ⟨ae,rfl,ei⟩)) ⟨ad,rfl,ed⟩
   have f4:=St.unro (r:=(Ro.list Ro.str)) (cs:= [sv ab]) (x:=c.1) (St.unpair (St.unro (r:=(Ro.list Ro.str)) (cs:= [sv ac]) (x:=c.2.1) (St.unpair f3) ⟨ac,rfl,e8⟩)) ⟨ab,rfl,e3⟩
   have f5:St a1 (cO 159 Rq0 (some ⟨i,0,none⟩) (c.1,c.2.1,c.2.2.1,c.2.2.2.1,c.2.2.2.2.1,c.2.2.2.2.2.1,c.2.2.2.2.2.2.1,c.2.2.2.2.2.2.2.1,bo)::cW 77 r21 [.int .i64 t20.1.1, .int .i64 t20.1.2.1] ::⟨By, [.pointer l_2],e⟩::Wq8 r1::F) _:=St.shut (St.unpair f4).at1
   obtain rfl:=iS p
   exact AM (()) rfl ⟨a1,(c.1,c.2.1,c.2.2.1,c.2.2.2.1,c.2.2.2.2.1,c.2.2.2.2.2.1,c.2.2.2.2.2.2.1,c.2.2.2.2.2.2.2.1,bo),(Sub.refl _),rfl,f5.at3.at3.at3.at3⟩
  obtain rfl:=iS p
  exact AM (()) rfl ⟨a1,(c.1,c.2.1,c.2.2.1,c.2.2.2.1,c.2.2.2.2.1,c.2.2.2.2.2.1,c.2.2.2.2.2.2.1,c.2.2.2.2.2.2.2.1,c.2.2.2.2.2.2.2.2),(Sub.refl _),rfl,bg.at3.at3.at3.at3⟩
 rintro z23 ho ⟨f6,f7,f8,rfl,aj⟩
 try dsimp only at hd
 refine AA (x:=t20.1.1) aj.at1 rfl ?_
 refine AA (x:=t20.1.2.1) aj.at1 rfl ?_
 refine AH aj.at3 rfl rfl fun hp f9=> ?_
 refine AH f9 rfl rfl fun hq ak=> ?_
 refine AA (x:=t20.1.1) ak rfl ?_
 refine AA (x:=t20.1.2.1) ak rfl ?_
 obtain rfl:=iS hd
 exact AB ⟨f6,(t20.1.1,t20.1.2.1,()),f7,((((((an.trans ao).trans cm).trans d).trans l).trans m).trans f8),rfl,rfl,ak.tail.at1.tail.at1⟩
noncomputable def ET (g_0:Cg) (state_1:Int):Option Bool:=
 (cond (decide (state_1≥ (0:Int)))
 (some (decide (state_1< (((List.length g_0.2.2.2.2.2.2.1):Nat):Int))))
 (some false)).bind fun z1=>
 some z1
theorem JQ {φ:AC} {h:AF} {F:List Chk} {g_0:Option Addr} {b:Cg} {state_1:Int} (d:Pt LZ φ g_0 b) (s0:St φ (F) h) {r:Bool} (hd:ET b state_1=some r):
 CallsH Tryz.prog 85 [(.pointer g_0),(.int .i64 state_1)] h (Ai fun v h'=> ∃ψ:AC,∃y:Bool,Sub φ ψ∧v=((.one aB):Sh).val y∧y=r∧St ψ (F) h'):=by
 refine AN mixed Tryz.func85 ?_
 rw [JP]
 unfold Gc
 unfold ET at hd
 obtain ⟨e,a,hd⟩:=bS hd
 refine AX (fun (y:Bool×Unit) w_ g=> ∃ψ:AC,Sub φ ψ∧y.1=g∧St ψ (F) w_) (g:=e) ?_ ?_
 ·refine AI a rfl (fun _ a=> ?_) (fun _ a=> ?_)
  ·obtain ⟨o,p,f,⟨_,_,rfl,⟨q,rfl,s⟩,_,_,rfl,⟨t,rfl,u⟩,_,_,rfl,⟨w,rfl,z⟩,_,_,rfl,⟨a0,rfl,a1⟩,_,_,rfl,⟨a2,rfl,a3⟩,_,_,rfl,⟨a4,rfl,a5⟩,_,_,rfl,⟨c,rfl,i⟩,_,_,rfl,⟨a6,rfl,a7⟩,⟨a8,rfl,a9⟩⟩,j⟩:=id d
   have k:=i.length
   refine AG _ f ?_
   refine AE (x:=c) (AD s0.sub (j.at 6 rfl)) rfl ?_
   obtain rfl:=iS a
   exact AM ((decide (state_1< ((c.2.1:Nat):Int))),()) rfl ⟨φ,(Sub.refl _),(by rw [k]),s0⟩
  obtain rfl:=iS a
  exact AM (false,()) rfl ⟨φ,(Sub.refl _),rfl,s0⟩
 rintro z1 aa ⟨l,m,rfl,n⟩
 try dsimp only at hd
 obtain rfl:=iS hd
 exact AB ⟨l,z1.1,m,rfl,rfl,n⟩
noncomputable def DC (g_0:Cg) (state_1:Int) (term_2:Int):Option (Int×Int):=
 ((ET g_0 state_1).bind fun t3=>
 cond (!t3)
 (some true)
 ((Bc (g_0.1,g_0.2.1,g_0.2.2.1,g_0.2.2.2.1,g_0.2.2.2.2.1,g_0.2.2.2.2.2.1) term_2).bind fun t11=>
  some (!t11))).bind fun z2=>
 cond z2
 (some ((0:Int),(0:Int)))
 ((idx g_0.2.2.2.2.2.2.1 state_1).bind fun e95=>
  (idx e95 term_2).bind fun e104=>
  some (e104.1,e104.2))
theorem FZ {φ:AC} {h:AF} {F:List Chk} {g_0:Option Addr} {m:Cg} {state_1:Int} {term_2:Int} (j:Pt LZ φ g_0 m) (s0:St φ (F) h) {r:(Int×Int)} (hd:DC m state_1 term_2=some r):
 CallsH Tryz.prog 42 [(.pointer g_0),(.int .i64 state_1),(.int .i64 term_2)] h (Ai fun v h'=> ∃ψ:AC,∃y:Int×Int×Unit,Sub φ ψ∧v=((.one (.agg [(.int .i64),(.int .i64)])):Sh).val y∧(y.1,y.2.1)=r∧St ψ (F) h'):=by
 refine AN mixed Tryz.func42 ?_
 rw [JO]
 unfold Gb
 unfold DC at hd
 refine AR (vs:= [.int .i64 (0:Int), .int .i64 (0:Int)]) s0 fun r1 au z=> ?_
 obtain ⟨a0,b,hd⟩:=bS hd
 refine AX (fun (y:Bool×Unit) w_ g=> ∃ψ:AC,Sub φ ψ∧y.1=g∧St ψ (Wq8 r1::F) w_) (g:=a0) ?_ ?_
 ·obtain ⟨av,a1,b⟩:=bS b
  refine AJ (JQ j z a1) ?_
  rintro _ aw ⟨a2,t3,a,rfl,rfl,c⟩
  refine ⟨t3,rfl,?_⟩
  refine AI b rfl (fun _ b=> ?_) (fun _ b=> ?_)
  ·obtain rfl:=iS b
   exact AM (true,()) rfl ⟨a2,a,rfl,c⟩
  obtain ⟨ax,ay,a3,⟨_,_,rfl,⟨n,rfl,a4⟩,_,_,rfl,⟨o,rfl,a5⟩,_,_,rfl,⟨p,rfl,a6⟩,_,_,rfl,⟨q,rfl,a7⟩,_,_,rfl,⟨s,rfl,a8⟩,_,_,rfl,⟨t,rfl,a9⟩,_,_,rfl,⟨az,rfl,b0⟩,_,_,rfl,⟨b1,rfl,b2⟩,⟨b3,rfl,b4⟩⟩,d⟩:=id j
  refine AG _ a3 ?_
  refine AE (x:=n) (AD (Sub.trans a c.sub) (d.at 0 rfl)) rfl ?_
  refine AE (x:=o) (AD (Sub.trans a c.sub) (d.at 1 rfl)) rfl ?_
  refine AE (x:=p) (AD (Sub.trans a c.sub) (d.at 2 rfl)) rfl ?_
  refine AE (x:=q) (AD (Sub.trans a c.sub) (d.at 3 rfl)) rfl ?_
  refine AE (x:=s) (AD (Sub.trans a c.sub) (d.at 4 rfl)) rfl ?_
  refine AE (x:=t) (AD (Sub.trans a c.sub) (d.at 5 rfl)) rfl ?_
  obtain ⟨b5,aa,b⟩:=bS b
  refine AJ (DJ (p_0:=(n,o,p,q,s,t,())) (a4.mono a) (a5.mono a) (a6.mono a) (a7.mono a) (a8.mono a) (a9.mono a) c aa) ?_
  rintro _ b6 ⟨ab,t11,ac,rfl,rfl,ad⟩
  refine ⟨t11,rfl,?_⟩
  obtain rfl:=iS b
  exact AM ((!t11),()) rfl ⟨ab,(a.trans ac),rfl,ad⟩
 rintro z2 b7 ⟨u,i,rfl,e⟩
 try dsimp only at hd
 refine AI hd rfl (fun _ hd=> ?_) (fun _ hd=> ?_)
 ·refine AH e rfl rfl fun b8 ae=> ?_
  refine AH ae rfl rfl fun b9 k=> ?_
  refine AA (x:=(0:Int)) k rfl ?_
  refine AA (x:=(0:Int)) k rfl ?_
  obtain rfl:=iS hd
  exact AB ⟨u,((0:Int),(0:Int),()),i,rfl,rfl,k.tail⟩
 obtain ⟨ba,bb,af,⟨_,_,rfl,⟨bc,rfl,bd⟩,_,_,rfl,⟨be,rfl,bf⟩,_,_,rfl,⟨bg,rfl,bh⟩,_,_,rfl,⟨bi,rfl,bj⟩,_,_,rfl,⟨bk,rfl,bl⟩,_,_,rfl,⟨bm,rfl,bn⟩,_,_,rfl,⟨ag,rfl,ah⟩,_,_,rfl,⟨bo,rfl,bp⟩,⟨bq,rfl,br⟩⟩,ai⟩:=id j
 refine AG _ af ?_
 refine AE (x:=ag) (AD (Sub.trans i e.sub) (ai.at 6 rfl)) rfl ?_
 obtain ⟨bs,aj,hd⟩:=bS hd
 refine LY ah aj (Sub.trans i e.sub) fun bt ak=> ?_
 obtain ⟨f,al,hd⟩:=bS hd
 obtain ⟨bu,bv,am,an,ao,w⟩:=(ak.mono i).get al
 refine AG _ am (Aa an ?_)
 obtain ⟨_,_,rfl,ap,aq⟩:=ao
 obtain rfl:=ap
 obtain rfl:=aq
 refine AE (x:=f.1) (AD e.sub (w 0 _ rfl)) rfl ?_
 refine AE (x:=f.2) (by rw [AV]; exact (AD e.sub (w 1 _ rfl))) rfl ?_
 refine AH e rfl rfl fun bw ar=> ?_
 refine AH ar rfl rfl fun bx l=> ?_
 refine AA (x:=f.1) l rfl ?_
 refine AA (x:=f.2) l rfl ?_
 obtain rfl:=iS hd
 exact AB ⟨u,(f.1,f.2,()),i,rfl,rfl,l.tail⟩
noncomputable def CD (g_0:Cg):Option (List GF):=
 (forS (σ:=List GF) (0:Int) (((List.length g_0.2.2.2.2.2.2.2.2):Nat):Int) ([] :List GF) fun i_z4 z4=>
  (idx g_0.2.2.2.2.2.2.2.2 i_z4).bind fun e59=>
  (Dg.cloneD e59.2.2.2.1).bind fun t15=>
  (app z4 ([(e59.1,e59.2.1,e59.2.2.1,t15,e59.2.2.2.2.1,e59.2.2.2.2.2.1,e59.2.2.2.2.2.2)] :List GF)).bind fun t24=>
  some t24).bind fun z3=>
 some z3
theorem Do {φ:AC} {h:AF} {F:List Chk} {g_0:Option Addr} {i:Cg} (z:Pt LZ φ g_0 i) (s0:St φ (F) h) {r:(List GF)} (hd:CD i=some r):
 CallsH Tryz.prog 40 [(.pointer g_0)] h (Ai fun v h'=> ∃ψ:AC,∃y:Slc,∃j:List GF,Sub φ ψ∧v=((.one aS):Sh).val y∧j=r∧Ro.SliceIs Jj ψ y j∧St ψ (F) h'):=by
 refine AN mixed Tryz.func40 ?_
 rw [Gk]
 unfold ER
 unfold CD at hd
 obtain ⟨bk,bl,a0,⟨_,_,rfl,⟨bm,rfl,bn⟩,_,_,rfl,⟨bo,rfl,bp⟩,_,_,rfl,⟨bq,rfl,br⟩,_,_,rfl,⟨bs,rfl,bt⟩,_,_,rfl,⟨bu,rfl,bv⟩,_,_,rfl,⟨bw,rfl,bx⟩,_,_,rfl,⟨bz,rfl,c0⟩,_,_,rfl,⟨c1,rfl,c2⟩,⟨a1,rfl,k⟩⟩,a2⟩:=id z
 have l:=k.length
 refine AG _ a0 ?_
 refine AE (x:=a1) (AD s0.sub (a2.at 8 rfl)) rfl ?_
 obtain ⟨a3,a4,hd⟩:=bS hd
 refine AS (fun (y:Int×Slc×Unit) w_ g=> ∃ψ:AC,∃m:List GF,Sub φ ψ∧m=g∧St ψ (cR 89 Jj y.2.1 m::F) w_) (g:=a3) ?_ ?_
 ·refine Ax a4 (fun a5 (y:Int×Slc×Unit) w_ g=> ∃ψ:AC,∃n:List GF,Sub φ ψ∧y.1=a5∧n=g∧St ψ (cR 89 Jj y.2.1 n::F) w_) ((0:Int),((none,0,0):Slc),()) rfl ⟨φ,([] :List GF),(Sub.refl _),rfl,rfl,(s0.nil 89 Jj)⟩ ?_ ?_
  ·rintro _ z4 c3 _ _ ⟨c4,c5,o,rfl,rfl,c⟩ d a6 p q
   try dsimp only at d a6 p q
   refine Ad (dT l p) ?_
   obtain ⟨b,a7,d⟩:=bS d
   obtain ⟨c6,c7,a8,a9,aa,f⟩:=(k.mono o).get a7
   refine AG _ a8 (Aa a9 ?_)
   obtain ⟨_,_,rfl,ab,ac⟩:=aa
   obtain rfl:=ab
   obtain ⟨_,_,rfl,ad,ae⟩:=ac
   obtain rfl:=ad
   obtain ⟨_,_,rfl,af,ag⟩:=ae
   obtain rfl:=af
   obtain ⟨_,_,rfl,ah,ai⟩:=ag
   obtain ⟨s,rfl,aj⟩:=ah
   obtain ⟨_,_,rfl,ak,al⟩:=ai
   obtain rfl:=ak
   obtain ⟨_,_,rfl,am,an⟩:=al
   obtain rfl:=am
   obtain rfl:=an
   refine AE (x:=b.1) (AD c.sub (f 0 _ rfl)) rfl ?_
   refine AE (x:=b.2.1) (by rw [AV]; exact (AD c.sub (f 1 _ rfl))) rfl ?_
   refine AE (x:=b.2.2.1) (by rw [AV]; exact (AD c.sub (f 2 _ rfl))) rfl ?_
   refine AE (x:=s) (by rw [AV]; exact (AD c.sub (f 3 _ rfl))) rfl ?_
   refine AE (x:=b.2.2.2.2.1) (by rw [AV]; exact (AD c.sub (f 4 _ rfl))) rfl ?_
   refine AE (x:=b.2.2.2.2.2.1) (by rw [AV]; exact (AD c.sub (f 5 _ rfl))) rfl ?_
   refine AE (x:=b.2.2.2.2.2.2) (by rw [AV]; exact (AD c.sub (f 6 _ rfl))) rfl ?_
   refine AR (vs:= [.int .i64 (0:Int), .int .i64 (0:Int), .int .i64 (0:Int), .slice none 0 0, .int .i64 (0:Int), .int .i64 (0:Int), .bool false]) c fun r13 c8 ao=> ?_
   refine AH ao rfl rfl fun c9 ap=> ?_
   refine AH ap rfl rfl fun ca aq=> ?_
   refine AH aq rfl rfl fun cb ar=> ?_
   refine AH ar rfl rfl fun cc au=> ?_
   refine AH au rfl rfl fun cd av=> ?_
   refine AH av rfl rfl fun ce aw=> ?_
   refine AH aw rfl rfl fun cf u=> ?_
   refine AA (x:=s) u rfl ?_
   obtain ⟨cg,ax,d⟩:=bS d
   refine AJ (Dg.clone46_ro aj u ax) ?_
   rintro _ ch ⟨ci,t15,ay,az,rfl,rfl,b0⟩
   refine ⟨t15,rfl,?_⟩
   refine AH b0.at1 rfl rfl fun cj e=> ?_
   refine AA (x:=b.1) e rfl ?_
   refine AA (x:=b.2.1) e rfl ?_
   refine AA (x:=b.2.2.1) e rfl ?_
   refine AA (x:=t15) e rfl ?_
   refine AA (x:=b.2.2.2.2.1) e rfl ?_
   refine AA (x:=b.2.2.2.2.2.1) e rfl ?_
   refine AA (x:=b.2.2.2.2.2.2) e rfl ?_
   refine AR (vs:= [.int .i64 b.1, .int .i64 b.2.1, .int .i64 b.2.2.1,sv t15, .int .i64 b.2.2.2.2.1, .int .i64 b.2.2.2.2.2.1, .bool b.2.2.2.2.2.2]) e fun r23 ck b1=> ?_
   obtain ⟨b2,b3,b4,w⟩:=St.freezeRow (t:=t15) b1.at2
   obtain ⟨b5,b6,d⟩:=bS d
   refine Ab (r:=Jj) (ms:=([(b.1,b.2.1,b.2.2.1,ay,b.2.2.2.2.1,b.2.2.2.2.2.1,b.2.2.2.2.2.2)] :List GF)) L4 w.tail.at1 rfl (St.cells w) (.cons (a:= [_,_,_,_,_,_,_]) ⟨[_],_,rfl,rfl,⟨[_],_,rfl,rfl,⟨[_],_,rfl,rfl,⟨[_],_,rfl,⟨t15,rfl,b4⟩,⟨[_],_,rfl,rfl,⟨[_],_,rfl,rfl,rfl⟩⟩⟩⟩⟩⟩ .nil) rfl b6 ?_
   intro t24 cl b7
   obtain rfl:=iS d
   exact Ac ((wN z4.1),t24,()) _ rfl rfl ⟨b2,b5,((o.trans az).trans b3),q,rfl,b7.at1.tail⟩
  ·rintro _ z4 cm ⟨b8,b9,ba,rfl,rfl,bb⟩ bc
   refine AU (dF l bc) ?_
   exact AL (AO (z4.1,z4.2.1,()) rfl ⟨b8,b9,ba,rfl,bb⟩)
 rintro z3 cn ⟨co,bd,be,rfl,bf⟩
 try dsimp only at hd
 obtain ⟨bg,bh,bi,bj⟩:=St.freezeRow (t:=z3.2.1) bf
 obtain rfl:=iS hd
 exact AB ⟨bg,z3.2.1,bd,(be.trans bh),rfl,rfl,bi,bj⟩
noncomputable def Cu (c_0:GF):Option Bool:=
 some c_0.2.2.2.2.2.2
theorem Gm {φ:AC} {h:AF} {F:List Chk} {c_0:Int×Int×Int×Slc×Int×Int×Bool×Unit} {a:List Int} (c:Ro.SliceIs (Ro.int .i64) φ c_0.2.2.2.1 a) (s0:St φ (F) h) {r:Bool} (hd:Cu (c_0.1,c_0.2.1,c_0.2.2.1,a,c_0.2.2.2.2.1,c_0.2.2.2.2.2.1,c_0.2.2.2.2.2.2.1)=some r):
 CallsH Tryz.prog 88 [(.agg #[(.int .i64 c_0.1),(.int .i64 c_0.2.1),(.int .i64 c_0.2.2.1),(sv c_0.2.2.2.1),(.int .i64 c_0.2.2.2.2.1),(.int .i64 c_0.2.2.2.2.2.1),(.bool c_0.2.2.2.2.2.2.1)])] h (Ai fun v h'=> ∃ψ:AC,∃y:Bool,Sub φ ψ∧v=((.one aB):Sh).val y∧y=r∧St ψ (F) h'):=by
 refine AN mixed Tryz.func88 ?_
 rw [Gl]
 unfold ES
 unfold Cu at hd
 refine AR (vs:= [.int .i64 c_0.1, .int .i64 c_0.2.1, .int .i64 c_0.2.2.1,sv c_0.2.2.2.1, .int .i64 c_0.2.2.2.2.1, .int .i64 c_0.2.2.2.2.2.1, .bool c_0.2.2.2.2.2.2.1]) s0 fun r1 d b=> ?_
 refine AA (x:=c_0.2.2.2.2.2.2.1) b rfl ?_
 obtain rfl:=iS hd
 exact AB ⟨φ,c_0.2.2.2.2.2.2.1,(Sub.refl _),rfl,rfl,b.tail⟩
noncomputable def BI (s_0:List GF):Option Int:=
 (DG (σ:=Unit) (β:=Int) (0:Int) (((List.length s_0):Nat):Int) () fun i_z2 z2=>
  (idx s_0 i_z2).bind fun e23=>
  (Cu (e23.1,e23.2.1,e23.2.2.1,e23.2.2.2.1,e23.2.2.2.2.1,e23.2.2.2.2.2.1,e23.2.2.2.2.2.2)).bind fun t11=>
  cond t11
  (some (AY.done i_z2))
  (some (AY.next ()))).bind fun e_z1=>match e_z1 with
 | .next z1=>
  some (-1:Int)
 | .done q57=>some q57
theorem Cl {φ:AC} {h:AF} {F:List Chk} {s_0:Slc} {e:List GF} (i:Ro.SliceIs Jj φ s_0 e) (s0:St φ (F) h) {r:Int} (hd:BI e=some r):
 CallsH Tryz.prog 119 [(sv s_0),(.func (.func 88) #[] #[])] h (Ai fun v h'=> ∃ψ:AC,∃y:Int,Sub φ ψ∧v=((.one aI):Sh).val y∧y=r∧St ψ (F) h'):=by
 refine AN mixed Tryz.func119 ?_
 rw [Ck]
 unfold Bq
 unfold BI at hd
 have j:s_0.2.1=List.length e:=i.length
 obtain ⟨q,s,hd⟩:=bS hd
 refine AS (fun (y:Int×Int×Unit) w_ g=> ∃ψ:AC,Sub φ ψ∧AY.next ()=g∧St ψ (F) w_) (g:=q) ?_ ?_
 ·refine Bz s (fun t (y:Int×Int×Unit) w_ g=> ∃ψ:AC,Sub φ ψ∧y.1=t∧()=g∧St ψ (F) w_) ((0:Int),(0:Int),()) rfl ⟨φ,(Sub.refl _),rfl,rfl,s0⟩ ?_ ?_
  ·rintro _ z2 ap _ _ ⟨aq,f,rfl,rfl,c⟩ b u k l w
   try dsimp only at b u k l
   refine Ad (dT j k) ?_
   obtain ⟨a,z,b⟩:=bS b
   obtain ⟨ar,au,a0,a1,a2,d⟩:=(i.mono f).get z
   refine AG _ a0 (Aa a1 ?_)
   obtain ⟨_,_,rfl,a3,a4⟩:=a2
   obtain rfl:=a3
   obtain ⟨_,_,rfl,a5,a6⟩:=a4
   obtain rfl:=a5
   obtain ⟨_,_,rfl,a7,a8⟩:=a6
   obtain rfl:=a7
   obtain ⟨_,_,rfl,a9,aa⟩:=a8
   obtain ⟨m,rfl,ab⟩:=a9
   obtain ⟨_,_,rfl,ac,ad⟩:=aa
   obtain rfl:=ac
   obtain ⟨_,_,rfl,ae,af⟩:=ad
   obtain rfl:=ae
   obtain rfl:=af
   refine AE (x:=a.1) (AD c.sub (d 0 _ rfl)) rfl ?_
   refine AE (x:=a.2.1) (by rw [AV]; exact (AD c.sub (d 1 _ rfl))) rfl ?_
   refine AE (x:=a.2.2.1) (by rw [AV]; exact (AD c.sub (d 2 _ rfl))) rfl ?_
   refine AE (x:=m) (by rw [AV]; exact (AD c.sub (d 3 _ rfl))) rfl ?_
   refine AE (x:=a.2.2.2.2.1) (by rw [AV]; exact (AD c.sub (d 4 _ rfl))) rfl ?_
   refine AE (x:=a.2.2.2.2.2.1) (by rw [AV]; exact (AD c.sub (d 5 _ rfl))) rfl ?_
   refine AE (x:=a.2.2.2.2.2.2) (by rw [AV]; exact (AD c.sub (d 6 _ rfl))) rfl ?_
   obtain ⟨av,ag,b⟩:=bS b
   refine AJ (Gm (c_0:=(a.1,a.2.1,a.2.2.1,m,a.2.2.2.2.1,a.2.2.2.2.2.1,a.2.2.2.2.2.2,())) ab c ag) ?_
   rintro _ aw ⟨n,t11,o,rfl,rfl,p⟩
   refine ⟨t11,rfl,?_⟩
   refine AI b rfl (fun _ b=> ?_) (fun _ b=> ?_)
   ·obtain rfl:=iS b
    obtain rfl:=w _ rfl
    try dsimp only at hd
    obtain rfl:=iS hd
    exact Al (Aj (AB ⟨n,z2.1,(f.trans o),rfl,rfl,p⟩))
   obtain rfl:=iS b
   exact Ac ((wN z2.1),z2.2.1,()) _ rfl rfl ⟨n,(f.trans o),l,rfl,p⟩
  ·rintro _ z2 ax _ ⟨ah,ai,rfl,rfl,aj⟩ ak al
   subst al
   refine AU (dF j ak) ?_
   exact AL (AO (z2.1,z2.2.1,()) rfl ⟨ah,ai,rfl,aj⟩)
 rintro z1 ay ⟨am,an,rfl,ao⟩
 try dsimp only at hd
 obtain rfl:=iS hd
 exact AB ⟨am,(-1:Int),an,rfl,rfl,ao⟩
noncomputable def BA (s_0:List GF):Option Bool:=
 (BI s_0).bind fun t1=>
 some (decide (t1≥ (0:Int)))
theorem CZ {φ:AC} {h:AF} {F:List Chk} {s_0:Slc} {a:List GF} (b:Ro.SliceIs Jj φ s_0 a) (s0:St φ (F) h) {r:Bool} (hd:BA a=some r):
 CallsH Tryz.prog 87 [(sv s_0),(.func (.func 88) #[] #[])] h (Ai fun v h'=> ∃ψ:AC,∃y:Bool,Sub φ ψ∧v=((.one aB):Sh).val y∧y=r∧St ψ (F) h'):=by
 refine AN mixed Tryz.func87 ?_
 rw [CY]
 unfold Bf
 unfold BA at hd
 obtain ⟨g,c,hd⟩:=bS hd
 refine AJ (Cl b s0 c) ?_
 rintro _ i ⟨d,t1,e,rfl,rfl,f⟩
 refine ⟨t1,rfl,?_⟩
 obtain rfl:=iS hd
 exact AB ⟨d,(decide (t1≥ (0:Int))),e,rfl,rfl,f⟩
noncomputable def CW (g_0:Cg):Option Bool:=
 (BA g_0.2.2.2.2.2.2.2.2).bind fun t3=>
 some (!t3)
theorem EU {φ:AC} {h:AF} {F:List Chk} {g_0:Option Addr} {a:Cg} (b:Pt LZ φ g_0 a) (s0:St φ (F) h) {r:Bool} (hd:CW a=some r):
 CallsH Tryz.prog 43 [(.pointer g_0)] h (Ai fun v h'=> ∃ψ:AC,∃y:Bool,Sub φ ψ∧v=((.one aB):Sh).val y∧y=r∧St ψ (F) h'):=by
 refine AN mixed Tryz.func43 ?_
 rw [Hd]
 unfold FH
 unfold CW at hd
 obtain ⟨l,m,c,⟨_,_,rfl,⟨n,rfl,o⟩,_,_,rfl,⟨p,rfl,q⟩,_,_,rfl,⟨s,rfl,t⟩,_,_,rfl,⟨u,rfl,w⟩,_,_,rfl,⟨z,rfl,a0⟩,_,_,rfl,⟨a1,rfl,a2⟩,_,_,rfl,⟨a3,rfl,a4⟩,_,_,rfl,⟨a5,rfl,a6⟩,⟨d,rfl,e⟩⟩,f⟩:=id b
 refine AG _ c ?_
 refine AE (x:=d) (AD s0.sub (f.at 8 rfl)) rfl ?_
 obtain ⟨a7,g,hd⟩:=bS hd
 refine AJ (CZ e s0 g) ?_
 rintro _ a8 ⟨i,t3,j,rfl,rfl,k⟩
 refine ⟨t3,rfl,?_⟩
 obtain rfl:=iS hd
 exact AB ⟨i,(!t3),j,rfl,rfl,k⟩
noncomputable def Hm (p_0:BJ) (a_1:Cw) (l_2:(Option LkD)):Option (Option Cg):=
 (B7 a_1).bind fun t9=>
 (forS (σ:=Cg) (0:Int) t9 (p_0.1,p_0.2.1,p_0.2.2.1,p_0.2.2.2.1,p_0.2.2.2.2.1,p_0.2.2.2.2.2,([] :List (List DZ)),([] :List (List Int)),([] :List GF)) fun i_z11 z11=>
  (forS (σ:=(List DZ×Cg)) (0:Int) (((List.length p_0.1):Nat):Int) (([] :List DZ),z11) fun i_z14 z14=>
   (De z14.2 a_1 l_2 i_z11 i_z14).bind fun t15=>
   (app z14.1 ([(t15.1,t15.2.1)] :List DZ)).bind fun t17=>
   some (t17,t15.2.2)).bind fun z13=>
  (forS (σ:=List Int) (0:Int) (((List.length p_0.2.1):Nat):Int) ([] :List Int) fun i_z20 z20=>
   (CH a_1 i_z11 (IntKind.wrap .i64 ((((List.length p_0.1):Nat):Int) +i_z20))).bind fun t22=>
   (app z20 ([t22] :List Int)).bind fun t24=>
   some t24).bind fun z19=>
  (app z13.2.2.2.2.2.2.2.1 ([z13.1] :List (List DZ))).bind fun t28=>
  (app z13.2.2.2.2.2.2.2.2.1 ([z19] :List (List Int))).bind fun t30=>
  some (z13.2.1,z13.2.2.1,z13.2.2.2.1,z13.2.2.2.2.1,z13.2.2.2.2.2.1,z13.2.2.2.2.2.2.1,t28,t30,z13.2.2.2.2.2.2.2.2.2)).bind fun z10=>
 some (some z10)
theorem L7 {φ:AC} {h:AF} {F:List Chk} {p_0:Pl6} {a2:List ByteArray} {a3:List ByteArray} {a7:List BV} {a8:List Int} {a9:List Int} {aa:List ByteArray} {a_1:Option Addr} {b0:Cw} {l_2:Option Addr} {e:(Option LkD)} (gk:Dg.Glob φ) (b1:Ro.SliceIs Ro.str φ p_0.1 a2) (b2:Ro.SliceIs Ro.str φ p_0.2.1 a3) (ce:Ro.SliceIs BS φ p_0.2.2.1 a7) (cf:Ro.SliceIs (Ro.int .i64) φ p_0.2.2.2.1 a8) (cg:Ro.SliceIs (Ro.int .i64) φ p_0.2.2.2.2.1 a9) (ch:Ro.SliceIs Ro.str φ p_0.2.2.2.2.2.1 aa) (ah:Pt E1 φ a_1 b0) (s0:St φ (⟨By, [.pointer l_2],e⟩::F) h) {r:(Option Cg)} (hd:Hm (a2,a3,a7,a8,a9,aa) b0 e=some r):
 CallsH Tryz.prog 83 [(aG p_0),(.pointer a_1),(.pointer l_2)] h (Ai fun v h'=> ∃ψ:AC,∃y:Option Addr,∃b3:Option Cg,Sub φ ψ∧v=((.one aP):Sh).val y∧b3=r∧Np LZ ψ y b3∧St ψ (⟨By, [.pointer l_2],e⟩::F) h'):=by
 refine AN mixed Tryz.func83 ?_
 rw [L3]
 unfold KZ
 unfold Hm at hd
 have ai:p_0.1.2.1=List.length a2:=b1.length
 have b4:p_0.2.1.2.1=List.length a3:=b2.length
 refine AR (vs:= [sv p_0.1,sv p_0.2.1,sv p_0.2.2.1,sv p_0.2.2.2.1,sv p_0.2.2.2.2.1,sv p_0.2.2.2.2.2.1]) s0 fun r1 gc i=> ?_
 refine AA (x:=p_0.1) i rfl ?_
 refine AA (x:=p_0.2.1) i rfl ?_
 refine AA (x:=p_0.2.2.1) i rfl ?_
 refine AA (x:=p_0.2.2.2.1) i rfl ?_
 refine AA (x:=p_0.2.2.2.2.1) i rfl ?_
 refine AA (x:=p_0.2.2.2.2.2.1) i rfl ?_
 refine AR (vs:= [sv p_0.1,sv p_0.2.1,sv p_0.2.2.1,sv p_0.2.2.2.1,sv p_0.2.2.2.2.1,sv p_0.2.2.2.2.2.1, .slice none 0 0, .slice none 0 0, .slice none 0 0]) i fun r8 gd ci=> ?_
 obtain ⟨ge,cj,hd⟩:=bS hd
 refine AJ (Cb ah ci cj) ?_
 rintro _ gf ⟨ab,t9,f,rfl,rfl,ck⟩
 refine ⟨t9,rfl,?_⟩
 have cl:=St.unro (r:=(Ro.list Ro.str)) (cs:= [sv p_0.2.2.2.2.2.1]) (x:=aa) (St.unpair ((St.unpair ((((ck.nil 163 (Ro.list CR)).nil 30 (Ro.list (Ro.int .i64))).nil 89 Jj).at1)).at1)) ⟨p_0.2.2.2.2.2.1,rfl,(ch.mono f)⟩
 have cm:=St.unro (r:=(Ro.list (Ro.int .i64))) (cs:= [sv p_0.2.2.2.2.1]) (x:=a9) (St.unpair cl) ⟨p_0.2.2.2.2.1,rfl,(cg.mono f)⟩
 have cn:=St.unro (r:=(Ro.list (Ro.int .i64))) (cs:= [sv p_0.2.2.2.1]) (x:=a8) (St.unpair cm) ⟨p_0.2.2.2.1,rfl,(cf.mono f)⟩
 have co:=St.unpair (St.unro (r:=(Ro.list BS)) (cs:= [sv p_0.2.2.1]) (x:=a7) (St.unpair cn) ⟨p_0.2.2.1,rfl,(ce.mono f)⟩)
 have cp:=St.unro (r:=(Ro.list Ro.str)) (cs:= [sv p_0.1]) (x:=a2) (St.unpair (St.unro (r:=(Ro.list Ro.str)) (cs:= [sv p_0.2.1]) (x:=a3) co ⟨p_0.2.1,rfl,(b2.mono f)⟩)) ⟨p_0.1,rfl,(b1.mono f)⟩
 have cq:St ab (cO 159 Rq0 (some ⟨r8,0,none⟩) (a2,a3,a7,a8,a9,aa,([] :List (List DZ)),([] :List (List Int)),([] :List GF))::Wq2 r1 p_0::⟨By, [.pointer l_2],e⟩::F) _:=St.shut (St.unpair cp).at1
 obtain ⟨cr,ct,hd⟩:=bS hd
 refine AS (fun (y:Int×Unit) w_ g=> ∃ψ:AC,∃b5:Cg,Sub ab ψ∧b5=g∧St ψ (cO 159 Rq0 (some ⟨r8,0,none⟩) b5::Wq2 r1 p_0::⟨By, [.pointer l_2],e⟩::F) w_) (g:=cr) ?_ ?_
 ·refine Ax ct (fun cu (y:Int×Unit) w_ g=> ∃ψ:AC,∃b6:Cg,Sub ab ψ∧y.1=cu∧b6=g∧St ψ (cO 159 Rq0 (some ⟨r8,0,none⟩) b6::Wq2 r1 p_0::⟨By, [.pointer l_2],e⟩::F) w_) ((0:Int),()) rfl ⟨ab,(a2,a3,a7,a8,a9,aa,([] :List (List DZ)),([] :List (List Int)),([] :List GF)),(Sub.refl _),rfl,rfl,cq.at2.at2.at2⟩ ?_ ?_
  ·rintro _ z11 gg _ _ ⟨aj,cv,a4,rfl,rfl,b7⟩ d cw b8 ac
   try dsimp only at d cw b8 ac
   refine Ad (by exact decide_eq_true b8) ?_
   refine AA (x:=p_0.1) b7.at1 rfl ?_
   obtain ⟨cx,cy,d⟩:=bS d
   refine AS (fun (y:Int×Slc×Unit) w_ g=> ∃ψ:AC,∃b9:List DZ,∃ba:Cg,Sub aj ψ∧(b9,ba)=g∧St ψ (cR 77 CR y.2.1 b9::cO 159 Rq0 (some ⟨r8,0,none⟩) ba::Wq2 r1 p_0::⟨By, [.pointer l_2],e⟩::F) w_) (g:=cx) ?_ ?_
   ·refine Ax cy (fun cz (y:Int×Slc×Unit) w_ g=> ∃ψ:AC,∃bb:List DZ,∃bc:Cg,Sub aj ψ∧y.1=cz∧(bb,bc)=g∧St ψ (cR 77 CR y.2.1 bb::cO 159 Rq0 (some ⟨r8,0,none⟩) bc::Wq2 r1 p_0::⟨By, [.pointer l_2],e⟩::F) w_) ((0:Int),((none,0,0):Slc),()) rfl ⟨aj,([] :List DZ),cv,(Sub.refl _),rfl,rfl,(((((b7.nil 77 CR).at3).at3).at3).at3)⟩ ?_ ?_
    ·rintro _ z14 gh _ _ ⟨gi,gj,gl,ak,rfl,rfl,d0⟩ k d1 bd be
     try dsimp only at k d1 bd be
     refine Ad (dT ai bd) ?_
     obtain ⟨gm,d2,k⟩:=bS k
     refine AJ (IB (gk.mono ((f.trans a4).trans ak)) (ah.mono ((f.trans a4).trans ak)) d0.at3.at2 d2) ?_
     rintro _ gn ⟨d3,t15,d4,d5,rfl,rfl,d6⟩
     refine ⟨t15,rfl,?_⟩
     try dsimp only at k
     refine AR (vs:= [.int .i64 t15.1, .int .i64 t15.2.1]) d6 fun r16 go bf=> ?_
     obtain ⟨d7,d8,k⟩:=bS k
     refine Ab (r:=CR) (ms:=([(t15.1,t15.2.1)] :List DZ)) NK bf.tail.at2 rfl (St.cells bf) (.cons (a:= [_,_]) ⟨[_],_,rfl,rfl,rfl⟩ .nil) rfl d8 ?_
     intro t17 gp d9
     obtain rfl:=iS k
     exact Ac ((wN z14.1),t17,()) _ rfl rfl ⟨d3,d7,d4,(ak.trans d5),be,rfl,d9.at1.at3.at3.at3⟩
    ·rintro _ z14 gq ⟨da,db,dc,dd,rfl,rfl,de⟩ df
     refine AU (dF ai df) ?_
     exact AL (AO (z14.1,z14.2.1,()) rfl ⟨da,db,dc,dd,rfl,de.at3.at3.at3.at3⟩)
   rintro z13 gr ⟨al,a5,c,ad,rfl,bg⟩
   try dsimp only at d
   refine AA (x:=p_0.2.1) bg.at2 rfl ?_
   obtain ⟨dg,dh,d⟩:=bS d
   refine AS (fun (y:Int×Slc×Unit) w_ g=> ∃ψ:AC,∃bh:List Int,Sub al ψ∧bh=g∧St ψ (cR 3 (Ro.int .i64) y.2.1 bh::cR 77 CR z13.2.1 a5::cO 159 Rq0 (some ⟨r8,0,none⟩) c::Wq2 r1 p_0::⟨By, [.pointer l_2],e⟩::F) w_) (g:=dg) ?_ ?_
   ·refine Ax dh (fun di (y:Int×Slc×Unit) w_ g=> ∃ψ:AC,∃bi:List Int,Sub al ψ∧y.1=di∧bi=g∧St ψ (cR 3 (Ro.int .i64) y.2.1 bi::cR 77 CR z13.2.1 a5::cO 159 Rq0 (some ⟨r8,0,none⟩) c::Wq2 r1 p_0::⟨By, [.pointer l_2],e⟩::F) w_) ((0:Int),((none,0,0):Slc),()) rfl ⟨al,([] :List Int),(Sub.refl _),rfl,rfl,((((((bg.nil 3 (Ro.int .i64)).at4).at4).at4).at4).at4)⟩ ?_ ?_
    ·rintro _ z20 gs _ _ ⟨gt,gu,bj,rfl,rfl,bk⟩ a6 dj bl bm
     try dsimp only at a6 dj bl bm
     refine Ad (dT b4 bl) ?_
     refine AA (x:=p_0.1) bk.at3 rfl ?_
     obtain ⟨gv,bn,a6⟩:=bS a6
     rw [← ai] at bn
     refine AJ (Cs (ah.mono (((f.trans a4).trans ad).trans bj)) bk bn) ?_
     rintro _ gw ⟨dk,t22,dl,rfl,rfl,dm⟩
     refine ⟨t22,rfl,?_⟩
     refine AR (vs:= [.int .i64 t22]) dm fun r23 gx bo=> ?_
     obtain ⟨dn,dp,a6⟩:=bS a6
     refine Ab (r:=(Ro.int .i64)) (ms:=([t22] :List Int)) Dz bo.tail rfl (St.cells bo) (.cons (a:= [_]) rfl .nil) rfl dp ?_
     intro t24 gy dq
     obtain rfl:=iS a6
     exact Ac ((wN z20.1),t24,()) _ rfl rfl ⟨dk,dn,(bj.trans dl),bm,rfl,dq.at4.at4.at4.at4.at4⟩
    ·rintro _ z20 gz ⟨dr,ds,dt,rfl,rfl,du⟩ dv
     refine AU (dF b4 dv) ?_
     exact AL (AO (z20.1,z20.2.1,()) rfl ⟨dr,ds,dt,rfl,du.at4.at4.at4.at4.at4⟩)
   rintro z19 h0 ⟨dw,ae,am,rfl,dx⟩
   try dsimp only at d
   obtain ⟨dy,h1,bp,h2,dz⟩:=dx.at2.open
   obtain rfl:r8=dy:=by simpa using bp
   clear bp
   obtain ⟨h3,h4,rfl,h5,e0⟩:=dz.at1.pair
   obtain ⟨e1,e2⟩:=e0.ro
   obtain ⟨l,e3,an⟩:=e1
   subst e3
   obtain ⟨h6,h7,rfl,h8,e4⟩:=e2.pair
   obtain ⟨e5,e6⟩:=e4.ro
   obtain ⟨m,e7,ao⟩:=e5
   subst e7
   obtain ⟨h9,hb,rfl,hc,e8⟩:=e6.pair
   obtain ⟨e9,ea⟩:=e8.ro
   obtain ⟨n,eb,ap⟩:=e9
   subst eb
   obtain ⟨he,hf,rfl,hg,ec⟩:=ea.pair
   obtain ⟨ed,ee⟩:=ec.ro
   obtain ⟨o,ef,aq⟩:=ed
   subst ef
   obtain ⟨hh,hi,rfl,hj,eg⟩:=ee.pair
   obtain ⟨eh,ei⟩:=eg.ro
   obtain ⟨p,ej,ar⟩:=eh
   subst ej
   obtain ⟨hk,hl,rfl,hm,ek⟩:=ei.pair
   obtain ⟨el,em⟩:=ek.ro
   obtain ⟨q,en,au⟩:=el
   subst en
   obtain ⟨hn,ho,rfl,hp,bq⟩:=em.pair
   obtain ⟨av,eo⟩:=bq.rowCs
   subst eo
   obtain ⟨hq,hr,rfl,hs,br⟩:=bq.at1.pair
   obtain ⟨aw,ep⟩:=br.rowCs
   subst ep
   have bs:=br.at1
   obtain ⟨bt,er⟩:=bs.rowCs
   subst er
   have af:St dw (cR 89 Jj bt c.2.2.2.2.2.2.2.2::cR 30 (Ro.list (Ro.int .i64)) aw c.2.2.2.2.2.2.2.1::cR 163 (Ro.list CR) av c.2.2.2.2.2.2.1::cW 159 r8 [sv l,sv m,sv n,sv o,sv p,sv q,sv av,sv aw,sv bt] ::cR 3 (Ro.int .i64) z19.2.1 ae::cR 77 CR z13.2.1 a5::Wq2 r1 p_0::⟨By, [.pointer l_2],e⟩::F) _:=bs
   refine AA (x:=av) af.at3 rfl ?_
   refine AA (x:=aw) af.at3 rfl ?_
   refine ED ?_ ?_
   ·refine AR (vs:= [sv z13.2.1]) af fun r27 ht ag=> ?_
    refine AK (St.cell (b:=r8) (j:=7) ag.at4 rfl) ?_
    refine AK (St.cell (b:=r8) (j:=6) ag.at4 rfl) ?_
    refine ED ?_ ?_
    ·have es:=ag.at6
     obtain ⟨hu,s,eu,bu⟩:=St.freezeRow (t:=z13.2.1) es
     obtain ⟨bv,ev,d⟩:=bS d
     refine Ab (r:=(Ro.list CR)) (ms:=([a5] :List (List DZ))) Hl bu.tail.at2 rfl (St.cells bu) (.cons (a:= [_]) ⟨z13.2.1,rfl,eu⟩ .nil) rfl ev ?_
     intro t28 hv bw
     refine AK (St.cell (b:=r8) (j:=7) bw.at3 rfl) ?_
     refine AR (vs:= [sv z19.2.1]) bw fun r29 hw bx=> ?_
     refine AK (St.cell (b:=r8) (j:=7) bx.at4 rfl) ?_
     obtain ⟨bz,u,ew,c0⟩:=St.freezeRow (t:=z19.2.1) bx.at5
     obtain ⟨c1,ex,d⟩:=bS d
     refine Ab (r:=(Ro.list (Ro.int .i64))) (ms:=([ae] :List (List Int))) Jz c0.tail.at2 rfl (St.cells c0) (.cons (a:= [_]) ⟨z19.2.1,rfl,ew⟩ .nil) rfl ex ?_
     intro t30 hx ey
     refine AH ey.at3 rfl rfl fun hy ez=> ?_
     refine AH ez rfl rfl fun hz f0=> ?_
     have f1:=St.unro (r:=(Ro.list Ro.str)) (cs:= [sv q]) (x:=c.2.2.2.2.2.1) (St.unpair ((St.unpair f0.at2.at2.at3.at1).at1)) ⟨q,rfl,(au.mono (s.trans u))⟩
     have f2:=St.unro (r:=(Ro.list (Ro.int .i64))) (cs:= [sv p]) (x:=c.2.2.2.2.1) (St.unpair f1) ⟨p,rfl,(ar.mono (s.trans u))⟩
     have f3:=St.unro (r:=(Ro.list (Ro.int .i64))) (cs:= [sv o]) (x:=c.2.2.2.1) (St.unpair f2) ⟨o,rfl,(aq.mono (s.trans u))⟩
     have f4:=St.unro (r:=(Ro.list BS)) (cs:= [sv n]) (x:=c.2.2.1) (St.unpair f3) ⟨n,rfl,(ap.mono (s.trans u))⟩
     have f5:=St.unro (r:=(Ro.list Ro.str)) (cs:= [sv m]) (x:=c.2.1) (St.unpair f4) ⟨m,rfl,(ao.mono (s.trans u))⟩
     have f6:=St.unro (r:=(Ro.list Ro.str)) (cs:= [sv l]) (x:=c.1) (St.unpair f5) ⟨l,rfl,(an.mono (s.trans u))⟩
     have f7:St bz (cO 159 Rq0 (some ⟨r8,0,none⟩) (c.1,c.2.1,c.2.2.1,c.2.2.2.1,c.2.2.2.2.1,c.2.2.2.2.2.1,bv,c1,c.2.2.2.2.2.2.2.2)::Wq2 r1 p_0::⟨By, [.pointer l_2],e⟩::F) _:=St.shut (St.unpair f6).at1
     obtain rfl:=iS d
     exact Ac ((wN z11.1),()) _ rfl rfl ⟨bz,(c.1,c.2.1,c.2.2.1,c.2.2.2.1,c.2.2.2.2.1,c.2.2.2.2.2.1,bv,c1,c.2.2.2.2.2.2.2.2),((((a4.trans ad).trans am).trans s).trans u),ac,rfl,f7.at2.at2.at2⟩
    ·refine AR (vs:= [sv z19.2.1]) ag fun r31 i0 ax=> ?_
     refine AK (St.cell (b:=r8) (j:=7) ax.at5 rfl) ?_
     refine AK (St.cell (b:=r8) (j:=6) ax.at5 rfl) ?_
     obtain ⟨i1,w,f8,c2⟩:=St.freezeRow (t:=z13.2.1) ax.at7
     obtain ⟨c3,f9,d⟩:=bS d
     refine Ab (r:=(Ro.list CR)) (ms:=([a5] :List (List DZ))) Hl c2.at1.tail.at3 rfl (St.cells c2.at1) (.cons (a:= [_]) ⟨z13.2.1,rfl,f8⟩ .nil) rfl f9 ?_
     intro t32 i2 c4
     refine AK (St.cell (b:=r8) (j:=7) c4.at4 rfl) ?_
     obtain ⟨c5,z,fa,c6⟩:=St.freezeRow (t:=z19.2.1) c4.at5
     obtain ⟨c7,fb,d⟩:=bS d
     refine Ab (r:=(Ro.list (Ro.int .i64))) (ms:=([ae] :List (List Int))) Jz c6.at1.tail.at2 rfl (St.cells c6.at1) (.cons (a:= [_]) ⟨z19.2.1,rfl,fa⟩ .nil) rfl fb ?_
     intro t33 i3 fc
     refine AH fc.at3 rfl rfl fun i4 fd=> ?_
     refine AH fd rfl rfl fun i5 fe=> ?_
     have ff:=St.unro (r:=(Ro.list Ro.str)) (cs:= [sv q]) (x:=c.2.2.2.2.2.1) (St.unpair ((St.unpair fe.at2.at2.at3.at1).at1)) ⟨q,rfl,(au.mono (w.trans z))⟩
     have fg:=St.unro (r:=(Ro.list (Ro.int .i64))) (cs:= [sv p]) (x:=c.2.2.2.2.1) (St.unpair ff) ⟨p,rfl,(ar.mono (w.trans z))⟩
     have fh:=St.unro (r:=(Ro.list (Ro.int .i64))) (cs:= [sv o]) (x:=c.2.2.2.1) (St.unpair fg) ⟨o,rfl,(aq.mono (w.trans z))⟩
     have fi:=St.unro (r:=(Ro.list BS)) (cs:= [sv n]) (x:=c.2.2.1) (St.unpair fh) ⟨n,rfl,(ap.mono (w.trans z))⟩
     have fj:=St.unro (r:=(Ro.list Ro.str)) (cs:= [sv m]) (x:=c.2.1) (St.unpair fi) ⟨m,rfl,(ao.mono (w.trans z))⟩
     have fk:=St.unro (r:=(Ro.list Ro.str)) (cs:= [sv l]) (x:=c.1) (St.unpair fj) ⟨l,rfl,(an.mono (w.trans z))⟩
     have fl:St c5 (cO 159 Rq0 (some ⟨r8,0,none⟩) (c.1,c.2.1,c.2.2.1,c.2.2.2.1,c.2.2.2.2.1,c.2.2.2.2.2.1,c3,c7,c.2.2.2.2.2.2.2.2)::Wq2 r1 p_0::⟨By, [.pointer l_2],e⟩::F) _:=St.shut (St.unpair fk).at1
     obtain rfl:=iS d
     exact Ac ((wN z11.1),()) _ rfl rfl ⟨c5,(c.1,c.2.1,c.2.2.1,c.2.2.2.1,c.2.2.2.2.1,c.2.2.2.2.2.1,c3,c7,c.2.2.2.2.2.2.2.2),((((a4.trans ad).trans am).trans w).trans z),ac,rfl,fl.at2.at2.at2⟩
   ·refine AR (vs:= [sv z19.2.1]) af fun r34 i6 ay=> ?_
    refine AK (St.cell (b:=r8) (j:=7) ay.at4 rfl) ?_
    refine AK (St.cell (b:=r8) (j:=6) ay.at4 rfl) ?_
    refine AR (vs:= [sv z13.2.1]) ay fun r35 i7 az=> ?_
    refine AK (St.cell (b:=r8) (j:=7) az.at5 rfl) ?_
    refine AK (St.cell (b:=r8) (j:=6) az.at5 rfl) ?_
    obtain ⟨i8,a0,fm,c8⟩:=St.freezeRow (t:=z13.2.1) az.at7
    obtain ⟨c9,fn,d⟩:=bS d
    refine Ab (r:=(Ro.list CR)) (ms:=([a5] :List (List DZ))) Hl c8.tail.at3 rfl (St.cells c8) (.cons (a:= [_]) ⟨z13.2.1,rfl,fm⟩ .nil) rfl fn ?_
    intro t36 i9 ca
    refine AK (St.cell (b:=r8) (j:=7) ca.at4 rfl) ?_
    obtain ⟨cb,a1,fo,cc⟩:=St.freezeRow (t:=z19.2.1) ca.at5
    obtain ⟨cd,fp,d⟩:=bS d
    refine Ab (r:=(Ro.list (Ro.int .i64))) (ms:=([ae] :List (List Int))) Jz cc.at1.tail.at2 rfl (St.cells cc.at1) (.cons (a:= [_]) ⟨z19.2.1,rfl,fo⟩ .nil) rfl fp ?_
    intro t37 ia fq
    refine AH fq.at3 rfl rfl fun ib fr=> ?_
    refine AH fr rfl rfl fun ic fs=> ?_
    have ft:=St.unro (r:=(Ro.list Ro.str)) (cs:= [sv q]) (x:=c.2.2.2.2.2.1) (St.unpair ((St.unpair fs.at2.at2.at3.at1).at1)) ⟨q,rfl,(au.mono (a0.trans a1))⟩
    have fu:=St.unro (r:=(Ro.list (Ro.int .i64))) (cs:= [sv p]) (x:=c.2.2.2.2.1) (St.unpair ft) ⟨p,rfl,(ar.mono (a0.trans a1))⟩
    have fv:=St.unro (r:=(Ro.list (Ro.int .i64))) (cs:= [sv o]) (x:=c.2.2.2.1) (St.unpair fu) ⟨o,rfl,(aq.mono (a0.trans a1))⟩
    have fw:=St.unro (r:=(Ro.list BS)) (cs:= [sv n]) (x:=c.2.2.1) (St.unpair fv) ⟨n,rfl,(ap.mono (a0.trans a1))⟩
    have fx:=St.unro (r:=(Ro.list Ro.str)) (cs:= [sv m]) (x:=c.2.1) (St.unpair fw) ⟨m,rfl,(ao.mono (a0.trans a1))⟩
    have fy:=St.unro (r:=(Ro.list Ro.str)) (cs:= [sv l]) (x:=c.1) (St.unpair fx) ⟨l,rfl,(an.mono (a0.trans a1))⟩
    have fz:St cb (cO 159 Rq0 (some ⟨r8,0,none⟩) (c.1,c.2.1,c.2.2.1,c.2.2.2.1,c.2.2.2.2.1,c.2.2.2.2.2.1,c9,cd,c.2.2.2.2.2.2.2.2)::Wq2 r1 p_0::⟨By, [.pointer l_2],e⟩::F) _:=St.shut (St.unpair fy).at1
    obtain rfl:=iS d
    exact Ac ((wN z11.1),()) _ rfl rfl ⟨cb,(c.1,c.2.1,c.2.2.1,c.2.2.2.1,c.2.2.2.2.1,c.2.2.2.2.2.1,c9,cd,c.2.2.2.2.2.2.2.2),((((a4.trans ad).trans am).trans a0).trans a1),ac,rfl,fz.at2.at2.at2⟩
  ·rintro _ z11 ie ⟨g0,g1,g2,rfl,rfl,g3⟩ g4
   refine AU (by exact decide_eq_false (Int.not_lt.2 g4)) ?_
   exact AL (AO (z11.1,()) rfl ⟨g0,g1,g2,rfl,g3.at2.at2.at2⟩)
 rintro z10 ig ⟨ih,g5,g6,rfl,g7⟩
 try dsimp only at hd
 obtain ⟨g8,g9,ga,gb⟩:=St.freezeR (r:=LZ) (E0 (Jh _) (E0 (Jh _) (E0 (Jh _) (E0 (Jh _) (E0 (Jh _) (E0 (Jh _) (E0 (LH _ _) (E0 (LH _ _) (LH _ _))))))))) g7
 obtain rfl:=iS hd
 exact AB ⟨g8,(some ⟨r8,0,none⟩),(some g5),((f.trans g6).trans g9),rfl,rfl,ga,gb.tail⟩
noncomputable def Ce (small_0:LB):Option (List ByteArray×List ByteArray×List BV×List Int×List Int×List ByteArray×Option Cw×(Option LkD)×Option Cg×Bool):=
 (BC (small_0.1,small_0.2.1,small_0.2.2.1,small_0.2.2.2.1,small_0.2.2.2.2.1,small_0.2.2.2.2.2.1,small_0.2.2.2.2.2.2)).bind fun t10=>
 (DR (t10.1,t10.2.1,t10.2.2.1,t10.2.2.2.1,t10.2.2.2.2.1,t10.2.2.2.2.2)).bind fun t18=>
 cond (t18.2 !=(0:Int))
 (some (t10.1,t10.2.1,t10.2.2.1,t10.2.2.2.1,t10.2.2.2.2.1,t10.2.2.2.2.2,none,none,none,false))
 ((PF (t10.1,t10.2.1,t10.2.2.1,t10.2.2.2.1,t10.2.2.2.2.1,t10.2.2.2.2.2) (300:Int) (9000:Int)).bind fun t37=>
  (cond (Option.isNone t37.1)
  (some true)
  (t37.1.bind fun e101=>
   (B7 e101).bind fun t39=>
   some (t39==(0:Int)))).bind fun z38=>
  cond z38
  (some (t10.1,t10.2.1,t10.2.2.1,t10.2.2.2.1,t10.2.2.2.2.1,t10.2.2.2.2.2,none,none,none,false))
  (t37.1.bind fun e135=>
   (Ss (t10.1,t10.2.1,t10.2.2.1,t10.2.2.2.1,t10.2.2.2.2.1,t10.2.2.2.2.2) e135).bind fun t58=>
   cond (Option.isNone t58)
   (some (t10.1,t10.2.1,t10.2.2.1,t10.2.2.2.1,t10.2.2.2.2.1,t10.2.2.2.2.2,none,none,none,false))
   ((Hm (t10.1,t10.2.1,t10.2.2.1,t10.2.2.2.1,t10.2.2.2.2.1,t10.2.2.2.2.2) e135 t58).bind fun t77=>
    some (t10.1,t10.2.1,t10.2.2.1,t10.2.2.2.1,t10.2.2.2.2.1,t10.2.2.2.2.2,(some e135),t58,t77,(!(Option.isNone t77))))))
theorem Eh {φ:AC} {h:AF} {F:List Chk} {small_0:Int×Int×Slc×Slc×Slc×Slc×Slc×Unit} {ad:List Int} {ae:List (List Int)} {af:List Int} {ag:List Int} {ah:List Int} (gk:JX φ) (aw:Ro.SliceIs (Ro.int .u8) φ small_0.2.2.1 ad) (ax:Ro.SliceIs (Ro.list (Ro.int .u8)) φ small_0.2.2.2.1 ae) (ay:Ro.SliceIs (Ro.int .u8) φ small_0.2.2.2.2.1 af) (az:Ro.SliceIs (Ro.int .u8) φ small_0.2.2.2.2.2.1 ag) (b0:Ro.SliceIs (Ro.int .u8) φ small_0.2.2.2.2.2.2.1 ah) (s0:St φ (F) h) {r:(List ByteArray×List ByteArray×List BV×List Int×List Int×List ByteArray×Option Cw×(Option LkD)×Option Cg×Bool)} (hd:Ce (small_0.1,small_0.2.1,ad,ae,af,ag,ah)=some r):
 CallsH Tryz.prog 39 [(.agg #[(.int .u8 small_0.1),(.int .u8 small_0.2.1),(sv small_0.2.2.1),(sv small_0.2.2.2.1),(sv small_0.2.2.2.2.1),(sv small_0.2.2.2.2.2.1),(sv small_0.2.2.2.2.2.2.1)])] h (Ai fun v h'=> ∃ψ:AC,∃y:(Pl6)×(Option Addr)×(Option Addr)×(Option Addr)×Bool×Unit,∃ai:List ByteArray,∃aj:List ByteArray,∃ak:List BV,∃al:List Int,∃am:List Int,∃an:List ByteArray,∃ao:Option Cw,∃ap:(Option LkD),∃aq:Option Cg,Sub φ ψ∧v=((.tuple [(.agg [.slice, .slice, .slice, .slice, .slice, .slice]),aP,aP,aP,aB]):Sh).val y∧(ai,aj,ak,al,am,an,ao,ap,aq,y.2.2.2.2.1)=r∧Ro.SliceIs Ro.str ψ y.1.1 ai∧Ro.SliceIs Ro.str ψ y.1.2.1 aj∧Ro.SliceIs BS ψ y.1.2.2.1 ak∧Ro.SliceIs (Ro.int .i64) ψ y.1.2.2.2.1 al∧Ro.SliceIs (Ro.int .i64) ψ y.1.2.2.2.2.1 am∧Ro.SliceIs Ro.str ψ y.1.2.2.2.2.2.1 an∧Np E1 ψ y.2.1 ao∧Np LZ ψ y.2.2.2.1 aq∧St ψ (⟨By, [.pointer y.2.2.1],ap⟩::F) h'):=by
 refine AN mixed Tryz.func39 ?_
 rw [H6]
 unfold FV
 unfold Ce at hd
 refine AR (vs:= [.int .u8 small_0.1, .int .u8 small_0.2.1,sv small_0.2.2.1,sv small_0.2.2.2.1,sv small_0.2.2.2.2.1,sv small_0.2.2.2.2.2.1,sv small_0.2.2.2.2.2.2.1]) s0 fun r1 ci b1=> ?_
 refine AR (vs:= [.slice none 0 0, .slice none 0 0, .slice none 0 0, .slice none 0 0, .slice none 0 0, .slice none 0 0]) b1 fun r2 cj m=> ?_
 refine AA (x:=small_0.1) m.at1 rfl ?_
 refine AA (x:=small_0.2.1) m.at1 rfl ?_
 refine AA (x:=small_0.2.2.1) m.at1 rfl ?_
 refine AA (x:=small_0.2.2.2.1) m.at1 rfl ?_
 refine AA (x:=small_0.2.2.2.2.1) m.at1 rfl ?_
 refine AA (x:=small_0.2.2.2.2.2.1) m.at1 rfl ?_
 refine AA (x:=small_0.2.2.2.2.2.2.1) m.at1 rfl ?_
 obtain ⟨ck,b2,hd⟩:=bS hd
 refine AJ (C8 (s_0:=(small_0.1,small_0.2.1,small_0.2.2.1,small_0.2.2.2.1,small_0.2.2.2.2.1,small_0.2.2.2.2.2.1,small_0.2.2.2.2.2.2.1,())) aw ax ay az b0 m b2) ?_
 rintro _ cl ⟨cm,t10,a5,a6,a7,a8,a9,aa,w,rfl,rfl,n,o,p,q,s,t,b3⟩
 refine ⟨t10,rfl,?_⟩
 try dsimp only at hd
 refine AR (vs:= [.slice none 0 0, .slice none 0 0, .slice none 0 0, .slice none 0 0, .slice none 0 0, .slice none 0 0]) b3 fun r11 cn b4=> ?_
 refine AH b4 rfl rfl fun co b5=> ?_
 refine AH b5 rfl rfl fun cp b6=> ?_
 refine AH b6 rfl rfl fun cq b7=> ?_
 refine AH b7 rfl rfl fun cr b8=> ?_
 refine AH b8 rfl rfl fun cs b9=> ?_
 refine AH b9 rfl rfl fun ct z=> ?_
 refine AA (x:=t10.1) z rfl ?_
 refine AA (x:=t10.2.1) z rfl ?_
 refine AA (x:=t10.2.2.1) z rfl ?_
 refine AA (x:=t10.2.2.2.1) z rfl ?_
 refine AA (x:=t10.2.2.2.2.1) z rfl ?_
 refine AA (x:=t10.2.2.2.2.2.1) z rfl ?_
 obtain ⟨cu,ba,hd⟩:=bS hd
 refine AJ (Hk (p_0:=(t10.1,t10.2.1,t10.2.2.1,t10.2.2.2.1,t10.2.2.2.2.1,t10.2.2.2.2.2.1,())) n o p q s t z ba) ?_
 rintro _ cv ⟨bb,t18,c,rfl,rfl,j⟩
 refine ⟨t18,rfl,?_⟩
 try dsimp only at hd
 refine AI hd rfl (fun _ hd=> ?_) (fun _ hd=> ?_)
 ·refine AA (x:=t10.1) j rfl ?_
  refine AA (x:=t10.2.1) j rfl ?_
  refine AA (x:=t10.2.2.1) j rfl ?_
  refine AA (x:=t10.2.2.2.1) j rfl ?_
  refine AA (x:=t10.2.2.2.2.1) j rfl ?_
  refine AA (x:=t10.2.2.2.2.2.1) j rfl ?_
  refine AH j.at1 rfl rfl fun cw bc=> ?_
  refine AH bc rfl rfl fun cx bd=> ?_
  refine AH bd rfl rfl fun cy be=> ?_
  refine AH be rfl rfl fun cz bf=> ?_
  refine AH bf rfl rfl fun d0 bg=> ?_
  refine AH bg rfl rfl fun d1 a0=> ?_
  refine AA (x:=t10.1) a0 rfl ?_
  refine AA (x:=t10.2.1) a0 rfl ?_
  refine AA (x:=t10.2.2.1) a0 rfl ?_
  refine AA (x:=t10.2.2.2.1) a0 rfl ?_
  refine AA (x:=t10.2.2.2.2.1) a0 rfl ?_
  refine AA (x:=t10.2.2.2.2.2.1) a0 rfl ?_
  obtain rfl:=iS hd
  exact AB ⟨bb,((t10.1,t10.2.1,t10.2.2.1,t10.2.2.2.1,t10.2.2.2.2.1,t10.2.2.2.2.2.1,()),none,none,none,false,()),a5,a6,a7,a8,a9,aa,none,none,none,(w.trans c),rfl,rfl,(n.mono c),(o.mono c),(p.mono c),(q.mono c),(s.mono c),(t.mono c),(Np.none _ _),(Np.none _ _),((((NJ a0).at1.tail).at1.tail).at1.tail)⟩
 refine AA (x:=t10.1) j rfl ?_
 refine AA (x:=t10.2.1) j rfl ?_
 refine AA (x:=t10.2.2.1) j rfl ?_
 refine AA (x:=t10.2.2.2.1) j rfl ?_
 refine AA (x:=t10.2.2.2.2.1) j rfl ?_
 refine AA (x:=t10.2.2.2.2.2.1) j rfl ?_
 obtain ⟨d2,bh,hd⟩:=bS hd
 refine AJ (QQ (p_0:=(t10.1,t10.2.1,t10.2.2.1,t10.2.2.2.1,t10.2.2.2.2.1,t10.2.2.2.2.2.1,())) (gk.a.mono (w.trans c)) (n.mono c) (o.mono c) (p.mono c) (q.mono c) (s.mono c) (t.mono c) j bh) ?_
 rintro _ d3 ⟨ar,t37,d4,e,rfl,rfl,ab,au⟩
 refine ⟨t37,rfl,?_⟩
 try dsimp only at hd
 have bi:=ab.nil
 obtain ⟨bj,l,hd⟩:=bS hd
 refine AX (fun (y:Bool×Unit) w_ g=> ∃ψ:AC,Sub ar ψ∧y.1=g∧St ψ (cW 32 r11 [sv t10.1,sv t10.2.1,sv t10.2.2.1,sv t10.2.2.2.1,sv t10.2.2.2.2.1,sv t10.2.2.2.2.2.1] ::Wq5 r2::Wq0 r1 small_0::F) w_) (g:=bj) ?_ ?_
 ·refine AI l (by rw [bi] <;>rfl) (fun _ l=> ?_) (fun _ l=> ?_)
  ·have bk:=au.at2
   obtain rfl:=iS l
   exact AM (true,()) rfl ⟨ar,(Sub.refl _),rfl,bk.at2.at2⟩
  obtain ⟨d5,bl,l⟩:=bS l
  obtain ⟨d6,bm,l⟩:=bS l
  refine AJ (Cb ((ab).get bl) au bm) ?_
  rintro _ d7 ⟨bn,t39,bo,rfl,rfl,bp⟩
  refine ⟨t39,rfl,?_⟩
  obtain rfl:=iS l
  exact AM ((t39==(0:Int)),()) rfl ⟨bn,bo,rfl,bp.at2.at2.at2⟩
 rintro z38 d8 ⟨bq,d,rfl,k⟩
 try dsimp only at hd
 refine AI hd rfl (fun _ hd=> ?_) (fun _ hd=> ?_)
 ·refine AA (x:=t10.1) k rfl ?_
  refine AA (x:=t10.2.1) k rfl ?_
  refine AA (x:=t10.2.2.1) k rfl ?_
  refine AA (x:=t10.2.2.2.1) k rfl ?_
  refine AA (x:=t10.2.2.2.2.1) k rfl ?_
  refine AA (x:=t10.2.2.2.2.2.1) k rfl ?_
  refine AH k.at1 rfl rfl fun d9 br=> ?_
  refine AH br rfl rfl fun da bs=> ?_
  refine AH bs rfl rfl fun db bt=> ?_
  refine AH bt rfl rfl fun dc bu=> ?_
  refine AH bu rfl rfl fun dd bv=> ?_
  refine AH bv rfl rfl fun de a1=> ?_
  refine AA (x:=t10.1) a1 rfl ?_
  refine AA (x:=t10.2.1) a1 rfl ?_
  refine AA (x:=t10.2.2.1) a1 rfl ?_
  refine AA (x:=t10.2.2.2.1) a1 rfl ?_
  refine AA (x:=t10.2.2.2.2.1) a1 rfl ?_
  refine AA (x:=t10.2.2.2.2.2.1) a1 rfl ?_
  obtain rfl:=iS hd
  exact AB ⟨bq,((t10.1,t10.2.1,t10.2.2.1,t10.2.2.2.1,t10.2.2.2.2.1,t10.2.2.2.2.2.1,()),none,none,none,false,()),a5,a6,a7,a8,a9,aa,none,none,none,(((w.trans c).trans e).trans d),rfl,rfl,(n.mono ((c.trans e).trans d)),(o.mono ((c.trans e).trans d)),(p.mono ((c.trans e).trans d)),(q.mono ((c.trans e).trans d)),(s.mono ((c.trans e).trans d)),(t.mono ((c.trans e).trans d)),(Np.none _ _),(Np.none _ _),((((NJ a1).at1.tail).at1.tail).at1.tail)⟩
 refine AA (x:=t10.1) k rfl ?_
 refine AA (x:=t10.2.1) k rfl ?_
 refine AA (x:=t10.2.2.1) k rfl ?_
 refine AA (x:=t10.2.2.2.1) k rfl ?_
 refine AA (x:=t10.2.2.2.2.1) k rfl ?_
 refine AA (x:=t10.2.2.2.2.2.1) k rfl ?_
 obtain ⟨bw,bx,hd⟩:=bS hd
 have ac:=((ab.mono d)).get bx
 obtain ⟨df,bz,hd⟩:=bS hd
 refine AJ (Rl (p_0:=(t10.1,t10.2.1,t10.2.2.1,t10.2.2.2.1,t10.2.2.2.2.1,t10.2.2.2.2.2.1,())) (gk.b.mono (((w.trans c).trans e).trans d)) (n.mono ((c.trans e).trans d)) (o.mono ((c.trans e).trans d)) (p.mono ((c.trans e).trans d)) (q.mono ((c.trans e).trans d)) (s.mono ((c.trans e).trans d)) (t.mono ((c.trans e).trans d)) ac k bz) ?_
 rintro _ dg ⟨c0,t58,c1,f,rfl,rfl,i⟩
 refine ⟨t58,rfl,?_⟩
 have c2:=TZ i
 refine AI hd (by rw [c2] <;>rfl) (fun _ hd=> ?_) (fun _ hd=> ?_)
 ·refine AA (x:=t10.1) i.at1 rfl ?_
  refine AA (x:=t10.2.1) i.at1 rfl ?_
  refine AA (x:=t10.2.2.1) i.at1 rfl ?_
  refine AA (x:=t10.2.2.2.1) i.at1 rfl ?_
  refine AA (x:=t10.2.2.2.2.1) i.at1 rfl ?_
  refine AA (x:=t10.2.2.2.2.2.1) i.at1 rfl ?_
  refine AH i.at2 rfl rfl fun dh c3=> ?_
  refine AH c3 rfl rfl fun di c4=> ?_
  refine AH c4 rfl rfl fun dj c5=> ?_
  refine AH c5 rfl rfl fun dk c6=> ?_
  refine AH c6 rfl rfl fun dl c7=> ?_
  refine AH c7 rfl rfl fun dm a2=> ?_
  refine AA (x:=t10.1) a2 rfl ?_
  refine AA (x:=t10.2.1) a2 rfl ?_
  refine AA (x:=t10.2.2.1) a2 rfl ?_
  refine AA (x:=t10.2.2.2.1) a2 rfl ?_
  refine AA (x:=t10.2.2.2.2.1) a2 rfl ?_
  refine AA (x:=t10.2.2.2.2.2.1) a2 rfl ?_
  obtain rfl:=iS hd
  exact AB ⟨c0,((t10.1,t10.2.1,t10.2.2.1,t10.2.2.2.1,t10.2.2.2.2.1,t10.2.2.2.2.2.1,()),none,none,none,false,()),a5,a6,a7,a8,a9,aa,none,none,none,((((w.trans c).trans e).trans d).trans f),rfl,rfl,(n.mono (((c.trans e).trans d).trans f)),(o.mono (((c.trans e).trans d).trans f)),(p.mono (((c.trans e).trans d).trans f)),(q.mono (((c.trans e).trans d).trans f)),(s.mono (((c.trans e).trans d).trans f)),(t.mono (((c.trans e).trans d).trans f)),(Np.none _ _),(Np.none _ _),(((((NJ a2).at1.tail).at1.tail).at1.tail).at1.tail)⟩
 refine AA (x:=t10.1) i.at1 rfl ?_
 refine AA (x:=t10.2.1) i.at1 rfl ?_
 refine AA (x:=t10.2.2.1) i.at1 rfl ?_
 refine AA (x:=t10.2.2.2.1) i.at1 rfl ?_
 refine AA (x:=t10.2.2.2.2.1) i.at1 rfl ?_
 refine AA (x:=t10.2.2.2.2.2.1) i.at1 rfl ?_
 obtain ⟨dn,c8,hd⟩:=bS hd
 refine AJ (L7 (p_0:=(t10.1,t10.2.1,t10.2.2.1,t10.2.2.2.1,t10.2.2.2.2.1,t10.2.2.2.2.2.1,())) (gk.b.mono ((((w.trans c).trans e).trans d).trans f)) (n.mono (((c.trans e).trans d).trans f)) (o.mono (((c.trans e).trans d).trans f)) (p.mono (((c.trans e).trans d).trans f)) (q.mono (((c.trans e).trans d).trans f)) (s.mono (((c.trans e).trans d).trans f)) (t.mono (((c.trans e).trans d).trans f)) (ac.mono f) i c8) ?_
 rintro _ dp ⟨c9,t77,ca,u,rfl,rfl,av,a3⟩
 refine ⟨t77,rfl,?_⟩
 have cb:=av.nil
 refine AA (x:=t10.1) a3.at1 rfl ?_
 refine AA (x:=t10.2.1) a3.at1 rfl ?_
 refine AA (x:=t10.2.2.1) a3.at1 rfl ?_
 refine AA (x:=t10.2.2.2.1) a3.at1 rfl ?_
 refine AA (x:=t10.2.2.2.2.1) a3.at1 rfl ?_
 refine AA (x:=t10.2.2.2.2.2.1) a3.at1 rfl ?_
 refine AH a3.at2 rfl rfl fun dq cc=> ?_
 refine AH cc rfl rfl fun dr cd=> ?_
 refine AH cd rfl rfl fun ds ce=> ?_
 refine AH ce rfl rfl fun dt cf=> ?_
 refine AH cf rfl rfl fun du cg=> ?_
 refine AH cg rfl rfl fun dv a4=> ?_
 refine AA (x:=t10.1) a4 rfl ?_
 refine AA (x:=t10.2.1) a4 rfl ?_
 refine AA (x:=t10.2.2.1) a4 rfl ?_
 refine AA (x:=t10.2.2.2.1) a4 rfl ?_
 refine AA (x:=t10.2.2.2.2.1) a4 rfl ?_
 refine AA (x:=t10.2.2.2.2.2.1) a4 rfl ?_
 obtain rfl:=iS hd
 have ch:=a4.tail.at1.tail.at1.tail
 exact AB ⟨c9,((t10.1,t10.2.1,t10.2.2.1,t10.2.2.2.1,t10.2.2.2.2.1,t10.2.2.2.2.2.1,()),t37.1,t58,t77,(!(Option.isNone t77)),()),a5,a6,a7,a8,a9,aa,(some bw),c1,ca,(((((w.trans c).trans e).trans d).trans f).trans u),rfl,(by rw [cb]),(n.mono ((((c.trans e).trans d).trans f).trans u)),(o.mono ((((c.trans e).trans d).trans f).trans u)),(p.mono ((((c.trans e).trans d).trans f).trans u)),(q.mono ((((c.trans e).trans d).trans f).trans u)),(s.mono ((((c.trans e).trans d).trans f).trans u)),(t.mono ((((c.trans e).trans d).trans f).trans u)),(ac.mono (f.trans u)),av,ch⟩
noncomputable def B5:Option Bool:=
 (Ce ((1:Int),(0:Int),([(0:Int),(0:Int)] :List Int),([([(2:Int),(0:Int),(2:Int)] :List Int),([(1:Int)] :List Int)] :List (List Int)),([] :List Int),([(0:Int)] :List Int),([(1:Int)] :List Int))).bind fun t15=>
 (Ce ((1:Int),(0:Int),([(0:Int),(0:Int)] :List Int),([([(2:Int),(0:Int),(2:Int)] :List Int),([(1:Int)] :List Int)] :List (List Int)),([] :List Int),([(0:Int)] :List Int),([] :List Int))).bind fun t24=>
 (cond (!t15.2.2.2.2.2.2.2.2.2)
 (some true)
 (some (!t24.2.2.2.2.2.2.2.2.2))).bind fun z26=>
 cond z26
 (some false)
 (t15.2.2.2.2.2.2.1.bind fun e180=>
  (Ct e180 (0:Int) ([(3:Int),(1:Int),(3:Int)] :List Int)).bind fun t28=>
  t15.2.2.2.2.2.2.2.2.1.bind fun e195=>
  (CD e195).bind fun t29=>
  t24.2.2.2.2.2.2.2.2.1.bind fun e208=>
  (CD e208).bind fun t30=>
  (cond (decide (t28>(0:Int)))
  (cond ((((List.length t29):Nat):Int)==(1:Int))
   (cond ((((List.length t30):Nat):Int)==(1:Int))
    ((DC e195 t28 (1:Int)).bind fun t32=>
     cond ((t32.1==(2:Int)) && ((t32.2==(1:Int)) && true))
     ((DC e208 t28 (1:Int)).bind fun t33=>
      cond (t33.1==(1:Int))
      ((idx t29 (0:Int)).bind fun e240=>
       cond (!e240.2.2.2.2.2.2)
       ((idx t30 (0:Int)).bind fun e264=>
        cond e264.2.2.2.2.2.2
        ((CW e195).bind fun t38=>
         cond t38
         ((CW e208).bind fun t39=>
          some (!t39))
         (some false))
        (some false))
       (some false))
      (some false))
     (some false))
    (some false))
   (some false))
  (some false)).bind fun z31=>
  some z31)
theorem EV {φ:AC} {h:AF} {F:List Chk} (gk:JX φ) (s0:St φ (F) h) {r:Bool} (hd:B5=some r):
 CallsH Tryz.prog 36 [] h (Ai fun v h'=> ∃ψ:AC,∃y:Bool,Sub φ ψ∧v=((.one aB):Sh).val y∧y=r∧St ψ (F) h'):=by
 refine AN mixed Tryz.func36 ?_
 rw [Hc]
 unfold FG
 unfold B5 at hd
 refine AR (vs:= [.int .u8 (0:Int), .int .u8 (0:Int)]) s0 fun r1 dy an=> ?_
 refine AR (vs:= [.int .u8 (2:Int), .int .u8 (0:Int), .int .u8 (2:Int)]) an fun r2 dz ao=> ?_
 refine AR (vs:= [.int .u8 (1:Int)]) ao fun r3 e0 ap=> ?_
 refine AR (vs:= [.slice (some ⟨r2,0,none⟩) 3 3, .slice (some ⟨r3,0,none⟩) 1 1]) ap fun r4 e1 aq=> ?_
 refine AR (vs:= [.int .u8 (0:Int)]) aq fun r5 e2 ar=> ?_
 refine AR (vs:= [.int .u8 (1:Int)]) ar fun r6 e3 au=> ?_
 refine AR (vs:= [.int .u8 (0:Int), .int .u8 (0:Int), .slice none 0 0, .slice none 0 0, .slice none 0 0, .slice none 0 0, .slice none 0 0]) au fun r7 e4 av=> ?_
 refine AH av rfl rfl fun e5 aw=> ?_
 refine AH aw rfl rfl fun e6 ax=> ?_
 refine AH ax rfl rfl fun e7 ay=> ?_
 refine AH ay rfl rfl fun e8 az=> ?_
 refine AH az rfl rfl fun e9 b0=> ?_
 refine AH b0 rfl rfl fun ea b1=> ?_
 refine AH b1 rfl rfl fun eb i=> ?_
 refine AA (x:=(1:Int)) i rfl ?_
 refine AA (x:=(0:Int)) i rfl ?_
 refine AA (x:=((some ⟨r1,0,none⟩,2,2):Slc)) i rfl ?_
 refine AA (x:=((some ⟨r4,0,none⟩,2,2):Slc)) i rfl ?_
 refine AA (x:=((none,0,0):Slc)) i rfl ?_
 refine AA (x:=((some ⟨r5,0,none⟩,1,1):Slc)) i rfl ?_
 refine AA (x:=((some ⟨r6,0,none⟩,1,1):Slc)) i rfl ?_
 have b2:=St.lit (r:=(Ro.int .u8)) (l:=([(0:Int),(0:Int)] :List Int)) (n:=2) i.at6 (.cons (a:= [_]) rfl (.cons (a:= [_]) rfl .nil)) rfl (by decide)
 obtain ⟨ec,z,ab,b3⟩:=St.freezeRow (t:=((some ⟨r1,0,none⟩,2,2):Slc)) b2
 have b4:=St.lit (r:=(Ro.int .u8)) (l:=([(2:Int),(0:Int),(2:Int)] :List Int)) (n:=3) b3.at5 (.cons (a:= [_]) rfl (.cons (a:= [_]) rfl (.cons (a:= [_]) rfl .nil))) rfl (by decide)
 obtain ⟨ed,m,b5,b6⟩:=St.freezeRow (t:=((some ⟨r2,0,none⟩,3,3):Slc)) b4
 have b7:=St.lit (r:=(Ro.int .u8)) (l:=([(1:Int)] :List Int)) (n:=1) b6.at4 (.cons (a:= [_]) rfl .nil) rfl (by decide)
 obtain ⟨ee,k,b8,b9⟩:=St.freezeRow (t:=((some ⟨r3,0,none⟩,1,1):Slc)) b7
 have ba:=St.lit (r:=(Ro.list (Ro.int .u8))) (l:=([([(2:Int),(0:Int),(2:Int)] :List Int),([(1:Int)] :List Int)] :List (List Int))) (n:=2) b9.at3 (.cons (a:= [_]) ⟨((some ⟨r2,0,none⟩,3,3):Slc),rfl,(b5.mono k)⟩ (.cons (a:= [_]) ⟨((some ⟨r3,0,none⟩,1,1):Slc),rfl,b8⟩ .nil)) rfl (by decide)
 obtain ⟨bb,o,ac,bc⟩:=St.freezeRow (t:=((some ⟨r4,0,none⟩,2,2):Slc)) ba
 have bd:=St.lit (r:=(Ro.int .u8)) (l:=([(0:Int)] :List Int)) (n:=1) bc.at2 (.cons (a:= [_]) rfl .nil) rfl (by decide)
 obtain ⟨ef,e,ad,be⟩:=St.freezeRow (t:=((some ⟨r5,0,none⟩,1,1):Slc)) bd
 have bf:=St.lit (r:=(Ro.int .u8)) (l:=([(1:Int)] :List Int)) (n:=1) be.at1 (.cons (a:= [_]) rfl .nil) rfl (by decide)
 obtain ⟨eg,c,bg,bh⟩:=St.freezeRow (t:=((some ⟨r6,0,none⟩,1,1):Slc)) bf
 obtain ⟨eh,bi,hd⟩:=bS hd
 refine AJ (Eh (small_0:=((1:Int),(0:Int),((some ⟨r1,0,none⟩,2,2):Slc),((some ⟨r4,0,none⟩,2,2):Slc),((none,0,0):Slc),((some ⟨r5,0,none⟩,1,1):Slc),((some ⟨r6,0,none⟩,1,1):Slc),())) (gk.mono (((((z.trans m).trans k).trans o).trans e).trans c)) (ab.mono ((((m.trans k).trans o).trans e).trans c)) (ac.mono (e.trans c)) ((Ro.SliceIs.nil (Ro.int .u8) bb).mono (e.trans c)) (ad.mono c) bg bh bi) ?_
 rintro _ ei ⟨ae,t15,ej,ek,el,em,en,eo,ep,af,er,p,rfl,rfl,es,eu,ev,ew,ex,ey,bj,bk,bl⟩
 refine ⟨t15,rfl,?_⟩
 try dsimp only at hd
 refine AR (vs:= [.slice none 0 0, .slice none 0 0, .slice none 0 0, .slice none 0 0, .slice none 0 0, .slice none 0 0]) bl fun r16 ez bm=> ?_
 refine AH bm rfl rfl fun f0 bn=> ?_
 refine AH bn rfl rfl fun f1 bo=> ?_
 refine AH bo rfl rfl fun f2 bp=> ?_
 refine AH bp rfl rfl fun f3 bq=> ?_
 refine AH bq rfl rfl fun f4 br=> ?_
 refine AH br rfl rfl fun f5 bs=> ?_
 refine AH bs.at2 rfl rfl fun f6 j=> ?_
 refine AA (x:=(1:Int)) j rfl ?_
 refine AA (x:=(0:Int)) j rfl ?_
 refine AA (x:=((some ⟨r1,0,none⟩,2,2):Slc)) j rfl ?_
 refine AA (x:=((some ⟨r4,0,none⟩,2,2):Slc)) j rfl ?_
 refine AA (x:=((none,0,0):Slc)) j rfl ?_
 refine AA (x:=((some ⟨r5,0,none⟩,1,1):Slc)) j rfl ?_
 refine AA (x:=((none,0,0):Slc)) j rfl ?_
 obtain ⟨f7,bt,hd⟩:=bS hd
 refine AJ (Eh (small_0:=((1:Int),(0:Int),((some ⟨r1,0,none⟩,2,2):Slc),((some ⟨r4,0,none⟩,2,2):Slc),((none,0,0):Slc),((some ⟨r5,0,none⟩,1,1):Slc),((none,0,0):Slc),())) (gk.mono ((((((z.trans m).trans k).trans o).trans e).trans c).trans p)) (ab.mono (((((m.trans k).trans o).trans e).trans c).trans p)) (ac.mono ((e.trans c).trans p)) (Ro.SliceIs.nil (Ro.int .u8) ae) (ad.mono (c.trans p)) (Ro.SliceIs.nil (Ro.int .u8) ae) j bt) ?_
 rintro _ f8 ⟨a5,t24,f9,fa,fb,fc,fd,fe,ff,ag,fg,a0,rfl,rfl,fh,fi,fj,fk,fl,fm,fn,bu,bv⟩
 refine ⟨t24,rfl,?_⟩
 try dsimp only at hd
 refine AR (vs:= [.slice none 0 0, .slice none 0 0, .slice none 0 0, .slice none 0 0, .slice none 0 0, .slice none 0 0]) bv fun r25 fo bw=> ?_
 refine AH bw rfl rfl fun fp bx=> ?_
 refine AH bx rfl rfl fun fq bz=> ?_
 refine AH bz rfl rfl fun fr c0=> ?_
 refine AH c0 rfl rfl fun fs c1=> ?_
 refine AH c1 rfl rfl fun ft c2=> ?_
 refine AH c2 rfl rfl fun fu ah=> ?_
 obtain ⟨c3,u,hd⟩:=bS hd
 refine AX (fun (y:Bool×Unit) w_ g=> ∃ψ:AC,Sub a5 ψ∧y.1=g∧St ψ (cW 32 r25 [sv t24.1.1,sv t24.1.2.1,sv t24.1.2.2.1,sv t24.1.2.2.2.1,sv t24.1.2.2.2.2.1,sv t24.1.2.2.2.2.2.1] ::⟨By, [.pointer t24.2.2.1],ag⟩::cW 25 r7 [.int .u8 (1:Int), .int .u8 (0:Int), .slice (some ⟨r1,0,none⟩) 2 2, .slice (some ⟨r4,0,none⟩) 2 2, .slice none 0 0, .slice (some ⟨r5,0,none⟩) 1 1, .slice none 0 0] ::cW 32 r16 [sv t15.1.1,sv t15.1.2.1,sv t15.1.2.2.1,sv t15.1.2.2.2.1,sv t15.1.2.2.2.2.1,sv t15.1.2.2.2.2.2.1] ::⟨By, [.pointer t15.2.2.1],af⟩::F) w_) (g:=c3) ?_ ?_
 ·refine AI u rfl (fun _ u=> ?_) (fun _ u=> ?_)
  ·have c4:=ah.at4
   obtain rfl:=iS u
   exact AM (true,()) rfl ⟨a5,(Sub.refl _),rfl,c4.at4.at4.at4.at4⟩
  obtain rfl:=iS u
  exact AM ((!t24.2.2.2.2.1),()) rfl ⟨a5,(Sub.refl _),rfl,ah.at4.at4.at4.at4.at4⟩
 rintro z26 fv ⟨c5,w,rfl,ai⟩
 try dsimp only at hd
 refine AI hd rfl (fun _ hd=> ?_) (fun _ hd=> ?_)
 ·obtain rfl:=iS hd
  exact AB ⟨c5,false,((((((((z.trans m).trans k).trans o).trans e).trans c).trans p).trans a0).trans w),rfl,rfl,ai.tail.tail.tail.tail.tail⟩
 refine AR (vs:= [.int .i64 (3:Int), .int .i64 (1:Int), .int .i64 (3:Int)]) ai fun r27 fw c6=> ?_
 obtain ⟨fx,c7,hd⟩:=bS hd
 have c8:=St.lit (r:=(Ro.int .i64)) (l:=([(3:Int),(1:Int),(3:Int)] :List Int)) (n:=3) c6 (.cons (a:= [_]) rfl (.cons (a:= [_]) rfl (.cons (a:= [_]) rfl .nil))) rfl (by decide)
 obtain ⟨fy,a1,c9,ca⟩:=St.freezeRow (t:=((some ⟨r27,0,none⟩,3,3):Slc)) c8
 obtain ⟨fz,cb,hd⟩:=bS hd
 refine AJ (DO ((((bj.mono (a0.trans w))).get c7).mono a1) c9 ca cb) ?_
 rintro _ g0 ⟨g1,t28,a6,rfl,rfl,cc⟩
 refine ⟨t28,rfl,?_⟩
 obtain ⟨g2,cd,hd⟩:=bS hd
 have a7:=((bk.mono (((a0.trans w).trans a1).trans a6))).get cd
 obtain ⟨g3,ce,hd⟩:=bS hd
 refine AJ (Do a7 cc ce) ?_
 rintro _ g4 ⟨g5,t29,g6,a2,rfl,rfl,aj,cf⟩
 refine ⟨t29,rfl,?_⟩
 have cg:=aj.length
 obtain ⟨g7,ch,hd⟩:=bS hd
 have a8:=((bu.mono (((w.trans a1).trans a6).trans a2))).get ch
 obtain ⟨g8,ci,hd⟩:=bS hd
 refine AJ (Do a8 cf ci) ?_
 rintro _ g9 ⟨a3,t30,ga,q,rfl,rfl,ak,a4⟩
 refine ⟨t30,rfl,?_⟩
 have cj:=ak.length
 obtain ⟨ck,b,hd⟩:=bS hd
 refine AX (fun (y:Bool×Unit) w_ g=> ∃ψ:AC,Sub a3 ψ∧y.1=g∧St ψ (cW 32 r25 [sv t24.1.1,sv t24.1.2.1,sv t24.1.2.2.1,sv t24.1.2.2.2.1,sv t24.1.2.2.2.2.1,sv t24.1.2.2.2.2.2.1] ::⟨By, [.pointer t24.2.2.1],ag⟩::cW 25 r7 [.int .u8 (1:Int), .int .u8 (0:Int), .slice (some ⟨r1,0,none⟩) 2 2, .slice (some ⟨r4,0,none⟩) 2 2, .slice none 0 0, .slice (some ⟨r5,0,none⟩) 1 1, .slice none 0 0] ::cW 32 r16 [sv t15.1.1,sv t15.1.2.1,sv t15.1.2.2.1,sv t15.1.2.2.2.1,sv t15.1.2.2.2.2.1,sv t15.1.2.2.2.2.2.1] ::⟨By, [.pointer t15.2.2.1],af⟩::F) w_) (g:=ck) ?_ ?_
 ·refine AI b rfl (fun _ b=> ?_) (fun _ b=> ?_)
  ·refine AI b (by rw [cg] <;>rfl) (fun _ b=> ?_) (fun _ b=> ?_)
   ·refine AI b (by rw [cj] <;>rfl) (fun _ b=> ?_) (fun _ b=> ?_)
    ·obtain ⟨gb,cl,b⟩:=bS b
     refine AJ (FZ (a7.mono (a2.trans q)) a4 cl) ?_
     rintro _ gc ⟨cm,t32,d,rfl,rfl,al⟩
     refine ⟨t32,rfl,?_⟩
     try dsimp only at b
     refine AI b rfl (fun _ b=> ?_) (fun _ b=> ?_)
     ·obtain ⟨gd,cn,b⟩:=bS b
      refine AJ (FZ (a8.mono (q.trans d)) al cn) ?_
      rintro _ ge ⟨a9,t33,f,rfl,rfl,s⟩
      refine ⟨t33,rfl,?_⟩
      try dsimp only at b
      refine AI b rfl (fun _ b=> ?_) (fun _ b=> ?_)
      ·obtain ⟨co,cp,b⟩:=bS b
       obtain ⟨gf,gg,cq,cr,cs,ct⟩:=(aj.mono ((q.trans d).trans f)).get cp
       refine AG _ cq (Aa cr ?_)
       obtain ⟨_,_,rfl,cu,cv⟩:=cs
       obtain rfl:=cu
       obtain ⟨_,_,rfl,cw,cx⟩:=cv
       obtain rfl:=cw
       obtain ⟨_,_,rfl,cy,cz⟩:=cx
       obtain rfl:=cy
       obtain ⟨_,_,rfl,d0,d1⟩:=cz
       obtain ⟨gh,rfl,gi⟩:=d0
       obtain ⟨_,_,rfl,d2,d3⟩:=d1
       obtain rfl:=d2
       obtain ⟨_,_,rfl,d4,d5⟩:=d3
       obtain rfl:=d4
       obtain rfl:=d5
       refine AE (x:=co.2.2.2.2.2.2) (by rw [AV]; exact (AD s.sub (ct 6 _ rfl))) rfl ?_
       refine AI b rfl (fun _ b=> ?_) (fun _ b=> ?_)
       ·obtain ⟨d6,d7,b⟩:=bS b
        obtain ⟨gj,gl,d8,d9,da,db⟩:=(ak.mono (d.trans f)).get d7
        refine AG _ d8 (Aa d9 ?_)
        obtain ⟨_,_,rfl,dc,dd⟩:=da
        obtain rfl:=dc
        obtain ⟨_,_,rfl,de,df⟩:=dd
        obtain rfl:=de
        obtain ⟨_,_,rfl,dg,dh⟩:=df
        obtain rfl:=dg
        obtain ⟨_,_,rfl,di,dj⟩:=dh
        obtain ⟨gm,rfl,gn⟩:=di
        obtain ⟨_,_,rfl,dk,dl⟩:=dj
        obtain rfl:=dk
        obtain ⟨_,_,rfl,dm,dn⟩:=dl
        obtain rfl:=dm
        obtain rfl:=dn
        refine AE (x:=d6.2.2.2.2.2.2) (by rw [AV]; exact (AD s.sub (db 6 _ rfl))) rfl ?_
        refine AI b rfl (fun _ b=> ?_) (fun _ b=> ?_)
        ·obtain ⟨go,dp,b⟩:=bS b
         refine AJ (EU (a7.mono (((a2.trans q).trans d).trans f)) s dp) ?_
         rintro _ gp ⟨dq,t38,aa,rfl,rfl,am⟩
         refine ⟨t38,rfl,?_⟩
         refine AI b rfl (fun _ b=> ?_) (fun _ b=> ?_)
         ·obtain ⟨gq,dr,b⟩:=bS b
          refine AJ (EU (a8.mono (((q.trans d).trans f).trans aa)) am dr) ?_
          rintro _ gr ⟨ds,t39,dt,rfl,rfl,du⟩
          refine ⟨t39,rfl,?_⟩
          obtain rfl:=iS b
          exact AM ((!t39),()) rfl ⟨ds,(((d.trans f).trans aa).trans dt),rfl,du.at4.at4.at4.at4.at4⟩
         obtain rfl:=iS b
         exact AM (false,()) rfl ⟨dq,((d.trans f).trans aa),rfl,am.at4.at4.at4.at4.at4⟩
        obtain rfl:=iS b
        exact AM (false,()) rfl ⟨a9,(d.trans f),rfl,s.at4.at4.at4.at4.at4⟩
       obtain rfl:=iS b
       exact AM (false,()) rfl ⟨a9,(d.trans f),rfl,s.at4.at4.at4.at4.at4⟩
      obtain rfl:=iS b
      exact AM (false,()) rfl ⟨a9,(d.trans f),rfl,s.at4.at4.at4.at4.at4⟩
     obtain rfl:=iS b
     exact AM (false,()) rfl ⟨cm,d,rfl,al.at4.at4.at4.at4.at4⟩
    obtain rfl:=iS b
    exact AM (false,()) rfl ⟨a3,(Sub.refl _),rfl,a4.at4.at4.at4.at4.at4⟩
   obtain rfl:=iS b
   exact AM (false,()) rfl ⟨a3,(Sub.refl _),rfl,a4.at4.at4.at4.at4.at4⟩
  obtain rfl:=iS b
  exact AM (false,()) rfl ⟨a3,(Sub.refl _),rfl,a4.at4.at4.at4.at4.at4⟩
 rintro z31 gs ⟨dv,dw,rfl,dx⟩
 try dsimp only at hd
 obtain rfl:=iS hd
 exact AB ⟨dv,z31.1,(((((((((((((z.trans m).trans k).trans o).trans e).trans c).trans p).trans a0).trans w).trans a1).trans a6).trans a2).trans q).trans dw),rfl,rfl,dx.tail.tail.tail.tail.tail⟩
set_option maxRecDepth 1000000
theorem L8:B5=some true:=by kernel_rfl
theorem Sg.nm_lev {nt nv nl:Nat} {g:CE} (H:Sg nt nv nl g): ∀x ∈ Eo g.2.2.1,Nm x:=fun x hx=>by
 have:=H.nl5; have:=H.nt5
 rcases H.levs.names x hx with ⟨i,h,rfl⟩ | ⟨i,h,rfl⟩
 ·exact .lev (by omega)
 ·exact .tok (by omega)
theorem Ru1.nm {nt nv nl:Nat} {r:Cm} (H:Ru1 nt nv nl r) (h1:nt≤5) (h2:nv≤4) (h3:nl≤5):Nm r.1∧(∀x ∈ r.2.1,Nm x)∧(r.2.2.1= {data:= #[] } ∨Nm r.2.2.1):=by
 refine ⟨?_,fun x hx=> ?_,?_⟩
 ·obtain ⟨i,h,e⟩:=H.left; rw [e]; exact .var (by omega)
 ·rcases H.right x hx with ⟨i,h,rfl⟩ | ⟨i,h,rfl⟩
  ·exact .tok (by omega)
  ·exact .var (by omega)
 ·rcases H.prec with h | ⟨i,h,e⟩
  ·exact .inl h
  ·rw [e]; exact .inr (.lev (by omega))
set_option maxHeartbeats 2000000 in
theorem Rt {nt nv nl:Nat} {g:CE} (H:Sg nt nv nl g):B4 g=some true:=by
 refine Ok.eq ?_
 have hlr:=H.room
 have hll:=H.levs.len
 have htl:=H.toks.1
 have hnt:=H.nt5; have hnv:=H.nv4; have hnl:=H.nl5
 obtain ⟨r0,hr0,_⟩:=H.all 0 (by have:=H.nv1; omega)
 have hpos:=List.length_pos_of_mem hr0
 unfold B4
 have hsk:=H.skips
 have hst:=H.start
 refine Ae (Q:=fun x=>x=false) ?_ fun x hx=> ?_
 ·refine As (decide_eq_false (by omega)) (As (by rw [hsk]; rfl) (As (decide_eq_false (by omega)) (As (decide_eq_false (by omega)) (As (decide_eq_false (by omega)) ?_))))
  rw [hst]
  exact BG (PR (by omega)) (AP rfl)
 subst hx
 refine As rfl ?_
 refine EN (fun k (l:List ByteArray)=>l.length=k∧ ∀j,j<k→l[j]? =some (nm 97 j)) (by omega) ⟨rfl,fun j h=>by omega⟩ (fun k l hk h=> ?_) fun toks hz=> ?_
 ·have hx:=H.toks.2 k (by omega)
  refine BU hx (Da (by have:=h.1; simp only [List.length_cons,List.length_nil]; omega) (BU hx ?_))
  refine BG (Mx (.tok (by omega))) (As rfl (Ev ⟨by simp [h.1],fun j hj=> ?_⟩))
  rcases Nat.lt_or_ge j k with g | g
  ·rw [List.getElem?_append_left (by rw [h.1]; exact g)]; exact h.2 j g
  ·have:j=k:=by omega
   subst this
   rw [List.getElem?_append_right (by rw [h.1]; omega),h.1]
   simp
 refine EN (fun k _=>True) (by rw [hsk]; decide) trivial (fun k l hk h=>by rw [hsk] at hk; exact absurd hk (Nat.not_lt_zero _)) fun _ _=> ?_
 refine EN (fun k (l:List ByteArray)=>l=Eo (g.2.2.1.take k)) (by omega) rfl (fun k l hk h=> ?_) fun levs hv=> ?_
 ·subst h
  have hx:=List.getElem?_eq_getElem hk
  obtain ⟨h1,h2,h3⟩:=H.levs.each k _ hx
  have e:Eo (g.2.2.1.take (k+1))=Eo (g.2.2.1.take k) ++g.2.2.1[k].2:=by
   unfold Eo
   rw [List.take_add_one,hx,List.flatMap_append]
   show _=_
   simp
  have hroom:=H.levs.room
  have e2:Eo g.2.2.1=Eo (g.2.2.1.take (k+1)) ++Eo (g.2.2.1.drop (k+1)):=by
   unfold Eo
   rw [← List.flatMap_append,List.take_append_drop]
  have e3:=congrArg List.length e2
  rw [e,List.length_append,List.length_append] at e3
  refine BU hx (Da (by omega) ?_)
  refine Ae (Q:=fun x=>x=false) (As (decide_eq_false (by omega)) (As (decide_eq_false (by omega)) (AP ?_))) fun x hx=> ?_
  ·have:=List.length_pos_of_mem h3
   exact beq_eq_false_iff_ne.2 (by omega)
  ·subst hx
   refine As rfl ?_
   rw [← e]
   exact Ev rfl
 refine EN (fun k _=>True) (by omega) trivial (fun k _ hk _=> ?_) fun _ _=> ?_
 ·have hx:=List.getElem?_eq_getElem hk
  have hr:=H.rules _ (List.getElem_mem hk)
  obtain ⟨n1,n2,n3⟩:=hr.nm hnt hnv hnl
  have hf:=hr.few
  refine BU hx ?_
  refine Ae (Q:=fun x=>x=false) (BG n1.name (As rfl (As (decide_eq_false (by omega)) (Am (fun hc=> ?_) fun hc=> ?_)))) fun x hx=> ?_
  ·rw [hr.act]
   rcases n3 with h | h
   ·rw [h,DM] at hc; simp at hc
   ·exact BG h.name (As rfl (BG KI (AP rfl)))
  ·rw [hr.act]
   exact BG KI (AP rfl)
  ·subst hx
   refine As rfl ?_
   refine EN (fun k _=>True) (by omega) trivial (fun j _ hj _=> ?_) fun _ _=>Ev trivial
   exact BU (List.getElem?_eq_getElem hj) (BG (n2 _ (List.getElem_mem hj)).name (As rfl (Ev trivial)))
 have hmem: ∀x ∈ toks,∃j,j<nt∧x=nm 97 j:=fun x hx=>by
  obtain ⟨j,hj⟩:=List.getElem?_of_mem hx
  have hjl:=(List.getElem?_eq_some_iff.1 hj).1
  have:=hz.2 j (by omega)
  rw [hj] at this
  exact ⟨j,by omega,Option.some.inj this⟩
 have h1:BK toks=some true:=PS (by omega) (fun x hx=>by obtain ⟨j,hj,rfl⟩:=hmem x hx; exact .tok (by omega)) (List.nodup_iff_pairwise_ne.2 (List.pairwise_iff_getElem.2 fun i j hi hj hij e=>by
  have a:=hz.2 i (by omega)
  have b:=hz.2 j (by omega)
  rw [List.getElem?_eq_getElem hi] at a
  rw [List.getElem?_eq_getElem hj,← e,a] at b
  have:=Jr (by omega) (by omega) (Option.some.inj b)
  omega))
 have h2:BK levs=some true:=by
  rw [hv,List.take_of_length_le (Nat.le_refl _)]
  exact PS (by have:=H.levs.room; omega) H.nm_lev H.levs.once
 exact Ae (Q:=fun x=>x=true) (BG h1 (Cp rfl (BG h2 (AP rfl)))) fun x hx=>AP hx
abbrev Ru:ByteArray:= {data:= #[36,101,110,100] }
structure TT (nt:Nat) (T:List ByteArray):Prop where
 len:T.length=nt+1
 zero:T[0]? =some Ru
 tok: ∀j,j<nt→T[j+1]? =some (nm 97 j)
theorem Rv (c i:Nat):Ru ≠ nm c i:=fun h=>by unfold nm at h; simp at h
theorem TT.cases {nt:Nat} {T:List ByteArray} (H:TT nt T) {j:Nat} {s:ByteArray} (h:T[j]? =some s):(j=0∧s=Ru)∨ ∃i,i<nt∧j=i+1∧s=nm 97 i:=by
 cases j with
 | zero=>rw [H.zero] at h; exact .inl ⟨rfl,(Option.some.inj h).symm⟩
 | succ i=>
  have:=(List.getElem?_eq_some_iff.1 h).1
  have hl:=H.len
  rw [H.tok i (by omega)] at h
  exact .inr ⟨i,by omega,rfl,(Option.some.inj h).symm⟩
structure VV (nv:Nat) (V:List ByteArray):Prop where
 names: ∀x ∈ V,∃i,i<nv∧x=nm 83 i
 once:V.Nodup
theorem SW {nt i:Nat} {T V:List ByteArray} (H:TT nt T) (hn:nt≤5) (hi:i<nt):Ok (BD (T,V) (nm 97 i)) fun k=>k=((i+1:Nat):Int):=by
 have hl:=H.len
 unfold BD
 refine Ae (F4 (by dsimp only; omega)) fun k hk=> ?_
 rcases hk with ⟨rfl,h⟩ | ⟨j,rfl,h⟩
 ·exact absurd (List.mem_of_getElem? (H.tok i hi)) h
 ·refine Cp (decide_eq_true (by omega)) (AP ?_)
  rcases H.cases h with ⟨_,h⟩ | ⟨q,h1,h2,h3⟩
  ·exact absurd h.symm (Rv _ _)
  ·have:=Jr (by omega) (by omega) h3
   omega
theorem NL {nt nv i:Nat} {T V:List ByteArray} (H:TT nt T) (hn:nt≤5) (hv:nv≤4) (hV:V.length≤100) (hi:i<nv) (hm:nm 83 i ∈ V):Ok (BD (T,V) (nm 83 i)) fun k=> ∃j:Nat,k=((nt+1+j:Nat):Int)∧V[j]? =some (nm 83 i):=by
 have hl:=H.len
 unfold BD
 refine Ae (F4 (by dsimp only; omega)) fun k hk=> ?_
 rcases hk with ⟨rfl,h⟩ | ⟨j,rfl,h⟩
 ·refine As rfl (Ae (F4 (by dsimp only; omega)) fun k hk=> ?_)
  rcases hk with ⟨rfl,h⟩ | ⟨j,rfl,h⟩
  ·exact absurd hm h
  ·refine Cp (decide_eq_true (by omega)) (AP ⟨j,?_,h⟩)
   have:=(List.getElem?_eq_some_iff.1 h).1
   dsimp only at this
   rw [hl,wr (by omega)]
   omega
 ·rcases H.cases h with ⟨_,h⟩ | ⟨q,h1,h2,h3⟩
  ·exact absurd h.symm (Rv _ _)
  ·have:=Jr (by omega) (by omega) h3
   omega
theorem OH {nt nv nl:Nat} {g:CE} (H:Sg nt nv nl g) (s:ByteArray):Ok (Be g s) fun k=>0≤k∧k≤nl∧ ∀i,i<nl→s=nm 112 i→k ≠ 0:=by
 have hl:=H.levs.len
 have hnl:=H.nl5
 unfold Be
 have hr:=H.levs.room
 have hnt:=H.nt5
 have hlen: ∀(j:Nat) x,g.2.2.1[j]? =some x→x.2.length≤100:=fun j x hx=>by
  have:=(List.sublist_flatten_of_mem (List.mem_map_of_mem (f:=(·.2)) (List.mem_of_getElem? hx))).length_le
  have e:Eo g.2.2.1=(List.map (·.2) g.2.2.1).flatten:=by unfold Eo; rw [List.flatMap_def]
  rw [← e] at this
  omega
 refine Mw g.2.2.1 (fun _ x=> @decide (s ∈ x.2) (Classical.propDecidable _)) (fun k _=>IntKind.wrap .i64 ((k:Int) +1)) (by omega) (fun j x hx=> ?_) (fun h=> ?_) fun j x hx hq _=> ?_
 ·rw [EM,hx,Option.bind_some]
  obtain ⟨k,h1,h2⟩:=F4 (l:=x.2) (s:=s) (by have:=hlen j x hx; omega)
  rw [h1,Option.bind_some]
  rcases h2 with ⟨rfl,h⟩ | ⟨q,rfl,h⟩
  ·rw [@decide_eq_false _ (Classical.propDecidable _) h]; rfl
  ·rw [@decide_eq_true _ (Classical.propDecidable _) (List.mem_of_getElem? h),decide_eq_true (by omega)]; rfl
 ·refine AP ⟨by omega,by omega,fun i hi hs _=> ?_⟩
  have hx:=List.getElem?_eq_getElem (show i<g.2.2.1.length by omega)
  have:= @of_decide_eq_false _ (Classical.propDecidable _) (h i _ hx)
  rw [hs] at this
  exact this (H.levs.each i _ hx).2.2
 ·have:=(List.getElem?_eq_some_iff.1 hx).1
  have e:IntKind.wrap .i64 ((j:Int) +1)=(j:Int) +1:=wr (by omega)
  exact AP ⟨by rw [e]; omega,by rw [e]; omega,fun _ _ _=>by rw [e]; omega⟩
structure Pr (nt nV nl:Nat) (r:BV):Prop where
 left:((nt+1:Nat):Int) ≤r.1∧r.1< ((nt+1+nV:Nat):Int)
 few:r.2.1.length≤8
 right: ∀x ∈ r.2.1,0<x∧x< ((nt+1+nV:Nat):Int)
 lev:0≤r.2.2∧r.2.2≤nl
structure Pl (nt nl:Nat) (p:BJ):Prop where
 nt5:1≤nt∧nt≤5
 nl5:nl≤5
 terms:TT nt p.1
 vars:1≤p.2.1.length∧p.2.1.length≤24
 first: ∃st:Int,((nt+1:Nat):Int) ≤st∧st< ((nt+1+p.2.1.length:Nat):Int)∧p.2.2.1[0]? =some (((nt+1+p.2.1.length:Nat):Int), [st],0)
 rules: ∀(k:Nat) r,1≤k→p.2.2.1[k]? =some r→Pr nt p.2.1.length nl r
 room:1≤p.2.2.1.length∧p.2.2.1.length≤25
 all: ∀v:Nat,v<p.2.1.length→ ∃r ∈ p.2.2.1,r.1=((nt+1+v:Nat):Int)
 levels:p.2.2.2.1.length=nt+1∧ ∀x ∈ p.2.2.2.1,0≤x∧x≤nl
 assocs:p.2.2.2.2.1.length=nl+1
theorem Rw {α:Type} {l:List α} (h:l.Nodup) {i j:Nat} (hi:i<l.length) (hj:j<l.length) (e:l[i] =l[j]):i=j:=by
 have H:=List.pairwise_iff_getElem.1 (List.nodup_iff_pairwise_ne.1 h)
 rcases Nat.lt_trichotomy i j with g | g | g
 ·exact absurd e (H i j hi hj g)
 ·exact g
 ·exact absurd e.symm (H j i hj hi g)
set_option maxHeartbeats 4000000 in
theorem Sm {nt nv nl:Nat} {g:CE} (H:Sg nt nv nl g):Ok (CU g) fun p=>Pl nt nl (p.1,p.2.1,p.2.2.1,p.2.2.2.1,p.2.2.2.2.1,p.2.2.2.2.2.1):=by
 have hlr:=H.room
 have hll:=H.levs.len
 have htl:=H.toks.1
 have hnt:=H.nt5; have hnt1:=H.nt1; have hnv:=H.nv4; have hnl:=H.nl5; have hnv1:=H.nv1
 obtain ⟨r0,hr0,_⟩:=H.all 0 (by omega)
 have hpos:=List.length_pos_of_mem hr0
 unfold CU
 refine BG (Rt H) (As rfl ?_)
 refine HV (fun k (z:BJ)=>z.1= [Ru] ∧VV nv z.2.1∧z.2.1.length≤k∧(∀(j:Nat) r,j<k→g.2.2.2.2[j]? =some r→r.1 ∈ z.2.1)∧(∀x ∈ z.2.1,∃r ∈ g.2.2.2.2,r.1=x)∧z.2.2.1= [] ∧z.2.2.2.1= [0] ∧z.2.2.2.2.1= [0] ∧z.2.2.2.2.2.length=k+1) (by omega) ⟨rfl,⟨by simp,by simp⟩,by simp,fun j r h=>by omega,by simp,rfl,rfl,rfl,rfl⟩ (fun k z hk h=> ?_) fun z hz=> ?_
 ·obtain ⟨z1,z2,z3,z4,z5,z6⟩:=z
  obtain ⟨rfl,hV,hk2,hall,hfr,rfl,rfl,rfl,h6⟩:=h
  dsimp only at hV hk2 hall hfr h6 ⊢
  have hx:=List.getElem?_eq_getElem hk
  have hr:=H.rules _ (List.getElem_mem hk)
  refine BU hx (Ae (F4 (by omega)) fun t ht=> ?_)
  refine Ae (Q:=fun (z:BJ)=>z.1= [Ru] ∧VV nv z.2.1∧z.2.1.length≤k+1∧(∀(j:Nat) r,j<k+1→g.2.2.2.2[j]? =some r→r.1 ∈ z.2.1)∧(∀x ∈ z.2.1,∃r ∈ g.2.2.2.2,r.1=x)∧z.2.2.1= [] ∧z.2.2.2.1= [0] ∧z.2.2.2.2.1= [0] ∧z.2.2.2.2.2=z6) ?_ fun z hz=> ?_
  ·rcases ht with ⟨rfl,ht⟩ | ⟨j,rfl,ht⟩
   ·refine Cp rfl (BU hx (Da (by simp only [List.length_cons,List.length_nil]; omega) (AP ⟨rfl,⟨fun x hx'=> ?_,?_⟩,by simp; omega,fun j r hj hr'=> ?_,fun x hx'=> ?_,rfl,rfl,rfl,rfl⟩)))
    ·rcases List.mem_append.1 hx' with h | h
     ·exact hV.names x h
     ·obtain rfl:=List.mem_singleton.1 h
      exact hr.left
    ·exact List.nodup_append.2 ⟨hV.once,by simp,fun x hx' y hy hxy=>ht (by
      have:y=g.2.2.2.2[k].1:=by simpa using hy
      rw [← this,← hxy]; exact hx')⟩
    ·rcases Nat.lt_succ_iff_lt_or_eq.1 hj with h | rfl
     ·exact List.mem_append_left _ (hall j r h hr')
     ·rw [hx] at hr'; cases hr'
      exact List.mem_append_right _ (List.mem_singleton.2 rfl)
    ·rcases List.mem_append.1 hx' with h | h
     ·exact hfr x h
     ·obtain rfl:=List.mem_singleton.1 h
      exact ⟨_,List.getElem_mem hk,rfl⟩
   ·refine As (decide_eq_false (by omega)) (AP ⟨rfl,hV,by dsimp only; omega,fun i r hi hr'=> ?_,hfr,rfl,rfl,rfl,rfl⟩)
    rcases Nat.lt_succ_iff_lt_or_eq.1 hi with h | rfl
    ·exact hall i r h hr'
    ·rw [hx] at hr'; cases hr'
     exact List.mem_of_getElem? ht
  ·obtain ⟨y1,y2,y3,y4,y5,y6⟩:=z
   obtain ⟨rfl,hV,hk2,hall,hfr,rfl,rfl,rfl,e6⟩:=hz
   have e6':y6=z6:=e6
   have hy6:y6.length=k+1:=by rw [e6']; exact h6
   exact BU hx (Da (by simp only [List.length_cons,List.length_nil]; omega) (AP ⟨rfl,hV,hk2,hall,hfr,rfl,rfl,rfl,by simp [hy6]⟩))
 obtain ⟨z1,V,z3,z4,z5,acts⟩:=z
 obtain ⟨rfl,hV,hk2,hall,hfr,rfl,rfl,rfl,h6⟩:=hz
 dsimp only at hV hk2 hall hfr h6
 have hV16:V.length≤24:=by omega
 clear hk2
 have hVm: ∀v,v<nv→nm 83 v ∈ V:=fun v hv=>by
  obtain ⟨r,h1,h2⟩:=H.all v hv
  obtain ⟨j,hj⟩:=List.getElem?_of_mem h1
  rw [← h2]
  exact hall j r (List.getElem?_eq_some_iff.1 hj).1 hj
 have hVpos:1≤V.length:=List.length_pos_of_mem (hVm 0 (by omega))
 refine EN (fun k (z:BJ×BJ)=>TT k z.2.1∧z.2.2.1=V∧z.2.2.2.1= [] ∧z.2.2.2.2.1.length=k+1∧(∀x ∈ z.2.2.2.2.1,0≤x∧x≤nl)∧z.2.2.2.2.2.1= [0]) (by omega) ⟨⟨rfl,rfl,fun j h=>by omega⟩,rfl,rfl,rfl,by simp,rfl⟩ (fun k z hk h=> ?_) fun z hz=> ?_
 ·obtain ⟨w,z1,z2,z3,z4,z5,z6⟩:=z
  obtain ⟨hT,e2,e3,h4,h4',e5⟩:=h
  dsimp only at hT h4 h4' e2 e3 e5 ⊢
  have hz16:z2.length≤24:=by rw [e2]; exact hV16
  subst e2 e3 e5
  have hx:=H.toks.2 k (by omega)
  have hTl:=hT.len
  refine BU hx (Ae (F4 (by omega)) fun t ht=> ?_)
  rcases ht with ⟨rfl,ht⟩ | ⟨j,rfl,ht⟩
  ·refine As rfl (BU hx (Da (by simp only [List.length_cons,List.length_nil]; omega) (BU hx (Ae (OH H _) fun t ht=>Da (by simp only [List.length_cons,List.length_nil]; omega) (Ev ⟨⟨by simp [hTl],?_,fun j hj=> ?_⟩,rfl,rfl,by simp [h4],fun x hx'=> ?_,rfl⟩)))))
   ·rw [List.getElem?_append_left (by omega)]; exact hT.zero
   ·rcases Nat.lt_succ_iff_lt_or_eq.1 hj with h | rfl
    ·rw [List.getElem?_append_left (by omega)]; exact hT.tok j h
    ·rw [List.getElem?_append_right (by omega),show j+1 - z1.length=0 by omega]; rfl
   ·rcases List.mem_append.1 hx' with h | h
    ·exact h4' x h
    ·obtain rfl:=List.mem_singleton.1 h
     exact ⟨ht.1,ht.2.1⟩
  ·obtain ⟨i,h1,h2⟩:=hV.names _ (List.mem_of_getElem? ht)
   have:=Jr (by omega) (by omega) h2
   omega
 obtain ⟨w,T,z2,z3,levels,z5,z6⟩:=z
 obtain ⟨hT,e2,e3,h4,h4',e5⟩:=hz
 dsimp only at hT h4 h4' e2 e3 e5 ⊢
 subst e2 e3 e5
 rw [htl] at hT h4
 have hTl:=hT.len
 refine HV (fun k (z:BJ)=>z.1=T∧z.2.1=z2∧z.2.2.1= [] ∧z.2.2.2.1=levels∧z.2.2.2.2.1.length=k+1) (by omega) ⟨rfl,rfl,rfl,rfl,rfl⟩ (fun k z hk h=> ?_) fun z hz=> ?_
 ·obtain ⟨y1,y2,y3,y4,y5,y6⟩:=z
  obtain ⟨rfl,rfl,rfl,rfl,h5⟩:=h
  exact BU (List.getElem?_eq_getElem hk) (Da (by dsimp only at h5 ⊢; simp only [List.length_cons,List.length_nil]; omega) (AP ⟨rfl,rfl,rfl,rfl,by dsimp only at h5 ⊢; simp [h5]⟩))
 obtain ⟨y1,y2,y3,y4,assocs,y6⟩:=z
 obtain ⟨e1,e2,e3,e4,h5⟩:=hz
 dsimp only at h5 e1 e2 e3 e4 ⊢
 subst e1 e2 e3 e4
 rw [hll] at h5
 rw [H.start]
 refine Ae (NL (nv:=nv) hT hnt hnv (by omega) (by omega) (hVm 0 (by omega))) fun st hst=> ?_
 obtain ⟨sj,rfl,hsj⟩:=hst
 have hsjl:=(List.getElem?_eq_some_iff.1 hsj).1
 rw [wr (show -1000000≤((y1.length:Nat):Int) +((y2.length:Nat):Int)∧((y1.length:Nat):Int) +((y2.length:Nat):Int) ≤1000000 by omega)]
 refine EN (fun k (z:BJ×BJ)=>z.2.1=y1∧z.2.2.1=y2∧z.2.2.2.1.length=k+1∧z.2.2.2.1[0]? =some (((nt+1+y2.length:Nat):Int), [((nt+1+sj:Nat):Int)],0)∧(∀(j:Nat) r,1≤j→z.2.2.2.1[j]? =some r→Pr nt y2.length nl r∧ ∃r' ∈ g.2.2.2.2,g.2.2.2.2[j - 1]? =some r'∧y2[r.1.toNat - (nt+1)]? =some r'.1)∧z.2.2.2.2.1=y4∧z.2.2.2.2.2.1=assocs) (by omega) ⟨rfl,rfl,rfl,by dsimp only; rw [hTl]; simp [Int.natCast_add],fun j r hj hr=>by
  have:=(List.getElem?_eq_some_iff.1 hr).1
  simp at this
  omega,rfl,rfl⟩ (fun k z hk h=> ?_) fun z hz=> ?_
 ·obtain ⟨w,x1,x2,x3,x4,x5,x6⟩:=z
  obtain ⟨e1,e2,hlen,h0,hrs,e4,e5⟩:=h
  dsimp only at hlen h0 hrs e1 e2 e4 e5 ⊢
  subst e1 e2 e4 e5
  have hx:=List.getElem?_eq_getElem hk
  have hr:=H.rules _ (List.getElem_mem hk)
  obtain ⟨vi,hvi,hvl⟩:=hr.left
  refine BU hx ?_
  rw [hvl]
  refine Ae (NL (nv:=nv) hT hnt hnv (by omega) hvi (hVm vi hvi)) fun t ht=> ?_
  obtain ⟨tj,rfl,htj⟩:=ht
  have htjl:=(List.getElem?_eq_some_iff.1 htj).1
  have hrf:=hr.few
  refine EN (fun i (z:BJ×BV)=>z.2.1=((nt+1+tj:Nat):Int)∧z.2.2.1.length=i∧(∀x ∈ z.2.2.1,0<x∧x< ((nt+1+x2.length:Nat):Int))∧0≤z.2.2.2∧z.2.2.2≤nl) (by omega) ⟨rfl,rfl,by simp,by simp,by simp⟩ (fun i z hi h=> ?_) fun z hz=> ?_
  ·obtain ⟨w,u1,u2,u3⟩:=z
   obtain ⟨rfl,hu,hus,hu3,hu3'⟩:=h
   dsimp only at hu hus hu3 hu3' ⊢
   have hy:=List.getElem?_eq_getElem hi
   have hym:=hr.right _ (List.getElem_mem hi)
   refine BU hy (Ae (Q:=fun t=>0<t∧t< ((nt+1+x2.length:Nat):Int)) ?_ fun t ht=> ?_)
   ·rcases hym with ⟨q,hq,e⟩ | ⟨q,hq,e⟩
    ·rw [e]
     exact (SW hT hnt hq).mono fun k hk=>by subst hk; omega
    ·rw [e]
     refine (NL (nv:=nv) hT hnt hnv (by omega) hq (hVm q hq)).mono fun k hk=> ?_
     obtain ⟨j,rfl,hj⟩:=hk
     have:=(List.getElem?_eq_some_iff.1 hj).1
     omega
   ·refine As (decide_eq_false (by omega)) (Da (by simp only [List.length_cons,List.length_nil]; omega) ?_)
    refine Ae (Q:=fun (z:BV)=>z.1=((nt+1+tj:Nat):Int)∧z.2.1=u2++ [t] ∧0≤z.2.2∧z.2.2≤nl) (Am (fun hc=> ?_) fun _=>AP ⟨rfl,rfl,hu3,hu3'⟩) fun z hz=> ?_
    ·have hc:=of_decide_eq_true hc
     have hq:t.toNat<x4.length:=by omega
     refine Lg (by omega) (List.getElem?_eq_getElem hq) (AP ⟨rfl,rfl,h4' _ (List.getElem_mem hq)⟩)
    ·obtain ⟨z1,z2,z3⟩:=z
     obtain ⟨rfl,rfl,a,b⟩:=hz
     refine Ev ⟨rfl,by simp [hu],fun x hx'=> ?_,a,b⟩
     rcases List.mem_append.1 hx' with h | h
     ·exact hus x h
     ·obtain rfl:=List.mem_singleton.1 h
      exact ht
  ·obtain ⟨w2,u1,u2,u3⟩:=z
   obtain ⟨rfl,hu,hus,hu3,hu3'⟩:=hz
   dsimp only at hu hus hu3 hu3' ⊢
   refine Ae (Q:=fun e=> ∃(y:BV×BJ),e=AY.next y∧y.1.1=((nt+1+tj:Nat):Int)∧y.1.2.1=u2∧0≤y.1.2.2∧y.1.2.2≤nl) (Am (fun hc=> ?_) fun hc=>AP ⟨_,rfl,rfl,rfl,hu3,hu3'⟩) fun e he=> ?_
   ·refine Ae (OH H _) fun t ht=> ?_
    rcases hr.prec with h | ⟨i,hi,h⟩
    ·rw [h,DM] at hc; simp at hc
    ·refine As (beq_eq_false_iff_ne.2 (ht.2.2 i hi h)) (AP ⟨_,rfl,rfl,rfl,ht.1,ht.2.1⟩)
   ·obtain ⟨⟨⟨v1,v2,v3⟩,v4⟩,rfl,ev1,ev2,hv3,hv3'⟩:=he
    dsimp only at hv3 hv3' ev1 ev2 ⊢
    subst ev1 ev2
    refine Da (by simp only [List.length_cons,List.length_nil]; omega) (Ev ⟨rfl,rfl,by simp [hlen],?_,fun j r hj hr'=> ?_,rfl,rfl⟩)
    ·rw [List.getElem?_append_left (by omega)]; exact h0
    ·rcases Nat.lt_or_ge j x3.length with gj | gj
     ·rw [List.getElem?_append_left gj] at hr'; exact hrs j r hj hr'
     ·have hjl:=(List.getElem?_eq_some_iff.1 hr').1
      simp at hjl
      have:j=x3.length:=by omega
      subst this
      rw [List.getElem?_append_right (Nat.le_refl _),Nat.sub_self] at hr'
      cases hr'
      refine ⟨⟨⟨by dsimp only; omega,by dsimp only; omega⟩,by dsimp only; omega,hus,hv3,hv3'⟩,g.2.2.2.2[k],List.getElem_mem hk,by rw [hlen]; exact hx,?_⟩
      dsimp only
      rw [show ((nt+1+tj:Nat):Int).toNat - (nt+1)=tj by omega,htj,hvl]
 obtain ⟨w,x1,x2,rules,x4,x5,x6⟩:=z
 obtain ⟨e1,e2,hlen,h0,hrs,e4,e5⟩:=hz
 dsimp only at hlen h0 hrs e1 e2 e4 e5 ⊢
 subst e1 e2 e4 e5
 refine Ae (F4 (by omega)) fun t ht=> ?_
 rcases ht with ⟨rfl,ht⟩ | ⟨j,rfl,ht⟩
 ·exact absurd (hVm 0 (by omega)) ht
 refine As (decide_eq_false (by omega)) (AP ⟨⟨hnt1,hnt⟩,hnl,hT,⟨hVpos,by dsimp only; omega⟩,⟨((nt+1+sj:Nat):Int),by omega,by dsimp only; omega,h0⟩,fun k r hk hr=>(hrs k r hk hr).1,⟨by dsimp only; omega,by dsimp only; omega⟩,fun v hv=> ?_,⟨h4,h4'⟩,h5⟩)
 dsimp only at hv ⊢
 have hvx:=List.getElem?_eq_getElem hv
 obtain ⟨r,hr1,hr2⟩:=hfr _ (List.getElem_mem hv)
 obtain ⟨i,hi⟩:=List.getElem?_of_mem hr1
 have hil:=(List.getElem?_eq_some_iff.1 hi).1
 have hri:=List.getElem?_eq_getElem (show i+1<rules.length by omega)
 obtain ⟨hp,r',_,h1,h2⟩:=hrs (i+1) _ (by omega) hri
 rw [Nat.add_sub_cancel,hi] at h1
 cases h1
 refine ⟨_,List.getElem_mem (show i+1<rules.length by omega),?_⟩
 have hl:=hp.left
 rw [hr2] at h2
 obtain ⟨hq,h2⟩:=List.getElem?_eq_some_iff.1 h2
 have:=Rw hV.once hq hv h2
 omega
theorem SX {s:LB} (G:SmG s) (F:SmF 20 8 s):Ok (BC s) fun p=> ∃nt nl,Pl nt nl p:=by
 unfold BC
 exact Ae (Oj G F) fun g hg=>Ae (Sm hg) fun p hp=>AP ⟨_,_,hp⟩
end Go.Proofs.YteolcjbobmpdiaaGreatDoor
